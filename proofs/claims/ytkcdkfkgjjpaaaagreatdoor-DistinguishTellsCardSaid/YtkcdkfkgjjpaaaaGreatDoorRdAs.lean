/- Walks: fault.At, fault.As at an error of a lower layer. -/
import Derived.Test.YtkcdkfkgjjpaaaaGreatDoorRdEach
import Derived.Test.YtkcdkfkgjjpaaaaGreatDoorErrAs
namespace Go.Proofs.YtkcdkfkgjjpaaaaGreatDoor
open Go.RowKit Go.Sort Go.Maps
set_option linter.unusedVariables false
set_option linter.unusedSimpArgs false

set_option maxHeartbeats 400000 in
theorem at_any (l : ByteArray) (a b : Int) (xt : TypeId) (xv : Value) (w : World) :
    Calls Tryz.prog 173 #[.string l, .iface xt xv, .int .i64 a, .int .i64 b] w fun e w' => e = .returned (faultAt w.heap.size) ∧ w' = w.alloc (.cells #[.string l, .int .i64 a, .int .i64 b, .iface xt xv] 116) := by
  go_enter Tryz.func173, Tryz.ntmps173
  go_wp2_with fail
  go_ret
  exact ⟨rfl, rfl⟩

/-- The global that errors.As looks at. -/
def ErrT (w : World) : Prop := w.cell? ⟨5, 0, none⟩ = some (.iface 176 (.agg #[.pointer (some ⟨23, 31, none⟩)]))

theorem box_upset {B X : World} {b : Nat} {u : Value} {e : TypeId} (h1 : B.heap[b]? = some (.cells #[u] e (0, 0))) (hu : Up B X) (v : Value) : (X.setCell ⟨b, 0, none⟩ v).cell? ⟨b, 0, none⟩ = some v :=
  (one_cell (box_set ((hu.block _ (lt_of_block' h1)).trans h1) _)).1

/-- errors.As at a fault, its answer in a new box. -/
theorem as_box (e : Addr) (u : Value) (w : World) (hg : ErrT w) :
    Calls Tryz.prog 47 #[.iface 103 (.pointer (some e)), .iface 105 (.pointer (some ⟨w.heap.size, 0, none⟩))] (w.alloc (.cells #[u] 103)) fun ev w' =>
      ev = .returned (.bool true) ∧ w'.cell? ⟨w.heap.size, 0, none⟩ = some (.pointer (some e)) ∧ Up w w' := by
  have h1 : (w.alloc (.cells #[u] 103)).heap[w.heap.size]? = some (.cells #[u] 103 (0, 0)) := by
    show (w.heap.push _)[w.heap.size]? = _
    simp
  obtain ⟨c0, c1⟩ := one_cell h1
  refine (as_hit e ⟨w.heap.size, 0, none⟩ u _ (((Up.refl w).alloc _).cell hg) c0 c1).mono ?_
  rintro ev w' ⟨rfl, rfl⟩
  refine ⟨rfl, ?_, Up.setCell (((((((Up.refl w).alloc _).alloc _).alloc _).alloc _).alloc _)) (Nat.le_refl _) _⟩
  exact box_upset h1 (((((Up.refl _).alloc _).alloc _).alloc _).alloc _) _

theorem four_at {w : World} {b : Nat} {a1 a2 a3 a4 : Value} {e : TypeId} (h : w.heap[b]? = some (.cells #[a1, a2, a3, a4] e (0, 0))) :
    w.cell? ⟨b, 1, none⟩ = some a2 ∧ w.cell? ⟨b, 2, none⟩ = some a3 := by
  refine ⟨?_, ?_⟩ <;> simp [World.cell?, h]

theorem held_two {W x : World} {a1 a2 a3 : Addr} {v1 v2 v3 : Value} (h1 : W.cell? a1 = some v1) (h2 : W.cell? a2 = some v2) (h3 : W.cell? a3 = some v3) (hu : Up W x) : x.cell? a1 = some v1 ∧ x.cell? a2 = some v2 ∧ x.cell? a3 = some v3 ∧ Up W x :=
  ⟨hu.cell h1, hu.cell h2, hu.cell h3, hu⟩

theorem fault_up {w w1 : World} {l : ByteArray} {v : Value} (h : w1 = w.alloc (.cells #[.string l, .int .i64 0, .int .i64 0, v] 116)) : FaultE w1 w.heap.size l v := by
  subst h
  show (w.heap.push _)[w.heap.size]? = _
  simp

set_option maxHeartbeats 2000000 in
set_option maxRecDepth 100000 in
theorem as_fault (l l0 : ByteArray) (v0 : Value) (pb : Nat) (w : World) (hF : FaultE w pb l0 v0) (hg : ErrT w) :
    Calls Tryz.prog 111 #[.string l, faultAt pb] w fun e w' => ∃ qb, e = .returned (faultAt qb) ∧ w.heap.size ≤ qb ∧ Up w w' ∧ FaultE w' qb l (faultAt pb) := by
  have HF := Lib.hid hF
  have HG := Lib.hid hg
  clear hF hg
  unfold faultAt
  go_enter Tryz.func111, Tryz.ntmps111
  go_upto_region 5 with (go_at_call 47; refine (as_box ⟨pb, 0, none⟩ _ _ HG.out).mono ?_; rintro r w1 ⟨rfl, e0, hu1⟩)
  obtain ⟨e1, e2⟩ := four_at (HF.out.up hu1)
  go_region_held3 (fun x => x.cell? ⟨w.heap.size, 0, none⟩ = some (.pointer (some ⟨pb, 0, none⟩)) ∧ x.cell? ⟨pb, 1, none⟩ = some (.int .i64 0) ∧ x.cell? ⟨pb, 2, none⟩ = some (.int .i64 0) ∧ Up w1 x)
    ((refine held_two e0 e1 e2 ?_; first | exact (Up.refl _).drew | exact Up.refl _ | assumption))
    (first | (go_at_call 173; refine (at_any l 0 0 _ _ _).mono ?_; rintro r w2 ⟨rfl, hw2⟩; (have q2 : Up w1 w2 := by rw [hw2]; exact Up.alloc (by first | exact (Up.refl _).drew | exact Up.refl _) _); (have q3 := fault_up hw2); clear hw2))
  all_goals go_wp2_with fail
  go_ret
  exact ⟨_, rfl, hu1.size, hu1.trans q2, q3⟩

end Go.Proofs.YtkcdkfkgjjpaaaaGreatDoor
