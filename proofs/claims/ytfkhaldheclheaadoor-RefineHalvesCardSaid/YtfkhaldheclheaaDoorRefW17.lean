/- Walks: Mark, Split, Members, Marks where there is no such element or block; Marks; Classes. -/
import Derived.Test.YtfkhaldheclheaaDoorRefW14
import Derived.Test.YtfkhaldheclheaaDoorRefW16
namespace Go.Proofs.YtfkhaldheclheaaDoor
open Go.RowKit
set_option linter.unusedVariables false
set_option linter.unusedSimpArgs false

/-- A new fault of refine lies at F, which wraps the error x. -/
structure FaultAt (w w' : World) (F : Nat) (layer : ByteArray) (x : Value) : Prop where
  cell : w'.heap[F]? = some (.cells #[.string layer, .int .i64 0, .int .i64 0, x] 35 (0, 0))
  new : w.heap.size ≤ F
  bel : Below w.heap.size w w'

theorem FaultAt.of_alloc (w : World) (layer : ByteArray) (x : Value) : FaultAt w (w.alloc (.cells #[.string layer, .int .i64 0, .int .i64 0, x] 35)) w.heap.size layer x :=
  ⟨heap_alloc_new w _, Nat.le_refl _, (Below.refl _ _).alloc (Nat.le_refl _) _⟩

/-- A call that answers with a fault, other results ahead of it. -/
def Off (w : World) (ahead : List Value) (layer : ByteArray) (x : Value) (r : Ending) (w' : World) : Prop :=
  ∃ F, r = .returned (.tuple (ahead ++ [Value.iface 31 (.pointer (some ⟨F, 0, none⟩))]).toArray) ∧ FaultAt w w' F layer x

theorem mark_off {w : World} {B n : Nat} {e : Int} {ve vp vi vb : Value} {s : Rf.St} {xt : TypeId} {xv : Value} (h : PartAt w B ve vp vi vb s) (hI : Rf.Inv s n) (he : e < 0 ∨ (n : Int) ≤ e) (hg : w.cell? ⟨0, 0, none⟩ = some (.iface xt xv)) :
    Calls Tryd.prog 11 #[.pointer (some ⟨B, 0, none⟩), .int .i64 e] w (Off w [.bool false] layerRef (.iface xt xv)) := by
  have HS := Lib.hid (size_any h)
  rw [hI.le] at HS
  clear h hI
  go_enter Tryd.func11, Tryd.ntmps11
  go_wp2_with (first
    | (go_at_call 17; refine HS.out.mono ?_; rintro e w' ⟨rfl, rfl⟩)
    | (go_at_call 22; refine (asked_out _ _ _ _ _ _ he hg).mono ?_; rintro e w' ⟨rfl, rfl⟩))
  go_ret2
  exact ⟨_, rfl, FaultAt.of_alloc _ _ _⟩

theorem members_off {w : World} {B : Nat} {b : Int} {ve vp vi vb : Value} {s : Rf.St} {xt : TypeId} {xv : Value} (h : PartAt w B ve vp vi vb s) (he : b < 0 ∨ (s.blocks.length : Int) ≤ b) (hg : w.cell? ⟨0, 0, none⟩ = some (.iface xt xv)) :
    Calls Tryd.prog 13 #[.pointer (some ⟨B, 0, none⟩), .int .i64 b] w (Off w [.slice none 0 0] layerRef (.iface xt xv)) := by
  have HS := Lib.hid (blocks_any h)
  obtain ⟨nb, hnb⟩ : ∃ nb, nb = s.blocks.length := ⟨_, rfl⟩
  rw [← hnb] at HS he
  clear h hnb
  go_enter Tryd.func13, Tryd.ntmps13
  go_wp2_with (first
    | (go_at_call 16; refine HS.out.mono ?_; rintro e w' ⟨rfl, rfl⟩)
    | (go_at_call 22; refine (asked_out _ _ _ _ _ _ he hg).mono ?_; rintro e w' ⟨rfl, rfl⟩))
  go_ret2
  exact ⟨_, rfl, FaultAt.of_alloc _ _ _⟩

set_option maxHeartbeats 4000000 in
set_option maxRecDepth 100000 in
theorem split_off {w : World} {B : Nat} {b : Int} {ve vp vi vb : Value} {s : Rf.St} {xt : TypeId} {xv : Value} (h : PartAt w B ve vp vi vb s) (he : b < 0 ∨ (s.blocks.length : Int) ≤ b) (hg : w.cell? ⟨0, 0, none⟩ = some (.iface xt xv))
    (ht : w.cell? ⟨10, 0, none⟩ = some (.iface 83 (.agg #[.pointer (some ⟨20, 24, none⟩)]))) :
    Calls Tryd.prog 14 #[.pointer (some ⟨B, 0, none⟩), .int .i64 b] w (Off w [.int .i64 0, .bool false] layerRef (.iface xt xv)) := by
  have HS := Lib.hid (blocks_any h)
  obtain ⟨nb, hnb⟩ : ∃ nb, nb = s.blocks.length := ⟨_, rfl⟩
  rw [← hnb] at HS he
  clear h hnb
  go_enter Tryd.func14, Tryd.ntmps14
  go_upto_region 3 with (first
    | (go_at_call 16; refine HS.out.mono ?_; rintro e w' ⟨rfl, rfl⟩)
    | (go_at_call 22; refine (asked_out _ _ _ _ _ _ he hg).mono ?_; rintro e w' ⟨rfl, rfl⟩))
  have hF0 := FaultAt.of_alloc w layerRef (.iface xt xv)
  obtain ⟨w1, hw1⟩ : ∃ w1, w.alloc (.cells #[.string layerRef, .int .i64 0, .int .i64 0, .iface xt xv] 35) = w1 := ⟨_, rfl⟩
  have hs1 : w1.heap.size = w.heap.size + 1 := by rw [← hw1]; simp
  rw [hw1] at hF0 ⊢
  clear hw1
  have cV : (w1.alloc (.cells #[.pointer none] 31)).cell? ⟨w1.heap.size, 0, none⟩ = some (.pointer none) := by simp
  have fV : (w1.alloc (.cells #[.pointer none] 31)).frozen? ⟨w1.heap.size, 0, none⟩ = false := by simp
  have tV : (w1.alloc (.cells #[.pointer none] 31)).cell? ⟨10, 0, none⟩ = some (.iface 83 (.agg #[.pointer (some ⟨20, 24, none⟩)])) := by
    have h0 := Below.cellUp hF0.bel (cell_lt ht) ht
    rw [World.cell?_alloc_lt _ _ _ (cell_lt h0)]; exact h0
  rw [hs1] at cV fV
  obtain ⟨V, hV⟩ : ∃ V, V = w.heap.size + 1 := ⟨_, rfl⟩
  have hVw : w.heap.size ≤ V := by omega
  have hVF : w.heap.size ≠ V := by omega
  have hb2 := hF0.bel.alloc hF0.bel.size (.cells #[.pointer none] 31)
  have hc2 : (w1.alloc (.cells #[.pointer none] 31)).heap[w.heap.size]? = some (.cells #[.string layerRef, .int .i64 0, .int .i64 0, .iface xt xv] 35 (0, 0)) := (Below.heap_alloc _ _ _ (by omega)).trans hF0.cell
  have hs2 : (w1.alloc (.cells #[.pointer none] 31)).heap.size = V + 1 := by rw [hV, ← hs1]; simp
  rw [← hV] at cV fV ⊢
  obtain ⟨w2, hw2⟩ : ∃ w2, w1.alloc (.cells #[.pointer none] 31) = w2 := ⟨_, rfl⟩
  rw [hw2] at cV fV tV hb2 hc2 hs2 ⊢
  clear hw2 hF0 hs1 hV
  have HA := Lib.hid (as_hit ⟨w.heap.size, 0, none⟩ ⟨V, 0, none⟩ (.pointer none) w2 tV cV fV)
  have HV : Hid (∀ w3, w3 = ((((w2.alloc (.cells #[.pointer (some ⟨V, 0, none⟩)] 33)).alloc (.cells #[.pointer (some ⟨20, 33, none⟩), .pointer (some ⟨w2.heap.size, 0, none⟩), .int .u64 150] 62)).alloc (.cells #[.pointer (some ⟨20, 33, none⟩), .pointer (some ⟨w2.heap.size, 0, none⟩), .int .u64 150] 62)).alloc (.cells #[.pointer (some ⟨w.heap.size, 0, none⟩)] 31)).setCell ⟨V, 0, none⟩ (.pointer (some ⟨w.heap.size, 0, none⟩)) →
      w3.cell? ⟨V, 0, none⟩ = some (.pointer (some ⟨w.heap.size, 0, none⟩)) ∧ FaultAt w w3 w.heap.size layerRef (.iface xt xv)) := by
    rintro w3 rfl
    refine ⟨?_, ?_, Nat.le_refl _, ((((hb2.alloc hb2.size _).alloc (by have := hb2.size; simp; omega) _).alloc (by have := hb2.size; simp; omega) _).alloc (by have := hb2.size; simp; omega) _).setCell hVw _⟩
    · rw [World.cell?_setCell_same (u := .pointer none)]
      rw [World.cell?_alloc_lt _ _ _ (by simp; omega), World.cell?_alloc_lt _ _ _ (by simp; omega), World.cell?_alloc_lt _ _ _ (by simp; omega), World.cell?_alloc_lt _ _ _ (by show V < _; omega)]
      exact cV
    · rw [Below.heap_setCell _ _ _ _ hVF, Below.heap_alloc _ _ _ (by simp; omega), Below.heap_alloc _ _ _ (by simp; omega), Below.heap_alloc _ _ _ (by simp; omega), Below.heap_alloc _ _ _ (by omega)]
      exact hc2
  clear cV fV tV hb2 hc2 hs2 ht hg
  go_upto_region 4 with (go_at_call 10; refine HA.out.mono ?_; rintro e w3 ⟨rfl, hw3⟩; replace hw3 := Lib.hid (HV.out w3 hw3))
  have cV := hw3.out.1
  go_quiet (fail)
  go_wp2_with fail
  go_ret3
  exact ⟨_, rfl, ⟨hw3.out.2.cell, hw3.out.2.new, below_drewN hw3.out.2.bel _⟩⟩

end Go.Proofs.YtfkhaldheclheaaDoor
