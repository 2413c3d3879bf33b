/- Walk: SameTerm. -/
import Derived.Test.YtiiieailimphnaaGreatDoorTmW13
import Derived.Test.YtiiieailimphnaaGreatDoorTmW5
import Derived.Deep.DeepCutAuto
import Derived.OwnWalk
namespace Go.Proofs.YtiiieailimphnaaGreatDoor
open Go.RowKit
set_option linter.unusedVariables false
set_option linter.unusedSimpArgs false

theorem term_eq {a b : Tm.T} : a = b ↔ a.kind = b.kind ∧ a.label = b.label ∧ a.a = b.a ∧ a.b = b.b ∧ a.names = b.names ∧ a.pairs = b.pairs := by
  cases a; cases b; simp

theorem two_up {w w3 : World} {A B : Obj} (h : Up ((w.alloc A).alloc B) w3) : w3.heap[w.heap.size]? = some A ∧ w3.heap[w.heap.size + 1]? = some B := by
  obtain ⟨h1, h2, -⟩ := two_heap (w := w) (A := A) (B := B)
  exact ⟨(h.block _ (lt_of_block' h1)).trans h1, (h.block _ (lt_of_block' h2)).trans h2⟩

set_option maxHeartbeats 4000000 in
set_option maxRecDepth 100000 in
theorem same_term {a b : Tm.T} {na pa nb pb : Value} {w : World} (ha : TRead w a na pa) (hb : TRead w b nb pb) (la : a.names.length ≤ 9223372036854775807) (lb : b.names.length ≤ 9223372036854775807) (ma : a.pairs.length ≤ 9223372036854775807) (mb : b.pairs.length ≤ 9223372036854775807) :
    Calls Tryz.prog 19 #[.agg #[.int .i64 a.kind, .int .i64 a.label, .int .i64 a.a, .int .i64 a.b, na, pa], .agg #[.int .i64 b.kind, .int .i64 b.label, .int .i64 b.a, .int .i64 b.b, nb, pb]] w (Eql w (decide (a = b))) := by
  obtain ⟨bn, hbn⟩ : ∃ bn, bn = decide (a.names = b.names) := ⟨_, rfl⟩
  obtain ⟨bp, hbp⟩ : ∃ bp, bp = decide (a.pairs = b.pairs) := ⟨_, rfl⟩
  have HN : Hid (∀ W, Up w W → Calls Tryz.prog 14 #[na, nb] W (Eql W bn)) := fun W hW => by rw [hbn]; exact same_ints (ha.n.up hW) (hb.n.up hW) la lb
  have HP : Hid (∀ W, Up w W → Calls Tryz.prog 80 #[pa, pb] W (Eql W bp)) := fun W hW => by rw [hbp]; exact same_pairs (ha.p.up hW) (hb.p.up hW) ma mb
  have HE : Hid (decide (a = b) = (decide (a.kind = b.kind) && decide (a.label = b.label) && decide (a.a = b.a) && decide (a.b = b.b) && bn && bp)) := Lib.hid (by
    rw [hbn, hbp, Bool.eq_iff_iff]
    simp [term_eq, and_assoc])
  obtain ⟨p1, q1, g1, o1, rfl, -⟩ := ha.n
  obtain ⟨p2, q2, g2, o2, rfl, -⟩ := ha.p
  obtain ⟨p3, q3, g3, o3, rfl, -⟩ := hb.n
  obtain ⟨p4, q4, g4, o4, rfl, -⟩ := hb.p
  obtain ⟨l1, hl1⟩ : ∃ l, l = a.names.length := ⟨_, rfl⟩
  obtain ⟨l2, hl2⟩ : ∃ l, l = a.pairs.length := ⟨_, rfl⟩
  obtain ⟨l3, hl3⟩ : ∃ l, l = b.names.length := ⟨_, rfl⟩
  obtain ⟨l4, hl4⟩ : ∃ l, l = b.pairs.length := ⟨_, rfl⟩
  rw [← hl1, ← hl3] at HN
  rw [← hl2, ← hl4] at HP
  rw [← hl1, ← hl2, ← hl3, ← hl4]
  clear ha hb la lb ma mb hbn hbp hl1 hl2 hl3 hl4
  go_enter Tryz.func19, Tryz.ntmps19
  go_wp2_with (first
    | (go_at_call 14; (with_reducible refine (HN.out _ (((Up.refl w).alloc _).alloc _)).mono ?_); rintro e w3 ⟨rfl, hU3⟩; (obtain ⟨h1, h2⟩ := two_up hU3); (have hU := Lib.hid ((((Up.refl w).alloc _).alloc _).trans hU3)); (obtain ⟨a0, a1, a2, a3, a4, a5, -⟩ := six_cells h1); (obtain ⟨b0, b1, b2, b3, b4, b5, -⟩ := six_cells h2); clear h1 h2 hU3)
    | (go_at_call 80; (with_reducible refine (HP.out _ hU.out).mono ?_); rintro e w4 ⟨rfl, hU4⟩))
  all_goals go_ret
  all_goals refine ⟨ret_bool (b := decide (a = b)) ?_, ?_⟩
  all_goals first
    | (rw [HE.out]; simp_all; done)
    | exact hU.out.trans hU4
    | exact hU.out
    | exact ((Up.refl w).alloc _).alloc _

end Go.Proofs.YtiiieailimphnaaGreatDoor
