/- Walks: refine.New; a block's row. -/
import Derived.Test.YtfkhaldheclheaaGreatDoorRefW6
namespace Go.Proofs.YtfkhaldheclheaaGreatDoor
open Go.RowKit Go.Maps
set_option linter.unusedVariables false
set_option linter.unusedSimpArgs false

set_option maxHeartbeats 1000000 in
set_option maxRecDepth 100000 in
theorem new_bad (n : Int) (xt : TypeId) (xv : Value) (w : World) (h : n < 0 ∨ 1000 < n) (hg : w.cell? ⟨0, 0, none⟩ = some (.iface xt xv)) :
    Calls Tryz.prog 7 #[.int .i64 n] w fun r w' =>
      r = .returned (.tuple #[.pointer none, .iface 77 (.pointer (some ⟨w.heap.size, 0, none⟩))]) ∧ w.alloc (.cells #[.string layerRef, .int .i64 0, .int .i64 0, .iface xt xv] 80) = w' := by
  by_cases h0 : n < 0
  · go_enter Tryz.func7, Tryz.ntmps7
    go_wp2_with (go_at_call 19; refine (faultNew _ _ _ _).mono ?_; rintro e w' ⟨rfl, rfl⟩)
    go_ret2
    exact ⟨rfl, rfl⟩
  · have h1 : 1000 < n := by omega
    have h2 : 0 ≤ n := by omega
    clear h
    go_enter Tryz.func7, Tryz.ntmps7
    go_wp2_with (go_at_call 19; refine (faultNew _ _ _ _).mono ?_; rintro e w' ⟨rfl, rfl⟩)
    go_ret2
    exact ⟨rfl, rfl⟩

theorem zeros_getD (n k : Nat) : (List.replicate n (0 : Int)).getD k 0 = 0 := by
  simp only [List.getD, List.getElem?_replicate]; split <;> rfl

set_option maxHeartbeats 1000000 in
set_option maxRecDepth 100000 in
theorem new_ok (n : Nat) (w : World) (h : n ≤ 1000) :
    Calls Tryz.prog 7 #[.int .i64 n] w (NewPart w (Rf.ofSt (List.replicate n 0))) := by
  obtain ⟨i0, hi, hz0, hz1, hz2⟩ := info_parts Tryz.intInfo
  go_enter Tryz.func7, Tryz.ntmps7
  go_wp2_with (at_make; refine wpList_make_full _ rfl _ _ 22 rfl 0 3 i0 (.int .i64 0) 1 Tryz.underlying22 hi hz0 hz1 _ _ _ _ n rfl rfl rfl rfl (by rw [hz2]; omega) (by unfold maxLen; omega) (Nat.zero_le _) ?_; intro w1 hown hgrow)
  have hrow := (Row.of hown).1
  have hb1 : Below w.heap.size w w1 := (Below.refl _ _).grown hgrow (Nat.le_refl _) (by simp)
  refine (of_any w.heap.size 0 n n (List.replicate n 0) w1 (by simp) h (by intro k hk; rw [zeros_getD]; decide) ?_).mono ?_
  · intro k hk
    rw [zeros_getD, Nat.zero_add]
    refine hrow.cell ?_
    show ((madeCells #[Value.int .i64 0] (n * 1)).toList)[k]? = _
    rw [Nat.mul_one, toList_madeCells_one]; simp [hk]
  · rintro e w2 ⟨B, ve, vp, vi, vb, rfl, hP, hF, hb2⟩
    go_wp2
    go_ret2
    exact ⟨B, ve, vp, vi, vb, rfl, hP, fun k hk => Nat.le_trans hb1.size (hF k hk), hb1.trans (hb2.mono hb1.size)⟩

end Go.Proofs.YtfkhaldheclheaaGreatDoor
