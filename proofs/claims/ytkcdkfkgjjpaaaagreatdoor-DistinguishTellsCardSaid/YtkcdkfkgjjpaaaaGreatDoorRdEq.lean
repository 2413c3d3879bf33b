/- Walk: slices.Equal at integers. -/
import Derived.Test.YtkcdkfkgjjpaaaaGreatDoorLst
import Derived.Test.YtkcdkfkgjjpaaaaGreatDoorSyW2
import Derived.Laws.StructEq
namespace Go.Proofs.YtkcdkfkgjjpaaaaGreatDoor
open Go.RowKit
set_option linter.unusedVariables false
set_option linter.unusedSimpArgs false

def Eql (w : World) (b : Bool) (r : Ending) (w' : World) : Prop := r = .returned (.bool b) ∧ Up w w'

theorem take_not {α : Type} (d : α) {xs ys : List α} {j : Nat} (h : xs.getD j d ≠ ys.getD j d) : ¬ xs = ys := fun e => h (by rw [e])

theorem take_all {α : Type} [DecidableEq α] (d : α) {xs ys : List α} {n : Nat} (hx : xs.length = n) (hy : ys.length = n) (h : ∀ j, j < n → xs.getD j d = ys.getD j d) : xs = ys := by
  refine List.ext_getElem (by omega) (fun i h1 h2 => ?_)
  have := h i (by omega)
  simpa [List.getD, h1, h2] using this

set_option maxHeartbeats 4000000 in
set_option maxRecDepth 100000 in
theorem equal_ints {v u : Value} {xs ys : List Int} {w : World} (hv : Lst w v xs) (hu : Lst w u ys) (hm : xs.length ≤ 9223372036854775807) (hm2 : ys.length ≤ 9223372036854775807) :
    Calls Tryz.prog 198 #[v, u] w (Eql w (decide (xs = ys))) := by
  obtain ⟨ao, c, g, off, rfl, ha, hx⟩ := hv
  obtain ⟨bo, d, h, off2, rfl, hb, hy⟩ := hu
  unfold IntsAt at hx hy
  obtain ⟨n, hn⟩ : ∃ n, n = xs.length := ⟨_, rfl⟩
  obtain ⟨m, hmm⟩ : ∃ m, m = ys.length := ⟨_, rfl⟩
  rw [← hn] at ha hx hm ⊢
  rw [← hmm] at hb hy hm2 ⊢
  have HX := Lib.hid hx
  have HY := Lib.hid hy
  have HA := Lib.hid ha
  have HB := Lib.hid hb
  have HN := Lib.hid hn
  have HM := Lib.hid hmm
  clear hn hmm hx hy ha hb
  by_cases hnm : n = m
  · subst hnm
    have qn : ((n : Int) != (n : Int)) = false := by simp
    go_enter Tryz.func198, Tryz.ntmps198
    go_wp2_with fail
    go_loopw [13] (fun i wr => ∃ j : Nat, j ≤ n ∧ i = .int .i64 j ∧ Up w wr ∧ Hid (∀ k, k < j → xs.getD k 0 = ys.getD k 0)) (fun i _ => n - (intOf i).toNat)
    case atStart => exact ⟨0, Nat.zero_le _, rfl, Up.refl _, fun k hk => by omega⟩
    case round =>
      obtain ⟨j, hj, rfl, hU, HE⟩ := hrel
      by_cases hlt : j < n
      · obtain rfl := HA.out (by omega)
        obtain rfl := HB.out (by omega)
        have cx := HX.out j hlt
        have cy := HY.out j hlt
        have cx := hU.cell cx
        have cy := hU.cell cy
        obtain ⟨x, hxe⟩ : ∃ x, x = xs.getD j 0 := ⟨_, rfl⟩
        obtain ⟨y, hye⟩ : ∃ y, y = ys.getD j 0 := ⟨_, rfl⟩
        rw [← hxe] at cx
        rw [← hye] at cy
        have HXE := Lib.hid hxe
        have HYE := Lib.hid hye
        clear hxe hye
        by_cases hxy : x = y
        · have HQ : Hid (xs.getD j 0 = ys.getD j 0) := Lib.hid (by rw [← HXE.out, ← HYE.out]; exact hxy)
          subst hxy
          have q1 : (x == x) = true := by simp
          have q2 : (x != x) = false := by simp
          go_wp2_with fail
          go_quiet (fail)
          go_wp2_with fail
          go_roundw
          case rel => exact ⟨j + 1, by omega, by go_num, hU.drewN _, fun k hk => by
            by_cases hkj : k = j
            · rw [hkj]; exact HQ.out
            · exact HE.out k (by omega)⟩
          case measure => simp [intOf] <;> omega
        · have HQ : Hid (false = decide (xs = ys)) := Lib.hid (by rw [decide_eq_false (take_not 0 (j := j) (by rw [← HXE.out, ← HYE.out]; exact hxy))])
          have q1 : (x == y) = false := by simpa using hxy
          have q2 : (x != y) = true := by simpa using hxy
          clear hxy
          go_wp2_with fail
          go_quiet (fail)
          go_wp2_with fail
          go_ret
          exact ⟨ret_bool HQ.out, hU.drewN _⟩
      · obtain rfl : j = n := by omega
        have HQ : Hid (true = decide (xs = ys)) := Lib.hid (by rw [decide_eq_true (take_all 0 HN.out.symm HM.out.symm HE.out)])
        go_wp2_with fail
        go_ret
        exact ⟨ret_bool HQ.out, hU⟩
  · have HQ : Hid (false = decide (xs = ys)) := Lib.hid (by rw [decide_eq_false (fun e => hnm (by rw [HN.out, HM.out, e]))])
    have qn : ((n : Int) != (m : Int)) = true := by simp; omega
    clear hnm
    go_enter Tryz.func198, Tryz.ntmps198
    go_wp2_with fail
    go_ret
    exact ⟨ret_bool HQ.out, Up.refl _⟩

end Go.Proofs.YtkcdkfkgjjpaaaaGreatDoor
