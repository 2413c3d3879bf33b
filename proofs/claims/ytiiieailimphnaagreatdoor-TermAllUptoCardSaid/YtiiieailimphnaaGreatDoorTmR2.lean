/- Walks over the document's own answers: Rising. -/
import Derived.Test.YtiiieailimphnaaGreatDoorTmR1
namespace Go.Proofs.YtiiieailimphnaaGreatDoor
open Go.RowKit
set_option linter.unusedVariables false
set_option linter.unusedSimpArgs false

set_option maxHeartbeats 8000000 in
set_option maxRecDepth 100000 in
theorem refrising_any {v : Value} {l : List Int} {w : World} (h : Lst w v l) (hm : l.length ≤ 9223372036854775807) :
    Calls Tryz.prog 116 #[v] w (Eql w (Tm.rising l)) := by
  obtain ⟨ao, cap, g, off, rfl, ha, hx⟩ := h
  unfold IntsAt at hx
  obtain ⟨n, hn⟩ : ∃ n, n = l.length := ⟨_, rfl⟩
  rw [← hn] at ha hx hm ⊢
  have HN := Lib.hid hn
  have HA := Lib.hid ha
  have HX := Lib.hid hx
  clear hn ha hx
  go_enter Tryz.func116, Tryz.ntmps116
  go_wp2_with fail
  go_loopw [3] (fun i wr => ∃ k : Nat, k ≤ n ∧ i = .int .i64 k ∧ Up w wr ∧ Hid (∀ j, j < k → Tm.isName (l.getD j 0) = true ∧ (0 < j → l.getD (j - 1) 0 < l.getD j 0))) (fun i _ => n - (intOf i).toNat)
  case atStart => exact ⟨0, Nat.zero_le _, rfl, Up.refl _, fun j hj => by omega⟩
  case round =>
    obtain ⟨k, hk, rfl, hU, HR⟩ := hrel
    by_cases hlt : k < n
    · obtain rfl := HA.out (by omega)
      have cx := hU.cell (HX.out k hlt)
      obtain ⟨x, hx⟩ : ∃ x, x = l.getD k 0 := ⟨_, rfl⟩
      rw [← hx] at cx
      have HXE := Lib.hid hx
      clear hx
      by_cases hx0 : x < 0
      · have HF : Hid (Tm.rising l = false) := rising_no (k := k) (by rw [← HN.out]; exact hlt) (.inl (by rw [← HXE.out]; simp [Tm.isName]; omega))
        have q1 : decide (x < 0) = true := by simp [hx0]
        clear hx0
        go_wp2_with fail
        go_quiet (fail)
        go_wp2_with fail
        go_ret
        exact ⟨ret_bool HF.out.symm, hU.drewN _⟩
      have q1 : decide (x < 0) = false := by simp [hx0]
      by_cases hx1 : 100 ≤ x
      · have HF : Hid (Tm.rising l = false) := rising_no (k := k) (by rw [← HN.out]; exact hlt) (.inl (by rw [← HXE.out]; simp [Tm.isName]; omega))
        have q2 : decide (100 ≤ x) = true := by simp [hx1]
        clear hx0 hx1
        go_wp2_with fail
        go_quiet (fail)
        go_wp2_with fail
        go_ret
        exact ⟨ret_bool HF.out.symm, hU.drewN _⟩
      have q2 : decide (100 ≤ x) = false := by simp [hx1]
      have HNM : Hid (Tm.isName x = true) := Lib.hid (by simp [Tm.isName]; omega)
      clear hx0 hx1
      by_cases h0 : k = 0
      · subst h0
        rw [Nat.add_zero] at cx
        have hn0 : (0 : Int) < (n : Int) := by omega
        go_wp2_with fail
        go_quiet (fail)
        go_wp2_with fail
        go_roundw
        case rel => exact ⟨1, by omega, rfl, hU.drewN _, fun j hj => by
          obtain rfl : j = 0 := by omega
          exact ⟨by rw [← HXE.out]; exact HNM.out, fun h => by omega⟩⟩
        case measure => simp [intOf] <;> omega
      · obtain ⟨j, rfl⟩ : ∃ j, k = j + 1 := ⟨k - 1, by omega⟩
        have hlj : j < n := by omega
        have cy := hU.cell (HX.out j hlj)
        obtain ⟨y, hy⟩ : ∃ y, y = l.getD j 0 := ⟨_, rfl⟩
        rw [← hy] at cy
        have HYE := Lib.hid hy
        have q3 : decide ((0 : Int) < ((j + 1 : Nat) : Int)) = true := decide_eq_true (by omega)
        have q3' : decide ((0 : Int) < (j : Int) + 1) = true := decide_eq_true (by omega)
        have qw : IntKind.i64.wrap ((j : Int) + 1 - 1) = (j : Int) := (IntWalk.i64_in _ (by omega)).trans (by omega)
        clear hy h0
        by_cases hxy : x ≤ y
        · have HF : Hid (Tm.rising l = false) := rising_no (k := j + 1) (by rw [← HN.out]; exact hlt) (.inr ⟨j, rfl, by rw [← HXE.out, ← HYE.out]; omega⟩)
          have q4 : decide (x ≤ y) = true := by simp [hxy]
          clear hxy
          go_wp2_with fail
          go_quiet (fail)
          go_wp2_with fail
          go_ret
          exact ⟨ret_bool HF.out.symm, hU.drewN _⟩
        · have HXY : Hid (y < x) := Lib.hid (by omega)
          have q4 : decide (x ≤ y) = false := by simp [hxy]
          clear hxy
          go_wp2_with fail
          go_quiet (fail)
          go_wp2_with fail
          go_roundw
          case rel => exact ⟨j + 1 + 1, by omega, by go_num, hU.drewN _, fun i hi => by
            by_cases hij : i = j + 1
            · subst hij
              exact ⟨by rw [← HXE.out]; exact HNM.out, fun _ => by rw [Nat.add_sub_cancel, ← HXE.out, ← HYE.out]; exact HXY.out⟩
            · exact HR.out i (by omega)⟩
          case measure => simp [intOf] <;> omega
    · obtain rfl : n = k := by omega
      have HF : Hid (Tm.rising l = true) := Lib.hid ((Tm.rising_iff l).2 (fun i hi => HR.out i (by rw [HN.out]; exact hi)))
      go_wp2_with fail
      go_ret
      exact ⟨ret_bool HF.out.symm, hU⟩

end Go.Proofs.YtiiieailimphnaaGreatDoor
