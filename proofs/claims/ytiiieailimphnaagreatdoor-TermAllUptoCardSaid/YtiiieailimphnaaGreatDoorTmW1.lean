/- Walks: act.isName, act.rising over its two closures, act.Rising, act.Pairs. -/
import Derived.Test.YtiiieailimphnaaGreatDoorTmMem
import Derived.WalkLawsBesides
namespace Go.Proofs.YtiiieailimphnaaGreatDoor
open Go.RowKit
set_option linter.unusedVariables false
set_option linter.unusedSimpArgs false

theorem isName_is (n : Int) (b : Bool) (w : World) (h : Tm.isName n = b) :
    Calls Tryz.prog 145 #[.int .i64 n] w fun e w' => e = .returned (.bool b) ∧ w = w' := by
  by_cases h1 : 0 ≤ n
  · by_cases h2 : n < 100
    · obtain rfl : true = b := by rw [← h]; simp [Tm.isName, h1, h2]
      go_enter Tryz.func145, Tryz.ntmps145
      go_wp2_with fail
      go_ret
      exact ⟨rfl, rfl⟩
    · obtain rfl : false = b := by rw [← h]; simp [Tm.isName, h1, h2]
      go_enter Tryz.func145, Tryz.ntmps145
      go_wp2_with fail
      go_ret
      exact ⟨rfl, rfl⟩
  · obtain rfl : false = b := by rw [← h]; simp [Tm.isName, h1]
    have h1' : n < 0 := by omega
    go_enter Tryz.func145, Tryz.ntmps145
    go_wp2_with fail
    go_ret
    exact ⟨rfl, rfl⟩

theorem ret_bool {a b : Bool} (h : a = b) : Ending.returned (.bool a) = .returned (.bool b) := by rw [h]
theorem ret_int {a b : Int} (h : a = b) : Ending.returned (.int .i64 a) = .returned (.int .i64 b) := by rw [h]

/-- A closure that tells a list's numbers. -/
def Tells (fn : FuncId) (l : List Int) (bx : Nat) (w : World) : Prop := ∀ z : Int, 0 ≤ z → z < l.length → Calls Tryz.prog fn #[.int .i64 z, .pointer (some ⟨bx, 0, none⟩)] w fun e w' => e = .returned (.int .i64 (l.getD z.toNat 0)) ∧ w = w'

theorem rising_no {l : List Int} {k : Nat} (hk : k < l.length) (h : Tm.isName (l.getD k 0) = false ∨ ∃ j, k = j + 1 ∧ ¬ l.getD j 0 < l.getD k 0) : Tm.rising l = false := by
  cases hr : Tm.rising l
  · rfl
  · have := (Tm.rising_iff l).1 hr k hk
    rcases h with h | ⟨j, rfl, h⟩
    · rw [h] at this; cases this.1
    · exact absurd (this.2 (by omega)) h

set_option maxHeartbeats 4000000 in
set_option maxRecDepth 100000 in
theorem rising_ints (l : List Int) (n : Nat) (bx : Nat) (w : World) (hn : l.length = n) (hm : n ≤ 9223372036854775807) (hc : Tells 144 l bx w) :
    Calls Tryz.prog 143 #[.int .i64 n, .func (.func 144) #[] #[.pointer (some ⟨bx, 0, none⟩)]] w fun e w' => e = .returned (.bool (Tm.rising l)) ∧ w = w' := by
  have HN := Lib.hid hn
  have HC := Lib.hid hc
  clear hn hc
  go_enter Tryz.func143, Tryz.ntmps143
  go_wp2_with fail
  go_loop [7] (fun i => ∃ k : Nat, k ≤ n ∧ i = .int .i64 k ∧ Hid (∀ j, j < k → Tm.isName (l.getD j 0) = true ∧ (0 < j → l.getD (j - 1) 0 < l.getD j 0))) (fun i => n - (intOf i).toNat)
  case atStart => exact ⟨0, Nat.zero_le _, rfl, fun j hj => by omega⟩
  case round =>
    obtain ⟨k, hk, rfl, HR⟩ := hrel
    by_cases hlt : k < n
    · obtain ⟨x, hx⟩ : ∃ x, x = l.getD k 0 := ⟨_, rfl⟩
      have HX := Lib.hid hx
      clear hx
      have HX1 : Hid (l.getD (k : Int).toNat 0 = x) := HX.out.symm
      cases hnm : Tm.isName x
      · have HF : Hid (Tm.rising l = false) := rising_no (k := k) (by rw [HN.out]; exact hlt) (.inl (by rw [← HX.out]; exact hnm))
        have HNM := Lib.hid hnm
        clear hnm
        go_wp2_with (first
          | (go_at_call 144; refine (HC.out k (by omega) (by rw [HN.out]; omega)).mono ?_; rintro e w' ⟨rfl, rfl⟩; rw [HX1.out])
          | (go_at_call 145; refine (isName_is x false _ HNM.out).mono ?_; rintro e w' ⟨rfl, rfl⟩))
        go_ret
        exact ⟨ret_bool HF.out.symm, rfl⟩
      · have HNM := Lib.hid hnm
        clear hnm
        by_cases h0 : k = 0
        · subst h0
          have HX1 : Hid (l.getD (0 : Int).toNat 0 = x) := HX.out.symm
          go_wp2_with (first
            | (go_at_call 144; refine (HC.out 0 (by omega) (by rw [HN.out]; omega)).mono ?_; rintro e w' ⟨rfl, rfl⟩; rw [HX1.out])
            | (go_at_call 145; refine (isName_is x true _ HNM.out).mono ?_; rintro e w' ⟨rfl, rfl⟩))
          go_round
          case rel => exact ⟨1, by omega, rfl, fun j hj => by obtain rfl : j = 0 := by omega
                                                              exact ⟨by rw [← HX.out]; exact HNM.out, fun h => by omega⟩⟩
          case measure => simp [intOf]; omega
        · obtain ⟨j, rfl⟩ : ∃ j, k = j + 1 := ⟨k - 1, by omega⟩
          obtain ⟨y, hy⟩ : ∃ y, y = l.getD j 0 := ⟨_, rfl⟩
          have HY := Lib.hid hy
          clear hy h0
          have HX1 : Hid (l.getD ((j : Int) + 1).toNat 0 = x) := HX.out.symm
          have HY1 : Hid (l.getD (j : Int).toNat 0 = y) := HY.out.symm
          by_cases hxy : y < x
          · go_wp2_with (first
              | (go_at_call 144; refine (HC.out _ (by omega) (by rw [HN.out]; omega)).mono ?_; rintro e w' ⟨rfl, rfl⟩; first | rw [HX1.out] | rw [HY1.out])
              | (go_at_call 145; refine (isName_is x true _ HNM.out).mono ?_; rintro e w' ⟨rfl, rfl⟩))
            go_round
            case rel => exact ⟨j + 1 + 1, by omega, by go_num, fun i hi => by
              by_cases hij : i = j + 1
              · subst hij
                exact ⟨by rw [← HX.out]; exact HNM.out, fun _ => by rw [Nat.add_sub_cancel, ← HX.out, ← HY.out]; exact hxy⟩
              · exact HR.out i (by omega)⟩
            case measure => simp [intOf]; omega
          · have HF : Hid (Tm.rising l = false) := rising_no (k := j + 1) (by rw [HN.out]; exact hlt) (.inr ⟨j, rfl, by rw [← HX.out, ← HY.out]; exact hxy⟩)
            have hxy' : x ≤ y := by omega
            clear hxy
            go_wp2_with (first
              | (go_at_call 144; refine (HC.out _ (by omega) (by rw [HN.out]; omega)).mono ?_; rintro e w' ⟨rfl, rfl⟩; first | rw [HX1.out] | rw [HY1.out])
              | (go_at_call 145; refine (isName_is x true _ HNM.out).mono ?_; rintro e w' ⟨rfl, rfl⟩))
            go_ret
            exact ⟨ret_bool HF.out.symm, rfl⟩
    · obtain rfl : k = n := by omega
      have HF : Hid (Tm.rising l = true) := (Tm.rising_iff l).2 (fun i hi => HR.out i (by rw [HN.out] at hi; exact hi))
      go_wp2_with fail
      go_ret
      exact ⟨ret_bool HF.out.symm, rfl⟩

end Go.Proofs.YtiiieailimphnaaGreatDoor
