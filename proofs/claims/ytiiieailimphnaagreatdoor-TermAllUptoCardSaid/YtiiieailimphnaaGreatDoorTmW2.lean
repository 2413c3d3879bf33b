/- Walks: act.rising over the second closure, act.Rising, act.Pairs. Printed by mkw2.py. -/
import Derived.Test.YtiiieailimphnaaGreatDoorTmW1
namespace Go.Proofs.YtiiieailimphnaaGreatDoor
open Go.RowKit
set_option linter.unusedVariables false
set_option linter.unusedSimpArgs false

set_option maxHeartbeats 4000000 in
set_option maxRecDepth 100000 in
theorem rising_pairs (l : List Int) (n : Nat) (bx : Nat) (w : World) (hn : l.length = n) (hm : n ≤ 9223372036854775807) (hc : Tells 146 l bx w) :
    Calls Tryz.prog 143 #[.int .i64 n, .func (.func 146) #[] #[.pointer (some ⟨bx, 0, none⟩)]] w fun e w' => e = .returned (.bool (Tm.rising l)) ∧ w = w' := by
  have HN := Lib.hid hn
  have HC := Lib.hid hc
  clear hn hc
  go_enter Tryz.func143, Tryz.ntmps143
  go_wp2_with fail
  go_loop [7] (fun i => ∃ k : Nat, k ≤ n ∧ i = .int .i64 k ∧ Hid (∀ j, j < k → Tm.isName (l.getD j 0) = true ∧ (0 < j → l.getD (j - 1) 0 < l.getD j 0))) (fun i => n - (intOf i).toNat)
  case atStart => exact ⟨0, Nat.zero_le _, rfl, fun j hj => by omega⟩
  case round =>
    obtain ⟨k, hk, rfl, HR⟩ := hrel
    by_cases hlt : k < n
    · obtain ⟨x, hx⟩ : ∃ x, x = l.getD k 0 := ⟨_, rfl⟩
      have HX := Lib.hid hx
      clear hx
      have HX1 : Hid (l.getD (k : Int).toNat 0 = x) := HX.out.symm
      cases hnm : Tm.isName x
      · have HF : Hid (Tm.rising l = false) := rising_no (k := k) (by rw [HN.out]; exact hlt) (.inl (by rw [← HX.out]; exact hnm))
        have HNM := Lib.hid hnm
        clear hnm
        go_wp2_with (first
          | (go_at_call 146; refine (HC.out k (by omega) (by rw [HN.out]; omega)).mono ?_; rintro e w' ⟨rfl, rfl⟩; rw [HX1.out])
          | (go_at_call 145; refine (isName_is x false _ HNM.out).mono ?_; rintro e w' ⟨rfl, rfl⟩))
        go_ret
        exact ⟨ret_bool HF.out.symm, rfl⟩
      · have HNM := Lib.hid hnm
        clear hnm
        by_cases h0 : k = 0
        · subst h0
          have HX1 : Hid (l.getD (0 : Int).toNat 0 = x) := HX.out.symm
          go_wp2_with (first
            | (go_at_call 146; refine (HC.out 0 (by omega) (by rw [HN.out]; omega)).mono ?_; rintro e w' ⟨rfl, rfl⟩; rw [HX1.out])
            | (go_at_call 145; refine (isName_is x true _ HNM.out).mono ?_; rintro e w' ⟨rfl, rfl⟩))
          go_round
          case rel => exact ⟨1, by omega, rfl, fun j hj => by obtain rfl : j = 0 := by omega
                                                              exact ⟨by rw [← HX.out]; exact HNM.out, fun h => by omega⟩⟩
          case measure => simp [intOf]; omega
        · obtain ⟨j, rfl⟩ : ∃ j, k = j + 1 := ⟨k - 1, by omega⟩
          obtain ⟨y, hy⟩ : ∃ y, y = l.getD j 0 := ⟨_, rfl⟩
          have HY := Lib.hid hy
          clear hy h0
          have HX1 : Hid (l.getD ((j : Int) + 1).toNat 0 = x) := HX.out.symm
          have HY1 : Hid (l.getD (j : Int).toNat 0 = y) := HY.out.symm
          by_cases hxy : y < x
          · go_wp2_with (first
              | (go_at_call 146; refine (HC.out _ (by omega) (by rw [HN.out]; omega)).mono ?_; rintro e w' ⟨rfl, rfl⟩; first | rw [HX1.out] | rw [HY1.out])
              | (go_at_call 145; refine (isName_is x true _ HNM.out).mono ?_; rintro e w' ⟨rfl, rfl⟩))
            go_round
            case rel => exact ⟨j + 1 + 1, by omega, by go_num, fun i hi => by
              by_cases hij : i = j + 1
              · subst hij
                exact ⟨by rw [← HX.out]; exact HNM.out, fun _ => by rw [Nat.add_sub_cancel, ← HX.out, ← HY.out]; exact hxy⟩
              · exact HR.out i (by omega)⟩
            case measure => simp [intOf]; omega
          · have HF : Hid (Tm.rising l = false) := rising_no (k := j + 1) (by rw [HN.out]; exact hlt) (.inr ⟨j, rfl, by rw [← HX.out, ← HY.out]; exact hxy⟩)
            have hxy' : x ≤ y := by omega
            clear hxy
            go_wp2_with (first
              | (go_at_call 146; refine (HC.out _ (by omega) (by rw [HN.out]; omega)).mono ?_; rintro e w' ⟨rfl, rfl⟩; first | rw [HX1.out] | rw [HY1.out])
              | (go_at_call 145; refine (isName_is x true _ HNM.out).mono ?_; rintro e w' ⟨rfl, rfl⟩))
            go_ret
            exact ⟨ret_bool HF.out.symm, rfl⟩
    · obtain rfl : k = n := by omega
      have HF : Hid (Tm.rising l = true) := (Tm.rising_iff l).2 (fun i hi => HR.out i (by rw [HN.out] at hi; exact hi))
      go_wp2_with fail
      go_ret
      exact ⟨ret_bool HF.out.symm, rfl⟩

theorem tells_ints {l : List Int} {bx : Nat} {v : Value} {w : World} (hb : w.cell? ⟨bx, 0, none⟩ = some v) (hv : Lst w v l) : Tells 144 l bx w := by
  intro z h0 h1
  obtain ⟨i, rfl⟩ := Int.eq_ofNat_of_zero_le h0
  obtain ⟨ao, cap, g, off, rfl, ha, hx⟩ := hv
  have hi : i < l.length := by omega
  obtain rfl := ha (by omega)
  have hc := hx i hi
  obtain ⟨n, hn⟩ : ∃ n, n = l.length := ⟨_, rfl⟩
  obtain ⟨x, hxe⟩ : ∃ x, x = l.getD i 0 := ⟨_, rfl⟩
  rw [← hxe] at hc
  rw [← hn] at hb hi
  have HX : Hid (l.getD (i : Int).toNat 0 = x) := hxe.symm
  clear hn hxe hx ha h0 h1
  go_enter Tryz.func144, Tryz.ntmps144
  go_wp2_with fail
  go_ret
  exact ⟨ret_int HX.out.symm, rfl⟩

theorem tells_pairs {l : List (Int × Int)} {bx : Nat} {v : Value} {w : World} (hb : w.cell? ⟨bx, 0, none⟩ = some v) (hv : Lsp w v l) : Tells 146 (l.map (·.1)) bx w := by
  intro z h0 h1
  obtain ⟨i, rfl⟩ := Int.eq_ofNat_of_zero_le h0
  obtain ⟨ao, cap, g, off, rfl, ha, hx⟩ := hv
  rw [List.length_map] at h1
  have hi : i < l.length := by omega
  obtain rfl := ha (by omega)
  have hc := (hx i hi).1
  obtain ⟨n, hn⟩ : ∃ n, n = l.length := ⟨_, rfl⟩
  obtain ⟨x, hxe⟩ : ∃ x, x = (l.getD i (0, 0)).1 := ⟨_, rfl⟩
  have HX : Hid ((l.map (·.1)).getD (i : Int).toNat 0 = x) := by
    show (l.map (·.1)).getD i 0 = x
    rw [hxe]; simp [List.getD, hi]
  rw [← hxe] at hc
  rw [← hn] at hb hi
  clear hn hxe hx ha h0 h1
  go_enter Tryz.func146, Tryz.ntmps146
  go_wp2_with fail
  go_ret
  exact ⟨ret_int HX.out.symm, rfl⟩

theorem rising_any {l : List Int} {v : Value} {w : World} (hv : Lst w v l) (hm : l.length ≤ 9223372036854775807) :
    Calls Tryz.prog 132 #[v] w fun e w' => e = .returned (.bool (Tm.rising l)) ∧ Below w.heap.size w w' := by
  have hT := tells_ints (l := l) (bx := w.heap.size) (v := v) (w := w.alloc (.cells #[v] 29)) (by simp) (hv.up ((Up.refl w).alloc _))
  have HR := Lib.hid (rising_ints l l.length w.heap.size _ rfl hm hT)
  obtain ⟨ao, cap, g, off, rfl, -⟩ := hv
  clear hT
  go_enter Tryz.func132, Tryz.ntmps132
  go_wp2_with (go_at_call 143; refine HR.out.mono ?_; rintro e w' ⟨rfl, rfl⟩)
  go_ret
  exact ⟨rfl, (Below.refl _ _).alloc (Nat.le_refl _) _⟩

theorem okPairs_no {l : List (Int × Int)} {k : Nat} (hk : k < l.length) (h : Tm.isName (l.getD k (0, 0)).2 = false) : Tm.okPairs l = false := by
  cases hr : Tm.okPairs l
  · rfl
  · simp only [Tm.okPairs, Bool.and_eq_true, List.all_eq_true] at hr
    have := hr.1 (l.getD k (0, 0)) (by simp only [List.getD, List.getElem?_eq_getElem hk, Option.getD_some]; exact List.getElem_mem hk)
    rw [h] at this; cases this

theorem okPairs_yes {l : List (Int × Int)} (h : ∀ j, j < l.length → Tm.isName (l.getD j (0, 0)).2 = true) : Tm.okPairs l = Tm.rising (l.map (·.1)) := by
  have : (l.all fun p => Tm.isName p.2) = true := by
    rw [List.all_eq_true]
    intro p hp
    obtain ⟨i, hi, rfl⟩ := List.mem_iff_getElem.1 hp
    simpa [List.getD, hi] using h i hi
  rw [Tm.okPairs, this, Bool.true_and]

set_option maxHeartbeats 4000000 in
set_option maxRecDepth 100000 in
theorem pairs_any {l : List (Int × Int)} {v : Value} {w : World} (hv : Lsp w v l) (hm : l.length ≤ 9223372036854775807) :
    Calls Tryz.prog 133 #[v] w fun e w' => e = .returned (.bool (Tm.okPairs l)) ∧ Below w.heap.size w w' := by
  have HV := Lib.hid hv
  obtain ⟨ao, cap, g, off, rfl, ha, hx⟩ := hv
  obtain ⟨n, hn⟩ : ∃ n, n = l.length := ⟨_, rfl⟩
  have HN := Lib.hid hn
  have HA : Hid (0 < n → ao = some ⟨g, off, none⟩) := by rw [hn]; exact ha
  have HX := Lib.hid hx
  rw [← hn] at hm HV ⊢
  clear hn ha hx
  go_enter Tryz.func133, Tryz.ntmps133
  go_wp2_with fail
  go_loopw [7] (fun i wr => ∃ k : Nat, k ≤ n ∧ i = .int .i64 k ∧ Hid (∀ j, j < k → Tm.isName (l.getD j (0, 0)).2 = true) ∧ Up (w.alloc (.cells #[.slice ao n cap] 33)) wr) (fun i _ => n - (intOf i).toNat)
  case atStart => exact ⟨0, Nat.zero_le _, rfl, fun j hj => by omega, Up.refl _⟩
  case round =>
    obtain ⟨k, hk, rfl, HR, hU⟩ := hrel
    by_cases hlt : k < n
    · obtain rfl := HA.out (by omega)
      obtain ⟨x, hxe⟩ : ∃ x, x = (l.getD k (0, 0)).1 := ⟨_, rfl⟩
      obtain ⟨y, hye⟩ : ∃ y, y = (l.getD k (0, 0)).2 := ⟨_, rfl⟩
      have hc := HX.out k (by rw [← HN.out]; exact hlt)
      rw [← hxe, ← hye] at hc
      have h0 := (((Up.refl w).alloc _).trans hU).cell hc.1
      have h1 := (((Up.refl w).alloc _).trans hU).cell hc.2
      have HY := Lib.hid hye
      clear hc hxe hye
      cases hnm : Tm.isName y
      · have HF : Hid (Tm.okPairs l = false) := okPairs_no (k := k) (by rw [← HN.out]; exact hlt) (by rw [← HY.out]; exact hnm)
        have HNM := Lib.hid hnm
        clear hnm
        go_wp2_with (go_at_call 145; refine (isName_is y false _ HNM.out).mono ?_; rintro e w' ⟨rfl, rfl⟩)
        go_ret
        exact ⟨ret_bool HF.out.symm, ((Up.refl w).alloc _).trans (hU.alloc _)⟩
      · have HNM := Lib.hid hnm
        clear hnm
        go_wp2_with (go_at_call 145; refine (isName_is y true _ HNM.out).mono ?_; rintro e w' ⟨rfl, rfl⟩)
        go_roundw
        case rel => exact ⟨k + 1, by omega, by go_num, fun j hj => by
          by_cases hjk : j = k
          · subst hjk; rw [← HY.out]; exact HNM.out
          · exact HR.out j (by omega), hU.alloc _⟩
        case measure => simp [intOf]; omega
    · obtain rfl : k = n := by omega
      have hb : wr.cell? ⟨w.heap.size, 0, none⟩ = some (.slice ao k cap) := hU.cell (by simp)
      have hT := tells_pairs (bx := w.heap.size) hb (HV.out.up (((Up.refl w).alloc _).trans hU))
      have HC := Lib.hid (rising_pairs (l.map (·.1)) k w.heap.size wr (by rw [List.length_map]; exact HN.out.symm) hm hT)
      have HF : Hid (Tm.okPairs l = Tm.rising (l.map (·.1))) := okPairs_yes (fun j hj => HR.out j (by rw [HN.out]; exact hj))
      clear hT
      go_wp2_with (go_at_call 143; refine HC.out.mono ?_; rintro e w' ⟨rfl, rfl⟩)
      go_ret
      exact ⟨ret_bool HF.out.symm, ((Up.refl w).alloc _).trans hU⟩

end Go.Proofs.YtiiieailimphnaaGreatDoor
