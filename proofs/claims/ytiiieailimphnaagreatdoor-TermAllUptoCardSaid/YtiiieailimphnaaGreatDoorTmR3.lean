/- Walks over the document's own answers: Pairs. -/
import Derived.Test.YtiiieailimphnaaGreatDoorTmR2
namespace Go.Proofs.YtiiieailimphnaaGreatDoor
open Go.RowKit
set_option linter.unusedVariables false
set_option linter.unusedSimpArgs false

theorem okPairs_iff (l : List (Int × Int)) : Tm.okPairs l = true ↔ ∀ i, i < l.length → Tm.isName (l.getD i (0, 0)).1 = true ∧ Tm.isName (l.getD i (0, 0)).2 = true ∧ (0 < i → (l.getD (i - 1) (0, 0)).1 < (l.getD i (0, 0)).1) := by
  unfold Tm.okPairs
  rw [Bool.and_eq_true, List.all_eq_true, Tm.rising_iff]
  have e : ∀ i, (l.map (·.1)).getD i 0 = (l.getD i (0, 0)).1 := fun i => by
    simp only [List.getD, List.getElem?_map]
    cases l[i]? <;> rfl
  simp only [e, List.length_map]
  constructor
  · rintro ⟨h1, h2⟩ i hi
    refine ⟨(h2 i hi).1, h1 _ ?_, (h2 i hi).2⟩
    simp [List.getD, hi]
  · intro h
    refine ⟨fun p hp => ?_, fun i hi => ⟨(h i hi).1, (h i hi).2.2⟩⟩
    obtain ⟨i, hi, rfl⟩ := List.mem_iff_getElem.1 hp
    have := (h i hi).2.1
    simpa [List.getD, hi] using this

theorem okPairs_no2 {l : List (Int × Int)} {k : Nat} (hk : k < l.length) (h : Tm.isName (l.getD k (0, 0)).1 = false ∨ Tm.isName (l.getD k (0, 0)).2 = false ∨ ∃ j, k = j + 1 ∧ ¬ (l.getD j (0, 0)).1 < (l.getD k (0, 0)).1) : Tm.okPairs l = false := by
  cases hr : Tm.okPairs l
  · rfl
  · have := (okPairs_iff l).1 hr k hk
    rcases h with h | h | ⟨j, rfl, h⟩
    · rw [h] at this; cases this.1
    · rw [h] at this; cases this.2.1
    · exact absurd (this.2.2 (by omega)) h

set_option maxHeartbeats 8000000 in
set_option maxRecDepth 100000 in
theorem refpairs_any {v : Value} {l : List (Int × Int)} {w : World} (h : Lsp w v l) (hm : l.length ≤ 9223372036854775807) :
    Calls Tryz.prog 117 #[v] w (Eql w (Tm.okPairs l)) := by
  obtain ⟨ao, cap, g, off, rfl, ha, hx⟩ := h
  unfold PairsAt at hx
  obtain ⟨n, hn⟩ : ∃ n, n = l.length := ⟨_, rfl⟩
  rw [← hn] at ha hx hm ⊢
  have HN := Lib.hid hn
  have HA := Lib.hid ha
  have HX := Lib.hid hx
  clear hn ha hx
  go_enter Tryz.func117, Tryz.ntmps117
  go_wp2_with fail
  go_loopw [3] (fun i wr => ∃ k : Nat, k ≤ n ∧ i = .int .i64 k ∧ Up w wr ∧ Hid (∀ j, j < k → Tm.isName (l.getD j (0, 0)).1 = true ∧ Tm.isName (l.getD j (0, 0)).2 = true ∧ (0 < j → (l.getD (j - 1) (0, 0)).1 < (l.getD j (0, 0)).1))) (fun i _ => n - (intOf i).toNat)
  case atStart => exact ⟨0, Nat.zero_le _, rfl, Up.refl _, fun j hj => by omega⟩
  case round =>
    obtain ⟨k, hk, rfl, hU, HR⟩ := hrel
    by_cases hlt : k < n
    · obtain rfl := HA.out (by omega)
      have cx := hU.cell (HX.out k hlt).1
      have cz := hU.cell (HX.out k hlt).2
      obtain ⟨x, hx⟩ : ∃ x, x = (l.getD k (0, 0)).1 := ⟨_, rfl⟩
      obtain ⟨z, hz⟩ : ∃ x, x = (l.getD k (0, 0)).2 := ⟨_, rfl⟩
      rw [← hx] at cx
      rw [← hz] at cz
      have HXE := Lib.hid hx
      have HZE := Lib.hid hz
      clear hx hz
      by_cases hx0 : x < 0
      · have HF : Hid (Tm.okPairs l = false) := okPairs_no2 (k := k) (by rw [← HN.out]; exact hlt) (.inl (by rw [← HXE.out]; simp [Tm.isName]; omega))
        have q1 : decide (x < 0) = true := by simp [hx0]
        clear hx0
        go_wp2_with fail
        go_quiet (fail)
        go_wp2_with fail
        go_ret
        exact ⟨ret_bool HF.out.symm, hU.drewN _⟩
      have q1 : decide (x < 0) = false := by simp [hx0]
      by_cases hx1 : 100 ≤ x
      · have HF : Hid (Tm.okPairs l = false) := okPairs_no2 (k := k) (by rw [← HN.out]; exact hlt) (.inl (by rw [← HXE.out]; simp [Tm.isName]; omega))
        have q2 : decide (100 ≤ x) = true := by simp [hx1]
        clear hx0 hx1
        go_wp2_with fail
        go_quiet (fail)
        go_wp2_with fail
        go_ret
        exact ⟨ret_bool HF.out.symm, hU.drewN _⟩
      have q2 : decide (100 ≤ x) = false := by simp [hx1]
      have HNM : Hid (Tm.isName x = true) := Lib.hid (by simp [Tm.isName]; omega)
      clear hx0 hx1
      by_cases hz0 : z < 0
      · have HF : Hid (Tm.okPairs l = false) := okPairs_no2 (k := k) (by rw [← HN.out]; exact hlt) (.inr (.inl (by rw [← HZE.out]; simp [Tm.isName]; omega)))
        have p1 : decide (z < 0) = true := by simp [hz0]
        clear hz0
        go_wp2_with fail
        go_quiet (fail)
        go_wp2_with fail
        go_ret
        exact ⟨ret_bool HF.out.symm, hU.drewN _⟩
      have p1 : decide (z < 0) = false := by simp [hz0]
      by_cases hz1 : 100 ≤ z
      · have HF : Hid (Tm.okPairs l = false) := okPairs_no2 (k := k) (by rw [← HN.out]; exact hlt) (.inr (.inl (by rw [← HZE.out]; simp [Tm.isName]; omega)))
        have p2 : decide (100 ≤ z) = true := by simp [hz1]
        clear hz0 hz1
        go_wp2_with fail
        go_quiet (fail)
        go_wp2_with fail
        go_ret
        exact ⟨ret_bool HF.out.symm, hU.drewN _⟩
      have p2 : decide (100 ≤ z) = false := by simp [hz1]
      have HNZ : Hid (Tm.isName z = true) := Lib.hid (by simp [Tm.isName]; omega)
      clear hz0 hz1
      by_cases h0 : k = 0
      · subst h0
        rw [Nat.zero_mul, Nat.add_zero] at cx cz
        have hn0 : (0 : Int) < (n : Int) := by omega
        go_wp2_with fail
        go_quiet (fail)
        go_wp2_with fail
        go_roundw
        case rel => exact ⟨1, by omega, rfl, hU.drewN _, fun j hj => by
          obtain rfl : j = 0 := by omega
          exact ⟨by rw [← HXE.out]; exact HNM.out, by rw [← HZE.out]; exact HNZ.out, fun h => by omega⟩⟩
        case measure => simp [intOf] <;> omega
      · obtain ⟨j, rfl⟩ : ∃ j, k = j + 1 := ⟨k - 1, by omega⟩
        have hlj : j < n := by omega
        have cy := hU.cell (HX.out j hlj).1
        obtain ⟨y, hy⟩ : ∃ y, y = (l.getD j (0, 0)).1 := ⟨_, rfl⟩
        rw [← hy] at cy
        have HYE := Lib.hid hy
        have q3 : decide ((0 : Int) < ((j + 1 : Nat) : Int)) = true := decide_eq_true (by omega)
        have q3' : decide ((0 : Int) < (j : Int) + 1) = true := decide_eq_true (by omega)
        have qw : IntKind.i64.wrap ((j : Int) + 1 - 1) = (j : Int) := (IntWalk.i64_in _ (by omega)).trans (by omega)
        clear hy h0
        by_cases hxy : x ≤ y
        · have HF : Hid (Tm.okPairs l = false) := okPairs_no2 (k := j + 1) (by rw [← HN.out]; exact hlt) (.inr (.inr ⟨j, rfl, by rw [← HXE.out, ← HYE.out]; omega⟩))
          have q4 : decide (x ≤ y) = true := by simp [hxy]
          clear hxy
          go_wp2_with fail
          go_quiet (fail)
          go_wp2_with fail
          go_ret
          exact ⟨ret_bool HF.out.symm, hU.drewN _⟩
        · have HXY : Hid (y < x) := Lib.hid (by omega)
          have q4 : decide (x ≤ y) = false := by simp [hxy]
          clear hxy
          go_wp2_with fail
          go_quiet (fail)
          go_wp2_with fail
          go_roundw
          case rel => exact ⟨j + 1 + 1, by omega, by go_num, hU.drewN _, fun i hi => by
            by_cases hij : i = j + 1
            · subst hij
              exact ⟨by rw [← HXE.out]; exact HNM.out, by rw [← HZE.out]; exact HNZ.out, fun _ => by rw [Nat.add_sub_cancel, ← HXE.out, ← HYE.out]; exact HXY.out⟩
            · exact HR.out i (by omega)⟩
          case measure => simp [intOf] <;> omega
    · obtain rfl : n = k := by omega
      have HF : Hid (Tm.okPairs l = true) := Lib.hid ((okPairs_iff l).2 (fun i hi => HR.out i (by rw [HN.out]; exact hi)))
      go_wp2_with fail
      go_ret
      exact ⟨ret_bool HF.out.symm, hU⟩

end Go.Proofs.YtiiieailimphnaaGreatDoor
