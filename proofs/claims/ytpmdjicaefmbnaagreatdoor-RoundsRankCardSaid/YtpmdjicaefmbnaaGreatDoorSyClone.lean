/- Walks: slices.Clone at edges, at steps, at integers. Printed by mkcompact.py. -/
import Derived.Test.YtpmdjicaefmbnaaGreatDoorSyMem
import Derived.WalkLawsBesides
namespace Go.Proofs.YtpmdjicaefmbnaaGreatDoor
open Go.RowKit Go.Sort
set_option linter.unusedVariables false
set_option linter.unusedSimpArgs false

/-- What a clone leaves: a slice of the call's own. -/
def Cloned (e : TypeId) (size n : Nat) (xs : List Value) (w : World) (r : Ending) (w' : World) : Prop := ∃ v', r = .returned v' ∧ w'.ownsRow w.heap.size e size v' n xs ∧ Below w.heap.size w w'

theorem owns_empty (w : World) (e : TypeId) (size : Nat) : (w.alloc (.cells #[] e)).ownsRow w.heap.size e size (.slice (some ⟨w.heap.size, 0, none⟩) 0 0) 0 [] :=
  ⟨by simp, .inr ⟨w.heap.size, 0, #[], rfl, Nat.le_refl _, heap_alloc_new w _, Nat.le_refl _, by simp [maxLen], by simp, by simp⟩⟩

theorem Addr_add_plain (b o i : Nat) : (⟨b, o, none⟩ : Addr).add i = ⟨b, o + i, none⟩ := by
  unfold Addr.add
  split
  · rename_i h; subst h; rfl
  · rfl

/-- Integers as cells. -/
def ivs (l : List Int) : List Value := l.map (Value.int .i64)
theorem ivs_len (l : List Int) : (ivs l).length = l.length := by simp [ivs]
theorem ivs_one (l : List Int) : ∀ u ∈ ivs l, u.oneCell' = true := by
  intro u hu
  obtain ⟨_, _, rfl⟩ := List.mem_map.1 hu
  rfl
theorem ivs_at {w : World} {g off : Nat} {xs : List Int} (h : IntsAt w g off xs) : ∀ j u, (ivs xs)[j]? = some u → w.cell? ((⟨g, off, none⟩ : Addr).add j) = some u := by
  intro j u hj
  have hjl : j < xs.length := by have := (List.getElem?_eq_some_iff.1 hj).1; rwa [ivs_len] at this
  rw [show (ivs xs)[j]? = some (.int .i64 (xs.getD j 0)) by simp [ivs, hjl], Option.some.injEq] at hj
  rw [← hj, Addr_add_plain]
  exact h j hjl

theorem cells2_at {w : World} {g off : Nat} {l : List (Int × Int)} (h : Twos w g off l) : ∀ j u, (cells2 l)[j]? = some u → w.cell? ((⟨g, off, none⟩ : Addr).add j) = some u := by
  intro j u hj
  have hjl : j < l.length * 2 := by have := (List.getElem?_eq_some_iff.1 hj).1; rwa [cells2_len] at this
  rw [Addr_add_plain]
  obtain ⟨i, c, hc, rfl⟩ : ∃ i c, c < 2 ∧ j = i * 2 + c := ⟨j / 2, j % 2, by omega, by omega⟩
  have g1 := cells2_get l i (by omega)
  have g2 := h i (by omega)
  match c, hc with
  | 0, _ => rw [Nat.add_zero, g1.1, Option.some.injEq] at hj; rw [← hj]; exact g2.1
  | 1, _ => rw [g1.2, Option.some.injEq] at hj; rw [← hj, ← Nat.add_assoc]; exact g2.2

theorem cells3_at {w : World} {g off : Nat} {l : List Sy.Edge} (h : Tris w g off l) : ∀ j u, (cells3 l)[j]? = some u → w.cell? ((⟨g, off, none⟩ : Addr).add j) = some u := by
  intro j u hj
  have hjl : j < l.length * 3 := by have := (List.getElem?_eq_some_iff.1 hj).1; rwa [cells3_len] at this
  rw [Addr_add_plain]
  obtain ⟨i, c, hc, rfl⟩ : ∃ i c, c < 3 ∧ j = i * 3 + c := ⟨j / 3, j % 3, by omega, by omega⟩
  have g1 := cells3_get l i (by omega)
  have g2 := h i (by omega)
  match c, hc with
  | 0, _ => rw [Nat.add_zero, g1.1, Option.some.injEq] at hj; rw [← hj]; exact g2.1
  | 1, _ => rw [g1.2.1, Option.some.injEq] at hj; rw [← hj, ← Nat.add_assoc]; exact g2.2.1
  | 2, _ => rw [g1.2.2, Option.some.injEq] at hj; rw [← hj, ← Nat.add_assoc]; exact g2.2.2

theorem Tryz.edgesInfo : (Tryz.prog.info? 72).map (fun i => (i.zero, i.size, i.bytes)) = some (some (.agg #[.int .i64 0, .int .i64 0, .int .i64 0]), 3, 24) := by kernel_rfl

set_option maxHeartbeats 2000000 in
set_option maxRecDepth 100000 in
theorem clone_edges {xs : List Sy.Edge} {v : Value} {w : World} (hv : Ls3 w v xs) (hm : xs.length ≤ 1000000) :
    Calls Tryz.prog 42 #[v] w (Cloned 72 3 xs.length (cells3 xs) w) := by
  obtain ⟨i0, hi, hz0, hz1, hz2⟩ := info_parts Tryz.edgesInfo
  have hq := Lib.run_eql_slice_nil (P := Tryz.prog)
  obtain ⟨ao, cap, g, off, rfl, ha, hx⟩ := hv
  cases ao with
  | none =>
    obtain rfl : xs = [] := List.eq_nil_of_length_eq_zero (by
      rcases Nat.eq_zero_or_pos xs.length with h | h
      · exact h
      · exact absurd (ha h) (by simp))
    have hq1 := fun w => hq w 22 72 none 0 cap 0 0 Tryz.underlying22
    clear hx ha hm hq
    simp only [List.length_nil]
    go_enter Tryz.func42, Tryz.ntmps42
    go_wp2_with fail
    go_ret
    exact ⟨_, rfl, World.ownsRow_nil _ _ _ _, Below.refl _ _⟩
  | some a =>
    have hq1 := fun w => hq w 22 72 (some a) xs.length cap 0 0 Tryz.underlying22
    have hat : ∀ j u, (cells3 xs)[j]? = some u → (w.alloc (.cells #[] 72)).cell? (a.add j) = some u := by
      intro j u hj
      have hl : 0 < xs.length := by
        have := (List.getElem?_eq_some_iff.1 hj).1
        rw [cells3_len] at this; omega
      have := ha hl
      simp only [Option.some.injEq] at this
      subst this
      exact ((Up.refl w).alloc _).cell (cells3_at hx j u hj)
    have hlen := cells3_len xs
    have HL := Lib.hid hlen
    have HAT := Lib.hid hat
    obtain ⟨n, hn⟩ : ∃ n, n = xs.length := ⟨_, rfl⟩
    rw [← hn] at hm hq1 ⊢
    have HN := Lib.hid hn
    clear hx ha hq hat hlen hn
    go_enter Tryz.func42, Tryz.ntmps42
    go_wp2_with (at_builtin; refine wpList_append_own _ rfl _ _ 22 rfl w.heap.size 72 i0 (.agg #[.int .i64 0, .int .i64 0, .int .i64 0]) 3 24 Tryz.underlying22 hi hz0 hz1 hz2 rfl (by decide) _ _ _ rfl (owns_empty w _ _) a n cap (cells3 xs) rfl (by rw [HL.out, HN.out]) HAT.out (cells3_one xs) (by unfold maxLen; omega) (by omega) (by simp) ?_; intro v1 w1 hown1 hgrow1 _)
    go_ret
    refine ⟨v1, rfl, by simpa using hown1, ?_⟩
    exact ((Below.refl _ _).alloc (Nat.le_refl _) _).grown hgrow1 (by simp) (fun k hk => by cases hk; exact Nat.le_refl _)

theorem Tryz.stepsInfo : (Tryz.prog.info? 88).map (fun i => (i.zero, i.size, i.bytes)) = some (some (.agg #[.int .i64 0, .int .i64 0]), 2, 16) := by kernel_rfl

set_option maxHeartbeats 2000000 in
set_option maxRecDepth 100000 in
theorem clone_steps {xs : List (Int × Int)} {v : Value} {w : World} (hv : Ls2 w v xs) (hm : xs.length ≤ 1000000) :
    Calls Tryz.prog 122 #[v] w (Cloned 88 2 xs.length (cells2 xs) w) := by
  obtain ⟨i0, hi, hz0, hz1, hz2⟩ := info_parts Tryz.stepsInfo
  have hq := Lib.run_eql_slice_nil (P := Tryz.prog)
  obtain ⟨ao, cap, g, off, rfl, ha, hx⟩ := hv
  cases ao with
  | none =>
    obtain rfl : xs = [] := List.eq_nil_of_length_eq_zero (by
      rcases Nat.eq_zero_or_pos xs.length with h | h
      · exact h
      · exact absurd (ha h) (by simp))
    have hq1 := fun w => hq w 80 88 none 0 cap 0 0 Tryz.underlying80
    clear hx ha hm hq
    simp only [List.length_nil]
    go_enter Tryz.func122, Tryz.ntmps122
    go_wp2_with fail
    go_ret
    exact ⟨_, rfl, World.ownsRow_nil _ _ _ _, Below.refl _ _⟩
  | some a =>
    have hq1 := fun w => hq w 80 88 (some a) xs.length cap 0 0 Tryz.underlying80
    have hat : ∀ j u, (cells2 xs)[j]? = some u → (w.alloc (.cells #[] 88)).cell? (a.add j) = some u := by
      intro j u hj
      have hl : 0 < xs.length := by
        have := (List.getElem?_eq_some_iff.1 hj).1
        rw [cells2_len] at this; omega
      have := ha hl
      simp only [Option.some.injEq] at this
      subst this
      exact ((Up.refl w).alloc _).cell (cells2_at hx j u hj)
    have hlen := cells2_len xs
    have HL := Lib.hid hlen
    have HAT := Lib.hid hat
    obtain ⟨n, hn⟩ : ∃ n, n = xs.length := ⟨_, rfl⟩
    rw [← hn] at hm hq1 ⊢
    have HN := Lib.hid hn
    clear hx ha hq hat hlen hn
    go_enter Tryz.func122, Tryz.ntmps122
    go_wp2_with (at_builtin; refine wpList_append_own _ rfl _ _ 80 rfl w.heap.size 88 i0 (.agg #[.int .i64 0, .int .i64 0]) 2 16 Tryz.underlying80 hi hz0 hz1 hz2 rfl (by decide) _ _ _ rfl (owns_empty w _ _) a n cap (cells2 xs) rfl (by rw [HL.out, HN.out]) HAT.out (cells2_one xs) (by unfold maxLen; omega) (by omega) (by simp) ?_; intro v1 w1 hown1 hgrow1 _)
    go_ret
    refine ⟨v1, rfl, by simpa using hown1, ?_⟩
    exact ((Below.refl _ _).alloc (Nat.le_refl _) _).grown hgrow1 (by simp) (fun k hk => by cases hk; exact Nat.le_refl _)

theorem Tryz.intsInfo : (Tryz.prog.info? 3).map (fun i => (i.zero, i.size, i.bytes)) = some (some (.int .i64 0), 1, 8) := by kernel_rfl

set_option maxHeartbeats 2000000 in
set_option maxRecDepth 100000 in
theorem clone_ints {xs : List Int} {v : Value} {w : World} (hv : Lst w v xs) (hm : xs.length ≤ 1000000) :
    Calls Tryz.prog 36 #[v] w (Cloned 3 1 xs.length (ivs xs) w) := by
  obtain ⟨i0, hi, hz0, hz1, hz2⟩ := info_parts Tryz.intsInfo
  have hq := Lib.run_eql_slice_nil (P := Tryz.prog)
  obtain ⟨ao, cap, g, off, rfl, ha, hx⟩ := hv
  cases ao with
  | none =>
    obtain rfl : xs = [] := List.eq_nil_of_length_eq_zero (by
      rcases Nat.eq_zero_or_pos xs.length with h | h
      · exact h
      · exact absurd (ha h) (by simp))
    have hq1 := fun w => hq w 34 3 none 0 cap 0 0 Tryz.underlying34
    clear hx ha hm hq
    simp only [List.length_nil]
    go_enter Tryz.func36, Tryz.ntmps36
    go_wp2_with fail
    go_ret
    exact ⟨_, rfl, World.ownsRow_nil _ _ _ _, Below.refl _ _⟩
  | some a =>
    have hq1 := fun w => hq w 34 3 (some a) xs.length cap 0 0 Tryz.underlying34
    have hat : ∀ j u, (ivs xs)[j]? = some u → (w.alloc (.cells #[] 3)).cell? (a.add j) = some u := by
      intro j u hj
      have hl : 0 < xs.length := by
        have := (List.getElem?_eq_some_iff.1 hj).1
        rw [ivs_len] at this; omega
      have := ha hl
      simp only [Option.some.injEq] at this
      subst this
      exact ((Up.refl w).alloc _).cell (ivs_at hx j u hj)
    have hlen := ivs_len xs
    have HL := Lib.hid hlen
    have HAT := Lib.hid hat
    obtain ⟨n, hn⟩ : ∃ n, n = xs.length := ⟨_, rfl⟩
    rw [← hn] at hm hq1 ⊢
    have HN := Lib.hid hn
    clear hx ha hq hat hlen hn
    go_enter Tryz.func36, Tryz.ntmps36
    go_wp2_with (at_builtin; refine wpList_append_own _ rfl _ _ 34 rfl w.heap.size 3 i0 (.int .i64 0) 1 8 Tryz.underlying34 hi hz0 hz1 hz2 rfl (by decide) _ _ _ rfl (owns_empty w _ _) a n cap (ivs xs) rfl (by rw [HL.out, HN.out]; omega) HAT.out (ivs_one xs) (by unfold maxLen; omega) (by omega) (by simp) ?_; intro v1 w1 hown1 hgrow1 _)
    go_ret
    refine ⟨v1, rfl, by simpa using hown1, ?_⟩
    exact ((Below.refl _ _).alloc (Nat.le_refl _) _).grown hgrow1 (by simp) (fun k hk => by cases hk; exact Nat.le_refl _)

end Go.Proofs.YtpmdjicaefmbnaaGreatDoor
