/- Pairs of numbers as a map's keys; the set of the pairs that were seen. -/
import Derived.Test.YtiiieailimphnaaDoorTmMem
import Derived.WideKeyPair
import Derived.DeepKeys4
import Derived.ChangeBookTie2
namespace Go.Proofs.YtiiieailimphnaaDoor
open Go.RowKit Go.Maps Go.WideMaps
set_option linter.unusedVariables false

theorem laidOutS : laidOutB Tryd.prog = true := by kernel_rfl
theorem rowS : 63 < Tryd.prog.types.size := of_decide_eq_true (by kernel_rfl)
theorem arrS : ArrKey Tryd.prog 63 3 2 := ⟨Tryd.underlying63, by kernel_rfl, by kernel_rfl, by kernel_rfl⟩
theorem lawS : KeyLaw Tryd.prog 63 := Go.deep_law_laid laidOutS (m := 2) (by omega) rowS (by kernel_rfl) (by rw [Tryd.underlying63])
theorem keyedS : Keyed Tryd.prog 63 := Keyed.of_law lawS
theorem zeroS (w : World) : (zeroValue 64).run Tryd.prog w = .ok (.agg #[]) w := by kernel_rfl

/-- A pair's key. -/
def pk (a b : Nat) : Lit := .string (keyBytes [.int .i64 (a : Nat), .int .i64 (b : Nat)])

theorem sizeS : ∃ m, Tryd.prog.types.size = m + 1 := by
  have := rowS
  exact ⟨Tryd.prog.types.size - 1, by omega⟩

theorem keyOf_pk {a b : Nat} (ha : a ≤ 1000) (hb : b ≤ 1000) : keyOf Tryd.prog 63 (.agg #[.int .i64 (a : Nat), .int .i64 (b : Nat)]) = some (pk a b) :=
  keyOf_pair arrS Tryd.underlying3 sizeS (WalkArith.wf_i64 (by omega)) (WalkArith.wf_i64 (by omega))

theorem pk_inj {a b c d : Nat} (ha : a ≤ 1000) (hb : b ≤ 1000) (hc : c ≤ 1000) (hd : d ≤ 1000) (h : pk a b = pk c d) : a = c ∧ b = d := by
  have h1 := keyOf_pk ha hb
  have h2 := keyOf_pk hc hd
  rw [h] at h1
  have := lawS.inj h1 h2
  simp at this
  omega

/-- The pairs that were seen, as the map's datum. -/
def sset (sl : List (Nat × Nat)) : DataW Unit := sl.foldl (fun D p => D.put (pk p.1 p.2) (.agg [])) (.map [])

theorem sset_snoc (sl : List (Nat × Nat)) (a b : Nat) : sset (sl ++ [(a, b)]) = (sset sl).put (pk a b) (.agg []) := by simp [sset, List.foldl_append]

theorem sset_map (sl : List (Nat × Nat)) : IsMap (sset sl) := by
  obtain ⟨r, rfl⟩ : ∃ r : List (Nat × Nat), sl = r.reverse := ⟨sl.reverse, by simp⟩
  induction r with
  | nil => exact isMap_empty
  | cons t r ih => rw [List.reverse_cons, sset_snoc]; exact ih.put _ _

theorem sset_has {sl : List (Nat × Nat)} (h : ∀ p ∈ sl, p.1 ≤ 1000 ∧ p.2 ≤ 1000) {a b : Nat} (ha : a ≤ 1000) (hb : b ≤ 1000) : Maps.has (sset sl) (pk a b) = decide ((a, b) ∈ sl) := by
  obtain ⟨r, rfl⟩ : ∃ r : List (Nat × Nat), sl = r.reverse := ⟨sl.reverse, by simp⟩
  induction r with
  | nil => rfl
  | cons x r ih =>
    obtain ⟨c, d⟩ := x
    rw [List.reverse_cons] at h ⊢
    have hi := ih (fun p hp => h p (List.mem_append_left _ hp))
    have hcd := h (c, d) (by simp)
    rw [sset_snoc]
    by_cases e : (a, b) = (c, d)
    · obtain ⟨rfl, rfl⟩ := Prod.mk.inj e
      rw [has_put_same (sset_map _) (show WideAt.IsKeyLit (pk a b) from trivial)]; simp
    · have hne : pk a b ≠ pk c d := fun he => e (by obtain ⟨h1, h2⟩ := pk_inj ha hb hcd.1 hcd.2 he; rw [h1, h2])
      have e' : ¬ (a = c ∧ b = d) := fun h => e (by rw [h.1, h.2])
      rw [has_put_other hne, hi]
      simp [e']

/-- No more pairs than there are. -/
theorem seen_le {sl : List (Nat × Nat)} (hn : sl.Nodup) (h : ∀ p ∈ sl, p.1 ≤ 1000 ∧ p.2 ≤ 1000) : sl.length ≤ 1002001 := by
  have := nodup_lt_length 1002001 (sl.map fun p => p.1 * 1001 + p.2) ?_ ?_
  · simpa using this
  · rw [List.Nodup, List.pairwise_map]
    refine List.Pairwise.imp_of_mem ?_ hn
    intro a b ha hb hab e
    have h1 := h a ha
    have h2 := h b hb
    have e1 : a.1 = b.1 := by omega
    have e2 : a.2 = b.2 := by omega
    exact hab (Prod.ext e1 e2)
  · intro x hx
    obtain ⟨p, hp, rfl⟩ := List.mem_map.1 hx
    have := h p hp
    omega

end Go.Proofs.YtiiieailimphnaaDoor
