/- Plain laws of rounds: what a round parts, and the ranks. No function of the program is named. -/
import Derived.Test.YtkcdkfkgjjpaaaaGreatDoorRdPlain
namespace Go.Proofs.YtkcdkfkgjjpaaaaGreatDoor.Rd
open Go.Proofs.YtkcdkfkgjjpaaaaGreatDoor.Sy
set_option linter.unusedVariables false
set_option linter.unusedSimpArgs false

/-- Does each step of p find its like among those of q? -/
def meets (s : Lts) (c : List Nat) (p q : Nat) : Bool :=
  (steps s p).all fun x => (steps s q).any fun y => y.1 == x.1 && c.getD y.2.toNat 0 == c.getD x.2.toNat 0

theorem norm_eq_iff {α : Type} [DecidableEq α] {lt : α → α → Bool} (T : Tot lt) (a b : List α) : norm lt a = norm lt b ↔ ∀ x, x ∈ a ↔ x ∈ b := by
  constructor
  · intro h x; rw [← mem_norm (lt := lt) x a, h, mem_norm]
  · intro h; exact eq_of_strict T _ _ (pairwise_norm T a) (pairwise_norm T b) (fun x => by rw [mem_norm, mem_norm, h])

theorem meets_iff (s : Lts) (c : List Nat) (p q : Nat) : meets s c p q = true ↔
    ∀ z, z ∈ ((steps s p).map fun x => (x.1, ((c.getD x.2.toNat 0 : Nat) : Int))) → z ∈ ((steps s q).map fun x => (x.1, ((c.getD x.2.toNat 0 : Nat) : Int))) := by
  simp only [meets, List.all_eq_true, List.any_eq_true, Bool.and_eq_true, beq_iff_eq, List.mem_map]
  constructor
  · rintro h z ⟨x, hx, rfl⟩
    obtain ⟨y, hy, e1, e2⟩ := h x hx
    exact ⟨y, hy, by rw [e1, e2]⟩
  · intro h x hx
    obtain ⟨y, hy, e⟩ := h _ ⟨x, hx, rfl⟩
    simp only [Prod.mk.injEq] at e
    exact ⟨y, hy, e.1, by omega⟩

theorem sig_eq_iff (s : Lts) (c : List Nat) (p q : Nat) : sig s c p = sig s c q ↔ c.getD p 0 = c.getD q 0 ∧ meets s c p q = true ∧ meets s c q p = true := by
  simp only [sig, Prod.mk.injEq, norm_eq_iff tot2, meets_iff]
  constructor
  · rintro ⟨h1, h2⟩; exact ⟨h1, fun z hz => (h2 z).1 hz, fun z hz => (h2 z).2 hz⟩
  · rintro ⟨h1, h2, h3⟩; exact ⟨h1, fun z => ⟨h2 z, h3 z⟩⟩

theorem next_eq_iff (s : Lts) (c : List Nat) {p q : Nat} (hp : p < c.length) (hq : q < c.length) :
    (next s c).getD p 0 = (next s c).getD q 0 ↔ c.getD p 0 = c.getD q 0 ∧ meets s c p q = true ∧ meets s c q p = true := by
  rw [next, canon_eq_iff (sigs s c) (by rw [sigs_len]; exact hp) (by rw [sigs_len]; exact hq), ← sig_eq_iff]
  simp [sigs]

theorem rounds_get (s : Lts) (k : Nat) (h : k < last s + 1) : (rounds s)[k]? = some (R s k) := by
  simp [rounds, h]

/-- The round behind the round k of the list: the next one, or itself if it is the last one. -/
theorem rounds_next (s : Lts) (k : Nat) (h : k < last s + 1) : R s (k + 1) = if k + 1 < last s + 1 then R s (k + 1) else R s k := by
  split
  · rfl
  · have : k = last s := by omega
    subst this; exact last_end s

/-! ### Ranks -/

theorem rank_some {s : Lts} {p q k : Nat} (h : rank s p q = (k : Int)) : k < last s + 1 ∧ (R s k).getD p 0 ≠ (R s k).getD q 0 ∧ ∀ j, j < k → (R s j).getD p 0 = (R s j).getD q 0 := by
  unfold rank at h
  split at h
  · rename_i k' hk
    obtain rfl : k' = k := by omega
    obtain ⟨h1, h2, h3⟩ := List.findIdx?_eq_some_iff_getElem.1 hk
    rw [rounds_len] at h1
    simp only [rounds, List.getElem_map, List.getElem_range] at h2 h3
    exact ⟨h1, by simpa using h2, fun j hj => by simpa using h3 j hj⟩
  · omega

theorem rank_none {s : Lts} {p q : Nat} (h : rank s p q < 0) : rank s p q = -1 ∧ ∀ j, j < last s + 1 → (R s j).getD p 0 = (R s j).getD q 0 := by
  unfold rank at h ⊢
  split at h
  · omega
  · rename_i hk
    refine ⟨rfl, fun j hj => ?_⟩
    have := List.findIdx?_eq_none_iff.1 hk (R s j) (by simp only [rounds, List.mem_map, List.mem_range]; exact ⟨j, hj, rfl⟩)
    simpa using this

theorem rank_cases (s : Lts) (p q : Nat) : (rank s p q = -1 ∧ ∀ j, j < last s + 1 → (R s j).getD p 0 = (R s j).getD q 0) ∨
    ∃ k : Nat, rank s p q = (k : Int) ∧ k < last s + 1 ∧ (R s k).getD p 0 ≠ (R s k).getD q 0 ∧ ∀ j, j < k → (R s j).getD p 0 = (R s j).getD q 0 := by
  by_cases h : rank s p q < 0
  · exact .inl (rank_none h)
  · obtain ⟨k, hk⟩ := Int.eq_ofNat_of_zero_le (show 0 ≤ rank s p q by omega)
    exact .inr ⟨k, hk, rank_some hk⟩

theorem rank_self (s : Lts) (p : Nat) : rank s p p = -1 := by
  rcases rank_cases s p p with h | ⟨k, _, _, h, _⟩
  · exact h.1
  · exact absurd rfl h

theorem rank_comm (s : Lts) (p q : Nat) : rank s p q = rank s q p := by
  unfold rank
  have : (fun l : List Nat => l.getD p 0 != l.getD q 0) = fun l => l.getD q 0 != l.getD p 0 := by
    funext l; simp only [bne]; congr 1; exact Bool.eq_iff_iff.2 (by rw [beq_iff_eq, beq_iff_eq]; exact ⟨fun h => h.symm, fun h => h.symm⟩)
  rw [this]

theorem R_zero (s : Lts) (p : Nat) : (R s 0).getD p 0 = 0 := by
  simp only [R, List.getD, List.getElem?_replicate]
  split <;> rfl

theorem rank_ne_zero (s : Lts) (p q : Nat) : rank s p q ≠ 0 := by
  intro h
  obtain ⟨_, h1, _⟩ := rank_some (k := 0) h
  rw [R_zero, R_zero] at h1
  exact h1 rfl

theorem rank_lt (s : Lts) (p q : Nat) (hn : 0 < s.n.toNat) : rank s p q < s.n.toNat ∧ -1 ≤ rank s p q := by
  have := last_lt s hn
  rcases rank_cases s p q with h | ⟨k, h, h1, _⟩ <;> omega

/-- A rank, that of none as a great one. -/
def far (k : Int) : Int := if k < 0 then 1048576 else k

theorem far_min (s : Lts) (p q r : Nat) (hn : 0 < s.n.toNat) (h1000 : s.n ≤ 1000) : ¬ far (rank s p r) < min (far (rank s p q)) (far (rank s q r)) := by
  have b1 := rank_lt s p r hn
  have b2 := rank_lt s p q hn
  have b3 := rank_lt s q r hn
  rcases rank_cases s p r with ⟨h, h'⟩ | ⟨k, h, h1, h2, h3⟩
  · have : far (rank s p r) = 1048576 := by rw [h]; rfl
    rw [this]
    unfold far
    split <;> split <;> omega
  · intro hlt
    have e : far (rank s p r) = k := by rw [h]; unfold far; rw [if_neg (by omega)]
    rw [e] at hlt
    have g1 : (R s k).getD p 0 = (R s k).getD q 0 := by
      rcases rank_cases s p q with ⟨g, g'⟩ | ⟨j, g, _, _, g'⟩
      · exact g' k h1
      · rw [g] at hlt; unfold far at hlt; rw [if_neg (by omega)] at hlt; exact g' k (by omega)
    have g2 : (R s k).getD q 0 = (R s k).getD r 0 := by
      rcases rank_cases s q r with ⟨g, g'⟩ | ⟨j, g, _, _, g'⟩
      · exact g' k h1
      · have hlt' : (k : Int) < far (rank s q r) := by omega
        rw [g] at hlt'; unfold far at hlt'; rw [if_neg (by omega)] at hlt'; exact g' k (by omega)
    exact h2 (g1.trans g2)

end Go.Proofs.YtkcdkfkgjjpaaaaGreatDoor.Rd
