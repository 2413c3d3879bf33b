/- The plain side of strong's play: heaps of blocks, split by the steps into a heap; what is left is the last round. No function of the program is named. -/
import Derived.Test.YtkcdkfkgjjpaaaaGreatDoorRdLaws
namespace Go.Proofs.YtkcdkfkgjjpaaaaGreatDoor.Sg
open Go.Proofs.YtkcdkfkgjjpaaaaGreatDoor.Sy Go.Proofs.YtkcdkfkgjjpaaaaGreatDoor.Rd
set_option linter.unusedVariables false
set_option linter.unusedSimpArgs false

/-- A step of a system. -/
def Step (s : Lts) (x : Nat) (l : Int) (y : Nat) : Prop := ((x : Int), l, (y : Int)) ∈ s.es
/-- Together in the last round. -/
def E (s : Lts) (x y : Nat) : Prop := (R s (last s)).getD x 0 = (R s (last s)).getD y 0

theorem step_to {s : Lts} (hR : Right s) {x : Nat} {l t : Int} (h : ((x : Int), l, t) ∈ s.es) : ∃ y : Nat, t = (y : Int) ∧ y < s.n.toNat ∧ Step s x l y := by
  have := hR.ok _ h
  refine ⟨t.toNat, by simp at this; omega, by simp at this; omega, ?_⟩
  unfold Step
  rwa [Int.toNat_of_nonneg (by simp at this; omega)]

theorem Step.lt {s : Lts} (hR : Right s) {x y : Nat} {l : Int} (h : Step s x l y) : x < s.n.toNat ∧ y < s.n.toNat ∧ 0 ≤ l ∧ l < s.m := by
  have := hR.ok _ h
  simp at this
  omega

theorem meets_step {s : Lts} (hR : Right s) {c : List Nat} {p q : Nat} (h : meets s c p q = true) {l : Int} {z : Nat} (hz : Step s p l z) : ∃ z', Step s q l z' ∧ c.getD z 0 = c.getD z' 0 := by
  simp only [meets, List.all_eq_true, List.any_eq_true, Bool.and_eq_true, beq_iff_eq] at h
  obtain ⟨y, hy, h1, h2⟩ := h (l, (z : Int)) ((mem_steps s p _).2 hz)
  have hy' := (mem_steps s q y).1 hy
  obtain ⟨z', e, -, hs⟩ := step_to hR hy'
  simp only at h1 h2
  rw [h1] at hs
  refine ⟨z', hs, ?_⟩
  rw [e] at h2
  simpa using h2.symm

theorem meets_of {s : Lts} (hR : Right s) {c : List Nat} {p q : Nat} (h : ∀ l z, Step s p l z → ∃ z', Step s q l z' ∧ c.getD z 0 = c.getD z' 0) : meets s c p q = true := by
  simp only [meets, List.all_eq_true, List.any_eq_true, Bool.and_eq_true, beq_iff_eq]
  rintro ⟨l, t⟩ hx
  obtain ⟨z, e, -, hs⟩ := step_to hR ((mem_steps s p (l, t)).1 hx)
  obtain ⟨z', hz', hc⟩ := h l z hs
  refine ⟨(l, (z' : Int)), (mem_steps s q _).2 hz', rfl, ?_⟩
  simp only at e
  subst e
  simpa using hc.symm

theorem E_iff {s : Lts} {x y : Nat} (hx : x < s.n.toNat) (hy : y < s.n.toNat) : E s x y ↔ E s x y ∧ meets s (R s (last s)) x y = true ∧ meets s (R s (last s)) y x = true := by
  have h := next_eq_iff s (R s (last s)) (p := x) (q := y) (by rw [R_len]; exact hx) (by rw [R_len]; exact hy)
  have e : next s (R s (last s)) = R s (last s) := last_end s
  rw [e] at h
  exact h

/-- The last round is a bisimulation. -/
theorem E_meets {s : Lts} (hR : Right s) {x y z : Nat} {l : Int} (hx : x < s.n.toNat) (hy : y < s.n.toNat) (h : E s x y) (hz : Step s x l z) : ∃ z', Step s y l z' ∧ E s z z' :=
  meets_step hR ((E_iff hx hy).1 h).2.1 hz

theorem E_symm {s : Lts} {x y : Nat} (h : E s x y) : E s y x := Eq.symm h

/-- A bisimulation lies in each round. -/
theorem round_of {s : Lts} (hR : Right s) {P : Nat → Nat → Prop} (hs : ∀ x y, P x y → P y x)
    (hP : ∀ x y, x < s.n.toNat → y < s.n.toNat → P x y → ∀ l z, Step s x l z → ∃ z', Step s y l z' ∧ P z z') :
    ∀ k x y, x < s.n.toNat → y < s.n.toNat → P x y → (R s k).getD x 0 = (R s k).getD y 0 := by
  intro k
  induction k with
  | zero => intro x y _ _ _; rw [R_zero, R_zero]
  | succ k ih =>
    intro x y hx hy hxy
    have h := next_eq_iff s (R s k) (p := x) (q := y) (by rw [R_len]; exact hx) (by rw [R_len]; exact hy)
    refine h.2 ⟨ih x y hx hy hxy, meets_of hR (fun l z hz => ?_), meets_of hR (fun l z hz => ?_)⟩
    · obtain ⟨z', h1, h2⟩ := hP x y hx hy hxy l z hz
      exact ⟨z', h1, ih z z' (hz.lt hR).2.1 (h1.lt hR).2.1 h2⟩
    · obtain ⟨z', h1, h2⟩ := hP y x hy hx (hs _ _ hxy) l z hz
      exact ⟨z', h1, ih z z' (hz.lt hR).2.1 (h1.lt hR).2.1 h2⟩

/-- Has a state a step with a label into some states? -/
def Into (s : Lts) (C : Nat → Prop) (x : Nat) (l : Int) : Prop := ∃ z, C z ∧ Step s x l z

/-- Blocks split by the steps into some states. -/
def SplitBy (s : Lts) (C : Nat → Prop) (I I' : Nat → Nat) : Prop :=
  ∀ x y, x < s.n.toNat → y < s.n.toNat → (I' x = I' y ↔ I x = I y ∧ ∀ l, Into s C x l ↔ Into s C y l)

/-- Blocks I in heaps H: each heap is of whole blocks; each block is alike in its steps into each heap; what is together in the last round is together. -/
structure Fit (s : Lts) (I H : Nat → Nat) : Prop where
  fine : ∀ x y, x < s.n.toNat → y < s.n.toNat → I x = I y → H x = H y
  stable : ∀ x y, x < s.n.toNat → y < s.n.toNat → I x = I y → ∀ l h, Into s (fun z => H z = h) x l ↔ Into s (fun z => H z = h) y l
  coarse : ∀ x y, x < s.n.toNat → y < s.n.toNat → E s x y → I x = I y

theorem into_E {s : Lts} (hR : Right s) {C : Nat → Prop} (hC : ∀ z z', z < s.n.toNat → z' < s.n.toNat → E s z z' → C z → C z') {x y : Nat} (hx : x < s.n.toNat) (hy : y < s.n.toNat) (h : E s x y) (l : Int) :
    Into s C x l ↔ Into s C y l := by
  have key : ∀ x y, x < s.n.toNat → y < s.n.toNat → E s x y → Into s C x l → Into s C y l := by
    rintro x y hx hy h ⟨z, hz, hst⟩
    obtain ⟨z', h1, h2⟩ := E_meets hR hx hy h hst
    exact ⟨z', hC z z' (hst.lt hR).2.1 (h1.lt hR).2.1 h2 hz, h1⟩
  exact ⟨key x y hx hy h, key y x hy hx (E_symm h)⟩

theorem split_coarse {s : Lts} (hR : Right s) {C : Nat → Prop} {I I' : Nat → Nat} (hI : ∀ x y, x < s.n.toNat → y < s.n.toNat → E s x y → I x = I y)
    (hC : ∀ z z', z < s.n.toNat → z' < s.n.toNat → E s z z' → C z → C z') (h : SplitBy s C I I') : ∀ x y, x < s.n.toNat → y < s.n.toNat → E s x y → I' x = I' y :=
  fun x y hx hy he => (h x y hx hy).2 ⟨hI x y hx hy he, fun l => into_E hR hC hx hy he l⟩

theorem into_congr {s : Lts} (hR : Right s) {C D : Nat → Prop} (h : ∀ z, z < s.n.toNat → (C z ↔ D z)) (x : Nat) (l : Int) : Into s C x l ↔ Into s D x l :=
  ⟨fun ⟨z, hz, hs⟩ => ⟨z, (h z (hs.lt hR).2.1).1 hz, hs⟩, fun ⟨z, hz, hs⟩ => ⟨z, (h z (hs.lt hR).2.1).2 hz, hs⟩⟩

theorem SplitBy.congr {s : Lts} (hR : Right s) {C D : Nat → Prop} {I I' : Nat → Nat} (h : ∀ z, z < s.n.toNat → (C z ↔ D z)) (hs : SplitBy s C I I') : SplitBy s D I I' := fun x y hx hy => by
  rw [hs x y hx hy]
  constructor
  · rintro ⟨h1, h2⟩; exact ⟨h1, fun l => by rw [← into_congr hR h, ← into_congr hR h]; exact h2 l⟩
  · rintro ⟨h1, h2⟩; exact ⟨h1, fun l => by rw [into_congr hR h, into_congr hR h]; exact h2 l⟩

/-- The first taking. -/
theorem Fit.begin {s : Lts} (hR : Right s) {I : Nat → Nat} (h : SplitBy s (fun _ => True) (fun _ => 0) I) : Fit s I (fun _ => 0) where
  fine := fun _ _ _ _ _ => rfl
  stable := fun x y hx hy he l c => by
    have h1 := ((h x y hx hy).1 he).2 l
    by_cases hc : 0 = c
    · rw [into_congr hR (D := fun _ => True) (fun z _ => by simp [hc]) x l, into_congr hR (D := fun _ => True) (fun z _ => by simp [hc]) y l]; exact h1
    · rw [into_congr hR (D := fun _ => False) (fun z _ => by simp [hc]) x l, into_congr hR (D := fun _ => False) (fun z _ => by simp [hc]) y l]
      exact ⟨fun ⟨_, h, _⟩ => h.elim, fun ⟨_, h, _⟩ => h.elim⟩
  coarse := split_coarse hR (fun _ _ _ _ _ => rfl) (fun _ _ _ _ _ _ => trivial) h

/-- One taking more: the block b of the heap h gets the new heap k. -/
theorem Fit.take {s : Lts} (hR : Right s) {I H I1 I2 : Nat → Nat} {b h k : Nat} (hF : Fit s I H) (hb : ∀ x, x < s.n.toNat → I x = b → H x = h) (hk : ∀ x, x < s.n.toNat → H x ≠ k) (hhk : h ≠ k)
    (h1 : SplitBy s (fun z => I z = b) I I1) (h2 : SplitBy s (fun z => H z = h ∧ I z ≠ b) I1 I2) : Fit s I2 (fun x => if I x = b then k else H x) where
  fine := fun x y hx hy he => by
    have e1 := ((h2 x y hx hy).1 he).1
    have e0 := ((h1 x y hx hy).1 e1).1
    show (if I x = b then k else H x) = (if I y = b then k else H y)
    rw [e0, hF.fine x y hx hy e0]
  stable := fun x y hx hy he l c => by
    have e1 := (h2 x y hx hy).1 he
    have e0 := (h1 x y hx hy).1 e1.1
    by_cases hck : c = k
    · subst hck
      have hz : ∀ z, z < s.n.toNat → (((if I z = b then c else H z) = c) ↔ I z = b) := fun z hz => by
        constructor
        · intro hh
          by_cases hi : I z = b
          · exact hi
          · rw [if_neg hi] at hh; exact absurd hh (hk z hz)
        · intro hi; rw [if_pos hi]
      rw [into_congr hR hz, into_congr hR hz]; exact e0.2 l
    · by_cases hch : c = h
      · subst hch
        have hz : ∀ z, z < s.n.toNat → (((if I z = b then k else H z) = c) ↔ (H z = c ∧ I z ≠ b)) := fun z hz => by
          by_cases hi : I z = b
          · rw [if_pos hi]; exact ⟨fun hh => absurd hh.symm hck, fun hh => absurd hi hh.2⟩
          · rw [if_neg hi]; exact ⟨fun hh => ⟨hh, hi⟩, fun hh => hh.1⟩
        rw [into_congr hR hz, into_congr hR hz]; exact e1.2 l
      · have hz : ∀ z, z < s.n.toNat → (((if I z = b then k else H z) = c) ↔ H z = c) := fun z hz => by
          by_cases hi : I z = b
          · rw [if_pos hi]
            have := hb z hz hi
            constructor
            · intro hh; exact absurd hh.symm hck
            · intro hh; exact absurd (hh.symm.trans this) hch
          · rw [if_neg hi]
        rw [into_congr hR hz, into_congr hR hz]; exact hF.stable x y hx hy e0.1 l c
  coarse := by
    have c1 := split_coarse hR hF.coarse (fun z z' hz hz' he hi => (hF.coarse z z' hz hz' he).symm.trans hi) h1
    refine split_coarse hR c1 (fun z z' hz hz' he hi => ?_) h2
    have e0 := hF.coarse z z' hz hz' he
    exact ⟨(hF.fine z z' hz hz' e0).symm.trans hi.1, fun hh => hi.2 (e0.trans hh)⟩

theorem Fit.congr {s : Lts} (hR : Right s) {I H H' : Nat → Nat} (hF : Fit s I H) (h : ∀ z, z < s.n.toNat → H z = H' z) : Fit s I H' where
  fine := fun x y hx hy he => by rw [← h x hx, ← h y hy]; exact hF.fine x y hx hy he
  stable := fun x y hx hy he l c => by
    rw [← into_congr hR (C := fun z => H z = c) (fun z hz => by rw [h z hz]) x l, ← into_congr hR (C := fun z => H z = c) (fun z hz => by rw [h z hz]) y l]
    exact hF.stable x y hx hy he l c
  coarse := hF.coarse

/-- Heaps that all have a state are no more than the states. -/
theorem heaps_le {n nh : Nat} {H : Nat → Nat} (h : ∀ k, k < nh → ∃ x, x < n ∧ H x = k) : nh ≤ n := by
  have hf : ∀ k, ∃ x, k < nh → x < n ∧ H x = k := fun k => by
    by_cases hk : k < nh
    · obtain ⟨x, hx⟩ := h k hk; exact ⟨x, fun _ => hx⟩
    · exact ⟨0, fun e => absurd e hk⟩
  have hch := Classical.axiomOfChoice hf
  obtain ⟨f, hf⟩ := hch
  have hnd : ((List.range nh).map f).Nodup := by
    rw [List.nodup_iff_pairwise_ne, List.pairwise_map]
    refine (List.nodup_range (n := nh)).imp_of_mem ?_
    intro a c ha hc hne e
    apply hne
    rw [← (hf a (List.mem_range.1 ha)).2, ← (hf c (List.mem_range.1 hc)).2, e]
  have := hnd.length_le_of_subset (l₂ := List.range n) (by
    intro x hx
    obtain ⟨b, hb, rfl⟩ := List.mem_map.1 hx
    exact List.mem_range.2 (hf b (List.mem_range.1 hb)).1)
  simpa using this

/-- Where each heap is one block, the blocks are the last round's classes. -/
theorem Fit.last {s : Lts} (hR : Right s) {I H : Nat → Nat} (hF : Fit s I H) (h1 : ∀ x y, x < s.n.toNat → y < s.n.toNat → H x = H y → I x = I y) {x y : Nat} (hx : x < s.n.toNat) (hy : y < s.n.toNat) : I x = I y ↔ E s x y := by
  refine ⟨fun h => ?_, hF.coarse x y hx hy⟩
  have := round_of hR (P := fun x y => x < s.n.toNat ∧ y < s.n.toNat ∧ I x = I y) (fun x y h => ⟨h.2.1, h.1, h.2.2.symm⟩) (fun x y hx hy h l z hz => by
    obtain ⟨z', hz', hs⟩ := (hF.stable x y hx hy h.2.2 l (H z)).1 ⟨z, rfl, hz⟩
    exact ⟨z', hs, (hz.lt hR).2.1, (hs.lt hR).2.1, (h1 z z' (hz.lt hR).2.1 (hs.lt hR).2.1 hz'.symm)⟩) (Rd.last s) x y hx hy ⟨hx, hy, h⟩
  exact this

/-- Then the one form of the blocks' numbers is the last round. -/
theorem canon_last {s : Lts} {c : List Int} (hl : c.length = s.n.toNat) (h : ∀ x y, x < s.n.toNat → y < s.n.toNat → (c.getD x 0 = c.getD y 0 ↔ E s x y)) : canon c = R s (last s) := by
  rw [← R_canon s (last s)]
  refine canon_congr c (R s (last s)) (by rw [hl, R_len]) (fun i j hi hj => ?_)
  have := h i j (by omega) (by omega)
  unfold E at this
  have l1 : i < (R s (Rd.last s)).length := by rw [R_len]; omega
  have l2 : j < (R s (Rd.last s)).length := by rw [R_len]; omega
  simpa [List.getD, hi, hj, l1, l2] using this

end Go.Proofs.YtkcdkfkgjjpaaaaGreatDoor.Sg
