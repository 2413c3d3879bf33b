/- The plain law behind a store's map: keys as data, the map of a list of terms; what shape tells; bounds on the numbers of a term that may be put. No program in sight. -/
import Derived.Test.YtiiieailimphnaaGreatDoorTmSame
import Derived.Maps.OwnSet
namespace Go.Proofs.YtiiieailimphnaaGreatDoor.Tm
open Go.Maps
set_option linter.unusedVariables false
set_option linter.unusedSimpArgs false

/-- A term's key, as the map's datum. -/
def kl (t : T) : Lit := .string (enc t.seq)

theorem kl_inj {n m : Nat} {t u : T} (ht : t.may n = true) (hu : u.may m = true) (h : kl t = kl u) : t = u := key_inj ht hu (by simpa [kl] using h)

theorem kl_key (t : T) : WideAt.IsKeyLit (kl t) := trivial

/-- The map of a list of terms: each one's key, its number. -/
def index (s : List T) : DataW Unit := s.zipIdx.foldl (fun D p => D.put (kl p.1) (.lit (.int .i64 (p.2 : Nat)))) (.map [])

theorem index_nil : index [] = .map [] := rfl

theorem index_snoc (s : List T) (t : T) : index (s ++ [t]) = (index s).put (kl t) (.lit (.int .i64 (s.length : Nat))) := by
  simp [index, List.zipIdx_append, List.foldl_append]

theorem index_map (s : List T) : IsMap (index s) := by
  obtain ⟨r, rfl⟩ : ∃ r : List T, s = r.reverse := ⟨s.reverse, by simp⟩
  induction r with
  | nil => exact isMap_empty
  | cons t r ih => rw [List.reverse_cons, index_snoc]; exact ih.put _ _

theorem Inv.init {s : List T} {x : T} (h : Inv (s ++ [x])) : Inv s ∧ x ∉ s ∧ x.may s.length = true := by
  have hnd := List.nodup_append.1 h.nd
  refine ⟨⟨hnd.1, fun i hi => ?_⟩, fun hx => hnd.2.2 x hx x (by simp) rfl, ?_⟩
  · have := h.may i (by simp; omega)
    rwa [List.getElem_append_left hi] at this
  · have := h.may s.length (by simp)
    simpa using this

theorem index_at {s : List T} (h : Inv s) {t : T} {m : Nat} (ht : t.may m = true) :
    Maps.has (index s) (kl t) = decide (t ∈ s) ∧ ∀ z, t ∈ s → (index s).atKey (kl t) z = .lit (.int .i64 (s.idxOf t : Nat)) := by
  obtain ⟨r, rfl⟩ : ∃ r : List T, s = r.reverse := ⟨s.reverse, by simp⟩
  induction r with
  | nil => exact ⟨rfl, fun z hz => by simp at hz⟩
  | cons x r ih =>
    rw [List.reverse_cons] at h ⊢
    obtain ⟨hs, hx, hm⟩ := h.init
    obtain ⟨i1, i2⟩ := ih hs
    rw [index_snoc]
    by_cases hxt : t = x
    · subst hxt
      refine ⟨?_, fun z _ => ?_⟩
      · rw [has_put_same (index_map _) (kl_key _)]; simp
      · rw [atKey_put_same (index_map _) (kl_key _), List.idxOf_append, if_neg hx]; simp
    · have hne : kl t ≠ kl x := fun e => hxt (kl_inj ht hm e)
      refine ⟨?_, fun z hz => ?_⟩
      · rw [has_put_other hne, i1]; simp [hxt]
      · have hz' : t ∈ r.reverse := by simpa [hxt] using hz
        rw [atKey_put_other hne, i2 z hz', List.idxOf_append, if_pos hz']

/-! ### Rising -/

theorem rising_iff : ∀ l : List Int, rising l = true ↔ ∀ i, i < l.length → isName (l.getD i 0) = true ∧ (0 < i → l.getD (i - 1) 0 < l.getD i 0)
  | [] => by simp [rising]
  | [x] => by
    simp only [rising, List.length_singleton]
    constructor
    · intro h i hi
      obtain rfl : i = 0 := by omega
      exact ⟨by simpa using h, fun h => by omega⟩
    · intro h; simpa using (h 0 (by omega)).1
  | x :: y :: l => by
    have ih := rising_iff (y :: l)
    simp only [rising, Bool.and_eq_true, decide_eq_true_eq]
    rw [ih]
    constructor
    · rintro ⟨⟨h1, h2⟩, h3⟩ i hi
      match i with
      | 0 => exact ⟨by simpa using h1, fun h => by omega⟩
      | 1 => exact ⟨by simpa using (h3 0 (by simp)).1, fun _ => by simpa using h2⟩
      | i + 2 =>
        have := h3 (i + 1) (by simpa using hi)
        exact ⟨by simpa using this.1, fun _ => by simpa using this.2 (by omega)⟩
    · intro h
      refine ⟨⟨by simpa using (h 0 (by simp)).1, by simpa using (h 1 (by simp)).2 (by omega)⟩, fun i hi => ?_⟩
      have := h (i + 1) (by simpa using hi)
      refine ⟨by simpa using this.1, fun h0 => ?_⟩
      obtain ⟨j, rfl⟩ : ∃ j, i = j + 1 := ⟨i - 1, by omega⟩
      simpa using this.2 (by omega)

theorem isName_iff {i : Int} : isName i = true ↔ 0 ≤ i ∧ i < 100 := by simp [isName]

theorem rising_ge {l : List Int} (h : rising l = true) : ∀ i, i < l.length → (i : Int) ≤ l.getD i 0 := by
  have hr := (rising_iff l).1 h
  intro i
  induction i with
  | zero => intro hi; have := isName_iff.1 (hr 0 hi).1; omega
  | succ i ih => intro hi; have := ih (by omega); have := (hr (i + 1) hi).2 (by omega); simp only [Nat.add_sub_cancel] at this; omega

theorem rising_len {l : List Int} (h : rising l = true) : l.length ≤ 100 := by
  rcases Nat.lt_or_ge 100 l.length with g | g
  · have h1 := rising_ge h 100 g
    have h2 := isName_iff.1 ((rising_iff l).1 h 100 g).1
    omega
  · exact g

theorem rising_mem {l : List Int} (h : rising l = true) : ∀ x ∈ l, 0 ≤ x ∧ x < 100 := by
  intro x hx
  obtain ⟨i, hi, rfl⟩ := List.mem_iff_getElem.1 hx
  have := isName_iff.1 ((rising_iff l).1 h i hi).1
  simpa [List.getD, hi] using this

theorem okPairs_mem {l : List (Int × Int)} (h : okPairs l = true) : l.length ≤ 100 ∧ ∀ p ∈ l, 0 ≤ p.1 ∧ p.1 < 100 ∧ 0 ≤ p.2 ∧ p.2 < 100 := by
  simp only [okPairs, Bool.and_eq_true, List.all_eq_true] at h
  refine ⟨by simpa using rising_len h.2, fun p hp => ?_⟩
  have h1 := isName_iff.1 (h.1 p hp)
  have h2 := rising_mem h.2 p.1 (List.mem_map.2 ⟨p, hp, rfl⟩)
  omega

/-! ### What shape tells -/

/-- The fields that a term's kind has; false: there is no such kind, or one of them can't be. -/
def T.shape (t : T) : T × Bool :=
  if t.kind = 1 then (⟨t.kind, 0, 0, 0, [], []⟩, true)
  else if t.kind = 2 then (⟨t.kind, t.label, t.a, 0, [], []⟩, decide (0 ≤ t.label) && decide (t.label < 201))
  else if t.kind = 3 ∨ t.kind = 4 then (⟨t.kind, 0, t.a, t.b, [], []⟩, true)
  else if t.kind = 5 then (⟨t.kind, 0, t.a, 0, t.names, []⟩, rising t.names)
  else if t.kind = 6 then (⟨t.kind, 0, t.a, 0, [], t.pairs⟩, okPairs t.pairs)
  else if t.kind = 7 then (⟨t.kind, 0, t.a, 0, [], []⟩, decide (0 ≤ t.a) && decide (t.a < 200))
  else (⟨t.kind, 0, 0, 0, [], []⟩, false)

/-- Does a term look as its kind asks? -/
def T.looks (t : T) : Bool := t.shape.2 && decide (t.shape.1.label = t.label) && decide (t.shape.1.a = t.a) && decide (t.shape.1.b = t.b) && decide (t.shape.1.names.length = t.names.length) && decide (t.shape.1.pairs.length = t.pairs.length)

theorem len_nil {α : Type} (l : List α) : decide (([] : List α).length = l.length) = decide (l = []) := by
  cases l <;> simp

theorem may_looks (n : Nat) (t : T) : t.may n = (t.looks && t.parts.all (has n)) := by
  obtain ⟨k, la, a, b, ns, ps⟩ := t
  unfold T.may T.looks T.shape T.parts
  by_cases h1 : k = 1
  · subst h1; rw [Bool.eq_iff_iff]; simp [len_nil]; grind
  by_cases h2 : k = 2
  · subst h2; rw [Bool.eq_iff_iff]; simp [len_nil]; grind
  by_cases h34 : k = 3 ∨ k = 4
  · simp only [h1, h2, h34, if_true, if_false]; rw [Bool.eq_iff_iff]; simp [len_nil]; grind
  by_cases h5 : k = 5
  · subst h5; rw [Bool.eq_iff_iff]; simp [len_nil]; grind
  by_cases h6 : k = 6
  · subst h6; rw [Bool.eq_iff_iff]; simp [len_nil]; grind
  by_cases h7 : k = 7
  · subst h7; rw [Bool.eq_iff_iff]; simp [len_nil]; grind
  · simp only [h1, h2, h34, h5, h6, h7, if_false]; rfl

theorem may_small {n : Nat} {t : T} (h : t.may n = true) (hn : n ≤ 1000) :
    1 ≤ t.kind ∧ t.kind ≤ 7 ∧ 0 ≤ t.label ∧ t.label < 201 ∧ 0 ≤ t.a ∧ t.a < 1000 ∧ 0 ≤ t.b ∧ t.b < 1000 ∧ t.names.length ≤ 100 ∧ t.pairs.length ≤ 100 ∧
      (∀ x ∈ t.names, 0 ≤ x ∧ x < 100) ∧ ∀ p ∈ t.pairs, 0 ≤ p.1 ∧ p.1 < 100 ∧ 0 ≤ p.2 ∧ p.2 < 100 := by
  obtain ⟨k, la, a, b, ns, ps⟩ := t
  have hh : ∀ i, has n i = true → 0 ≤ i ∧ i < 1000 := fun i h => by simp only [has, Bool.and_eq_true, decide_eq_true_eq] at h; omega
  unfold T.may at h
  simp only at h ⊢
  by_cases h1 : k = 1
  · subst h1; simp at h; obtain ⟨rfl, rfl, rfl, rfl, rfl⟩ := h; simp
  by_cases h2 : k = 2
  · subst h2; simp at h; obtain ⟨⟨_, _, rfl, rfl, rfl⟩, h⟩ := h; have := hh _ h; simp; omega
  by_cases h34 : k = 3 ∨ k = 4
  · simp only [h1, h2, h34, if_true, if_false] at h; simp at h; obtain ⟨⟨⟨rfl, rfl, rfl⟩, ha⟩, hb⟩ := h; have := hh _ ha; have := hh _ hb; simp; omega
  by_cases h5 : k = 5
  · subst h5; simp at h; obtain ⟨⟨⟨rfl, rfl, rfl⟩, hr⟩, ha⟩ := h; have := hh _ ha; have h1 := rising_len hr; have h2 := rising_mem hr; simp only [List.length_nil, List.not_mem_nil, false_implies, implies_true, and_true]; exact ⟨by omega, by omega, by omega, by omega, by omega, by omega, by omega, by omega, h1, by omega, h2⟩
  by_cases h6 : k = 6
  · subst h6; simp at h; obtain ⟨⟨⟨rfl, rfl, rfl⟩, hr⟩, ha⟩ := h; have := hh _ ha; have h1 := okPairs_mem hr; simp only [List.length_nil, List.not_mem_nil, false_implies, implies_true, true_and]; exact ⟨by omega, by omega, by omega, by omega, by omega, by omega, by omega, by omega, by omega, h1.1, h1.2⟩
  by_cases h7 : k = 7
  · subst h7; simp at h; obtain ⟨rfl, _, _, rfl, rfl, rfl⟩ := h; simp; omega
  · simp only [h1, h2, h34, h5, h6, h7, if_false] at h; simp at h

end Go.Proofs.YtiiieailimphnaaGreatDoor.Tm
