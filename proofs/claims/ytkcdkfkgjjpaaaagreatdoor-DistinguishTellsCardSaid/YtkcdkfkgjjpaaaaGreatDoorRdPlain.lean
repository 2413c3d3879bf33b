/- The plain side of rounds: the one form of classes, of whatever list; the rounds of a system, by the signatures of its states. No function of the program is named. -/
import Derived.Test.YtkcdkfkgjjpaaaaGreatDoorSyPlain
namespace Go.Proofs.YtkcdkfkgjjpaaaaGreatDoor.Rd
open Go.Proofs.YtkcdkfkgjjpaaaaGreatDoor.Sy
set_option linter.unusedVariables false
set_option linter.unusedSimpArgs false
set_option linter.unusedSectionVars false

section
variable {β γ : Type} [DecidableEq β] [DecidableEq γ]

/-! ### The one form of classes -/

def addSeen (s : List β) (c : β) : List β := if c ∈ s then s else s ++ [c]
def seen (l : List β) : List β := l.foldl addSeen []
/-- Each element's place among the different ones, in the order in which they first come. -/
def canon (l : List β) : List Nat := l.map fun c => (seen l).idxOf c

theorem seen_snoc (l : List β) (c : β) : seen (l ++ [c]) = if c ∈ seen l then seen l else seen l ++ [c] := by
  simp only [seen, List.foldl_append, List.foldl_cons, List.foldl_nil]
  rfl

theorem seen_take (l : List β) (k : Nat) (h : k < l.length) : seen (l.take (k + 1)) = if l[k] ∈ seen (l.take k) then seen (l.take k) else seen (l.take k) ++ [l[k]] := by
  rw [List.take_succ_eq_append_getElem h, seen_snoc]

theorem mem_seen (c : β) (l : List β) : c ∈ seen l ↔ c ∈ l := by
  revert l
  refine snoc_ind (by simp [seen]) ?_
  intro l x ih
  rw [seen_snoc]
  split
  · rename_i h
    rw [ih, List.mem_append, List.mem_singleton]
    constructor
    · exact .inl
    · rintro (h' | rfl)
      · exact h'
      · exact ih.1 (by assumption)
  · simp [ih]

theorem nodup_seen (l : List β) : (seen l).Nodup := by
  revert l
  refine snoc_ind List.nodup_nil ?_
  intro l x ih
  rw [seen_snoc]
  split
  · exact ih
  · rename_i h
    exact List.nodup_append.2 ⟨ih, by simp, by intro a ha b hb; simp at hb; subst hb; intro e; subst e; exact h ha⟩

theorem seen_len (l : List β) : (seen l).length ≤ l.length := by
  revert l
  refine snoc_ind (by simp [seen]) ?_
  intro l x ih
  rw [seen_snoc]
  split <;> simp <;> omega

theorem seen_of_nodup (l : List β) (h : l.Nodup) : seen l = l := by
  revert l
  refine snoc_ind (fun _ => rfl) ?_
  intro l x ih h
  have h' := List.nodup_append.1 h
  rw [seen_snoc, ih h'.1, if_neg (fun hx => h'.2.2 x hx x (by simp) rfl)]

theorem nodup_of_seen_len (l : List β) (h : (seen l).length = l.length) : l.Nodup := by
  revert l
  refine snoc_ind (fun _ => List.nodup_nil) ?_
  intro l x ih h
  rw [seen_snoc] at h
  have h1 := seen_len l
  split at h
  · simp at h; omega
  · rename_i hx
    simp at h
    exact List.nodup_append.2 ⟨ih h, by simp, by intro a ha b hb; simp at hb; subst hb; intro e; subst e; exact hx ((mem_seen _ _).2 ha)⟩

theorem canon_len (l : List β) : (canon l).length = l.length := by simp [canon]

theorem idx_prefix {s t : List β} {c : β} (h : c ∈ s) : (s ++ t).idxOf c = s.idxOf c := by
  rw [List.idxOf_append, if_pos h]

theorem fold_ext (l : List β) : ∀ s : List β, ∃ t, l.foldl addSeen s = s ++ t := by
  induction l with
  | nil => intro s; exact ⟨[], by simp⟩
  | cons c l ih =>
    intro s
    simp only [List.foldl_cons, addSeen]
    split
    · exact ih s
    · obtain ⟨t, ht⟩ := ih (s ++ [c])
      exact ⟨c :: t, by rw [ht]; simp⟩

theorem seen_prefix (l : List β) (k : Nat) : ∃ t, seen l = seen (l.take k) ++ t := by
  obtain ⟨t, ht⟩ := fold_ext (l.drop k) (seen (l.take k))
  refine ⟨t, ?_⟩
  rw [← ht]
  conv => lhs; rw [← List.take_append_drop k l]
  simp only [seen, List.foldl_append]

/-- The place that a round finds or makes. -/
theorem canon_at (l : List β) (k : Nat) (h : k < l.length) : (canon l)[k]? = some ((seen (l.take k)).idxOf l[k]) := by
  obtain ⟨t, ht⟩ := seen_prefix l (k + 1)
  have hs := seen_take l k h
  have hc : (canon l)[k]? = some ((seen l).idxOf l[k]) := by simp [canon, h]
  rw [hc, ht, hs]
  split
  · rename_i hin; rw [idx_prefix hin]
  · rename_i hin
    rw [idx_prefix (by simp), List.idxOf_append, if_neg hin, List.idxOf_eq_length hin]; simp

/-- The one form of a prefix. -/
theorem canon_take (l : List β) (k : Nat) (h : k < l.length) : (canon l).take (k + 1) = (canon l).take k ++ [(seen (l.take k)).idxOf l[k]] := by
  rw [List.take_add_one, canon_at l k h]
  rfl

/-- An element's place in a list. -/
def place (s : List β) (c : β) : Nat := s.idxOf c

theorem place_new {s : List β} {c : β} (h : c ∉ s) : place s c = s.length := List.idxOf_eq_length h

theorem canon_place (l : List β) (k : Nat) (h : k < l.length) : (canon l).take (k + 1) = (canon l).take k ++ [place (seen (l.take k)) l[k]] := canon_take l k h

theorem seen_old {l : List β} {k : Nat} (h : k < l.length) (hm : l[k] ∈ seen (l.take k)) : seen (l.take (k + 1)) = seen (l.take k) := by rw [seen_take l k h, if_pos hm]
theorem seen_new {l : List β} {k : Nat} (h : k < l.length) (hm : l[k] ∉ seen (l.take k)) : seen (l.take (k + 1)) = seen (l.take k) ++ [l[k]] := by rw [seen_take l k h, if_neg hm]

theorem idx_inj {s : List β} {a b : β} (ha : a ∈ s) (h : s.idxOf a = s.idxOf b) : a = b := by
  have h1 : s.idxOf a < s.length := List.idxOf_lt_length_of_mem ha
  have h2 : s.idxOf b < s.length := by rw [← h]; exact h1
  have e1 : s[s.idxOf a] = a := List.getElem_idxOf h1
  have e2 : s[s.idxOf b] = b := List.getElem_idxOf h2
  rw [← e1, ← e2]; simp only [h]

/-- Two have one place just if they are one. -/
theorem canon_eq_iff (l : List β) {p q : Nat} (hp : p < l.length) (hq : q < l.length) : (canon l).getD p 0 = (canon l).getD q 0 ↔ l[p] = l[q] := by
  simp only [canon, List.getD, List.getElem?_map, List.getElem?_eq_getElem hp, List.getElem?_eq_getElem hq, Option.map_some, Option.getD_some]
  constructor
  · exact idx_inj ((mem_seen _ _).2 (List.getElem_mem hp))
  · intro h; rw [h]

theorem canon_lt (l : List β) (k : Nat) (h : k < l.length) : (canon l).getD k 0 < (seen l).length := by
  simp only [canon, List.getD, List.getElem?_map, List.getElem?_eq_getElem h, Option.map_some, Option.getD_some]
  exact List.idxOf_lt_length_of_mem ((mem_seen _ _).2 (List.getElem_mem h))

/-- A function that parts what the list parts. -/
def InjOn (f : β → γ) (l : List β) : Prop := ∀ a ∈ l, ∀ b ∈ l, f a = f b → a = b

theorem seen_map (f : β → γ) (l : List β) (h : InjOn f l) : seen (l.map f) = (seen l).map f := by
  revert l
  refine snoc_ind (fun _ => rfl) ?_
  intro l x ih h
  have h' : InjOn f l := fun a ha b hb => h a (by simp [ha]) b (by simp [hb])
  rw [List.map_append, List.map_cons, List.map_nil, seen_snoc, seen_snoc, ih h']
  have hm : f x ∈ (seen l).map f ↔ x ∈ seen l := by
    constructor
    · intro hx
      obtain ⟨y, hy, e⟩ := List.mem_map.1 hx
      have := h y (by simp [(mem_seen _ _).1 hy]) x (by simp) e
      rw [← this]; exact hy
    · exact List.mem_map_of_mem
  by_cases hx : x ∈ seen l
  · rw [if_pos (hm.2 hx), if_pos hx]
  · rw [if_neg (fun h => hx (hm.1 h)), if_neg hx, List.map_append]; rfl

theorem idx_map (f : β → γ) : ∀ (s : List β) (x : β), (∀ a ∈ s, f a = f x → a = x) → (s.map f).idxOf (f x) = s.idxOf x
  | [], x, _ => rfl
  | y :: t, x, h => by
    rw [List.map_cons, List.idxOf_cons, List.idxOf_cons]
    have e : (f y == f x) = (y == x) := by
      by_cases e : y = x
      · subst e; simp
      · rw [beq_eq_false_iff_ne.2 e, beq_eq_false_iff_ne.2 (fun h' => e (h y (by simp) h'))]
    rw [e, idx_map f t x (fun a ha => h a (by simp [ha]))]

theorem canon_map (f : β → γ) (l : List β) (h : InjOn f l) : canon (l.map f) = canon l := by
  unfold canon
  rw [seen_map f l h, List.map_map]
  refine List.map_congr_left fun x hx => ?_
  exact idx_map f _ x (fun a ha e => h a ((mem_seen _ _).1 ha) x hx e)

/-- Lists that part alike have one form. -/
theorem canon_congr (a : List β) (b : List γ) (hl : a.length = b.length) (h : ∀ i j (hi : i < a.length) (hj : j < a.length), a[i] = a[j] ↔ b[i]'(by omega) = b[j]'(by omega)) : canon a = canon b := by
  have e1 : (a.zip b).map Prod.fst = a := List.map_fst_zip (by omega)
  have e2 : (a.zip b).map Prod.snd = b := List.map_snd_zip (by omega)
  have hz : (a.zip b).length = a.length := by simp [hl]
  have i1 : InjOn Prod.fst (a.zip b) := by
    intro x hx y hy e
    obtain ⟨i, hi, rfl⟩ := List.mem_iff_getElem.1 hx
    obtain ⟨j, hj, rfl⟩ := List.mem_iff_getElem.1 hy
    simp only [List.getElem_zip] at e ⊢
    rw [e, (h i j (by omega) (by omega)).1 e]
  have i2 : InjOn Prod.snd (a.zip b) := by
    intro x hx y hy e
    obtain ⟨i, hi, rfl⟩ := List.mem_iff_getElem.1 hx
    obtain ⟨j, hj, rfl⟩ := List.mem_iff_getElem.1 hy
    simp only [List.getElem_zip] at e ⊢
    rw [e, (h i j (by omega) (by omega)).2 e]
  have c1 := canon_map Prod.fst _ i1
  have c2 := canon_map Prod.snd _ i2
  rw [e1] at c1
  rw [e2] at c2
  rw [c1, c2]

theorem canon_canon (l : List β) : canon (canon l) = canon l := by
  have : canon l = l.map fun c => (seen l).idxOf c := rfl
  rw [this]
  have h2 := canon_map (fun c => (seen l).idxOf c) l (fun a ha b hb e => idx_inj ((mem_seen _ _).2 ha) e)
  exact h2

/-- How many different ones there are. -/
def cls (l : List β) : Nat := (seen l).length

theorem cls_canon (l : List β) : cls (canon l) = cls l := by
  have : canon l = l.map fun c => (seen l).idxOf c := rfl
  rw [cls, this, seen_map _ l (fun a ha b hb e => idx_inj ((mem_seen _ _).2 ha) e)]
  simp [cls]

theorem cls_le_map (f : β → γ) (l : List β) : cls (l.map f) ≤ cls l := by
  have key : ∀ l : List β, seen (l.map f) = seen ((seen l).map f) := by
    refine snoc_ind rfl ?_
    intro l x ih
    rw [List.map_append, List.map_cons, List.map_nil, seen_snoc, ih, seen_snoc]
    by_cases hx : x ∈ seen l
    · rw [if_pos hx, if_pos ((mem_seen _ _).2 (List.mem_map_of_mem hx))]
    · rw [if_neg hx, List.map_append, List.map_cons, List.map_nil, seen_snoc]
  rw [cls, key]
  exact Nat.le_trans (seen_len _) (by simp [cls])

/-- If a function leaves as many different ones it parts what the list parts. -/
theorem inj_of_cls (f : β → γ) (l : List β) (h : cls (l.map f) = cls l) : InjOn f l := by
  have key : ∀ l : List β, seen (l.map f) = seen ((seen l).map f) := by
    refine snoc_ind rfl ?_
    intro l x ih
    rw [List.map_append, List.map_cons, List.map_nil, seen_snoc, ih, seen_snoc]
    by_cases hx : x ∈ seen l
    · rw [if_pos hx, if_pos ((mem_seen _ _).2 (List.mem_map_of_mem hx))]
    · rw [if_neg hx, List.map_append, List.map_cons, List.map_nil, seen_snoc]
  rw [cls, key, cls] at h
  have hn := nodup_of_seen_len ((seen l).map f) (by simpa using h)
  intro a ha b hb e
  have ha' := (mem_seen _ _).2 ha
  have hb' := (mem_seen _ _).2 hb
  obtain ⟨i, hi, rfl⟩ := List.mem_iff_getElem.1 ha'
  obtain ⟨j, hj, rfl⟩ := List.mem_iff_getElem.1 hb'
  have := (List.nodup_iff_pairwise_ne.1 hn)
  have hij : i = j := by
    have hi' : i < ((seen l).map f).length := by simpa using hi
    have hj' : j < ((seen l).map f).length := by simpa using hj
    have e1 : ((seen l).map f)[i] = ((seen l).map f)[j] := by simpa using e
    rcases Nat.lt_trichotomy i j with h1 | h1 | h1
    · exact absurd e1 (List.pairwise_iff_getElem.1 this i j hi' hj' h1)
    · exact h1
    · exact absurd e1.symm (List.pairwise_iff_getElem.1 this j i hj' hi' h1)
  subst hij; rfl

theorem cls_le (l : List β) : cls l ≤ l.length := seen_len l

theorem cls_pos (l : List β) (h : 0 < l.length) : 0 < cls l := by
  cases l with
  | nil => simp at h
  | cons x t => exact List.length_pos_of_mem ((mem_seen x (x :: t)).2 (by simp))
end

/-! ### The rounds of a system -/

/-- What is seen of a state: its class, and of its steps the label and the class in which they end. -/
def sig (s : Lts) (c : List Nat) (p : Nat) : Nat × List (Int × Int) :=
  (c.getD p 0, norm lt2 ((steps s p).map fun x => (x.1, ((c.getD x.2.toNat 0 : Nat) : Int))))

def sigs (s : Lts) (c : List Nat) : List (Nat × List (Int × Int)) := (List.range c.length).map (sig s c)

/-- The round behind some classes. -/
def next (s : Lts) (c : List Nat) : List Nat := canon (sigs s c)

theorem sigs_len (s : Lts) (c : List Nat) : (sigs s c).length = c.length := by simp [sigs]
theorem next_len (s : Lts) (c : List Nat) : (next s c).length = c.length := by rw [next, canon_len, sigs_len]

theorem sigs_fst (s : Lts) (c : List Nat) : (sigs s c).map Prod.fst = c := by
  refine List.ext_getElem (by simp [sigs]) fun i h1 h2 => ?_
  simp [sigs, sig, List.getD, h2]

/-- The classes of the round k. -/
def R (s : Lts) : Nat → List Nat
  | 0 => List.replicate s.n.toNat 0
  | k + 1 => next s (R s k)

theorem R_len (s : Lts) : ∀ k, (R s k).length = s.n.toNat
  | 0 => by simp [R]
  | k + 1 => by rw [R, next_len, R_len s k]

theorem canon_zeros : ∀ n : Nat, canon (List.replicate n 0) = List.replicate n 0 := by
  intro n
  have hs : ∀ m : Nat, seen (List.replicate (m + 1) (0 : Nat)) = [0] := by
    intro m
    induction m with
    | zero => rfl
    | succ m ih => rw [List.replicate_succ' (n := m + 1), seen_snoc, ih]; rfl
  cases n with
  | zero => rfl
  | succ n =>
    rw [canon, hs]
    simp

theorem R_canon (s : Lts) : ∀ k, canon (R s k) = R s k
  | 0 => canon_zeros _
  | k + 1 => by rw [R, next, canon_canon]

/-- A round that is another one has more classes. -/
theorem next_more (s : Lts) (c : List Nat) (hc : canon c = c) (h : next s c ≠ c) : cls c < cls (next s c) := by
  have h1 : cls (next s c) = cls (sigs s c) := cls_canon _
  have h2 : cls ((sigs s c).map Prod.fst) ≤ cls (sigs s c) := cls_le_map _ _
  rw [h1]
  rw [sigs_fst] at h2
  rcases Nat.lt_or_eq_of_le h2 with h3 | h3
  · exact h3
  · exfalso
    have hi := inj_of_cls Prod.fst (sigs s c) (by rw [sigs_fst]; exact h3)
    have := canon_map Prod.fst (sigs s c) hi
    rw [sigs_fst, hc] at this
    exact h this.symm

/-- While the rounds differ each has more classes than the one ahead of it. -/
theorem R_more (s : Lts) (k : Nat) (h : R s (k + 1) ≠ R s k) : cls (R s k) < cls (R s (k + 1)) := next_more s _ (R_canon s k) h

theorem R_grow (s : Lts) : ∀ k, (∀ j, j < k → R s (j + 1) ≠ R s j) → cls (R s 0) + k ≤ cls (R s k)
  | 0, _ => Nat.le_refl _
  | k + 1, h => by
    have h1 := R_grow s k (fun j hj => h j (by omega))
    have h2 := R_more s k (h k (by omega))
    omega

/-- The last round's number. -/
def lastFrom (s : Lts) : Nat → Nat → Nat
  | 0, k => k
  | f + 1, k => if R s (k + 1) = R s k then k else lastFrom s f (k + 1)

def last (s : Lts) : Nat := lastFrom s s.n.toNat 0

theorem lastFrom_prev (s : Lts) : ∀ f k, (∀ j, j < k → R s (j + 1) ≠ R s j) → ∀ j, j < lastFrom s f k → R s (j + 1) ≠ R s j
  | 0, k, h => h
  | f + 1, k, h => by
    unfold lastFrom
    split
    · exact h
    · rename_i hne
      refine lastFrom_prev s f (k + 1) (fun j hj => ?_)
      by_cases e : j = k
      · subst e; exact hne
      · exact h j (by omega)

theorem lastFrom_end (s : Lts) : ∀ f k, R s (lastFrom s f k + 1) = R s (lastFrom s f k) ∨ lastFrom s f k = k + f
  | 0, k => .inr rfl
  | f + 1, k => by
    unfold lastFrom
    split
    · rename_i h; exact .inl h
    · rcases lastFrom_end s f (k + 1) with h | h
      · exact .inl h
      · exact .inr (by omega)

theorem last_prev (s : Lts) (j : Nat) (h : j < last s) : R s (j + 1) ≠ R s j := lastFrom_prev s _ 0 (fun _ h => by omega) j h

theorem last_lt (s : Lts) (h : 0 < s.n.toNat) : last s < s.n.toNat := by
  have h1 := R_grow s (last s) (last_prev s)
  have h2 := cls_le (R s (last s))
  have h3 := cls_pos (R s 0) (by rw [R_len]; exact h)
  rw [R_len] at h2
  omega

theorem last_end (s : Lts) : R s (last s + 1) = R s (last s) := by
  rcases lastFrom_end s s.n.toNat 0 with h | h
  · exact h
  · by_cases h0 : s.n.toNat = 0
    · have : ∀ k, R s k = [] := fun k => List.eq_nil_of_length_eq_zero (by rw [R_len, h0])
      rw [this, this]
    · have := last_lt s (by omega)
      simp only [last] at this
      omega

/-- All rounds. -/
def rounds (s : Lts) : List (List Nat) := (List.range (last s + 1)).map (R s)

theorem rounds_len (s : Lts) : (rounds s).length = last s + 1 := by simp [rounds]

/-- The first round in which two states are not together; -1: there is none. -/
def rank (s : Lts) (p q : Nat) : Int :=
  match (rounds s).findIdx? (fun l => l.getD p 0 != l.getD q 0) with
  | some k => (k : Int)
  | none => -1

end Go.Proofs.YtkcdkfkgjjpaaaaGreatDoor.Rd
