/- The plain side of system.Canon and system.Together: the different numbers of a list in the order in which they come, each number's place among them; and the map that holds these places, as a datum. -/
import Derived.Maps.OwnSet
namespace Go.Proofs.YtkcdkfkgjjpaaaaGreatDoor.Cn
open Go.Maps
set_option linter.unusedVariables false
set_option linter.unusedSimpArgs false

/-- The different numbers of a list, in the order in which they first come: `seen`. -/
def addSeen (s : List Int) (c : Int) : List Int := if c ∈ s then s else s ++ [c]

def seen (l : List Int) : List Int := l.foldl addSeen []

theorem rev_ind {p : List Int → Prop} (h0 : p []) (h1 : ∀ s c, p s → p (s ++ [c])) (s : List Int) : p s := by
  have h : ∀ r : List Int, p r.reverse := by
    intro r
    induction r with
    | nil => exact h0
    | cons c r ih => rw [List.reverse_cons]; exact h1 _ _ ih
  have := h s.reverse
  rwa [List.reverse_reverse] at this

/-- The one form of classes: each number's place among the different ones. -/
def canon (l : List Int) : List Nat := l.map fun c => (seen l).idxOf c

theorem seen_snoc (l : List Int) (c : Int) : seen (l ++ [c]) = if c ∈ seen l then seen l else seen l ++ [c] := by
  simp only [seen, List.foldl_append, List.foldl_cons, List.foldl_nil]
  rfl

theorem seen_take (l : List Int) (k : Nat) (h : k < l.length) : seen (l.take (k + 1)) = if l.getD k 0 ∈ seen (l.take k) then seen (l.take k) else seen (l.take k) ++ [l.getD k 0] := by
  rw [List.take_succ_eq_append_getElem h, seen_snoc]
  simp [List.getD, h]

theorem fold_ext (l : List Int) : ∀ s : List Int, ∃ t, l.foldl addSeen s = s ++ t := by
  induction l with
  | nil => intro s; exact ⟨[], by simp⟩
  | cons c l ih =>
    intro s
    simp only [List.foldl_cons, addSeen]
    split
    · exact ih s
    · obtain ⟨t, ht⟩ := ih (s ++ [c])
      exact ⟨c :: t, by rw [ht]; simp⟩

theorem seen_prefix (l : List Int) (k : Nat) : ∃ t, seen l = seen (l.take k) ++ t := by
  have h := fold_ext (l.drop k) (seen (l.take k))
  obtain ⟨t, ht⟩ := h
  refine ⟨t, ?_⟩
  rw [← ht]
  conv => lhs; rw [← List.take_append_drop k l]
  simp only [seen, List.foldl_append]

theorem mem_seen (l : List Int) : ∀ c, c ∈ seen l ↔ c ∈ l := by
  suffices h : ∀ (l s : List Int) (c : Int), c ∈ l.foldl addSeen s ↔ c ∈ s ∨ c ∈ l by
    intro c; have := h l [] c; simp only [List.not_mem_nil, false_or] at this; exact this
  intro l
  induction l with
  | nil => intro s c; simp
  | cons d l ih =>
    intro s c
    simp only [List.foldl_cons, ih, List.mem_cons, addSeen]
    split
    · rename_i hd
      constructor
      · rintro (h | h); exact .inl h; exact .inr (.inr h)
      · rintro (h | h | h)
        · exact .inl h
        · subst h; exact .inl hd
        · exact .inr h
    · simp only [List.mem_append, List.mem_singleton]
      constructor
      · rintro ((h | h) | h); exact .inl h; exact .inr (.inl h); exact .inr (.inr h)
      · rintro (h | h | h); exact .inl (.inl h); exact .inl (.inr h); exact .inr h

theorem nodup_seen (l : List Int) : (seen l).Nodup := by
  suffices h : ∀ (l s : List Int), s.Nodup → (l.foldl addSeen s).Nodup from h l [] List.nodup_nil
  intro l
  induction l with
  | nil => intro s h; exact h
  | cons d l ih =>
    intro s hs
    simp only [List.foldl_cons, addSeen]
    split
    · exact ih s hs
    · rename_i hd
      exact ih _ (List.nodup_append.2 ⟨hs, by simp, by intro a ha b hb; simp at hb; subst hb; intro e; subst e; exact hd ha⟩)

theorem seen_len (l : List Int) : (seen l).length ≤ l.length := by
  suffices h : ∀ (l s : List Int), (l.foldl addSeen s).length ≤ s.length + l.length by
    have := h l []
    simp only [List.length_nil, Nat.zero_add] at this
    exact this
  intro l
  induction l with
  | nil => intro s; simp
  | cons d l ih =>
    intro s
    simp only [List.foldl_cons, List.length_cons, addSeen]
    split
    · have := ih s; omega
    · have := ih (s ++ [d]); simp at this; omega

theorem canon_len (l : List Int) : (canon l).length = l.length := by simp [canon]

theorem idx_prefix {s t : List Int} {c : Int} (h : c ∈ s) : (s ++ t).idxOf c = s.idxOf c := by
  rw [List.idxOf_append, if_pos h]

/-- The place that a round finds or makes. -/
theorem canon_at (l : List Int) (k : Nat) (h : k < l.length) : (canon l).getD k 0 = (seen (l.take k)).idxOf (l.getD k 0) := by
  obtain ⟨t, ht⟩ := seen_prefix l (k + 1)
  have hs := seen_take l k h
  have hc : (canon l).getD k 0 = (seen l).idxOf (l.getD k 0) := by simp [canon, List.getD, h]
  rw [hc, ht, hs]
  split
  · rename_i hin; exact idx_prefix hin
  · rename_i hin
    rw [idx_prefix (by simp)]
    rw [List.idxOf_append, if_neg hin]
    rw [List.idxOf_eq_length hin]; simp

theorem canon_take (l : List Int) (k : Nat) (h : k < l.length) : ((canon l).take k ++ List.replicate (l.length - k) 0).set k ((canon l).getD k 0) = (canon l).take (k + 1) ++ List.replicate (l.length - (k + 1)) 0 := by
  have hl := canon_len l
  have h1 : ((canon l).take k).length = k := by rw [List.length_take]; omega
  rw [List.set_append_right _ _ (by omega), h1, Nat.sub_self, show l.length - k = (l.length - (k + 1)) + 1 by omega, List.replicate_succ, List.set_cons_zero,
    List.take_succ_eq_append_getElem (by omega), List.append_assoc]
  simp [List.getD, hl, h]

theorem canon_lt (l : List Int) (k : Nat) (h : k < l.length) : (canon l).getD k 0 < (seen l).length := by
  have hc : (canon l).getD k 0 = (seen l).idxOf (l.getD k 0) := by simp [canon, List.getD, h]
  rw [hc]
  exact List.idxOf_lt_length_of_mem ((mem_seen l _).2 (by simp [List.getD, h]))

theorem canon_onto (l : List Int) (b : Nat) (h : b < (seen l).length) : ∃ k, k < l.length ∧ (canon l).getD k 0 = b := by
  have hm : (seen l)[b] ∈ l := (mem_seen l _).1 (List.getElem_mem h)
  obtain ⟨k, hk, he⟩ := List.mem_iff_getElem.1 hm
  refine ⟨k, hk, ?_⟩
  have hc : (canon l).getD k 0 = (seen l).idxOf (l.getD k 0) := by simp [canon, List.getD, hk]
  rw [hc]
  have : l.getD k 0 = (seen l)[b] := by simp [List.getD, hk, he]
  rw [this]
  exact List.Nodup.idxOf_getElem (nodup_seen l) b h

/-! ### The map of places, and the set, as data -/

/-- The map from each number to its place. -/
def placeMap (s : List Int) : DataW Unit := s.zipIdx.foldl (fun m p => m.put (.int .i64 p.1) (.lit (.int .i64 (p.2 : Nat)))) (.map [])

theorem placeMap_snoc (s : List Int) (c : Int) : placeMap (s ++ [c]) = (placeMap s).put (.int .i64 c) (.lit (.int .i64 (s.length : Nat))) := by
  simp [placeMap, List.zipIdx_append, List.foldl_append]

theorem isKey (c : Int) : WideAt.IsKeyLit (.int .i64 c) := trivial

theorem placeMap_tidy : ∀ s : List Int, Tidy (placeMap s) := by
  refine rev_ind tidy_empty ?_
  intro s c ih
  rw [placeMap_snoc]; exact ih.put (isKey c) _

theorem placeMap_has (s : List Int) (c : Int) : Maps.has (placeMap s) (.int .i64 c) = decide (c ∈ s) := by
  revert s
  refine rev_ind (by simp [placeMap, Maps.has]) ?_
  intro s d ih
  rw [placeMap_snoc]
  by_cases h : c = d
  · subst h; rw [has_put_same (placeMap_tidy s).isMap (isKey c)]; simp
  · rw [has_put_other (by intro e; cases e; exact h rfl), ih]; simp [h]

theorem placeMap_at (s : List Int) (hs : s.Nodup) (c : Int) (hc : c ∈ s) (z : DataW Unit) : (placeMap s).atKey (.int .i64 c) z = .lit (.int .i64 (s.idxOf c : Nat)) := by
  revert s
  refine rev_ind (fun _ h => by cases h) ?_
  intro s d ih hs hc
  have hs' := List.nodup_append.1 hs
  rw [placeMap_snoc]
  by_cases h : c = d
  · subst h
    have hn : c ∉ s := fun hm => hs'.2.2 c hm c (by simp) rfl
    rw [atKey_put_same (placeMap_tidy s).isMap (isKey c), List.idxOf_append, if_neg hn]
    simp
  · have hm : c ∈ s := by simpa [h] using hc
    rw [atKey_put_other (by intro e; cases e; exact h rfl), ih hs'.1 hm, idx_prefix hm]

theorem placeMap_size (s : List Int) (hs : s.Nodup) : Maps.size (placeMap s) = s.length := by
  revert s
  refine rev_ind (fun _ => rfl) ?_
  intro s d ih hs
  have hs' := List.nodup_append.1 hs
  have hn : d ∉ s := fun hm => hs'.2.2 d hm d (by simp) rfl
  rw [placeMap_snoc, size_put (placeMap_tidy s), placeMap_has, ih hs'.1]
  simp [hn]

/-- The set of a list's numbers. -/
def numSet (l : List Int) : DataW Unit := setOf (.agg []) (l.map (Lit.int .i64))

theorem numSet_snoc (l : List Int) (c : Int) : numSet (l ++ [c]) = (numSet l).put (.int .i64 c) (.agg []) := by
  simp only [numSet, List.map_append, List.map_cons, List.map_nil, setOf_snoc]

theorem addKey_seen : ∀ l : List Int, (l.map (Lit.int .i64)).foldl addKey [] = (seen l).map (Lit.int .i64) := by
  refine rev_ind rfl ?_
  intro l c ih
  rw [List.map_append, List.foldl_append, ih, seen_snoc]
  simp only [List.map_cons, List.map_nil, List.foldl_cons, List.foldl_nil, addKey]
  have h : ((seen l).map (Lit.int .i64)).any (fun y => y.sameKey (.int .i64 c)) = decide (c ∈ seen l) := by
    rw [Bool.eq_iff_iff, List.any_eq_true]
    simp only [decide_eq_true_eq, List.mem_map]
    constructor
    · rintro ⟨y, ⟨d, hd, rfl⟩, hs⟩
      have := (WideAt.sameKey_iff (isKey c)).1 hs
      cases this; exact hd
    · intro hc; exact ⟨_, ⟨c, hc, rfl⟩, (WideAt.sameKey_iff (isKey c)).2 rfl⟩
  rw [h]
  by_cases hc : c ∈ seen l <;> simp [hc]

theorem numSet_size (l : List Int) : Maps.size (numSet l) = (seen l).length := by
  rw [numSet, size_setOf _ _ (by intro x hx; obtain ⟨c, _, rfl⟩ := List.mem_map.1 hx; exact isKey c), addKey_seen]
  simp

end Go.Proofs.YtkcdkfkgjjpaaaaGreatDoor.Cn
