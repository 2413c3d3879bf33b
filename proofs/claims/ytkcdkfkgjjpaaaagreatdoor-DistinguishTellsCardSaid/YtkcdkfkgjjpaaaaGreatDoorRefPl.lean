/- The plain law behind the partition of package refine: a list model of its elements, places, classes and blocks, the invariant that every call keeps, and what a mark and a split do. No program in sight. The plain law behind the play of a script on a partition: the invariant is kept; the blocks part the elements; a block in order. No program in sight. The plain law behind RefineHalves: the marks, and what a split parts. No program in sight. The plain side of refine.Of: its two loops, round by round, and that what they make is a partition. The plain law behind RefinePlays: the reference's answers are the program's. No program in sight. The plain side of a split by a list: all of its elements are marked, then each block with a mark is split. -/
import Derived.Test.YtkcdkfkgjjpaaaaGreatDoorCanonPlain

namespace Go.Proofs.YtkcdkfkgjjpaaaaGreatDoor.Rf

/-- The partition's state: the elements block by block, where each stands, the block of each, and of each block where it begins, where it ends, how many of it are marked. -/
structure St where
  elems : List Nat
  place : List Nat
  inn : List Nat
  blocks : List (Nat × Nat × Nat)

def St.E (s : St) (i : Nat) : Nat := s.elems.getD i 0
def St.P (s : St) (e : Nat) : Nat := s.place.getD e 0
def St.I (s : St) (e : Nat) : Nat := s.inn.getD e 0
def St.F (s : St) (b : Nat) : Nat := (s.blocks.getD b (0, 0, 0)).1
def St.T (s : St) (b : Nat) : Nat := (s.blocks.getD b (0, 0, 0)).2.1
def St.M (s : St) (b : Nat) : Nat := (s.blocks.getD b (0, 0, 0)).2.2

theorem getD_set {α : Type} (l : List α) (i j : Nat) (v d : α) : (l.set i v).getD j d = if i = j ∧ i < l.length then v else l.getD j d := by
  simp only [List.getD, List.getElem?_set]
  by_cases h : i = j
  · subst h
    by_cases h2 : i < l.length
    · simp [h2]
    · simp [h2]
  · simp [h]

theorem getD_append_one {α : Type} (l : List α) (j : Nat) (v d : α) : (l ++ [v]).getD j d = if j = l.length then v else l.getD j d := by
  simp only [List.getD, List.getElem?_append]
  by_cases h : j < l.length
  · simp [h, show ¬ j = l.length by omega]
  · by_cases h2 : j = l.length
    · subst h2; simp
    · simp [h, h2, show ¬ j - l.length = 0 by omega]

/-- The exchange of two elements, and of their places. -/
def St.swap (s : St) (i k : Nat) : St :=
  { s with elems := (s.elems.set i (s.E k)).set k (s.E i), place := (s.place.set (s.E k) i).set (s.E i) k }

def St.markIn (s : St) (b : Nat) : St := { s with blocks := s.blocks.set b (s.F b, s.T b, s.M b + 1) }

/-- Mark of an element that is there. -/
def St.mark (s : St) (e : Nat) : Bool × St :=
  if s.P e < s.F (s.I e) + s.M (s.I e) then (false, s) else (true, (s.swap (s.P e) (s.F (s.I e) + s.M (s.I e))).markIn (s.I e))

def setAll (l : List Nat) (es : List Nat) (v : Nat) : List Nat := es.foldl (fun a e => a.set e v) l

/-- A block is cut in two: the elements of lo to hi become the new block. -/
def St.cut (s : St) (b lo hi lo' hi' : Nat) : St :=
  { s with blocks := s.blocks.set b (lo', hi', 0) ++ [(lo, hi, 0)], inn := setAll s.inn ((s.elems.take hi).drop lo) s.blocks.length }

def St.bare (s : St) (b : Nat) : St := { s with blocks := s.blocks.set b (s.F b, s.T b, 0) }

/-- Split of a block that is there: the number of the new block, if there is one. -/
def St.split (s : St) (b : Nat) : Option Nat × St :=
  if s.M b = 0 ∨ s.T b - s.F b - s.M b = 0 then (none, s.bare b)
  else if s.M b ≤ s.T b - s.F b - s.M b then (some s.blocks.length, s.cut b (s.F b) (s.F b + s.M b) (s.F b + s.M b) (s.T b))
  else (some s.blocks.length, s.cut b (s.F b + s.M b) (s.T b) (s.F b) (s.F b + s.M b))

/-- The invariant of a partition of n elements. -/
structure Inv (s : St) (n : Nat) : Prop where
  le : s.elems.length = n
  lp : s.place.length = n
  li : s.inn.length = n
  e1 : ∀ i, i < n → s.E i < n ∧ s.P (s.E i) = i
  p1 : ∀ e, e < n → s.P e < n ∧ s.E (s.P e) = e
  in1 : ∀ e, e < n → s.I e < s.blocks.length ∧ s.F (s.I e) ≤ s.P e ∧ s.P e < s.T (s.I e)
  b1 : ∀ b, b < s.blocks.length → s.F b < s.T b ∧ s.T b ≤ n ∧ s.F b + s.M b ≤ s.T b
  in2 : ∀ b, b < s.blocks.length → ∀ i, s.F b ≤ i → i < s.T b → s.I (s.E i) = b

/-- Is an element marked? -/
def St.marked (s : St) (e : Nat) : Bool := decide (s.P e < s.F (s.I e) + s.M (s.I e))

theorem swap_E (s : St) (n i k j : Nat) (h : Inv s n) (hi : i < n) (hk : k < n) : (s.swap i k).E j = if j = k then s.E i else if j = i then s.E k else s.E j := by
  have hl := h.le
  simp only [St.swap, St.E, getD_set, List.length_set, hl]
  grind

theorem swap_P (s : St) (n i k e : Nat) (h : Inv s n) (hi : i < n) (hk : k < n) : (s.swap i k).P e = if e = s.E i then k else if e = s.E k then i else s.P e := by
  have hl := h.lp
  have h1 := (h.e1 i hi).1
  have h2 := (h.e1 k hk).1
  simp only [St.swap, St.P, getD_set, List.length_set, hl]
  grind

theorem E_inj {s : St} {n i j : Nat} (h : Inv s n) (hi : i < n) (hj : j < n) (e : s.E i = s.E j) : i = j := by
  rw [← (h.e1 i hi).2, ← (h.e1 j hj).2, e]

theorem markIn_I (s : St) (b e : Nat) : (s.markIn b).I e = s.I e := rfl
theorem markIn_E (s : St) (b e : Nat) : (s.markIn b).E e = s.E e := rfl
theorem markIn_P (s : St) (b e : Nat) : (s.markIn b).P e = s.P e := rfl
theorem markIn_F (s : St) (b c : Nat) : (s.markIn b).F c = s.F c := by
  simp only [St.markIn, St.F, getD_set]; split
  · rename_i h; rw [h.1]
  · rfl
theorem markIn_T (s : St) (b c : Nat) : (s.markIn b).T c = s.T c := by
  simp only [St.markIn, St.T, getD_set]; split
  · rename_i h; rw [h.1]
  · rfl
theorem markIn_M (s : St) (b c : Nat) (hb : b < s.blocks.length) : (s.markIn b).M c = if c = b then s.M b + 1 else s.M c := by
  simp only [St.markIn, St.M, getD_set]
  grind
theorem markIn_len (s : St) (b : Nat) : (s.markIn b).blocks.length = s.blocks.length := by simp [St.markIn]

theorem swap_inv {s : St} {n i k : Nat} (h : Inv s n) (hi : i < n) (hk : k < n) (hb : s.I (s.E i) = s.I (s.E k)) : Inv (s.swap i k) n := by
  have hE := fun j => swap_E s n i k j h hi hk
  have hP := fun e => swap_P s n i k e h hi hk
  have hI : ∀ e, (s.swap i k).I e = s.I e := fun _ => rfl
  have hF : ∀ e, (s.swap i k).F e = s.F e := fun _ => rfl
  have hT : ∀ e, (s.swap i k).T e = s.T e := fun _ => rfl
  have hM : ∀ e, (s.swap i k).M e = s.M e := fun _ => rfl
  have hB : (s.swap i k).blocks.length = s.blocks.length := rfl
  have ei := h.e1 i hi
  have ek := h.e1 k hk
  have i1 := h.in1 (s.E i) ei.1
  have k1 := h.in1 (s.E k) ek.1
  rw [ei.2] at i1
  rw [ek.2] at k1
  constructor
  · simp [St.swap, h.le]
  · simp [St.swap, h.lp]
  · exact h.li
  · intro j hj
    have ej := h.e1 j hj
    rw [hE, hP]
    by_cases g1 : j = k
    · subst g1; simp [ei.1]
    · by_cases g2 : j = i
      · subst g2
        simp only [g1, if_false, if_true, ek.1, true_and]
        split
        · rename_i g3; exact (E_inj h hk hi g3)
        · rfl
      · simp only [g1, g2, if_false, ej.1, true_and]
        rw [if_neg (fun g3 => g2 (E_inj h hj hi g3)), if_neg (fun g3 => g1 (E_inj h hj hk g3))]
        exact ej.2
  · intro e he
    have pe := h.p1 e he
    rw [hP]
    by_cases g1 : e = s.E i
    · subst g1; simp [hE, hk]
    · by_cases g2 : e = s.E k
      · subst g2
        simp only [g1, if_false, if_true, hi, true_and, hE]
        split
        · rename_i g3; rw [g3]
        · rfl
      · simp only [g1, g2, if_false, pe.1, true_and, hE]
        rw [if_neg (fun g3 => g2 (by rw [← g3]; exact pe.2.symm)), if_neg (fun g3 => g1 (by rw [← g3]; exact pe.2.symm))]
        exact pe.2
  · intro e he
    have oe := h.in1 e he
    rw [hI, hF, hT, hP, hB]
    refine ⟨oe.1, ?_⟩
    by_cases g1 : e = s.E i
    · subst g1; rw [if_pos rfl, hb]; exact k1.2
    · by_cases g2 : e = s.E k
      · subst g2; rw [if_neg g1, if_pos rfl, ← hb]; exact i1.2
      · rw [if_neg g1, if_neg g2]; exact oe.2
  · exact h.b1
  · intro b hb' j hj1 hj2
    rw [hF] at hj1
    rw [hT] at hj2
    rw [hI, hE]
    have tb := h.b1 b hb'
    by_cases g1 : j = k
    · subst g1; rw [if_pos rfl, hb]; exact h.in2 b hb' j hj1 hj2
    · by_cases g2 : j = i
      · subst g2; rw [if_neg g1, if_pos rfl, ← hb]; exact h.in2 b hb' j hj1 hj2
      · rw [if_neg g1, if_neg g2]; exact h.in2 b hb' j hj1 hj2

theorem markIn_inv {s : St} {n b : Nat} (h : Inv s n) (hb : b < s.blocks.length) (hm : s.F b + s.M b < s.T b) : Inv (s.markIn b) n := by
  constructor
  · exact h.le
  · exact h.lp
  · exact h.li
  · exact h.e1
  · exact h.p1
  · intro e he
    rw [markIn_I, markIn_F, markIn_T, markIn_P, markIn_len]
    exact h.in1 e he
  · intro c hc
    rw [markIn_len] at hc
    rw [markIn_F, markIn_T, markIn_M _ _ _ hb]
    have := h.b1 c hc
    split
    · rename_i g; subst g; omega
    · exact this
  · intro c hc j h1 h2
    rw [markIn_len] at hc
    rw [markIn_F] at h1
    rw [markIn_T] at h2
    rw [markIn_I, markIn_E]
    exact h.in2 c hc j h1 h2

/-- What a mark keeps. -/
theorem mark_inv {s : St} {n e : Nat} (h : Inv s n) (he : e < n) : Inv (s.mark e).2 n := by
  unfold St.mark
  split
  · exact h
  · rename_i hm
    have o := h.in1 e he
    have bb := h.b1 _ o.1
    have pe := h.p1 e he
    have hk : s.F (s.I e) + s.M (s.I e) < n := by omega
    have hsame : s.I (s.E (s.P e)) = s.I (s.E (s.F (s.I e) + s.M (s.I e))) := by
      rw [pe.2, h.in2 (s.I e) o.1 _ (by omega) (by omega)]
    have hs := swap_inv h pe.1 hk hsame
    exact markIn_inv (b := s.I e) hs o.1 (show s.F (s.I e) + s.M (s.I e) < s.T (s.I e) by omega)

theorem setAll_len (es : List Nat) (v : Nat) : ∀ l : List Nat, (setAll l es v).length = l.length := by
  induction es with
  | nil => intro l; rfl
  | cons e es ih => intro l; simp only [setAll, List.foldl_cons]; exact (ih _).trans (List.length_set ..)

theorem setAll_getD (es : List Nat) (v j d : Nat) : ∀ l : List Nat, (setAll l es v).getD j d = if j ∈ es ∧ j < l.length then v else l.getD j d := by
  induction es with
  | nil => intro l; simp [setAll]
  | cons e es ih =>
    intro l
    have := ih (l.set e v)
    simp only [setAll, List.foldl_cons] at this ⊢
    rw [this, getD_set, List.length_set]
    simp only [List.mem_cons]
    grind

theorem mem_range {s : St} {n lo hi e : Nat} (h : Inv s n) (hhi : hi ≤ n) (he : e < n) : e ∈ (s.elems.take hi).drop lo ↔ lo ≤ s.P e ∧ s.P e < hi := by
  have hl := h.le
  have pe := h.p1 e he
  constructor
  · intro hm
    obtain ⟨j, hj, hje⟩ := List.mem_iff_getElem.1 hm
    simp only [List.length_drop, List.length_take] at hj
    rw [List.getElem_drop, List.getElem_take] at hje
    have hlt : lo + j < n := by omega
    have hE : s.E (lo + j) = e := by
      rw [← hje]
      simp only [St.E, List.getD]
      rw [List.getElem?_eq_getElem (by omega)]
      rfl
    have := (h.e1 (lo + j) hlt).2
    rw [hE] at this
    omega
  · intro hp
    refine List.mem_iff_getElem.2 ⟨s.P e - lo, ?_, ?_⟩
    · simp only [List.length_drop, List.length_take]; omega
    · rw [List.getElem_drop, List.getElem_take]
      have := pe.2
      simp only [St.E, List.getD] at this
      rw [List.getElem?_eq_getElem (by omega)] at this
      simp only [Option.getD_some] at this
      simp only [show lo + (s.P e - lo) = s.P e by omega]
      exact this

theorem cut_inv {s : St} {n b lo hi lo' hi' : Nat} (h : Inv s n) (hb : b < s.blocks.length) (h1 : lo < hi) (h2 : lo' < hi')
    (hc : (lo = s.F b ∧ hi = lo' ∧ hi' = s.T b) ∨ (lo' = s.F b ∧ hi' = lo ∧ hi = s.T b)) : Inv (s.cut b lo hi lo' hi') n ∧
    (∀ e, e < n → (s.cut b lo hi lo' hi').I e = if lo ≤ s.P e ∧ s.P e < hi then s.blocks.length else s.I e) := by
  have bb := h.b1 b hb
  have hlen : (s.cut b lo hi lo' hi').blocks.length = s.blocks.length + 1 := by simp [St.cut]
  have hget : ∀ c, (s.cut b lo hi lo' hi').blocks.getD c (0, 0, 0) = if c = s.blocks.length then (lo, hi, 0) else if c = b then (lo', hi', 0) else s.blocks.getD c (0, 0, 0) := by
    intro c
    simp only [St.cut, getD_append_one, getD_set, List.length_set]
    grind
  have hI : ∀ e, e < n → (s.cut b lo hi lo' hi').I e = if lo ≤ s.P e ∧ s.P e < hi then s.blocks.length else s.I e := by
    intro e he
    have hl := h.li
    have hm := mem_range (lo := lo) (hi := hi) h (by omega) he
    simp only [St.I, St.cut, setAll_getD, hm]
    grind
  refine ⟨?_, hI⟩
  have hE : ∀ e, (s.cut b lo hi lo' hi').E e = s.E e := fun _ => rfl
  have hP : ∀ e, (s.cut b lo hi lo' hi').P e = s.P e := fun _ => rfl
  constructor
  · exact h.le
  · exact h.lp
  · simp only [St.cut, setAll_len]; exact h.li
  · exact h.e1
  · exact h.p1
  · intro e he
    have o := h.in1 e he
    rw [hI e he, hP, hlen]
    simp only [St.F, St.T, hget]
    by_cases g : lo ≤ s.P e ∧ s.P e < hi
    · simp only [g, and_self, if_true]
      exact ⟨by omega, trivial⟩
    · rw [if_neg g]
      have hne : s.I e ≠ s.blocks.length := by omega
      simp only [hne, if_false]
      by_cases g2 : s.I e = b
      · simp only [g2, if_true]; rw [g2] at o; omega
      · simp only [g2, if_false]; exact ⟨by omega, o.2⟩
  · intro c hc'
    rw [hlen] at hc'
    simp only [St.F, St.T, St.M, hget]
    by_cases g : c = s.blocks.length
    · simp only [g, if_true]; omega
    · simp only [g, if_false]
      by_cases g2 : c = b
      · simp only [g2, if_true]; omega
      · simp only [g2, if_false]; exact h.b1 c (by omega)
  · intro c hc' j hj1 hj2
    rw [hlen] at hc'
    rw [hE]
    simp only [St.F, hget] at hj1
    simp only [St.T, hget] at hj2
    by_cases g : c = s.blocks.length
    · simp only [g, if_true] at hj1 hj2 ⊢
      have ej := h.e1 j (by omega)
      rw [hI _ ej.1, ej.2, if_pos ⟨hj1, hj2⟩]
    · simp only [g, if_false] at hj1 hj2
      by_cases g2 : c = b
      · simp only [g2, if_true] at hj1 hj2
        have ej := h.e1 j (by omega)
        rw [hI _ ej.1, ej.2, if_neg (by omega), g2]
        exact h.in2 b hb j (by omega) (by omega)
      · simp only [g2, if_false] at hj1 hj2
        have hc2 : c < s.blocks.length := by omega
        have bc := h.b1 c hc2
        have hj3 : j < n := by have h3 : j < s.T c := hj2; omega
        have ej := h.e1 j hj3
        have ic := h.in2 c hc2 j hj1 hj2
        rw [hI _ ej.1, ej.2, if_neg ?_]
        · exact ic
        · intro hx
          have ib := h.in2 b hb j (by omega) (by omega)
          exact g2 (ic.symm.trans ib)

theorem bare_inv {s : St} {n b : Nat} (h : Inv s n) : Inv (s.bare b) n ∧ (∀ c, (s.bare b).F c = s.F c) ∧ (∀ c, (s.bare b).T c = s.T c) := by
  have hF : ∀ c, (s.bare b).F c = s.F c := by intro c; simp only [St.bare, St.F, getD_set]; grind
  have hT : ∀ c, (s.bare b).T c = s.T c := by intro c; simp only [St.bare, St.T, getD_set]; grind
  have hM : ∀ c, (s.bare b).M c ≤ s.M c := by intro c; simp only [St.bare, St.M, getD_set]; grind
  have hlen : (s.bare b).blocks.length = s.blocks.length := by simp [St.bare]
  refine ⟨⟨h.le, h.lp, h.li, h.e1, h.p1, ?_, ?_, ?_⟩, hF, hT⟩
  · intro e he; have := h.in1 e he; rw [hlen, hF, hT]; exact this
  · intro c hc; rw [hlen] at hc; have := h.b1 c hc; have := hM c; rw [hF, hT]; omega
  · intro c hc j h1 h2; rw [hlen] at hc; rw [hF] at h1; rw [hT] at h2; exact h.in2 c hc j h1 h2

theorem split_inv {s : St} {n b : Nat} (h : Inv s n) (hb : b < s.blocks.length) : Inv (s.split b).2 n := by
  unfold St.split
  have bb := h.b1 b hb
  split
  · exact (bare_inv h).1
  · split
    · exact (cut_inv h hb (by omega) (by omega) (.inl ⟨rfl, rfl, rfl⟩)).1
    · exact (cut_inv h hb (by omega) (by omega) (.inr ⟨rfl, rfl, rfl⟩)).1

end Go.Proofs.YtkcdkfkgjjpaaaaGreatDoor.Rf

namespace Go.Proofs.YtkcdkfkgjjpaaaaGreatDoor.Rf

/-- One op of a script: 1 marks, any other number splits; of what is not there nothing becomes. -/
def St.step (s : St) (n : Nat) (o : Int × Int) : St :=
  if o.1 = 1 then (if 0 ≤ o.2 ∧ o.2 < (n : Int) then (s.mark o.2.toNat).2 else s)
  else (if 0 ≤ o.2 ∧ o.2 < (s.blocks.length : Int) then (s.split o.2.toNat).2 else s)

theorem step_inv {s : St} {n : Nat} (h : Inv s n) (o : Int × Int) : Inv (s.step n o) n := by
  unfold St.step
  split
  · split
    · exact mark_inv h (by omega)
    · exact h
  · split
    · exact split_inv h (by omega)
    · exact h

def St.play (s : St) (n : Nat) (l : List (Int × Int)) : St := l.foldl (fun s o => s.step n o) s

theorem play_inv {n : Nat} (l : List (Int × Int)) : ∀ {s : St}, Inv s n → Inv (s.play n l) n := by
  induction l with
  | nil => intro s h; exact h
  | cons o l ih => intro s h; exact ih (step_inv h o)

theorem play_snoc (s : St) (n : Nat) (l : List (Int × Int)) (o : Int × Int) : s.play n (l ++ [o]) = (s.play n l).step n o := by
  simp [St.play, List.foldl_append]

theorem step_blocks_le {s : St} {n : Nat} (o : Int × Int) : (s.step n o).blocks.length ≤ s.blocks.length + 1 := by
  unfold St.step
  split
  · split
    · unfold St.mark; split
      · simp
      · rw [markIn_len]; simp [St.swap]
    · simp
  · split
    · unfold St.split; split
      · simp [St.bare]
      · split <;> simp [St.cut]
    · simp

/-- How many elements the blocks below b have together. -/
def St.tot (s : St) : Nat → Nat
  | 0 => 0
  | b + 1 => s.tot b + (s.T b - s.F b)

theorem countP_below (f : Nat → Nat) (l : List Nat) (m : Nat) : l.countP (fun i => f i < m + 1) = l.countP (fun i => f i < m) + l.countP (fun i => f i = m) := by
  induction l with
  | nil => rfl
  | cons x l ih =>
    simp only [List.countP_cons, ih]
    by_cases h1 : f x < m
    · have : f x < m + 1 := by omega
      have : ¬ f x = m := by omega
      simp [*]; omega
    · by_cases h2 : f x = m
      · simp [h2]; omega
      · have : ¬ f x < m + 1 := by omega
        simp [*]

theorem countP_range (a b : Nat) : ∀ n, a ≤ b → b ≤ n → (List.range n).countP (fun i => decide (a ≤ i ∧ i < b)) = b - a := by
  intro n
  induction n generalizing b with
  | zero => intro h1 h2; simp; omega
  | succ n ih =>
    intro h1 h2
    rw [List.range_succ, List.countP_append]
    by_cases h : b ≤ n
    · rw [ih b h1 h]
      simp; omega
    · obtain rfl : b = n + 1 := by omega
      by_cases ha : a ≤ n
      · have := ih n ha (Nat.le_refl _)
        have e : (List.range n).countP (fun i => decide (a ≤ i ∧ i < n + 1)) = (List.range n).countP (fun i => decide (a ≤ i ∧ i < n)) := by
          apply List.countP_congr
          intro i hi
          have := List.mem_range.1 hi
          simp; omega
        rw [e, this]
        simp [ha]; omega
      · obtain rfl : a = n + 1 := by omega
        have e : (List.range n).countP (fun i => decide (n + 1 ≤ i ∧ i < n + 1)) = 0 := by
          rw [List.countP_eq_zero]; intro i hi; simp
        rw [e]; simp

theorem size_count {s : St} {n b : Nat} (h : Inv s n) (hb : b < s.blocks.length) : (List.range n).countP (fun i => s.I (s.E i) = b) = s.T b - s.F b := by
  have bb := h.b1 b hb
  rw [← countP_range (s.F b) (s.T b) n (by omega) bb.2.1]
  apply List.countP_congr
  intro i hi
  have hi := List.mem_range.1 hi
  simp only [decide_eq_true_eq]
  constructor
  · intro e
    have ei := h.e1 i hi
    have oi := h.in1 _ ei.1
    rw [ei.2, e] at oi
    exact oi.2
  · intro hx
    exact h.in2 b hb i hx.1 hx.2

theorem tot_count {s : St} {n : Nat} (h : Inv s n) : ∀ b, b ≤ s.blocks.length → s.tot b = (List.range n).countP (fun i => s.I (s.E i) < b) := by
  intro b
  induction b with
  | zero => intro _; simp [St.tot]
  | succ b ih =>
    intro hb
    rw [St.tot, ih (by omega), countP_below (fun i => s.I (s.E i)), size_count h (by omega)]

theorem tot_all {s : St} {n : Nat} (h : Inv s n) : s.tot s.blocks.length = n := by
  rw [tot_count h _ (Nat.le_refl _), List.countP_eq_length.2, List.length_range]
  intro i hi
  have := (h.in1 _ (h.e1 i (List.mem_range.1 hi)).1).1
  simpa using this

theorem tot_le {s : St} {n : Nat} (h : Inv s n) (b : Nat) (hb : b ≤ s.blocks.length) : s.tot b ≤ n := by
  rw [tot_count h _ hb]
  have := List.countP_le_length (p := fun i => decide (s.I (s.E i) < b)) (l := List.range n)
  rwa [List.length_range] at this

theorem blocks_le {s : St} {n : Nat} (h : Inv s n) : s.blocks.length ≤ n := by
  have : ∀ b, b ≤ s.blocks.length → b ≤ s.tot b := by
    intro b
    induction b with
    | zero => intro _; simp [St.tot]
    | succ b ih => intro hb; have := ih (by omega); have := (h.b1 b (by omega)).1; rw [St.tot]; omega
  have h1 := this _ (Nat.le_refl _)
  rw [tot_all h] at h1; exact h1

/-- A block's elements, where they stand. -/
def St.row (s : St) (b : Nat) : List Nat := (s.elems.take (s.T b)).drop (s.F b)

theorem row_len {s : St} {n b : Nat} (hI : Inv s n) (hb : b < s.blocks.length) : (s.row b).length = s.T b - s.F b := by
  have := hI.b1 b hb
  simp only [St.row, List.length_drop, List.length_take, hI.le]; omega

theorem row_get {s : St} {n b j : Nat} (hI : Inv s n) (hb : b < s.blocks.length) (hj : j < (s.row b).length) : (s.row b)[j] = s.E (s.F b + j) := by
  have := hI.b1 b hb
  have hl := row_len hI hb
  simp only [St.row, List.getElem_drop, List.getElem_take, St.E, List.getD]
  rw [List.getElem?_eq_getElem (by rw [hI.le]; omega)]
  rfl

/-- The same in order, as the program has them. -/
def St.mem (s : St) (b : Nat) : List Int := ((s.row b).map Int.ofNat).mergeSort fun x y => decide (x ≤ y)

theorem mem_len {s : St} {n b : Nat} (hI : Inv s n) (hb : b < s.blocks.length) : (s.mem b).length = s.T b - s.F b := by
  simp only [St.mem, List.length_mergeSort, List.length_map, row_len hI hb]

theorem mem_row {s : St} {n b e : Nat} (hI : Inv s n) (hb : b < s.blocks.length) : e ∈ s.row b ↔ e < n ∧ s.I e = b := by
  have bb := hI.b1 b hb
  constructor
  · intro h
    obtain ⟨j, hj, rfl⟩ := List.mem_iff_getElem.1 h
    have hl := row_len hI hb
    rw [row_get hI hb hj]
    exact ⟨(hI.e1 _ (by omega)).1, hI.in2 b hb _ (by omega) (by omega)⟩
  · rintro ⟨he, hi⟩
    have := hI.in1 e he
    rw [hi] at this
    exact (mem_range hI bb.2.1 he).2 this.2

theorem mem_mem {s : St} {n b : Nat} {x : Int} (hI : Inv s n) (hb : b < s.blocks.length) : x ∈ s.mem b ↔ ∃ e : Nat, x = e ∧ e < n ∧ s.I e = b := by
  rw [St.mem, List.mem_mergeSort, List.mem_map]
  constructor
  · rintro ⟨e, he, rfl⟩
    exact ⟨e, rfl, (mem_row hI hb).1 he⟩
  · rintro ⟨e, rfl, h⟩
    exact ⟨e, (mem_row hI hb).2 h, rfl⟩

theorem row_nodup {s : St} {n b : Nat} (hI : Inv s n) (hb : b < s.blocks.length) : (s.row b).Nodup := by
  have bb := hI.b1 b hb
  have hl := row_len hI hb
  refine List.pairwise_iff_getElem.2 ?_
  intro i j hi hj hij
  rw [row_get hI hb hi, row_get hI hb hj]
  intro e
  have := E_inj hI (by omega) (by omega) e
  omega

theorem mem_sorted {s : St} {n b : Nat} (hI : Inv s n) (hb : b < s.blocks.length) : (s.mem b).Pairwise (· < ·) := by
  have h1 : (s.mem b).Pairwise (fun x y => decide (x ≤ y) = true) := List.pairwise_mergeSort (by intro a b c; simp; omega) (by intro a b; simp; omega) _
  have h2 : (s.mem b).Nodup := by
    rw [St.mem, (List.mergeSort_perm _ _).nodup_iff, List.Nodup, List.pairwise_map]
    exact (row_nodup hI hb).imp (fun h e => h (Int.ofNat.inj e))
  exact (h1.and h2).imp (fun ⟨a, b⟩ => by simp at a; omega)

theorem mem_lt {s : St} {n b k : Nat} (hI : Inv s n) (hb : b < s.blocks.length) (h0 : 0 < k) (hk : k < (s.mem b).length) : (s.mem b).getD (k - 1) 0 < (s.mem b).getD k 0 := by
  have := List.pairwise_iff_getElem.1 (mem_sorted hI hb) (k - 1) k (by omega) hk (by omega)
  simpa [List.getD, hk, show k - 1 < (s.mem b).length by omega] using this

theorem mem_at {s : St} {n b k : Nat} (hI : Inv s n) (hb : b < s.blocks.length) (hk : k < (s.mem b).length) : ∃ e : Nat, (s.mem b).getD k 0 = e ∧ e < n ∧ s.I e = b := by
  have : (s.mem b).getD k 0 ∈ s.mem b := by simp only [List.getD, List.getElem?_eq_getElem hk, Option.getD_some]; exact List.getElem_mem hk
  exact (mem_mem hI hb).1 this

end Go.Proofs.YtkcdkfkgjjpaaaaGreatDoor.Rf

namespace Go.Proofs.YtkcdkfkgjjpaaaaGreatDoor.Rf

theorem marked_iff (s : St) (x : Nat) : s.marked x = true ↔ s.P x < s.F (s.I x) + s.M (s.I x) := by simp [St.marked]

theorem bool_ext {a b : Bool} (h : a = true ↔ b = true) : a = b := by cases a <;> cases b <;> simp_all

theorem mark_marked {s : St} {n e : Nat} (h : Inv s n) (he : e < n) (x : Nat) (hx : x < n) : (s.mark e).2.marked x = (decide (x = e) || s.marked x) := by
  unfold St.mark
  have oe := h.in1 e he
  have be := h.b1 _ oe.1
  have pe := h.p1 e he
  have ox := h.in1 x hx
  have px := h.p1 x hx
  split
  · rename_i hm
    by_cases g : x = e
    · subst g; simp [marked_iff, hm]
    · simp [g]
  · rename_i hm
    have hk : s.F (s.I e) + s.M (s.I e) < n := by omega
    have hP := swap_P s n (s.P e) (s.F (s.I e) + s.M (s.I e)) x h pe.1 hk
    have hM := markIn_M (s.swap (s.P e) (s.F (s.I e) + s.M (s.I e))) (s.I e) (s.I x) oe.1
    have ek := h.e1 _ hk
    have ik := h.in2 (s.I e) oe.1 (s.F (s.I e) + s.M (s.I e)) (by omega) (by omega)
    have hM2 : (s.swap (s.P e) (s.F (s.I e) + s.M (s.I e))).M = s.M := rfl
    rw [hM2] at hM
    apply bool_ext
    rw [marked_iff, markIn_P, markIn_I, markIn_F]
    show _ < s.F (s.I x) + St.M _ (s.I x) ↔ _
    show (s.swap _ _).P x < s.F (s.I x) + St.M _ (s.I x) ↔ _
    rw [hM, hP, pe.2]
    simp only [Bool.or_eq_true, decide_eq_true_eq, marked_iff]
    by_cases g : x = e
    · subst g; simp
    · simp only [g, if_false, false_or]
      by_cases g2 : x = s.E (s.F (s.I e) + s.M (s.I e))
      · rw [if_pos g2]
        rw [← g2] at ek ik
        rw [ik, if_pos rfl]
        have : s.P e ≠ s.F (s.I e) + s.M (s.I e) := by
          intro hh; rw [← hh, pe.2] at g2; exact g g2
        omega
      · rw [if_neg g2]
        have : s.P x ≠ s.F (s.I e) + s.M (s.I e) := by
          intro hh; rw [← hh, px.2] at g2; exact g2 rfl
        split
        · rename_i g3; rw [g3]; omega
        · exact Iff.rfl

theorem bare_M (s : St) (b c : Nat) (hb : b < s.blocks.length) : (s.bare b).M c = if c = b then 0 else s.M c := by
  simp only [St.bare, St.M, getD_set]; grind

theorem bare_marked {s : St} {n b : Nat} (h : Inv s n) (hb : b < s.blocks.length) (x : Nat) (hx : x < n) : (s.bare b).marked x = (s.marked x && decide (s.I x ≠ b)) := by
  have ox := h.in1 x hx
  apply bool_ext
  simp only [Bool.and_eq_true, decide_eq_true_eq, marked_iff]
  rw [(bare_inv h).2.1]
  show s.P x < s.F (s.I x) + (s.bare b).M (s.I x) ↔ _
  rw [bare_M _ _ _ hb]
  split
  · rename_i g; constructor
    · intro _; omega
    · intro hh; exact absurd g hh.2
  · rename_i g; constructor
    · intro hh; exact ⟨hh, g⟩
    · intro hh; exact hh.1

theorem cut_get {s : St} {b lo hi lo' hi' : Nat} (hb : b < s.blocks.length) (c : Nat) : (s.cut b lo hi lo' hi').blocks.getD c (0, 0, 0) = if c = s.blocks.length then (lo, hi, 0) else if c = b then (lo', hi', 0) else s.blocks.getD c (0, 0, 0) := by
  simp only [St.cut, getD_append_one, getD_set, List.length_set]
  grind

theorem cut_marked {s : St} {n b lo hi lo' hi' : Nat} (h : Inv s n) (hb : b < s.blocks.length) (h1 : lo < hi) (h2 : lo' < hi')
    (hc : (lo = s.F b ∧ hi = lo' ∧ hi' = s.T b) ∨ (lo' = s.F b ∧ hi' = lo ∧ hi = s.T b)) (x : Nat) (hx : x < n) : (s.cut b lo hi lo' hi').marked x = (s.marked x && decide (s.I x ≠ b)) := by
  obtain ⟨hi2, hI⟩ := cut_inv h hb h1 h2 hc
  have ox := h.in1 x hx
  have ox2 := hi2.in1 x hx
  have bb := h.b1 b hb
  have hP : (s.cut b lo hi lo' hi').P x = s.P x := rfl
  apply bool_ext
  simp only [Bool.and_eq_true, decide_eq_true_eq, marked_iff]
  by_cases g : s.I x = b
  · have hM : (s.cut b lo hi lo' hi').M ((s.cut b lo hi lo' hi').I x) = 0 := by
      rw [hI x hx]
      simp only [St.M, cut_get hb]
      repeat' split
      all_goals first | rfl | (exfalso; omega) | contradiction
    rw [hM]
    constructor
    · intro _; omega
    · intro hh; exact absurd g hh.2
  · have hnot : ¬ (lo ≤ s.P x ∧ s.P x < hi) := by
      intro hh
      have hp := h.p1 x hx
      have := h.in2 b hb (s.P x) (by omega) (by omega)
      rw [hp.2] at this; exact g this
    have hI2 : (s.cut b lo hi lo' hi').I x = s.I x := by rw [hI x hx, if_neg hnot]
    rw [hI2, hP]
    simp only [St.M, St.F, cut_get hb]
    rw [if_neg (by omega), if_neg g]
    constructor
    · intro hh; exact ⟨hh, g⟩
    · intro hh; exact hh.1

theorem split_marked {s : St} {n b : Nat} (h : Inv s n) (hb : b < s.blocks.length) (x : Nat) (hx : x < n) : (s.split b).2.marked x = (s.marked x && decide (s.I x ≠ b)) := by
  have bb := h.b1 b hb
  unfold St.split
  split
  · exact bare_marked h hb x hx
  · split
    · exact cut_marked h hb (by omega) (by omega) (.inl ⟨rfl, rfl, rfl⟩) x hx
    · exact cut_marked h hb (by omega) (by omega) (.inr ⟨rfl, rfl, rfl⟩) x hx

/-- A block of which nothing is parted: its elements are all marked, or none is; the blocks stay. -/
theorem split_none {s : St} {n b : Nat} (h : Inv s n) (hb : b < s.blocks.length) (hs : (s.split b).1 = none) :
    (s.split b).2.inn = s.inn ∧ ∃ mv : Bool, ∀ x, x < n → s.I x = b → s.marked x = mv := by
  have bb := h.b1 b hb
  unfold St.split at hs ⊢
  split at hs
  · rename_i hc
    rw [if_pos hc]
    refine ⟨rfl, decide (s.M b ≠ 0), fun x hx hi => ?_⟩
    have ox := h.in1 x hx
    apply bool_ext
    rw [marked_iff]
    rw [hi] at ox ⊢
    simp only [decide_eq_true_eq]
    omega
  · split at hs <;> cases hs

theorem cut_len {s : St} {b lo hi lo' hi' : Nat} : (s.cut b lo hi lo' hi').blocks.length = s.blocks.length + 1 := by simp [St.cut]

/-- A block that is parted. -/
structure Parted (s : St) (n b : Nat) (mv : Bool) : Prop where
  len : (s.split b).2.blocks.length = s.blocks.length + 1
  half : 2 * ((s.split b).2.T s.blocks.length - (s.split b).2.F s.blocks.length) ≤ s.T b - s.F b
  sum : ((s.split b).2.T s.blocks.length - (s.split b).2.F s.blocks.length) + ((s.split b).2.T b - (s.split b).2.F b) = s.T b - s.F b
  new : ∀ x, x < n → (s.split b).2.I x = s.blocks.length → s.marked x = mv
  old : ∀ x, x < n → (s.split b).2.I x = b → s.marked x = !mv

theorem cut_parted {s : St} {n b lo hi lo' hi' : Nat} {mv : Bool} (h : Inv s n) (hb : b < s.blocks.length) (h1 : lo < hi) (h2 : lo' < hi')
    (hc : (lo = s.F b ∧ hi = lo' ∧ hi' = s.T b) ∨ (lo' = s.F b ∧ hi' = lo ∧ hi = s.T b)) (hh : 2 * (hi - lo) ≤ s.T b - s.F b) (hs : (s.split b).2 = s.cut b lo hi lo' hi')
    (hn : ∀ i, lo ≤ i → i < hi → decide (i < s.F b + s.M b) = mv) (ho : ∀ i, lo' ≤ i → i < hi' → decide (i < s.F b + s.M b) = !mv) : Parted s n b mv := by
  obtain ⟨hi2, hI⟩ := cut_inv h hb h1 h2 hc
  have bb := h.b1 b hb
  have hmk : ∀ x, x < n → s.I x = b → s.marked x = decide (s.P x < s.F b + s.M b) := by
    intro x _ hi; rw [St.marked, hi]
  have hin : ∀ x, x < n → lo ≤ s.P x ∧ s.P x < hi → s.I x = b := by
    intro x hx hp
    have := h.in2 b hb (s.P x) (by omega) (by omega)
    rw [(h.p1 x hx).2] at this; exact this
  refine ⟨by rw [hs]; exact cut_len, ?_, ?_, ?_, ?_⟩
  · rw [hs]; simp only [St.T, St.F, cut_get hb, if_true]; exact hh
  · rw [hs]; simp only [St.T, St.F, cut_get hb, if_true, show ¬ b = s.blocks.length by omega, if_false]
    have e1 : s.F b = (s.blocks.getD b (0,0,0)).1 := rfl
    have e2 : s.T b = (s.blocks.getD b (0,0,0)).2.1 := rfl
    omega
  · intro x hx hi'
    rw [hs, hI x hx] at hi'
    have ox := h.in1 x hx
    split at hi'
    · rename_i g
      rw [hmk x hx (hin x hx g)]
      exact hn _ g.1 g.2
    · omega
  · intro x hx hi'
    rw [hs, hI x hx] at hi'
    have ox := h.in1 x hx
    split at hi'
    · omega
    · rename_i g
      rw [hi'] at ox
      rw [hmk x hx hi']
      exact ho _ (by omega) (by omega)

theorem split_some {s : St} {n b k : Nat} (h : Inv s n) (hb : b < s.blocks.length) (hs : (s.split b).1 = some k) : k = s.blocks.length ∧ ∃ mv : Bool, Parted s n b mv := by
  have bb := h.b1 b hb
  by_cases hc : s.M b = 0 ∨ s.T b - s.F b - s.M b = 0
  · unfold St.split at hs; rw [if_pos hc] at hs; cases hs
  · by_cases hd : s.M b ≤ s.T b - s.F b - s.M b
    · have e : s.split b = (some s.blocks.length, s.cut b (s.F b) (s.F b + s.M b) (s.F b + s.M b) (s.T b)) := by unfold St.split; rw [if_neg hc, if_pos hd]
      refine ⟨by rw [e] at hs; exact (Option.some.inj hs).symm, true, cut_parted (lo := s.F b) (hi := s.F b + s.M b) (lo' := s.F b + s.M b) (hi' := s.T b) h hb (by omega) (by omega) (.inl ⟨rfl, rfl, rfl⟩) (by omega) (by rw [e]) ?_ ?_⟩
      · intro i h1 h2; simp; omega
      · intro i h1 h2; simp; omega
    · have e : s.split b = (some s.blocks.length, s.cut b (s.F b + s.M b) (s.T b) (s.F b) (s.F b + s.M b)) := by unfold St.split; rw [if_neg hc, if_neg hd]
      refine ⟨by rw [e] at hs; exact (Option.some.inj hs).symm, false, cut_parted (lo := s.F b + s.M b) (hi := s.T b) (lo' := s.F b) (hi' := s.F b + s.M b) h hb (by omega) (by omega) (.inr ⟨rfl, rfl, rfl⟩) (by omega) (by rw [e]) ?_ ?_⟩
      · intro i h1 h2; simp; omega
      · intro i h1 h2; simp; omega

/-- The marks of all elements. -/
def St.marks (s : St) (n : Nat) : List Bool := (List.range n).map s.marked

theorem marks_len (s : St) (n : Nat) : (s.marks n).length = n := by simp [St.marks]

theorem marks_get (s : St) (n x : Nat) (hx : x < n) : (s.marks n).getD x false = s.marked x := by simp [St.marks, List.getD, hx]

theorem bools_ext {a b : List Bool} (hl : a.length = b.length) (h : ∀ x, x < a.length → a.getD x false = b.getD x false) : a = b := by
  apply List.ext_getElem hl
  intro i h1 h2
  have := h i h1
  simpa [List.getD, h1, h2] using this

theorem marks_mark {s : St} {n e : Nat} (h : Inv s n) (he : e < n) : (s.mark e).2.marks n = (s.marks n).set e true := by
  apply bools_ext
  · simp [marks_len]
  · intro x hx
    rw [marks_len] at hx
    rw [marks_get _ _ _ hx, mark_marked h he x hx, getD_set, marks_len, marks_get _ _ _ hx]
    by_cases g : e = x
    · subst g; simp [he]
    · simp [g, show ¬ x = e from fun e => g e.symm]

/-- Some elements' marks are taken away. -/
def clr (mk : List Bool) (l : List Int) : List Bool := l.foldl (fun a x => a.set x.toNat false) mk

theorem clr_len (l : List Int) : ∀ mk : List Bool, (clr mk l).length = mk.length := by
  induction l with
  | nil => intro mk; rfl
  | cons x l ih => intro mk; exact (ih _).trans (List.length_set ..)

theorem clr_getD (l : List Int) (j : Nat) : ∀ mk : List Bool, (clr mk l).getD j false = (mk.getD j false && decide (¬ ∃ x ∈ l, x.toNat = j)) := by
  induction l with
  | nil => intro mk; simp [clr]
  | cons x l ih =>
    intro mk
    have := ih (mk.set x.toNat false)
    simp only [clr, List.foldl_cons] at this ⊢
    rw [this, getD_set]
    simp only [List.mem_cons, exists_eq_or_imp]
    by_cases g : x.toNat = j
    · simp only [g, true_and, true_or, not_true_eq_false, decide_false, Bool.and_false]
      split
      · simp
      · rename_i g2
        have : mk.getD j false = false := by simp [List.getD, List.getElem?_eq_none (show mk.length ≤ j by omega)]
        rw [this]; simp
    · simp [g]

theorem clr_take (mk : List Bool) (l : List Int) (k : Nat) (hk : k < l.length) : clr mk (l.take (k + 1)) = (clr mk (l.take k)).set (l.getD k 0).toNat false := by
  rw [List.take_succ_eq_append_getElem hk]
  unfold clr
  rw [List.foldl_append]
  simp [List.getD, hk]

theorem marks_split {s : St} {n b : Nat} (h : Inv s n) (hb : b < s.blocks.length) : (s.split b).2.marks n = clr (s.marks n) (s.mem b) := by
  apply bools_ext
  · rw [clr_len, marks_len, marks_len]
  · intro x hx
    rw [marks_len] at hx
    rw [marks_get _ _ _ hx, split_marked h hb x hx, clr_getD, marks_get _ _ _ hx]
    congr 1
    apply decide_eq_decide.2
    constructor
    · rintro g ⟨y, hy, e⟩
      obtain ⟨e', rfl, he1, he2⟩ := (mem_mem h hb).1 hy
      simp only [Int.toNat_natCast] at e
      subst e; exact g he2
    · intro g e
      exact g ⟨(x : Int), (mem_mem h hb).2 ⟨x, rfl, hx, e⟩, by simp⟩

theorem mem_inj {s : St} {n b i j : Nat} (hI : Inv s n) (hb : b < s.blocks.length) (hi : i < j) (hj : j < (s.mem b).length) : (s.mem b).getD i 0 < (s.mem b).getD j 0 := by
  have := List.pairwise_iff_getElem.1 (mem_sorted hI hb) i j (by omega) hj hi
  simpa [List.getD, hj, show i < (s.mem b).length by omega] using this

/-- What a mark reads while the ones ahead of it are taken away. -/
theorem clr_read {s : St} {n b k : Nat} (hI : Inv s n) (hb : b < s.blocks.length) (hk : k < (s.mem b).length) (mk : List Bool) :
    (clr mk ((s.mem b).take k)).getD ((s.mem b).getD k 0).toNat false = mk.getD ((s.mem b).getD k 0).toNat false := by
  rw [clr_getD]
  have : ¬ ∃ x ∈ (s.mem b).take k, x.toNat = ((s.mem b).getD k 0).toNat := by
    rintro ⟨y, hy, e⟩
    obtain ⟨i, hi, rfl⟩ := List.mem_iff_getElem.1 hy
    simp only [List.length_take] at hi
    rw [List.getElem_take] at e
    have h1 := mem_inj hI hb (show i < k by omega) hk
    have h2 : (s.mem b).getD i 0 = (s.mem b)[i]'(by omega) := by simp [List.getD, show i < (s.mem b).length by omega]
    obtain ⟨a, ha, _⟩ := mem_at hI hb (show i < (s.mem b).length by omega)
    obtain ⟨c, hc, _⟩ := mem_at hI hb hk
    rw [← h2] at e
    rw [ha, hc] at e h1
    simp at e; omega
  rw [decide_eq_true this, Bool.and_true]

end Go.Proofs.YtkcdkfkgjjpaaaaGreatDoor.Rf

namespace Go.Proofs.YtkcdkfkgjjpaaaaGreatDoor.Rf
set_option linter.unusedVariables false
set_option linter.unusedSimpArgs false

/-- One element: it goes behind the others if its class is b. -/
def pushE (inn : List Nat) (b : Nat) (q : List Nat × List Nat) (e : Nat) : List Nat × List Nat :=
  if inn.getD e 0 = b then (q.1 ++ [e], q.2.set e q.1.length) else q

def inner (inn : List Nat) (b k : Nat) (q : List Nat × List Nat) : List Nat × List Nat := (List.range k).foldl (pushE inn b) q

/-- The elements, the places and the blocks behind b rounds. -/
def outer (inn : List Nat) (n : Nat) : Nat → (List Nat × List Nat) × List (Nat × Nat × Nat)
  | 0 => (([], List.replicate n 0), [])
  | b + 1 => (inner inn b n (outer inn n b).1, (outer inn n b).2 ++ [((outer inn n b).1.1.length, (inner inn b n (outer inn n b).1).1.length, 0)])

theorem inner_zero (inn : List Nat) (b : Nat) (q : List Nat × List Nat) : inner inn b 0 q = q := rfl

theorem inner_succ (inn : List Nat) (b k : Nat) (q : List Nat × List Nat) : inner inn b (k + 1) q = pushE inn b (inner inn b k q) k := by
  simp [inner, List.range_succ, List.foldl_append]

theorem inner_len (inn : List Nat) (b : Nat) (q : List Nat × List Nat) : ∀ k, (inner inn b k q).2.length = q.2.length ∧ (inner inn b k q).1.length ≤ q.1.length + k := by
  intro k
  induction k with
  | zero => exact ⟨rfl, Nat.le_refl _⟩
  | succ k ih =>
    rw [inner_succ]
    unfold pushE
    split
    · simp only [List.length_set, List.length_append, List.length_cons, List.length_nil]; exact ⟨ih.1, by omega⟩
    · exact ⟨ih.1, by omega⟩

theorem outer_blocks (inn : List Nat) (n : Nat) : ∀ b, (outer inn n b).2.length = b := by
  intro b
  induction b with
  | zero => rfl
  | succ b ih => simp [outer, ih]

theorem outer_place (inn : List Nat) (n : Nat) : ∀ b, (outer inn n b).1.2.length = n := by
  intro b
  induction b with
  | zero => simp [outer]
  | succ b ih => simp only [outer]; rw [(inner_len _ _ _ _).1, ih]

/-- What stands behind some rounds: of all elements whose class is below b, and of those of class b below k. -/
structure Mid (inn : List Nat) (n b k : Nat) (q : List Nat × List Nat) : Prop where
  lp : q.2.length = n
  e1 : ∀ i, i < q.1.length → q.1.getD i 0 < n ∧ q.2.getD (q.1.getD i 0) 0 = i ∧ (inn.getD (q.1.getD i 0) 0 < b ∨ inn.getD (q.1.getD i 0) 0 = b ∧ q.1.getD i 0 < k)
  p1 : ∀ e, e < n → (inn.getD e 0 < b ∨ inn.getD e 0 = b ∧ e < k) → q.2.getD e 0 < q.1.length ∧ q.1.getD (q.2.getD e 0) 0 = e

theorem getD_left (l t : List Nat) (j : Nat) (h : j < l.length) : (l ++ t).getD j 0 = l.getD j 0 := by
  simp [List.getD, List.getElem?_append, h]

theorem getD_app (l : List Nat) (v j : Nat) : (l ++ [v]).getD j 0 = if j = l.length then v else l.getD j 0 := getD_append_one l j v 0

theorem Mid.step {inn : List Nat} {n b k : Nat} {q : List Nat × List Nat} (h : Mid inn n b k q) (hk : k < n) : Mid inn n b (k + 1) (pushE inn b q k) := by
  unfold pushE
  split
  · rename_i hb
    have hfresh : ∀ i, i < q.1.length → q.1.getD i 0 ≠ k := by
      intro i hi e
      have := (h.e1 i hi).2.2
      rw [e, hb] at this
      omega
    constructor
    · simp [h.lp]
    · intro i hi
      simp only [List.length_append, List.length_cons, List.length_nil] at hi
      simp only [getD_app, getD_set, h.lp]
      by_cases g : i = q.1.length
      · simp only [g, if_true]
        refine ⟨hk, by simp [hk], .inr ⟨hb, by omega⟩⟩
      · simp only [g, if_false]
        have := h.e1 i (by omega)
        have hf := hfresh i (by omega)
        refine ⟨this.1, ?_, by omega⟩
        rw [if_neg (by intro e; exact hf e.1.symm)]
        exact this.2.1
    · intro e he hc
      simp only [List.length_append, List.length_cons, List.length_nil, getD_app, getD_set, h.lp]
      by_cases g : k = e
      · subst g; simp [hk]
      · have := h.p1 e he (by omega)
        rw [if_neg (by intro x; exact g x.1)]
        refine ⟨by omega, ?_⟩
        rw [if_neg (by omega)]
        exact this.2
  · rename_i hb
    constructor
    · exact h.lp
    · intro i hi
      have := h.e1 i hi
      exact ⟨this.1, this.2.1, by omega⟩
    · intro e he hc
      refine h.p1 e he ?_
      rcases hc with hc | ⟨hc, hlt⟩
      · exact .inl hc
      · right
        refine ⟨hc, ?_⟩
        rcases Nat.lt_or_ge e k with g | g
        · exact g
        · have : e = k := by omega
          subst this; exact absurd hc hb

theorem Mid.inner {inn : List Nat} {n b : Nat} {q : List Nat × List Nat} (h : Mid inn n b 0 q) : ∀ k, k ≤ n → Mid inn n b k (inner inn b k q) := by
  intro k
  induction k with
  | zero => intro _; exact h
  | succ k ih => intro hk; rw [inner_succ]; exact (ih (by omega)).step (by omega)

theorem Mid.next {inn : List Nat} {n b : Nat} {q : List Nat × List Nat} (h : Mid inn n b n q) : Mid inn n (b + 1) 0 q := by
  refine ⟨h.lp, fun i hi => ?_, fun e he hc => h.p1 e he (by omega)⟩
  have := h.e1 i hi
  exact ⟨this.1, this.2.1, by omega⟩

theorem outer_mid (inn : List Nat) (n : Nat) : ∀ b, Mid inn n b 0 (outer inn n b).1 := by
  intro b
  induction b with
  | zero =>
    refine ⟨by simp [outer], fun i hi => ?_, fun e he hc => ?_⟩
    · simp [outer] at hi
    · omega
  | succ b ih => exact (ih.inner n (Nat.le_refl _)).next

/-- The elements that stood stay where they stand. -/
theorem inner_old (inn : List Nat) (b : Nat) (q : List Nat × List Nat) : ∀ k, ∃ t, (inner inn b k q).1 = q.1 ++ t := by
  intro k
  induction k with
  | zero => exact ⟨[], by simp [inner]⟩
  | succ k ih =>
    obtain ⟨t, ht⟩ := ih
    rw [inner_succ]
    unfold pushE
    split
    · exact ⟨t ++ [k], by simp [ht]⟩
    · exact ⟨t, ht⟩

theorem outer_old (inn : List Nat) (n b : Nat) : ∀ c, b ≤ c → ∃ t, (outer inn n c).1.1 = (outer inn n b).1.1 ++ t := by
  intro c
  induction c with
  | zero => intro h; obtain rfl : b = 0 := by omega
            exact ⟨[], by simp⟩
  | succ c ih =>
    intro h
    by_cases g : b = c + 1
    · subst g; exact ⟨[], by simp⟩
    · obtain ⟨t, ht⟩ := ih (by omega)
      obtain ⟨u, hu⟩ := inner_old inn c (outer inn n c).1 n
      exact ⟨t ++ u, by simp [outer, hu, ht]⟩

theorem outer_block (inn : List Nat) (n b : Nat) : ∀ c, b < c → (outer inn n c).2.getD b (0, 0, 0) = ((outer inn n b).1.1.length, (outer inn n (b + 1)).1.1.length, 0) := by
  intro c
  induction c with
  | zero => intro h; omega
  | succ c ih =>
    intro h
    simp only [outer, getD_append_one, outer_blocks]
    by_cases g : b = c
    · subst g; simp [outer]
    · rw [if_neg g, ih (by omega)]
      simp [outer]

/-- The partition that Of makes of classes. -/
def ofSt (l : List Int) : St :=
  { elems := (outer (Cn.canon l) l.length (Cn.seen l).length).1.1, place := (outer (Cn.canon l) l.length (Cn.seen l).length).1.2, inn := Cn.canon l, blocks := (outer (Cn.canon l) l.length (Cn.seen l).length).2 }

/-- Where an element of class c stands: among those that round c has laid. -/
theorem stand (inn : List Nat) (n m c e : Nat) (hc : c < m) (he : e < n) (hec : inn.getD e 0 = c) :
    (outer inn n c).1.1.length ≤ (outer inn n m).1.2.getD e 0 ∧ (outer inn n m).1.2.getD e 0 < (outer inn n (c + 1)).1.1.length := by
  have hm := outer_mid inn n m
  have h1 := outer_mid inn n c
  have h2 := outer_mid inn n (c + 1)
  have hp := hm.p1 e he (by omega)
  obtain ⟨t1, ht1⟩ := outer_old inn n c m (by omega)
  obtain ⟨t2, ht2⟩ := outer_old inn n (c + 1) m (by omega)
  constructor
  · rcases Nat.lt_or_ge ((outer inn n m).1.2.getD e 0) (outer inn n c).1.1.length with g | g
    · exfalso
      have := (h1.e1 _ g).2.2
      have hx : (outer inn n c).1.1.getD ((outer inn n m).1.2.getD e 0) 0 = e := by
        have h3 := hp.2
        rw [ht1, getD_left _ _ _ g] at h3
        exact h3
      rw [hx] at this
      omega
    · exact g
  · have hp2 := h2.p1 e he (by omega)
    have hx : (outer inn n m).1.1.getD ((outer inn n (c + 1)).1.2.getD e 0) 0 = e := by
      have h3 := hp2.2
      rw [ht2, getD_left _ _ _ hp2.1]
      exact h3
    have hlen : (outer inn n (c + 1)).1.1.length ≤ (outer inn n m).1.1.length := by rw [ht2]; simp
    have := (hm.e1 ((outer inn n (c + 1)).1.2.getD e 0) (by omega)).2.1
    rw [hx] at this
    omega

theorem of_inv (l : List Int) : Inv (ofSt l) l.length := by
  have hm := outer_mid (Cn.canon l) l.length (Cn.seen l).length
  have hall : ∀ e, e < l.length → (Cn.canon l).getD e 0 < (Cn.seen l).length := fun e he => Cn.canon_lt l e he
  have hlen : (outer (Cn.canon l) l.length (Cn.seen l).length).1.1.length = l.length := by
    have hperm : (outer (Cn.canon l) l.length (Cn.seen l).length).1.1.Perm (List.range l.length) := by
      refine (List.perm_ext_iff_of_nodup ?_ List.nodup_range).2 ?_
      · refine List.pairwise_iff_getElem.2 ?_
        intro a b ha' hb' hlt hab
        have ha := (hm.e1 a ha').2.1
        have hb := (hm.e1 b hb').2.1
        have hea : (outer (Cn.canon l) l.length (Cn.seen l).length).1.1.getD a 0 = (outer (Cn.canon l) l.length (Cn.seen l).length).1.1[a] := by simp [List.getD, ha']
        have heb : (outer (Cn.canon l) l.length (Cn.seen l).length).1.1.getD b 0 = (outer (Cn.canon l) l.length (Cn.seen l).length).1.1[b] := by simp [List.getD, hb']
        rw [hea, hab, ← heb, hb] at ha
        omega
      · intro e
        rw [List.mem_range]
        constructor
        · intro hmem
          obtain ⟨i, hi, rfl⟩ := List.mem_iff_getElem.1 hmem
          have := (hm.e1 i hi).1
          simpa [List.getD, hi] using this
        · intro he
          have := hm.p1 e he (.inl (hall e he))
          obtain ⟨j, hj⟩ : ∃ j, j = (outer (Cn.canon l) l.length (Cn.seen l).length).1.2.getD e 0 := ⟨_, rfl⟩
          rw [← hj] at this
          refine List.mem_iff_getElem.2 ⟨j, this.1, ?_⟩
          have h2 := this.2
          simp only [List.getD, List.getElem?_eq_getElem this.1, Option.getD_some] at h2
          exact h2
    rw [hperm.length_eq, List.length_range]
  have hF : ∀ c, c < (Cn.seen l).length → (ofSt l).F c = (outer (Cn.canon l) l.length c).1.1.length := by
    intro c hc; simp only [St.F, ofSt, outer_block _ _ _ _ hc]
  have hT : ∀ c, c < (Cn.seen l).length → (ofSt l).T c = (outer (Cn.canon l) l.length (c + 1)).1.1.length := by
    intro c hc; simp only [St.T, ofSt, outer_block _ _ _ _ hc]
  have hM : ∀ c, c < (Cn.seen l).length → (ofSt l).M c = 0 := by
    intro c hc; simp only [St.M, ofSt, outer_block _ _ _ _ hc]
  have hB : (ofSt l).blocks.length = (Cn.seen l).length := outer_blocks _ _ _
  constructor
  · exact hlen
  · exact hm.lp
  · exact Cn.canon_len l
  · intro i hi
    have := hm.e1 i (by rw [hlen]; exact hi)
    exact ⟨this.1, this.2.1⟩
  · intro e he
    have := hm.p1 e he (.inl (hall e he))
    refine ⟨?_, this.2⟩
    have h1 := this.1
    rw [hlen] at h1
    exact h1
  · intro e he
    have hc := hall e he
    have st := stand (Cn.canon l) l.length (Cn.seen l).length _ e hc he rfl
    rw [hB]
    refine ⟨hc, ?_, ?_⟩
    · show (ofSt l).F ((Cn.canon l).getD e 0) ≤ _; rw [hF _ hc]; exact st.1
    · show _ < (ofSt l).T ((Cn.canon l).getD e 0); rw [hT _ hc]; exact st.2
  · intro c hc
    rw [hB] at hc
    rw [hF _ hc, hT _ hc, hM _ hc]
    obtain ⟨k, hk, hkc⟩ := Cn.canon_onto l c hc
    have st := stand (Cn.canon l) l.length (Cn.seen l).length c k hc hk hkc
    obtain ⟨t2, ht2⟩ := outer_old (Cn.canon l) l.length (c + 1) (Cn.seen l).length (by omega)
    have h3 : (outer (Cn.canon l) l.length (c + 1)).1.1.length ≤ l.length := by have h4 := congrArg List.length ht2; rw [hlen, List.length_append] at h4; omega
    omega
  · intro c hc i h1 h2
    rw [hB] at hc
    rw [hF _ hc] at h1
    rw [hT _ hc] at h2
    obtain ⟨t2, ht2⟩ := outer_old (Cn.canon l) l.length (c + 1) (Cn.seen l).length (by omega)
    have h3 : (outer (Cn.canon l) l.length (c + 1)).1.1.length ≤ l.length := by have h4 := congrArg List.length ht2; rw [hlen, List.length_append] at h4; omega
    have hi : i < l.length := by omega
    have he := hm.e1 i (by rw [hlen]; exact hi)
    have st := stand (Cn.canon l) l.length (Cn.seen l).length _ _ (hall _ he.1) he.1 rfl
    rw [he.2.1] at st
    have hI : (ofSt l).I ((ofSt l).E i) = (Cn.canon l).getD ((outer (Cn.canon l) l.length (Cn.seen l).length).1.1.getD i 0) 0 := rfl
    rw [hI]
    generalize hd : (Cn.canon l).getD ((outer (Cn.canon l) l.length (Cn.seen l).length).1.1.getD i 0) 0 = d at st
    rcases Nat.lt_trichotomy d c with g | g | g
    · obtain ⟨t, ht⟩ := outer_old (Cn.canon l) l.length (d + 1) c (by omega)
      have : (outer (Cn.canon l) l.length (d + 1)).1.1.length ≤ (outer (Cn.canon l) l.length c).1.1.length := by rw [ht]; simp
      omega
    · exact g
    · obtain ⟨t, ht⟩ := outer_old (Cn.canon l) l.length (c + 1) d (by omega)
      have : (outer (Cn.canon l) l.length (c + 1)).1.1.length ≤ (outer (Cn.canon l) l.length d).1.1.length := by rw [ht]; simp
      omega

theorem outer_le (l : List Int) (b : Nat) (h : b ≤ (Cn.seen l).length) : (outer (Cn.canon l) l.length b).1.1.length ≤ l.length := by
  obtain ⟨t, ht⟩ := outer_old (Cn.canon l) l.length b _ h
  have h1 := (of_inv l).le
  have h2 := congrArg List.length ht
  rw [List.length_append] at h2
  have h3 : (outer (Cn.canon l) l.length (Cn.seen l).length).1.1.length = l.length := h1
  omega

theorem inner_old2 (inn : List Nat) (b : Nat) (q : List Nat × List Nat) (k : Nat) : ∀ c, k ≤ c → ∃ t, (inner inn b c q).1 = (inner inn b k q).1 ++ t := by
  intro c
  induction c with
  | zero => intro h; obtain rfl : k = 0 := by omega
            exact ⟨[], by simp⟩
  | succ c ih =>
    intro h
    by_cases g : k = c + 1
    · subst g; exact ⟨[], by simp⟩
    · obtain ⟨t, ht⟩ := ih (by omega)
      rw [inner_succ]
      unfold pushE
      split
      · exact ⟨t ++ [c], by simp [ht]⟩
      · exact ⟨t, ht⟩

theorem inner_le (l : List Int) (b k : Nat) (h : b < (Cn.seen l).length) (hk : k ≤ l.length) : (inner (Cn.canon l) b k (outer (Cn.canon l) l.length b).1).1.length ≤ l.length := by
  obtain ⟨t, ht⟩ := inner_old2 (Cn.canon l) b (outer (Cn.canon l) l.length b).1 k l.length hk
  have h1 := outer_le l (b + 1) h
  have h2 := congrArg List.length ht
  rw [List.length_append] at h2
  have h3 : (outer (Cn.canon l) l.length (b + 1)).1.1 = (inner (Cn.canon l) b l.length (outer (Cn.canon l) l.length b).1).1 := rfl
  rw [h3] at h1
  omega

end Go.Proofs.YtkcdkfkgjjpaaaaGreatDoor.Rf

namespace Go.Proofs.YtkcdkfkgjjpaaaaGreatDoor.Rf
set_option linter.unusedVariables false
set_option linter.unusedSimpArgs false

/-- The reference's elements of a block. -/
def refMem (inn : List Nat) (n : Nat) (b : Int) : List Int := ((List.range n).filter fun e => decide ((inn.getD e 0 : Int) = b)).map Int.ofNat

theorem refMem_zero (inn : List Nat) (b : Int) : refMem inn 0 b = [] := rfl

theorem refMem_succ (inn : List Nat) (k : Nat) (b : Int) : refMem inn (k + 1) b = if (inn.getD k 0 : Int) = b then refMem inn k b ++ [(k : Int)] else refMem inn k b := by
  unfold refMem
  rw [List.range_succ, List.filter_append, List.map_append]
  by_cases h : (inn.getD k 0 : Int) = b
  · rw [if_pos h, show List.filter (fun e => decide ((inn.getD e 0 : Int) = b)) [k] = [k] by simp only [List.filter_cons, List.filter_nil, h, decide_true, if_true]]; rfl
  · rw [if_neg h, show List.filter (fun e => decide ((inn.getD e 0 : Int) = b)) [k] = [] by rw [List.filter_cons, if_neg (by simpa using h)]; rfl]; simp only [List.map_nil, List.append_nil]

theorem refMem_le (inn : List Nat) (n : Nat) (b : Int) : (refMem inn n b).length ≤ n := by
  unfold refMem
  rw [List.length_map]
  have := List.length_filter_le (fun e => decide ((inn.getD e 0 : Int) = b)) (List.range n)
  rwa [List.length_range] at this

theorem sorted_unique {a b : List Int} (ha : a.Pairwise (· < ·)) (hb : b.Pairwise (· < ·)) (h : ∀ x, x ∈ a ↔ x ∈ b) : a = b := by
  induction a generalizing b with
  | nil => cases b with
    | nil => rfl
    | cons y b => exact absurd ((h y).2 (List.mem_cons_self ..)) (List.not_mem_nil)
  | cons x a ih =>
    cases b with
    | nil => exact absurd ((h x).1 (List.mem_cons_self ..)) (List.not_mem_nil)
    | cons y b =>
      rw [List.pairwise_cons] at ha hb
      have hxy : x = y := by
        have h1 := (h x).1 (List.mem_cons_self ..)
        have h2 := (h y).2 (List.mem_cons_self ..)
        rcases List.mem_cons.1 h1 with e | h1
        · exact e
        · rcases List.mem_cons.1 h2 with e | h2
          · exact e.symm
          · have := ha.1 y h2; have := hb.1 x h1; omega
      subst hxy
      rw [ih ha.2 hb.2 (fun z => ?_)]
      have hz := h z
      simp only [List.mem_cons] at hz
      constructor
      · intro hm
        rcases hz.1 (.inr hm) with e | hm'
        · have := ha.1 z hm; omega
        · exact hm'
      · intro hm
        rcases hz.2 (.inr hm) with e | hm'
        · have := hb.1 z hm; omega
        · exact hm'

theorem refMem_sorted (inn : List Nat) (n : Nat) (b : Int) : (refMem inn n b).Pairwise (· < ·) := by
  unfold refMem
  rw [List.pairwise_map]
  have := (List.pairwise_lt_range (n := n)).filter (fun e => decide ((inn.getD e 0 : Int) = b))
  exact this.imp (fun h => Int.ofNat_lt.2 h)

theorem refMem_mem {inn : List Nat} {n : Nat} {b x : Int} : x ∈ refMem inn n b ↔ ∃ e : Nat, x = e ∧ e < n ∧ (inn.getD e 0 : Int) = b := by
  unfold refMem
  rw [List.mem_map]
  constructor
  · rintro ⟨e, he, rfl⟩
    rw [List.mem_filter] at he
    exact ⟨e, rfl, List.mem_range.1 he.1, by simpa using he.2⟩
  · rintro ⟨e, rfl, h1, h2⟩
    exact ⟨e, by rw [List.mem_filter]; exact ⟨List.mem_range.2 h1, by simpa using h2⟩, rfl⟩

/-- Members is the reference's. -/
theorem mem_ref {s : St} {n b : Nat} (hI : Inv s n) (hb : b < s.blocks.length) : s.mem b = refMem s.inn n b := by
  refine sorted_unique (mem_sorted hI hb) (refMem_sorted _ _ _) (fun x => ?_)
  rw [mem_mem hI hb, refMem_mem]
  constructor
  · rintro ⟨e, rfl, h1, h2⟩
    exact ⟨e, rfl, h1, by have : s.inn.getD e 0 = b := h2; omega⟩
  · rintro ⟨e, rfl, h1, h2⟩
    exact ⟨e, rfl, h1, by show s.inn.getD e 0 = b; omega⟩

/-- How many of a block's elements below k are marked. -/
def refMarks (inn : List Nat) (mk : List Bool) (k : Nat) (b : Int) : Nat := (List.range k).countP fun e => decide ((inn.getD e 0 : Int) = b) && mk.getD e false

theorem refMarks_succ (inn : List Nat) (mk : List Bool) (k : Nat) (b : Int) : refMarks inn mk (k + 1) b = refMarks inn mk k b + if (inn.getD k 0 : Int) = b ∧ mk.getD k false = true then 1 else 0 := by
  unfold refMarks
  rw [List.range_succ, List.countP_append]
  congr 1
  by_cases h1 : (inn.getD k 0 : Int) = b <;> by_cases h2 : mk.getD k false = true <;> simp [h1, h2]

theorem refMarks_le (inn : List Nat) (mk : List Bool) (k : Nat) (b : Int) : refMarks inn mk k b ≤ k := by
  have := List.countP_le_length (p := fun e => decide ((inn.getD e 0 : Int) = b) && mk.getD e false) (l := List.range k)
  rwa [List.length_range] at this

theorem elems_range {s : St} {n : Nat} (h : Inv s n) : s.elems = (List.range n).map s.E := by
  apply List.ext_getElem
  · rw [List.length_map, List.length_range, h.le]
  · intro i h1 h2
    simp [St.E, List.getD, h1]

theorem elems_perm {s : St} {n : Nat} (h : Inv s n) : s.elems.Perm (List.range n) := by
  refine (List.perm_ext_iff_of_nodup ?_ List.nodup_range).2 ?_
  · refine List.pairwise_iff_getElem.2 ?_
    intro i j hi hj hij e
    rw [h.le] at hi hj
    have : s.E i = s.E j := by simp only [St.E, List.getD]; rw [List.getElem?_eq_getElem (by rw [h.le]; exact hi), List.getElem?_eq_getElem (by rw [h.le]; exact hj), e]
    have := E_inj h hi hj this
    omega
  · intro x
    rw [List.mem_range, elems_range h, List.mem_map]
    constructor
    · rintro ⟨i, hi, rfl⟩; exact (h.e1 i (List.mem_range.1 hi)).1
    · intro hx; exact ⟨s.P x, List.mem_range.2 (h.p1 x hx).1, (h.p1 x hx).2⟩

/-- Marks is the reference's. -/
theorem marks_ref {s : St} {n b : Nat} (h : Inv s n) (hb : b < s.blocks.length) : refMarks s.inn (s.marks n) n b = s.M b := by
  have bb := h.b1 b hb
  unfold refMarks
  have e1 : (List.range n).countP (fun e => decide ((s.inn.getD e 0 : Int) = b) && (s.marks n).getD e false) = s.elems.countP (fun e => decide ((s.inn.getD e 0 : Int) = b) && (s.marks n).getD e false) := ((elems_perm h).countP_eq _).symm
  rw [e1, elems_range h, List.countP_map]
  rw [show s.M b = (s.F b + s.M b) - s.F b by omega, ← countP_range (s.F b) (s.F b + s.M b) n (by omega) (by omega)]
  apply List.countP_congr
  intro i hi
  have hi := List.mem_range.1 hi
  have ei := h.e1 i hi
  have oi := h.in1 _ ei.1
  simp only [Function.comp, Bool.and_eq_true, decide_eq_true_eq]
  rw [marks_get _ _ _ ei.1, marked_iff, ei.2]
  have hI : s.inn.getD (s.E i) 0 = s.I (s.E i) := rfl
  rw [hI]
  rw [ei.2] at oi
  constructor
  · rintro ⟨h1, h2⟩
    have h1' : s.I (s.E i) = b := by omega
    rw [h1'] at oi h2
    omega
  · intro hx
    have := h.in2 b hb i hx.1 (by omega)
    rw [this]; exact ⟨rfl, hx.2⟩

/-- Marked: the blocks below b with a marked element. -/
def St.hot (s : St) : Nat → List Int
  | 0 => []
  | b + 1 => if 0 < s.M b then s.hot b ++ [(b : Int)] else s.hot b

theorem hot_len (s : St) : ∀ b, (s.hot b).length ≤ b := by
  intro b
  induction b with
  | zero => simp [St.hot]
  | succ b ih =>
    simp only [St.hot]
    split
    · simp; omega
    · omega

/-- What the reference's split does to one element. -/
def refSplit1 (moved : Bool) (sp : Bool) (nb : Nat) (q : List Nat × List Bool) (x : Int) : List Nat × List Bool :=
  (if sp && (q.2.getD x.toNat false == moved) then q.1.set x.toNat nb else q.1, q.2.set x.toNat false)

def refSplit (moved sp : Bool) (nb : Nat) (inn : List Nat) (mk : List Bool) (l : List Int) : List Nat × List Bool := l.foldl (refSplit1 moved sp nb) (inn, mk)

theorem refSplit_take (moved sp : Bool) (nb : Nat) (inn : List Nat) (mk : List Bool) (l : List Int) (k : Nat) (hk : k < l.length) :
    refSplit moved sp nb inn mk (l.take (k + 1)) = refSplit1 moved sp nb (refSplit moved sp nb inn mk (l.take k)) (l.getD k 0) := by
  rw [List.take_succ_eq_append_getElem hk]
  unfold refSplit
  rw [List.foldl_append]
  simp [List.getD, hk]

theorem refSplit_marks (moved sp : Bool) (nb : Nat) (l : List Int) : ∀ (inn : List Nat) (mk : List Bool), (refSplit moved sp nb inn mk l).2 = clr mk l := by
  induction l with
  | nil => intro inn mk; rfl
  | cons x l ih => intro inn mk; exact ih _ _

theorem refSplit_len (moved sp : Bool) (nb : Nat) (l : List Int) : ∀ (inn : List Nat) (mk : List Bool), (refSplit moved sp nb inn mk l).1.length = inn.length := by
  induction l with
  | nil => intro inn mk; rfl
  | cons x l ih =>
    intro inn mk
    refine (ih _ _).trans ?_
    show (if _ then _ else _ : List Nat).length = _
    split <;> simp

theorem refSplit_false (moved : Bool) (nb : Nat) (l : List Int) : ∀ (inn : List Nat) (mk : List Bool), (refSplit moved false nb inn mk l).1 = inn := by
  induction l with
  | nil => intro inn mk; rfl
  | cons x l ih => intro inn mk; exact ih _ _

/-- Of a list without doubles: what the reference's split makes of the blocks. -/
theorem refSplit_get (moved : Bool) (nb : Nat) (l : List Int) (hnn : ∀ x ∈ l, 0 ≤ x) (hnd : l.Nodup) : ∀ (inn : List Nat) (mk : List Bool) (j : Nat), j < inn.length →
    (refSplit moved true nb inn mk l).1.getD j 0 = if ((j : Int) ∈ l ∧ mk.getD j false = moved) then nb else inn.getD j 0 := by
  induction l with
  | nil => intro inn mk j hj; simp [refSplit]
  | cons x l ih =>
    intro inn mk j hj
    rw [List.nodup_cons] at hnd
    have hx : 0 ≤ x := hnn x (List.mem_cons_self ..)
    have := ih (fun y hy => hnn y (List.mem_cons_of_mem _ hy)) hnd.2 (refSplit1 moved true nb (inn, mk) x).1 (refSplit1 moved true nb (inn, mk) x).2 j (by simp only [refSplit1]; split <;> simp [hj])
    have hstep : refSplit moved true nb inn mk (x :: l) = refSplit moved true nb (refSplit1 moved true nb (inn, mk) x).1 (refSplit1 moved true nb (inn, mk) x).2 l := rfl
    rw [hstep, this]
    have h1 : (refSplit1 moved true nb (inn, mk) x).1 = if mk.getD x.toNat false = moved then inn.set x.toNat nb else inn := by
      simp only [refSplit1, Bool.true_and, beq_iff_eq]
    have h2 : (refSplit1 moved true nb (inn, mk) x).2 = mk.set x.toNat false := rfl
    rw [h1, h2]
    by_cases g : x.toNat = j
    · have hxj : (j : Int) = x := by omega
      subst g
      have hnl : ¬ ((x.toNat : Int) ∈ l) := by rw [hxj]; exact hnd.1
      rw [if_neg (fun h => hnl h.1)]
      have hin : (x.toNat : Int) ∈ x :: l := by rw [hxj]; exact List.mem_cons_self ..
      by_cases hm : mk.getD x.toNat false = moved
      · rw [if_pos hm, getD_set, if_pos ⟨rfl, hj⟩, if_pos ⟨hin, hm⟩]
      · rw [if_neg hm, if_neg (fun h => hm h.2)]
    · have hxj : ¬ (j : Int) = x := by omega
      have hmem : ((j : Int) ∈ x :: l) ↔ ((j : Int) ∈ l) := by simp [hxj]
      have hms : (mk.set x.toNat false).getD j false = mk.getD j false := by rw [getD_set, if_neg (fun h => g h.1)]
      rw [hms]
      simp only [hmem]
      have : (if mk.getD x.toNat false = moved then inn.set x.toNat nb else inn).getD j 0 = inn.getD j 0 := by
        split
        · rw [getD_set, if_neg (fun h => g h.1)]
        · rfl
      rw [this]

theorem inn_ext {a b : List Nat} (hl : a.length = b.length) (h : ∀ x, x < a.length → a.getD x 0 = b.getD x 0) : a = b := by
  apply List.ext_getElem hl
  intro i h1 h2
  have := h i h1
  simpa [List.getD, h1, h2] using this

theorem split_len_eq (s : St) (b : Nat) : (s.split b).2.inn.length = s.inn.length := by
  unfold St.split
  split
  · rfl
  · split <;> exact setAll_len _ _ _

theorem split_mv {s : St} {n b : Nat} (h : Inv s n) (hb : b < s.blocks.length) (hsp : ¬ (s.M b = 0 ∨ s.T b - s.F b - s.M b = 0)) (x : Nat) (hx : x < n) :
    (s.split b).2.I x = if s.I x = b ∧ s.marked x = decide (s.M b ≤ s.T b - s.F b - s.M b) then s.blocks.length else s.I x := by
  have bb := h.b1 b hb
  have ox := h.in1 x hx
  have hin : ∀ lo hi, s.F b ≤ lo → hi ≤ s.T b → (lo ≤ s.P x ∧ s.P x < hi) → s.I x = b := by
    intro lo hi h1 h2 hp
    have := h.in2 b hb (s.P x) (by omega) (by omega)
    rw [(h.p1 x hx).2] at this; exact this
  unfold St.split
  rw [if_neg hsp]
  by_cases hd : s.M b ≤ s.T b - s.F b - s.M b
  · rw [if_pos hd]
    show (s.cut b (s.F b) (s.F b + s.M b) (s.F b + s.M b) (s.T b)).I x = _
    rw [(cut_inv h hb (by omega) (by omega) (.inl ⟨rfl, rfl, rfl⟩)).2 x hx]
    by_cases g : s.F b ≤ s.P x ∧ s.P x < s.F b + s.M b
    · have gi := hin _ _ (Nat.le_refl _) bb.2.2 g
      rw [if_pos g, if_pos ⟨gi, by simp [St.marked, gi, g.2, hd]⟩]
    · rw [if_neg g, if_neg]
      rintro ⟨gi, gm⟩
      simp only [St.marked, gi, hd, decide_true, decide_eq_true_eq] at gm
      rw [gi] at ox; omega
  · rw [if_neg hd]
    show (s.cut b (s.F b + s.M b) (s.T b) (s.F b) (s.F b + s.M b)).I x = _
    rw [(cut_inv h hb (by omega) (by omega) (.inr ⟨rfl, rfl, rfl⟩)).2 x hx]
    by_cases g : s.F b + s.M b ≤ s.P x ∧ s.P x < s.T b
    · have gi := hin _ _ (by omega) (Nat.le_refl _) g
      rw [if_pos g, if_pos ⟨gi, by simp [St.marked, gi, hd]; omega⟩]
    · rw [if_neg g, if_neg]
      rintro ⟨gi, gm⟩
      simp only [St.marked, gi, hd, decide_false, decide_eq_false_iff_not] at gm
      rw [gi] at ox; omega

/-- The reference's split is the program's. -/
theorem split_ref {s : St} {n b : Nat} (h : Inv s n) (hb : b < s.blocks.length) :
    (s.split b).1.isSome = (decide (0 < s.M b) && decide (s.M b < (s.mem b).length)) ∧
    refSplit (decide (2 * s.M b ≤ (s.mem b).length)) ((s.split b).1.isSome) s.blocks.length s.inn (s.marks n) (s.mem b) = ((s.split b).2.inn, (s.split b).2.marks n) ∧
    (s.split b).1.getD 0 = (if (s.split b).1.isSome then s.blocks.length else 0) ∧ (s.split b).2.blocks.length = s.blocks.length + (if (s.split b).1.isSome then 1 else 0) := by
  have bb := h.b1 b hb
  have hl := mem_len h hb
  have hI' := split_inv h hb
  have h2 : (refSplit (decide (2 * s.M b ≤ (s.mem b).length)) ((s.split b).1.isSome) s.blocks.length s.inn (s.marks n) (s.mem b)).2 = (s.split b).2.marks n := by
    rw [refSplit_marks, marks_split h hb]
  by_cases hsp : s.M b = 0 ∨ s.T b - s.F b - s.M b = 0
  · have e : s.split b = (none, s.bare b) := by unfold St.split; rw [if_pos hsp]
    refine ⟨?_, ?_, by rw [e]; rfl, by rw [e]; simp [St.bare]⟩
    · rw [e, hl]; simp; omega
    · apply Prod.ext
      · rw [e]; exact refSplit_false _ _ _ _ _
      · exact h2
  · have hs : (s.split b).1 = some s.blocks.length ∧ (s.split b).2.blocks.length = s.blocks.length + 1 := by
      unfold St.split; rw [if_neg hsp]
      split
      · exact ⟨rfl, cut_len⟩
      · exact ⟨rfl, cut_len⟩
    refine ⟨?_, ?_, by rw [hs.1]; rfl, by rw [hs.1, hs.2]; rfl⟩
    · rw [hs.1, hl]; simp; omega
    · apply Prod.ext
      · rw [hs.1]
        apply inn_ext
        · simp only [Option.isSome_some]; rw [refSplit_len, split_len_eq]
        · intro x hx
          rw [refSplit_len, h.li] at hx
          simp only [Option.isSome_some]
          rw [refSplit_get _ _ _ (fun y hy => by obtain ⟨e, rfl, _⟩ := (mem_mem h hb).1 hy; omega) ((mem_sorted h hb).imp (fun hlt => by omega)) _ _ x (by rw [h.li]; exact hx)]
          have hI := split_mv h hb hsp x hx
          show _ = (s.split b).2.I x
          rw [hI, marks_get _ _ _ hx]
          have hmem : ((x : Int) ∈ s.mem b) ↔ s.I x = b := by
            rw [mem_mem h hb]
            constructor
            · rintro ⟨e, he, _, hi⟩; have : x = e := by omega
              rw [this]; exact hi
            · intro hi; exact ⟨x, rfl, hx, hi⟩
          have hdd : decide (2 * s.M b ≤ (s.mem b).length) = decide (s.M b ≤ s.T b - s.F b - s.M b) := by
            apply decide_eq_decide.2; rw [hl]; omega
          rw [hdd]
          simp only [hmem]
          rfl
      · exact h2

theorem new_blocks (n : Nat) : (ofSt (List.replicate n 0)).blocks.length = if 0 < n then 1 else 0 := by
  have hB : (ofSt (List.replicate n 0)).blocks.length = (Cn.seen (List.replicate n 0)).length := outer_blocks _ _ _
  rw [hB]
  have : ∀ k, Cn.seen (List.replicate k 0) = if 0 < k then [0] else [] := by
    intro k
    induction k with
    | zero => rfl
    | succ k ih =>
      rw [List.replicate_succ', Cn.seen_snoc, ih]
      by_cases h : 0 < k
      · simp [h]
      · simp [h]
  rw [this]; split <;> rfl

theorem new_inn (n : Nat) : (ofSt (List.replicate n 0)).inn = List.replicate n 0 := by
  apply inn_ext
  · show (Cn.canon _).length = _; rw [Cn.canon_len]; simp
  · intro x hx
    have hx' : x < n := by have : x < (Cn.canon (List.replicate n 0)).length := hx; rw [Cn.canon_len] at this; simpa using this
    have h1 := (of_inv (List.replicate n 0)).in1 x (by simpa using hx')
    rw [new_blocks] at h1
    have h2 : (ofSt (List.replicate n 0)).I x = 0 := by
      have := h1.1; split at this <;> omega
    show (ofSt (List.replicate n 0)).I x = _
    rw [h2]; simp [List.getD, hx']

/-- The greatest of some numbers, one more: what the reference's Together reckons. -/
def topOf (l : List Nat) : Nat := l.foldl (fun n c => if c < n then n else c + 1) 0

theorem topOf_snoc (l : List Nat) (c : Nat) : topOf (l ++ [c]) = if c < topOf l then topOf l else c + 1 := by
  unfold topOf
  rw [List.foldl_append]
  rfl

theorem topOf_take (l : List Nat) (k : Nat) (hk : k < l.length) : topOf (l.take (k + 1)) = if l.getD k 0 < topOf (l.take k) then topOf (l.take k) else l.getD k 0 + 1 := by
  rw [List.take_succ_eq_append_getElem hk, topOf_snoc]
  simp [List.getD, hk]

theorem topOf_le {l : List Nat} {m : Nat} (h : ∀ x ∈ l, x < m) : topOf l ≤ m := by
  suffices g : ∀ k, k ≤ l.length → topOf (l.take k) ≤ m by
    have := g l.length (Nat.le_refl _); rwa [List.take_length] at this
  intro k
  induction k with
  | zero => intro _; simp [topOf]
  | succ k ih =>
    intro hk
    rw [topOf_take _ _ (by omega)]
    have hm := h (l.getD k 0) (by simp only [List.getD, List.getElem?_eq_getElem (show k < l.length by omega), Option.getD_some]; exact List.getElem_mem _)
    have := ih (by omega)
    split <;> omega

theorem topOf_ge (l : List Nat) : ∀ x ∈ l, x < topOf l := by
  suffices g : ∀ k, k ≤ l.length → ∀ x ∈ l.take k, x < topOf (l.take k) by
    have := g l.length (Nat.le_refl _); rwa [List.take_length] at this
  intro k
  induction k with
  | zero => intro _ x hx; simp at hx
  | succ k ih =>
    intro hk x hx
    rw [topOf_take _ _ (by omega)]
    rw [List.take_succ_eq_append_getElem (by omega), List.mem_append, List.mem_singleton] at hx
    have hd : l.getD k 0 = l[k] := by simp [List.getD, show k < l.length by omega]
    rcases hx with hx | hx
    · have := ih (by omega) x hx
      split <;> omega
    · subst hx; split <;> omega

theorem topOf_canon (l : List Int) : topOf (Cn.canon l) = (Cn.seen l).length := by
  apply Nat.le_antisymm
  · apply topOf_le
    intro x hx
    obtain ⟨i, hi, rfl⟩ := List.mem_iff_getElem.1 hx
    have := Cn.canon_lt l i (by rw [← Cn.canon_len l]; exact hi)
    simpa [List.getD, hi] using this
  · rcases Nat.eq_zero_or_pos (Cn.seen l).length with h | h
    · omega
    · obtain ⟨k, hk, hkc⟩ := Cn.canon_onto l ((Cn.seen l).length - 1) (by omega)
      have := topOf_ge (Cn.canon l) ((Cn.canon l).getD k 0) (by simp only [List.getD, List.getElem?_eq_getElem (show k < (Cn.canon l).length by rw [Cn.canon_len]; exact hk), Option.getD_some]; exact List.getElem_mem _)
      omega

end Go.Proofs.YtkcdkfkgjjpaaaaGreatDoor.Rf

namespace Go.Proofs.YtkcdkfkgjjpaaaaGreatDoor.Rf
set_option linter.unusedVariables false
set_option linter.unusedSimpArgs false

theorem mark_inn (s : St) (e : Nat) : (s.mark e).2.inn = s.inn ∧ (s.mark e).2.blocks.length = s.blocks.length := by
  unfold St.mark
  split
  · exact ⟨rfl, rfl⟩
  · exact ⟨rfl, markIn_len _ _⟩

theorem split_I {s : St} {n b : Nat} (h : Inv s n) (hb : b < s.blocks.length) {x : Nat} (hx : x < n) : (s.split b).2.I x = s.I x ∨ (s.I x = b ∧ (s.split b).2.I x = s.blocks.length) := by
  have bb := h.b1 b hb
  by_cases hc : s.M b = 0 ∨ s.T b - s.F b - s.M b = 0
  · left; unfold St.split; rw [if_pos hc]; rfl
  · have key : ∀ lo hi lo' hi', lo < hi → lo' < hi' → ((lo = s.F b ∧ hi = lo' ∧ hi' = s.T b) ∨ (lo' = s.F b ∧ hi' = lo ∧ hi = s.T b)) → (s.split b).2 = s.cut b lo hi lo' hi' →
        (s.split b).2.I x = s.I x ∨ (s.I x = b ∧ (s.split b).2.I x = s.blocks.length) := by
      intro lo hi lo' hi' h1 h2 hcc he
      rw [he, (cut_inv h hb h1 h2 hcc).2 x hx]
      split
      · rename_i g
        right
        have := h.in2 b hb (s.P x) (by omega) (by omega)
        rw [(h.p1 x hx).2] at this
        exact ⟨this, rfl⟩
      · exact .inl rfl
    by_cases hd : s.M b ≤ s.T b - s.F b - s.M b
    · exact key (s.F b) (s.F b + s.M b) (s.F b + s.M b) (s.T b) (by omega) (by omega) (.inl ⟨rfl, rfl, rfl⟩) (by unfold St.split; rw [if_neg hc, if_pos hd])
    · exact key (s.F b + s.M b) (s.T b) (s.F b) (s.F b + s.M b) (by omega) (by omega) (.inr ⟨rfl, rfl, rfl⟩) (by unfold St.split; rw [if_neg hc, if_neg hd])

theorem split_len (s : St) (b : Nat) : s.blocks.length ≤ (s.split b).2.blocks.length := by
  unfold St.split
  split
  · simp [St.bare]
  · split
    · rw [cut_len]; omega
    · rw [cut_len]; omega

/-- A split parts a block by its marks, and nothing else. -/
theorem split_eq {s : St} {n b : Nat} (h : Inv s n) (hb : b < s.blocks.length) {x y : Nat} (hx : x < n) (hy : y < n) : ((s.split b).2.I x = (s.split b).2.I y) ↔ s.I x = s.I y ∧ (s.I x = b → s.marked x = s.marked y) := by
  have ix := (h.in1 x hx).1
  have iy := (h.in1 y hy).1
  rcases ho : (s.split b).1 with _ | k
  · obtain ⟨hi, mv, hm⟩ := split_none h hb ho
    have e : ∀ z, (s.split b).2.I z = s.I z := fun z => by unfold St.I; rw [hi]
    rw [e, e]
    exact ⟨fun hh => ⟨hh, fun hxb => by rw [hm x hx hxb, hm y hy (hh ▸ hxb)]⟩, fun hh => hh.1⟩
  · obtain ⟨rfl, mv, hp⟩ := split_some h hb ho
    have key : ∀ z, z < n → s.I z = b → ((s.split b).2.I z = b ∧ s.marked z = !mv) ∨ ((s.split b).2.I z = s.blocks.length ∧ s.marked z = mv) := fun z hz hzb => by
      rcases split_I h hb hz with e | ⟨_, e⟩
      · rw [hzb] at e; exact .inl ⟨e, hp.old z hz e⟩
      · exact .inr ⟨e, hp.new z hz e⟩
    have other : ∀ z, z < n → s.I z ≠ b → (s.split b).2.I z = s.I z := fun z hz hzb => by
      rcases split_I h hb hz with e | ⟨e, _⟩
      · exact e
      · exact absurd e hzb
    by_cases hxb : s.I x = b
    · by_cases hyb : s.I y = b
      · rcases key x hx hxb with ⟨e1, m1⟩ | ⟨e1, m1⟩ <;> rcases key y hy hyb with ⟨e2, m2⟩ | ⟨e2, m2⟩ <;> rw [e1, e2, m1, m2, hxb, hyb] <;> cases mv <;> simp <;> omega
      · rw [other y hy hyb]
        constructor
        · intro hh
          rcases key x hx hxb with ⟨e1, _⟩ | ⟨e1, _⟩ <;> rw [e1] at hh
          · exact absurd hh.symm hyb
          · omega
        · intro hh; exact absurd (hh.1.symm.trans hxb) hyb
    · by_cases hyb : s.I y = b
      · rw [other x hx hxb]
        constructor
        · intro hh
          rcases key y hy hyb with ⟨e1, _⟩ | ⟨e1, _⟩ <;> rw [e1] at hh
          · exact absurd hh hxb
          · omega
        · intro hh; exact absurd (hh.1.trans hyb) hxb
      · rw [other x hx hxb, other y hy hyb]
        exact ⟨fun hh => ⟨hh, fun e => absurd e hxb⟩, fun hh => hh.1⟩

/-- All elements of a list are marked. -/
def St.markAll (s : St) (l : List Nat) : St := l.foldl (fun s e => (s.mark e).2) s

theorem markAll_snoc (s : St) (l : List Nat) (e : Nat) : s.markAll (l ++ [e]) = ((s.markAll l).mark e).2 := by simp [St.markAll]

/-- What stands while a list is marked. -/
structure MarkSt (s0 s : St) (n : Nat) (L : Nat → Prop) : Prop where
  inv : Inv s n
  inn : s.inn = s0.inn
  len : s.blocks.length = s0.blocks.length
  mks : ∀ x, x < n → (s.marked x = true ↔ L x)

theorem MarkSt.start {s : St} {n : Nat} (h : Inv s n) (h0 : ∀ x, x < n → s.marked x = false) : MarkSt s s n (fun _ => False) := ⟨h, rfl, rfl, fun x hx => by rw [h0 x hx]; simp⟩

theorem MarkSt.step {s0 s : St} {n e : Nat} {L : Nat → Prop} (h : MarkSt s0 s n L) (he : e < n) : MarkSt s0 (s.mark e).2 n (fun x => L x ∨ x = e) :=
  ⟨mark_inv h.inv he, (mark_inn s e).1.trans h.inn, (mark_inn s e).2.trans h.len, fun x hx => by
    rw [mark_marked h.inv he x hx, Bool.or_eq_true, h.mks x hx, decide_eq_true_eq]; exact Or.comm⟩

theorem MarkSt.congr {s0 s : St} {n : Nat} {L L' : Nat → Prop} (h : MarkSt s0 s n L) (hl : ∀ x, x < n → (L x ↔ L' x)) : MarkSt s0 s n L' := ⟨h.inv, h.inn, h.len, fun x hx => (h.mks x hx).trans (hl x hx)⟩

/-- What stands while the blocks of a list are split: s0 is the state that was marked, P are the blocks that were split. -/
structure SplitSt (s0 s : St) (n : Nat) (P : Nat → Prop) : Prop where
  inv : Inv s n
  len : s0.blocks.length ≤ s.blocks.length
  mks : ∀ x, x < n → (s.marked x = true ↔ s0.marked x = true ∧ ¬ P (s0.I x))
  eq : ∀ x y, x < n → y < n → (s.I x = s.I y ↔ s0.I x = s0.I y ∧ (P (s0.I x) → s0.marked x = s0.marked y))
  old : ∀ x, x < n → s.I x = s0.I x ∨ (P (s0.I x) ∧ s0.blocks.length ≤ s.I x)

theorem SplitSt.start {s : St} {n : Nat} (h : Inv s n) : SplitSt s s n (fun _ => False) :=
  ⟨h, Nat.le_refl _, fun x hx => by simp, fun x y hx hy => by simp, fun x hx => .inl rfl⟩

theorem SplitSt.step {s0 s : St} {n b : Nat} {P : Nat → Prop} (h : SplitSt s0 s n P) (h0 : Inv s0 n) (hb : b < s0.blocks.length) (hP : ¬ P b) : SplitSt s0 (s.split b).2 n (fun x => P x ∨ x = b) := by
  have hbs : b < s.blocks.length := Nat.lt_of_lt_of_le hb h.len
  have hin : ∀ x, x < n → (s.I x = b ↔ s0.I x = b) := fun x hx => by
    constructor
    · intro e
      rcases h.old x hx with e1 | ⟨_, e1⟩
      · exact e1.symm.trans e
      · omega
    · intro e
      rcases h.old x hx with e1 | ⟨e1, _⟩
      · exact e1.trans e
      · rw [e] at e1; exact absurd e1 hP
  refine ⟨split_inv h.inv hbs, Nat.le_trans h.len (split_len s b), fun x hx => ?_, fun x y hx hy => ?_, fun x hx => ?_⟩
  · rw [split_marked h.inv hbs x hx, Bool.and_eq_true, h.mks x hx, decide_eq_true_eq, Ne, hin x hx]
    constructor
    · rintro ⟨⟨a, b1⟩, c⟩; exact ⟨a, fun hh => hh.elim b1 c⟩
    · rintro ⟨a, b1⟩; exact ⟨⟨a, fun hh => b1 (.inl hh)⟩, fun hh => b1 (.inr hh)⟩
  · rw [split_eq h.inv hbs hx hy, h.eq x y hx hy, hin x hx]
    constructor
    · rintro ⟨⟨e, hm⟩, hm2⟩
      refine ⟨e, fun hh => ?_⟩
      rcases hh with hh | hh
      · exact hm hh
      · have hnx : ¬ P (s0.I x) := by rw [hh]; exact hP
        have m2 := hm2 hh
        have ex := h.mks x hx
        have ey := h.mks y hy
        rw [← e] at ey
        apply bool_ext
        rw [m2] at ex
        constructor
        · intro hq; exact (ey.1 (ex.2 ⟨hq, hnx⟩)).1
        · intro hq; exact (ex.1 (ey.2 ⟨hq, hnx⟩)).1
    · rintro ⟨e, hm⟩
      refine ⟨⟨e, fun hh => hm (.inl hh)⟩, fun hh => ?_⟩
      have := hm (.inr hh)
      apply bool_ext
      rw [h.mks x hx, h.mks y hy, this, e]
  · rcases split_I h.inv hbs hx with e | ⟨e1, e2⟩
    · rw [e]
      rcases h.old x hx with e3 | ⟨e3, e4⟩
      · exact .inl e3
      · exact .inr ⟨.inl e3, e4⟩
    · right
      refine ⟨.inr ((hin x hx).1 e1), by rw [e2]; exact h.len⟩

theorem SplitSt.congr {s0 s : St} {n : Nat} {P P' : Nat → Prop} (h : SplitSt s0 s n P) (hp : ∀ b, P b ↔ P' b) : SplitSt s0 s n P' := by
  have e : P = P' := funext fun b => propext (hp b)
  rw [← e]; exact h

/-- All blocks with a mark were split: the marks are gone, and the blocks are parted by the list that was marked. -/
theorem split_all {s0 s1 s2 : St} {n : Nat} {L P : Nat → Prop} (h1 : MarkSt s0 s1 n L) (h2 : SplitSt s1 s2 n P) (hP : ∀ x, x < n → s1.marked x = true → P (s1.I x)) :
    Inv s2 n ∧ (∀ x, x < n → s2.marked x = false) ∧ ∀ x y, x < n → y < n → (s2.I x = s2.I y ↔ s0.I x = s0.I y ∧ (L x ↔ L y)) := by
  have e : ∀ x, s1.I x = s0.I x := fun x => by unfold St.I; rw [h1.inn]
  refine ⟨h2.inv, fun x hx => ?_, fun x y hx hy => ?_⟩
  · rcases hm : s2.marked x with _ | _
    · rfl
    · obtain ⟨a, b⟩ := (h2.mks x hx).1 hm
      exact absurd (hP x hx a) b
  · rw [h2.eq x y hx hy, e, e]
    constructor
    · rintro ⟨a, b⟩
      refine ⟨a, ?_⟩
      rw [← h1.mks x hx, ← h1.mks y hy]
      by_cases hp : P (s0.I x)
      · rw [b hp]
      · have nx : ¬ s1.marked x = true := fun hh => hp (by have := hP x hx hh; rwa [e] at this)
        have ny : ¬ s1.marked y = true := fun hh => hp (by have := hP y hy hh; rw [e, ← a] at this; exact this)
        exact ⟨fun hh => absurd hh nx, fun hh => absurd hh ny⟩
    · rintro ⟨a, b⟩
      refine ⟨a, fun _ => ?_⟩
      apply bool_ext
      rw [h1.mks x hx, h1.mks y hy]; exact b

end Go.Proofs.YtkcdkfkgjjpaaaaGreatDoor.Rf
