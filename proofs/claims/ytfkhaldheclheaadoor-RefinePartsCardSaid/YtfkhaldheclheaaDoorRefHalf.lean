/- The plain law behind the partition of package refine: a list model of its elements, places, classes and blocks, the invariant that every call keeps, and what a mark and a split do. No program in sight. The plain law behind the play of a script on a partition: the invariant is kept; the blocks part the elements; a block in order. No program in sight. The plain law behind RefineHalves: the marks, and what a split parts. No program in sight. -/


namespace Go.Proofs.YtfkhaldheclheaaDoor.Rf

/-- The partition's state: the elements block by block, where each stands, the block of each, and of each block where it begins, where it ends, how many of it are marked. -/
structure St where
  elems : List Nat
  place : List Nat
  inn : List Nat
  blocks : List (Nat × Nat × Nat)

def St.E (s : St) (i : Nat) : Nat := s.elems.getD i 0
def St.P (s : St) (e : Nat) : Nat := s.place.getD e 0
def St.I (s : St) (e : Nat) : Nat := s.inn.getD e 0
def St.F (s : St) (b : Nat) : Nat := (s.blocks.getD b (0, 0, 0)).1
def St.T (s : St) (b : Nat) : Nat := (s.blocks.getD b (0, 0, 0)).2.1
def St.M (s : St) (b : Nat) : Nat := (s.blocks.getD b (0, 0, 0)).2.2

theorem getD_set {α : Type} (l : List α) (i j : Nat) (v d : α) : (l.set i v).getD j d = if i = j ∧ i < l.length then v else l.getD j d := by
  simp only [List.getD, List.getElem?_set]
  by_cases h : i = j
  · subst h
    by_cases h2 : i < l.length
    · simp [h2]
    · simp [h2]
  · simp [h]

theorem getD_append_one {α : Type} (l : List α) (j : Nat) (v d : α) : (l ++ [v]).getD j d = if j = l.length then v else l.getD j d := by
  simp only [List.getD, List.getElem?_append]
  by_cases h : j < l.length
  · simp [h, show ¬ j = l.length by omega]
  · by_cases h2 : j = l.length
    · subst h2; simp
    · simp [h, h2, show ¬ j - l.length = 0 by omega]

/-- The exchange of two elements, and of their places. -/
def St.swap (s : St) (i k : Nat) : St :=
  { s with elems := (s.elems.set i (s.E k)).set k (s.E i), place := (s.place.set (s.E k) i).set (s.E i) k }

def St.markIn (s : St) (b : Nat) : St := { s with blocks := s.blocks.set b (s.F b, s.T b, s.M b + 1) }

/-- Mark of an element that is there. -/
def St.mark (s : St) (e : Nat) : Bool × St :=
  if s.P e < s.F (s.I e) + s.M (s.I e) then (false, s) else (true, (s.swap (s.P e) (s.F (s.I e) + s.M (s.I e))).markIn (s.I e))

def setAll (l : List Nat) (es : List Nat) (v : Nat) : List Nat := es.foldl (fun a e => a.set e v) l

/-- A block is cut in two: the elements of lo to hi become the new block. -/
def St.cut (s : St) (b lo hi lo' hi' : Nat) : St :=
  { s with blocks := s.blocks.set b (lo', hi', 0) ++ [(lo, hi, 0)], inn := setAll s.inn ((s.elems.take hi).drop lo) s.blocks.length }

def St.bare (s : St) (b : Nat) : St := { s with blocks := s.blocks.set b (s.F b, s.T b, 0) }

/-- Split of a block that is there: the number of the new block, if there is one. -/
def St.split (s : St) (b : Nat) : Option Nat × St :=
  if s.M b = 0 ∨ s.T b - s.F b - s.M b = 0 then (none, s.bare b)
  else if s.M b ≤ s.T b - s.F b - s.M b then (some s.blocks.length, s.cut b (s.F b) (s.F b + s.M b) (s.F b + s.M b) (s.T b))
  else (some s.blocks.length, s.cut b (s.F b + s.M b) (s.T b) (s.F b) (s.F b + s.M b))

/-- The invariant of a partition of n elements. -/
structure Inv (s : St) (n : Nat) : Prop where
  le : s.elems.length = n
  lp : s.place.length = n
  li : s.inn.length = n
  e1 : ∀ i, i < n → s.E i < n ∧ s.P (s.E i) = i
  p1 : ∀ e, e < n → s.P e < n ∧ s.E (s.P e) = e
  in1 : ∀ e, e < n → s.I e < s.blocks.length ∧ s.F (s.I e) ≤ s.P e ∧ s.P e < s.T (s.I e)
  b1 : ∀ b, b < s.blocks.length → s.F b < s.T b ∧ s.T b ≤ n ∧ s.F b + s.M b ≤ s.T b
  in2 : ∀ b, b < s.blocks.length → ∀ i, s.F b ≤ i → i < s.T b → s.I (s.E i) = b

/-- Is an element marked? -/
def St.marked (s : St) (e : Nat) : Bool := decide (s.P e < s.F (s.I e) + s.M (s.I e))

theorem swap_E (s : St) (n i k j : Nat) (h : Inv s n) (hi : i < n) (hk : k < n) : (s.swap i k).E j = if j = k then s.E i else if j = i then s.E k else s.E j := by
  have hl := h.le
  simp only [St.swap, St.E, getD_set, List.length_set, hl]
  grind

theorem swap_P (s : St) (n i k e : Nat) (h : Inv s n) (hi : i < n) (hk : k < n) : (s.swap i k).P e = if e = s.E i then k else if e = s.E k then i else s.P e := by
  have hl := h.lp
  have h1 := (h.e1 i hi).1
  have h2 := (h.e1 k hk).1
  simp only [St.swap, St.P, getD_set, List.length_set, hl]
  grind

theorem E_inj {s : St} {n i j : Nat} (h : Inv s n) (hi : i < n) (hj : j < n) (e : s.E i = s.E j) : i = j := by
  rw [← (h.e1 i hi).2, ← (h.e1 j hj).2, e]

theorem markIn_I (s : St) (b e : Nat) : (s.markIn b).I e = s.I e := rfl
theorem markIn_E (s : St) (b e : Nat) : (s.markIn b).E e = s.E e := rfl
theorem markIn_P (s : St) (b e : Nat) : (s.markIn b).P e = s.P e := rfl
theorem markIn_F (s : St) (b c : Nat) : (s.markIn b).F c = s.F c := by
  simp only [St.markIn, St.F, getD_set]; split
  · rename_i h; rw [h.1]
  · rfl
theorem markIn_T (s : St) (b c : Nat) : (s.markIn b).T c = s.T c := by
  simp only [St.markIn, St.T, getD_set]; split
  · rename_i h; rw [h.1]
  · rfl
theorem markIn_M (s : St) (b c : Nat) (hb : b < s.blocks.length) : (s.markIn b).M c = if c = b then s.M b + 1 else s.M c := by
  simp only [St.markIn, St.M, getD_set]
  grind
theorem markIn_len (s : St) (b : Nat) : (s.markIn b).blocks.length = s.blocks.length := by simp [St.markIn]

theorem swap_inv {s : St} {n i k : Nat} (h : Inv s n) (hi : i < n) (hk : k < n) (hb : s.I (s.E i) = s.I (s.E k)) : Inv (s.swap i k) n := by
  have hE := fun j => swap_E s n i k j h hi hk
  have hP := fun e => swap_P s n i k e h hi hk
  have hI : ∀ e, (s.swap i k).I e = s.I e := fun _ => rfl
  have hF : ∀ e, (s.swap i k).F e = s.F e := fun _ => rfl
  have hT : ∀ e, (s.swap i k).T e = s.T e := fun _ => rfl
  have hM : ∀ e, (s.swap i k).M e = s.M e := fun _ => rfl
  have hB : (s.swap i k).blocks.length = s.blocks.length := rfl
  have ei := h.e1 i hi
  have ek := h.e1 k hk
  have i1 := h.in1 (s.E i) ei.1
  have k1 := h.in1 (s.E k) ek.1
  rw [ei.2] at i1
  rw [ek.2] at k1
  constructor
  · simp [St.swap, h.le]
  · simp [St.swap, h.lp]
  · exact h.li
  · intro j hj
    have ej := h.e1 j hj
    rw [hE, hP]
    by_cases g1 : j = k
    · subst g1; simp [ei.1]
    · by_cases g2 : j = i
      · subst g2
        simp only [g1, if_false, if_true, ek.1, true_and]
        split
        · rename_i g3; exact (E_inj h hk hi g3)
        · rfl
      · simp only [g1, g2, if_false, ej.1, true_and]
        rw [if_neg (fun g3 => g2 (E_inj h hj hi g3)), if_neg (fun g3 => g1 (E_inj h hj hk g3))]
        exact ej.2
  · intro e he
    have pe := h.p1 e he
    rw [hP]
    by_cases g1 : e = s.E i
    · subst g1; simp [hE, hk]
    · by_cases g2 : e = s.E k
      · subst g2
        simp only [g1, if_false, if_true, hi, true_and, hE]
        split
        · rename_i g3; rw [g3]
        · rfl
      · simp only [g1, g2, if_false, pe.1, true_and, hE]
        rw [if_neg (fun g3 => g2 (by rw [← g3]; exact pe.2.symm)), if_neg (fun g3 => g1 (by rw [← g3]; exact pe.2.symm))]
        exact pe.2
  · intro e he
    have oe := h.in1 e he
    rw [hI, hF, hT, hP, hB]
    refine ⟨oe.1, ?_⟩
    by_cases g1 : e = s.E i
    · subst g1; rw [if_pos rfl, hb]; exact k1.2
    · by_cases g2 : e = s.E k
      · subst g2; rw [if_neg g1, if_pos rfl, ← hb]; exact i1.2
      · rw [if_neg g1, if_neg g2]; exact oe.2
  · exact h.b1
  · intro b hb' j hj1 hj2
    rw [hF] at hj1
    rw [hT] at hj2
    rw [hI, hE]
    have tb := h.b1 b hb'
    by_cases g1 : j = k
    · subst g1; rw [if_pos rfl, hb]; exact h.in2 b hb' j hj1 hj2
    · by_cases g2 : j = i
      · subst g2; rw [if_neg g1, if_pos rfl, ← hb]; exact h.in2 b hb' j hj1 hj2
      · rw [if_neg g1, if_neg g2]; exact h.in2 b hb' j hj1 hj2

theorem markIn_inv {s : St} {n b : Nat} (h : Inv s n) (hb : b < s.blocks.length) (hm : s.F b + s.M b < s.T b) : Inv (s.markIn b) n := by
  constructor
  · exact h.le
  · exact h.lp
  · exact h.li
  · exact h.e1
  · exact h.p1
  · intro e he
    rw [markIn_I, markIn_F, markIn_T, markIn_P, markIn_len]
    exact h.in1 e he
  · intro c hc
    rw [markIn_len] at hc
    rw [markIn_F, markIn_T, markIn_M _ _ _ hb]
    have := h.b1 c hc
    split
    · rename_i g; subst g; omega
    · exact this
  · intro c hc j h1 h2
    rw [markIn_len] at hc
    rw [markIn_F] at h1
    rw [markIn_T] at h2
    rw [markIn_I, markIn_E]
    exact h.in2 c hc j h1 h2

/-- What a mark keeps. -/
theorem mark_inv {s : St} {n e : Nat} (h : Inv s n) (he : e < n) : Inv (s.mark e).2 n := by
  unfold St.mark
  split
  · exact h
  · rename_i hm
    have o := h.in1 e he
    have bb := h.b1 _ o.1
    have pe := h.p1 e he
    have hk : s.F (s.I e) + s.M (s.I e) < n := by omega
    have hsame : s.I (s.E (s.P e)) = s.I (s.E (s.F (s.I e) + s.M (s.I e))) := by
      rw [pe.2, h.in2 (s.I e) o.1 _ (by omega) (by omega)]
    have hs := swap_inv h pe.1 hk hsame
    exact markIn_inv (b := s.I e) hs o.1 (show s.F (s.I e) + s.M (s.I e) < s.T (s.I e) by omega)

theorem setAll_len (es : List Nat) (v : Nat) : ∀ l : List Nat, (setAll l es v).length = l.length := by
  induction es with
  | nil => intro l; rfl
  | cons e es ih => intro l; simp only [setAll, List.foldl_cons]; exact (ih _).trans (List.length_set ..)

theorem setAll_getD (es : List Nat) (v j d : Nat) : ∀ l : List Nat, (setAll l es v).getD j d = if j ∈ es ∧ j < l.length then v else l.getD j d := by
  induction es with
  | nil => intro l; simp [setAll]
  | cons e es ih =>
    intro l
    have := ih (l.set e v)
    simp only [setAll, List.foldl_cons] at this ⊢
    rw [this, getD_set, List.length_set]
    simp only [List.mem_cons]
    grind

theorem mem_range {s : St} {n lo hi e : Nat} (h : Inv s n) (hhi : hi ≤ n) (he : e < n) : e ∈ (s.elems.take hi).drop lo ↔ lo ≤ s.P e ∧ s.P e < hi := by
  have hl := h.le
  have pe := h.p1 e he
  constructor
  · intro hm
    obtain ⟨j, hj, hje⟩ := List.mem_iff_getElem.1 hm
    simp only [List.length_drop, List.length_take] at hj
    rw [List.getElem_drop, List.getElem_take] at hje
    have hlt : lo + j < n := by omega
    have hE : s.E (lo + j) = e := by
      rw [← hje]
      simp only [St.E, List.getD]
      rw [List.getElem?_eq_getElem (by omega)]
      rfl
    have := (h.e1 (lo + j) hlt).2
    rw [hE] at this
    omega
  · intro hp
    refine List.mem_iff_getElem.2 ⟨s.P e - lo, ?_, ?_⟩
    · simp only [List.length_drop, List.length_take]; omega
    · rw [List.getElem_drop, List.getElem_take]
      have := pe.2
      simp only [St.E, List.getD] at this
      rw [List.getElem?_eq_getElem (by omega)] at this
      simp only [Option.getD_some] at this
      simp only [show lo + (s.P e - lo) = s.P e by omega]
      exact this

theorem cut_inv {s : St} {n b lo hi lo' hi' : Nat} (h : Inv s n) (hb : b < s.blocks.length) (h1 : lo < hi) (h2 : lo' < hi')
    (hc : (lo = s.F b ∧ hi = lo' ∧ hi' = s.T b) ∨ (lo' = s.F b ∧ hi' = lo ∧ hi = s.T b)) : Inv (s.cut b lo hi lo' hi') n ∧
    (∀ e, e < n → (s.cut b lo hi lo' hi').I e = if lo ≤ s.P e ∧ s.P e < hi then s.blocks.length else s.I e) := by
  have bb := h.b1 b hb
  have hlen : (s.cut b lo hi lo' hi').blocks.length = s.blocks.length + 1 := by simp [St.cut]
  have hget : ∀ c, (s.cut b lo hi lo' hi').blocks.getD c (0, 0, 0) = if c = s.blocks.length then (lo, hi, 0) else if c = b then (lo', hi', 0) else s.blocks.getD c (0, 0, 0) := by
    intro c
    simp only [St.cut, getD_append_one, getD_set, List.length_set]
    grind
  have hI : ∀ e, e < n → (s.cut b lo hi lo' hi').I e = if lo ≤ s.P e ∧ s.P e < hi then s.blocks.length else s.I e := by
    intro e he
    have hl := h.li
    have hm := mem_range (lo := lo) (hi := hi) h (by omega) he
    simp only [St.I, St.cut, setAll_getD, hm]
    grind
  refine ⟨?_, hI⟩
  have hE : ∀ e, (s.cut b lo hi lo' hi').E e = s.E e := fun _ => rfl
  have hP : ∀ e, (s.cut b lo hi lo' hi').P e = s.P e := fun _ => rfl
  constructor
  · exact h.le
  · exact h.lp
  · simp only [St.cut, setAll_len]; exact h.li
  · exact h.e1
  · exact h.p1
  · intro e he
    have o := h.in1 e he
    rw [hI e he, hP, hlen]
    simp only [St.F, St.T, hget]
    by_cases g : lo ≤ s.P e ∧ s.P e < hi
    · simp only [g, and_self, if_true]
      exact ⟨by omega, trivial⟩
    · rw [if_neg g]
      have hne : s.I e ≠ s.blocks.length := by omega
      simp only [hne, if_false]
      by_cases g2 : s.I e = b
      · simp only [g2, if_true]; rw [g2] at o; omega
      · simp only [g2, if_false]; exact ⟨by omega, o.2⟩
  · intro c hc'
    rw [hlen] at hc'
    simp only [St.F, St.T, St.M, hget]
    by_cases g : c = s.blocks.length
    · simp only [g, if_true]; omega
    · simp only [g, if_false]
      by_cases g2 : c = b
      · simp only [g2, if_true]; omega
      · simp only [g2, if_false]; exact h.b1 c (by omega)
  · intro c hc' j hj1 hj2
    rw [hlen] at hc'
    rw [hE]
    simp only [St.F, hget] at hj1
    simp only [St.T, hget] at hj2
    by_cases g : c = s.blocks.length
    · simp only [g, if_true] at hj1 hj2 ⊢
      have ej := h.e1 j (by omega)
      rw [hI _ ej.1, ej.2, if_pos ⟨hj1, hj2⟩]
    · simp only [g, if_false] at hj1 hj2
      by_cases g2 : c = b
      · simp only [g2, if_true] at hj1 hj2
        have ej := h.e1 j (by omega)
        rw [hI _ ej.1, ej.2, if_neg (by omega), g2]
        exact h.in2 b hb j (by omega) (by omega)
      · simp only [g2, if_false] at hj1 hj2
        have hc2 : c < s.blocks.length := by omega
        have bc := h.b1 c hc2
        have hj3 : j < n := by have h3 : j < s.T c := hj2; omega
        have ej := h.e1 j hj3
        have ic := h.in2 c hc2 j hj1 hj2
        rw [hI _ ej.1, ej.2, if_neg ?_]
        · exact ic
        · intro hx
          have ib := h.in2 b hb j (by omega) (by omega)
          exact g2 (ic.symm.trans ib)

theorem bare_inv {s : St} {n b : Nat} (h : Inv s n) : Inv (s.bare b) n ∧ (∀ c, (s.bare b).F c = s.F c) ∧ (∀ c, (s.bare b).T c = s.T c) := by
  have hF : ∀ c, (s.bare b).F c = s.F c := by intro c; simp only [St.bare, St.F, getD_set]; grind
  have hT : ∀ c, (s.bare b).T c = s.T c := by intro c; simp only [St.bare, St.T, getD_set]; grind
  have hM : ∀ c, (s.bare b).M c ≤ s.M c := by intro c; simp only [St.bare, St.M, getD_set]; grind
  have hlen : (s.bare b).blocks.length = s.blocks.length := by simp [St.bare]
  refine ⟨⟨h.le, h.lp, h.li, h.e1, h.p1, ?_, ?_, ?_⟩, hF, hT⟩
  · intro e he; have := h.in1 e he; rw [hlen, hF, hT]; exact this
  · intro c hc; rw [hlen] at hc; have := h.b1 c hc; have := hM c; rw [hF, hT]; omega
  · intro c hc j h1 h2; rw [hlen] at hc; rw [hF] at h1; rw [hT] at h2; exact h.in2 c hc j h1 h2

theorem split_inv {s : St} {n b : Nat} (h : Inv s n) (hb : b < s.blocks.length) : Inv (s.split b).2 n := by
  unfold St.split
  have bb := h.b1 b hb
  split
  · exact (bare_inv h).1
  · split
    · exact (cut_inv h hb (by omega) (by omega) (.inl ⟨rfl, rfl, rfl⟩)).1
    · exact (cut_inv h hb (by omega) (by omega) (.inr ⟨rfl, rfl, rfl⟩)).1

end Go.Proofs.YtfkhaldheclheaaDoor.Rf

namespace Go.Proofs.YtfkhaldheclheaaDoor.Rf

/-- One op of a script: 1 marks, any other number splits; of what is not there nothing becomes. -/
def St.step (s : St) (n : Nat) (o : Int × Int) : St :=
  if o.1 = 1 then (if 0 ≤ o.2 ∧ o.2 < (n : Int) then (s.mark o.2.toNat).2 else s)
  else (if 0 ≤ o.2 ∧ o.2 < (s.blocks.length : Int) then (s.split o.2.toNat).2 else s)

theorem step_inv {s : St} {n : Nat} (h : Inv s n) (o : Int × Int) : Inv (s.step n o) n := by
  unfold St.step
  split
  · split
    · exact mark_inv h (by omega)
    · exact h
  · split
    · exact split_inv h (by omega)
    · exact h

def St.play (s : St) (n : Nat) (l : List (Int × Int)) : St := l.foldl (fun s o => s.step n o) s

theorem play_inv {n : Nat} (l : List (Int × Int)) : ∀ {s : St}, Inv s n → Inv (s.play n l) n := by
  induction l with
  | nil => intro s h; exact h
  | cons o l ih => intro s h; exact ih (step_inv h o)

theorem play_snoc (s : St) (n : Nat) (l : List (Int × Int)) (o : Int × Int) : s.play n (l ++ [o]) = (s.play n l).step n o := by
  simp [St.play, List.foldl_append]

theorem step_blocks_le {s : St} {n : Nat} (o : Int × Int) : (s.step n o).blocks.length ≤ s.blocks.length + 1 := by
  unfold St.step
  split
  · split
    · unfold St.mark; split
      · simp
      · rw [markIn_len]; simp [St.swap]
    · simp
  · split
    · unfold St.split; split
      · simp [St.bare]
      · split <;> simp [St.cut]
    · simp

/-- How many elements the blocks below b have together. -/
def St.tot (s : St) : Nat → Nat
  | 0 => 0
  | b + 1 => s.tot b + (s.T b - s.F b)

theorem countP_below (f : Nat → Nat) (l : List Nat) (m : Nat) : l.countP (fun i => f i < m + 1) = l.countP (fun i => f i < m) + l.countP (fun i => f i = m) := by
  induction l with
  | nil => rfl
  | cons x l ih =>
    simp only [List.countP_cons, ih]
    by_cases h1 : f x < m
    · have : f x < m + 1 := by omega
      have : ¬ f x = m := by omega
      simp [*]; omega
    · by_cases h2 : f x = m
      · simp [h2]; omega
      · have : ¬ f x < m + 1 := by omega
        simp [*]

theorem countP_range (a b : Nat) : ∀ n, a ≤ b → b ≤ n → (List.range n).countP (fun i => decide (a ≤ i ∧ i < b)) = b - a := by
  intro n
  induction n generalizing b with
  | zero => intro h1 h2; simp; omega
  | succ n ih =>
    intro h1 h2
    rw [List.range_succ, List.countP_append]
    by_cases h : b ≤ n
    · rw [ih b h1 h]
      simp; omega
    · obtain rfl : b = n + 1 := by omega
      by_cases ha : a ≤ n
      · have := ih n ha (Nat.le_refl _)
        have e : (List.range n).countP (fun i => decide (a ≤ i ∧ i < n + 1)) = (List.range n).countP (fun i => decide (a ≤ i ∧ i < n)) := by
          apply List.countP_congr
          intro i hi
          have := List.mem_range.1 hi
          simp; omega
        rw [e, this]
        simp [ha]; omega
      · obtain rfl : a = n + 1 := by omega
        have e : (List.range n).countP (fun i => decide (n + 1 ≤ i ∧ i < n + 1)) = 0 := by
          rw [List.countP_eq_zero]; intro i hi; simp
        rw [e]; simp

theorem size_count {s : St} {n b : Nat} (h : Inv s n) (hb : b < s.blocks.length) : (List.range n).countP (fun i => s.I (s.E i) = b) = s.T b - s.F b := by
  have bb := h.b1 b hb
  rw [← countP_range (s.F b) (s.T b) n (by omega) bb.2.1]
  apply List.countP_congr
  intro i hi
  have hi := List.mem_range.1 hi
  simp only [decide_eq_true_eq]
  constructor
  · intro e
    have ei := h.e1 i hi
    have oi := h.in1 _ ei.1
    rw [ei.2, e] at oi
    exact oi.2
  · intro hx
    exact h.in2 b hb i hx.1 hx.2

theorem tot_count {s : St} {n : Nat} (h : Inv s n) : ∀ b, b ≤ s.blocks.length → s.tot b = (List.range n).countP (fun i => s.I (s.E i) < b) := by
  intro b
  induction b with
  | zero => intro _; simp [St.tot]
  | succ b ih =>
    intro hb
    rw [St.tot, ih (by omega), countP_below (fun i => s.I (s.E i)), size_count h (by omega)]

theorem tot_all {s : St} {n : Nat} (h : Inv s n) : s.tot s.blocks.length = n := by
  rw [tot_count h _ (Nat.le_refl _), List.countP_eq_length.2, List.length_range]
  intro i hi
  have := (h.in1 _ (h.e1 i (List.mem_range.1 hi)).1).1
  simpa using this

theorem tot_le {s : St} {n : Nat} (h : Inv s n) (b : Nat) (hb : b ≤ s.blocks.length) : s.tot b ≤ n := by
  rw [tot_count h _ hb]
  have := List.countP_le_length (p := fun i => decide (s.I (s.E i) < b)) (l := List.range n)
  rwa [List.length_range] at this

theorem blocks_le {s : St} {n : Nat} (h : Inv s n) : s.blocks.length ≤ n := by
  have : ∀ b, b ≤ s.blocks.length → b ≤ s.tot b := by
    intro b
    induction b with
    | zero => intro _; simp [St.tot]
    | succ b ih => intro hb; have := ih (by omega); have := (h.b1 b (by omega)).1; rw [St.tot]; omega
  have h1 := this _ (Nat.le_refl _)
  rw [tot_all h] at h1; exact h1

/-- A block's elements, where they stand. -/
def St.row (s : St) (b : Nat) : List Nat := (s.elems.take (s.T b)).drop (s.F b)

theorem row_len {s : St} {n b : Nat} (hI : Inv s n) (hb : b < s.blocks.length) : (s.row b).length = s.T b - s.F b := by
  have := hI.b1 b hb
  simp only [St.row, List.length_drop, List.length_take, hI.le]; omega

theorem row_get {s : St} {n b j : Nat} (hI : Inv s n) (hb : b < s.blocks.length) (hj : j < (s.row b).length) : (s.row b)[j] = s.E (s.F b + j) := by
  have := hI.b1 b hb
  have hl := row_len hI hb
  simp only [St.row, List.getElem_drop, List.getElem_take, St.E, List.getD]
  rw [List.getElem?_eq_getElem (by rw [hI.le]; omega)]
  rfl

/-- The same in order, as the program has them. -/
def St.mem (s : St) (b : Nat) : List Int := ((s.row b).map Int.ofNat).mergeSort fun x y => decide (x ≤ y)

theorem mem_len {s : St} {n b : Nat} (hI : Inv s n) (hb : b < s.blocks.length) : (s.mem b).length = s.T b - s.F b := by
  simp only [St.mem, List.length_mergeSort, List.length_map, row_len hI hb]

theorem mem_row {s : St} {n b e : Nat} (hI : Inv s n) (hb : b < s.blocks.length) : e ∈ s.row b ↔ e < n ∧ s.I e = b := by
  have bb := hI.b1 b hb
  constructor
  · intro h
    obtain ⟨j, hj, rfl⟩ := List.mem_iff_getElem.1 h
    have hl := row_len hI hb
    rw [row_get hI hb hj]
    exact ⟨(hI.e1 _ (by omega)).1, hI.in2 b hb _ (by omega) (by omega)⟩
  · rintro ⟨he, hi⟩
    have := hI.in1 e he
    rw [hi] at this
    exact (mem_range hI bb.2.1 he).2 this.2

theorem mem_mem {s : St} {n b : Nat} {x : Int} (hI : Inv s n) (hb : b < s.blocks.length) : x ∈ s.mem b ↔ ∃ e : Nat, x = e ∧ e < n ∧ s.I e = b := by
  rw [St.mem, List.mem_mergeSort, List.mem_map]
  constructor
  · rintro ⟨e, he, rfl⟩
    exact ⟨e, rfl, (mem_row hI hb).1 he⟩
  · rintro ⟨e, rfl, h⟩
    exact ⟨e, (mem_row hI hb).2 h, rfl⟩

theorem row_nodup {s : St} {n b : Nat} (hI : Inv s n) (hb : b < s.blocks.length) : (s.row b).Nodup := by
  have bb := hI.b1 b hb
  have hl := row_len hI hb
  refine List.pairwise_iff_getElem.2 ?_
  intro i j hi hj hij
  rw [row_get hI hb hi, row_get hI hb hj]
  intro e
  have := E_inj hI (by omega) (by omega) e
  omega

theorem mem_sorted {s : St} {n b : Nat} (hI : Inv s n) (hb : b < s.blocks.length) : (s.mem b).Pairwise (· < ·) := by
  have h1 : (s.mem b).Pairwise (fun x y => decide (x ≤ y) = true) := List.pairwise_mergeSort (by intro a b c; simp; omega) (by intro a b; simp; omega) _
  have h2 : (s.mem b).Nodup := by
    rw [St.mem, (List.mergeSort_perm _ _).nodup_iff, List.Nodup, List.pairwise_map]
    exact (row_nodup hI hb).imp (fun h e => h (Int.ofNat.inj e))
  exact (h1.and h2).imp (fun ⟨a, b⟩ => by simp at a; omega)

theorem mem_lt {s : St} {n b k : Nat} (hI : Inv s n) (hb : b < s.blocks.length) (h0 : 0 < k) (hk : k < (s.mem b).length) : (s.mem b).getD (k - 1) 0 < (s.mem b).getD k 0 := by
  have := List.pairwise_iff_getElem.1 (mem_sorted hI hb) (k - 1) k (by omega) hk (by omega)
  simpa [List.getD, hk, show k - 1 < (s.mem b).length by omega] using this

theorem mem_at {s : St} {n b k : Nat} (hI : Inv s n) (hb : b < s.blocks.length) (hk : k < (s.mem b).length) : ∃ e : Nat, (s.mem b).getD k 0 = e ∧ e < n ∧ s.I e = b := by
  have : (s.mem b).getD k 0 ∈ s.mem b := by simp only [List.getD, List.getElem?_eq_getElem hk, Option.getD_some]; exact List.getElem_mem hk
  exact (mem_mem hI hb).1 this

end Go.Proofs.YtfkhaldheclheaaDoor.Rf

namespace Go.Proofs.YtfkhaldheclheaaDoor.Rf

theorem marked_iff (s : St) (x : Nat) : s.marked x = true ↔ s.P x < s.F (s.I x) + s.M (s.I x) := by simp [St.marked]

theorem bool_ext {a b : Bool} (h : a = true ↔ b = true) : a = b := by cases a <;> cases b <;> simp_all

theorem mark_marked {s : St} {n e : Nat} (h : Inv s n) (he : e < n) (x : Nat) (hx : x < n) : (s.mark e).2.marked x = (decide (x = e) || s.marked x) := by
  unfold St.mark
  have oe := h.in1 e he
  have be := h.b1 _ oe.1
  have pe := h.p1 e he
  have ox := h.in1 x hx
  have px := h.p1 x hx
  split
  · rename_i hm
    by_cases g : x = e
    · subst g; simp [marked_iff, hm]
    · simp [g]
  · rename_i hm
    have hk : s.F (s.I e) + s.M (s.I e) < n := by omega
    have hP := swap_P s n (s.P e) (s.F (s.I e) + s.M (s.I e)) x h pe.1 hk
    have hM := markIn_M (s.swap (s.P e) (s.F (s.I e) + s.M (s.I e))) (s.I e) (s.I x) oe.1
    have ek := h.e1 _ hk
    have ik := h.in2 (s.I e) oe.1 (s.F (s.I e) + s.M (s.I e)) (by omega) (by omega)
    have hM2 : (s.swap (s.P e) (s.F (s.I e) + s.M (s.I e))).M = s.M := rfl
    rw [hM2] at hM
    apply bool_ext
    rw [marked_iff, markIn_P, markIn_I, markIn_F]
    show _ < s.F (s.I x) + St.M _ (s.I x) ↔ _
    show (s.swap _ _).P x < s.F (s.I x) + St.M _ (s.I x) ↔ _
    rw [hM, hP, pe.2]
    simp only [Bool.or_eq_true, decide_eq_true_eq, marked_iff]
    by_cases g : x = e
    · subst g; simp
    · simp only [g, if_false, false_or]
      by_cases g2 : x = s.E (s.F (s.I e) + s.M (s.I e))
      · rw [if_pos g2]
        rw [← g2] at ek ik
        rw [ik, if_pos rfl]
        have : s.P e ≠ s.F (s.I e) + s.M (s.I e) := by
          intro hh; rw [← hh, pe.2] at g2; exact g g2
        omega
      · rw [if_neg g2]
        have : s.P x ≠ s.F (s.I e) + s.M (s.I e) := by
          intro hh; rw [← hh, px.2] at g2; exact g2 rfl
        split
        · rename_i g3; rw [g3]; omega
        · exact Iff.rfl

theorem bare_M (s : St) (b c : Nat) (hb : b < s.blocks.length) : (s.bare b).M c = if c = b then 0 else s.M c := by
  simp only [St.bare, St.M, getD_set]; grind

theorem bare_marked {s : St} {n b : Nat} (h : Inv s n) (hb : b < s.blocks.length) (x : Nat) (hx : x < n) : (s.bare b).marked x = (s.marked x && decide (s.I x ≠ b)) := by
  have ox := h.in1 x hx
  apply bool_ext
  simp only [Bool.and_eq_true, decide_eq_true_eq, marked_iff]
  rw [(bare_inv h).2.1]
  show s.P x < s.F (s.I x) + (s.bare b).M (s.I x) ↔ _
  rw [bare_M _ _ _ hb]
  split
  · rename_i g; constructor
    · intro _; omega
    · intro hh; exact absurd g hh.2
  · rename_i g; constructor
    · intro hh; exact ⟨hh, g⟩
    · intro hh; exact hh.1

theorem cut_get {s : St} {b lo hi lo' hi' : Nat} (hb : b < s.blocks.length) (c : Nat) : (s.cut b lo hi lo' hi').blocks.getD c (0, 0, 0) = if c = s.blocks.length then (lo, hi, 0) else if c = b then (lo', hi', 0) else s.blocks.getD c (0, 0, 0) := by
  simp only [St.cut, getD_append_one, getD_set, List.length_set]
  grind

theorem cut_marked {s : St} {n b lo hi lo' hi' : Nat} (h : Inv s n) (hb : b < s.blocks.length) (h1 : lo < hi) (h2 : lo' < hi')
    (hc : (lo = s.F b ∧ hi = lo' ∧ hi' = s.T b) ∨ (lo' = s.F b ∧ hi' = lo ∧ hi = s.T b)) (x : Nat) (hx : x < n) : (s.cut b lo hi lo' hi').marked x = (s.marked x && decide (s.I x ≠ b)) := by
  obtain ⟨hi2, hI⟩ := cut_inv h hb h1 h2 hc
  have ox := h.in1 x hx
  have ox2 := hi2.in1 x hx
  have bb := h.b1 b hb
  have hP : (s.cut b lo hi lo' hi').P x = s.P x := rfl
  apply bool_ext
  simp only [Bool.and_eq_true, decide_eq_true_eq, marked_iff]
  by_cases g : s.I x = b
  · have hM : (s.cut b lo hi lo' hi').M ((s.cut b lo hi lo' hi').I x) = 0 := by
      rw [hI x hx]
      simp only [St.M, cut_get hb]
      repeat' split
      all_goals first | rfl | (exfalso; omega) | contradiction
    rw [hM]
    constructor
    · intro _; omega
    · intro hh; exact absurd g hh.2
  · have hnot : ¬ (lo ≤ s.P x ∧ s.P x < hi) := by
      intro hh
      have hp := h.p1 x hx
      have := h.in2 b hb (s.P x) (by omega) (by omega)
      rw [hp.2] at this; exact g this
    have hI2 : (s.cut b lo hi lo' hi').I x = s.I x := by rw [hI x hx, if_neg hnot]
    rw [hI2, hP]
    simp only [St.M, St.F, cut_get hb]
    rw [if_neg (by omega), if_neg g]
    constructor
    · intro hh; exact ⟨hh, g⟩
    · intro hh; exact hh.1

theorem split_marked {s : St} {n b : Nat} (h : Inv s n) (hb : b < s.blocks.length) (x : Nat) (hx : x < n) : (s.split b).2.marked x = (s.marked x && decide (s.I x ≠ b)) := by
  have bb := h.b1 b hb
  unfold St.split
  split
  · exact bare_marked h hb x hx
  · split
    · exact cut_marked h hb (by omega) (by omega) (.inl ⟨rfl, rfl, rfl⟩) x hx
    · exact cut_marked h hb (by omega) (by omega) (.inr ⟨rfl, rfl, rfl⟩) x hx

/-- A block of which nothing is parted: its elements are all marked, or none is; the blocks stay. -/
theorem split_none {s : St} {n b : Nat} (h : Inv s n) (hb : b < s.blocks.length) (hs : (s.split b).1 = none) :
    (s.split b).2.inn = s.inn ∧ ∃ mv : Bool, ∀ x, x < n → s.I x = b → s.marked x = mv := by
  have bb := h.b1 b hb
  unfold St.split at hs ⊢
  split at hs
  · rename_i hc
    rw [if_pos hc]
    refine ⟨rfl, decide (s.M b ≠ 0), fun x hx hi => ?_⟩
    have ox := h.in1 x hx
    apply bool_ext
    rw [marked_iff]
    rw [hi] at ox ⊢
    simp only [decide_eq_true_eq]
    omega
  · split at hs <;> cases hs

theorem cut_len {s : St} {b lo hi lo' hi' : Nat} : (s.cut b lo hi lo' hi').blocks.length = s.blocks.length + 1 := by simp [St.cut]

/-- A block that is parted. -/
structure Parted (s : St) (n b : Nat) (mv : Bool) : Prop where
  len : (s.split b).2.blocks.length = s.blocks.length + 1
  half : 2 * ((s.split b).2.T s.blocks.length - (s.split b).2.F s.blocks.length) ≤ s.T b - s.F b
  sum : ((s.split b).2.T s.blocks.length - (s.split b).2.F s.blocks.length) + ((s.split b).2.T b - (s.split b).2.F b) = s.T b - s.F b
  new : ∀ x, x < n → (s.split b).2.I x = s.blocks.length → s.marked x = mv
  old : ∀ x, x < n → (s.split b).2.I x = b → s.marked x = !mv

theorem cut_parted {s : St} {n b lo hi lo' hi' : Nat} {mv : Bool} (h : Inv s n) (hb : b < s.blocks.length) (h1 : lo < hi) (h2 : lo' < hi')
    (hc : (lo = s.F b ∧ hi = lo' ∧ hi' = s.T b) ∨ (lo' = s.F b ∧ hi' = lo ∧ hi = s.T b)) (hh : 2 * (hi - lo) ≤ s.T b - s.F b) (hs : (s.split b).2 = s.cut b lo hi lo' hi')
    (hn : ∀ i, lo ≤ i → i < hi → decide (i < s.F b + s.M b) = mv) (ho : ∀ i, lo' ≤ i → i < hi' → decide (i < s.F b + s.M b) = !mv) : Parted s n b mv := by
  obtain ⟨hi2, hI⟩ := cut_inv h hb h1 h2 hc
  have bb := h.b1 b hb
  have hmk : ∀ x, x < n → s.I x = b → s.marked x = decide (s.P x < s.F b + s.M b) := by
    intro x _ hi; rw [St.marked, hi]
  have hin : ∀ x, x < n → lo ≤ s.P x ∧ s.P x < hi → s.I x = b := by
    intro x hx hp
    have := h.in2 b hb (s.P x) (by omega) (by omega)
    rw [(h.p1 x hx).2] at this; exact this
  refine ⟨by rw [hs]; exact cut_len, ?_, ?_, ?_, ?_⟩
  · rw [hs]; simp only [St.T, St.F, cut_get hb, if_true]; exact hh
  · rw [hs]; simp only [St.T, St.F, cut_get hb, if_true, show ¬ b = s.blocks.length by omega, if_false]
    have e1 : s.F b = (s.blocks.getD b (0,0,0)).1 := rfl
    have e2 : s.T b = (s.blocks.getD b (0,0,0)).2.1 := rfl
    omega
  · intro x hx hi'
    rw [hs, hI x hx] at hi'
    have ox := h.in1 x hx
    split at hi'
    · rename_i g
      rw [hmk x hx (hin x hx g)]
      exact hn _ g.1 g.2
    · omega
  · intro x hx hi'
    rw [hs, hI x hx] at hi'
    have ox := h.in1 x hx
    split at hi'
    · omega
    · rename_i g
      rw [hi'] at ox
      rw [hmk x hx hi']
      exact ho _ (by omega) (by omega)

theorem split_some {s : St} {n b k : Nat} (h : Inv s n) (hb : b < s.blocks.length) (hs : (s.split b).1 = some k) : k = s.blocks.length ∧ ∃ mv : Bool, Parted s n b mv := by
  have bb := h.b1 b hb
  by_cases hc : s.M b = 0 ∨ s.T b - s.F b - s.M b = 0
  · unfold St.split at hs; rw [if_pos hc] at hs; cases hs
  · by_cases hd : s.M b ≤ s.T b - s.F b - s.M b
    · have e : s.split b = (some s.blocks.length, s.cut b (s.F b) (s.F b + s.M b) (s.F b + s.M b) (s.T b)) := by unfold St.split; rw [if_neg hc, if_pos hd]
      refine ⟨by rw [e] at hs; exact (Option.some.inj hs).symm, true, cut_parted (lo := s.F b) (hi := s.F b + s.M b) (lo' := s.F b + s.M b) (hi' := s.T b) h hb (by omega) (by omega) (.inl ⟨rfl, rfl, rfl⟩) (by omega) (by rw [e]) ?_ ?_⟩
      · intro i h1 h2; simp; omega
      · intro i h1 h2; simp; omega
    · have e : s.split b = (some s.blocks.length, s.cut b (s.F b + s.M b) (s.T b) (s.F b) (s.F b + s.M b)) := by unfold St.split; rw [if_neg hc, if_neg hd]
      refine ⟨by rw [e] at hs; exact (Option.some.inj hs).symm, false, cut_parted (lo := s.F b + s.M b) (hi := s.T b) (lo' := s.F b) (hi' := s.F b + s.M b) h hb (by omega) (by omega) (.inr ⟨rfl, rfl, rfl⟩) (by omega) (by rw [e]) ?_ ?_⟩
      · intro i h1 h2; simp; omega
      · intro i h1 h2; simp; omega

/-- The marks of all elements. -/
def St.marks (s : St) (n : Nat) : List Bool := (List.range n).map s.marked

theorem marks_len (s : St) (n : Nat) : (s.marks n).length = n := by simp [St.marks]

theorem marks_get (s : St) (n x : Nat) (hx : x < n) : (s.marks n).getD x false = s.marked x := by simp [St.marks, List.getD, hx]

theorem bools_ext {a b : List Bool} (hl : a.length = b.length) (h : ∀ x, x < a.length → a.getD x false = b.getD x false) : a = b := by
  apply List.ext_getElem hl
  intro i h1 h2
  have := h i h1
  simpa [List.getD, h1, h2] using this

theorem marks_mark {s : St} {n e : Nat} (h : Inv s n) (he : e < n) : (s.mark e).2.marks n = (s.marks n).set e true := by
  apply bools_ext
  · simp [marks_len]
  · intro x hx
    rw [marks_len] at hx
    rw [marks_get _ _ _ hx, mark_marked h he x hx, getD_set, marks_len, marks_get _ _ _ hx]
    by_cases g : e = x
    · subst g; simp [he]
    · simp [g, show ¬ x = e from fun e => g e.symm]

/-- Some elements' marks are taken away. -/
def clr (mk : List Bool) (l : List Int) : List Bool := l.foldl (fun a x => a.set x.toNat false) mk

theorem clr_len (l : List Int) : ∀ mk : List Bool, (clr mk l).length = mk.length := by
  induction l with
  | nil => intro mk; rfl
  | cons x l ih => intro mk; exact (ih _).trans (List.length_set ..)

theorem clr_getD (l : List Int) (j : Nat) : ∀ mk : List Bool, (clr mk l).getD j false = (mk.getD j false && decide (¬ ∃ x ∈ l, x.toNat = j)) := by
  induction l with
  | nil => intro mk; simp [clr]
  | cons x l ih =>
    intro mk
    have := ih (mk.set x.toNat false)
    simp only [clr, List.foldl_cons] at this ⊢
    rw [this, getD_set]
    simp only [List.mem_cons, exists_eq_or_imp]
    by_cases g : x.toNat = j
    · simp only [g, true_and, true_or, not_true_eq_false, decide_false, Bool.and_false]
      split
      · simp
      · rename_i g2
        have : mk.getD j false = false := by simp [List.getD, List.getElem?_eq_none (show mk.length ≤ j by omega)]
        rw [this]; simp
    · simp [g]

theorem clr_take (mk : List Bool) (l : List Int) (k : Nat) (hk : k < l.length) : clr mk (l.take (k + 1)) = (clr mk (l.take k)).set (l.getD k 0).toNat false := by
  rw [List.take_succ_eq_append_getElem hk]
  unfold clr
  rw [List.foldl_append]
  simp [List.getD, hk]

theorem marks_split {s : St} {n b : Nat} (h : Inv s n) (hb : b < s.blocks.length) : (s.split b).2.marks n = clr (s.marks n) (s.mem b) := by
  apply bools_ext
  · rw [clr_len, marks_len, marks_len]
  · intro x hx
    rw [marks_len] at hx
    rw [marks_get _ _ _ hx, split_marked h hb x hx, clr_getD, marks_get _ _ _ hx]
    congr 1
    apply decide_eq_decide.2
    constructor
    · rintro g ⟨y, hy, e⟩
      obtain ⟨e', rfl, he1, he2⟩ := (mem_mem h hb).1 hy
      simp only [Int.toNat_natCast] at e
      subst e; exact g he2
    · intro g e
      exact g ⟨(x : Int), (mem_mem h hb).2 ⟨x, rfl, hx, e⟩, by simp⟩

theorem mem_inj {s : St} {n b i j : Nat} (hI : Inv s n) (hb : b < s.blocks.length) (hi : i < j) (hj : j < (s.mem b).length) : (s.mem b).getD i 0 < (s.mem b).getD j 0 := by
  have := List.pairwise_iff_getElem.1 (mem_sorted hI hb) i j (by omega) hj hi
  simpa [List.getD, hj, show i < (s.mem b).length by omega] using this

/-- What a mark reads while the ones ahead of it are taken away. -/
theorem clr_read {s : St} {n b k : Nat} (hI : Inv s n) (hb : b < s.blocks.length) (hk : k < (s.mem b).length) (mk : List Bool) :
    (clr mk ((s.mem b).take k)).getD ((s.mem b).getD k 0).toNat false = mk.getD ((s.mem b).getD k 0).toNat false := by
  rw [clr_getD]
  have : ¬ ∃ x ∈ (s.mem b).take k, x.toNat = ((s.mem b).getD k 0).toNat := by
    rintro ⟨y, hy, e⟩
    obtain ⟨i, hi, rfl⟩ := List.mem_iff_getElem.1 hy
    simp only [List.length_take] at hi
    rw [List.getElem_take] at e
    have h1 := mem_inj hI hb (show i < k by omega) hk
    have h2 : (s.mem b).getD i 0 = (s.mem b)[i]'(by omega) := by simp [List.getD, show i < (s.mem b).length by omega]
    obtain ⟨a, ha, _⟩ := mem_at hI hb (show i < (s.mem b).length by omega)
    obtain ⟨c, hc, _⟩ := mem_at hI hb hk
    rw [← h2] at e
    rw [ha, hc] at e h1
    simp at e; omega
  rw [decide_eq_true this, Bool.and_true]

end Go.Proofs.YtfkhaldheclheaaDoor.Rf
