/- The plain law behind the partition of package refine: a list model of its elements, places, classes and blocks, the invariant that every call keeps, and what a mark and a split do. No program in sight. -/
namespace Go.Proofs.YtfkhaldheclheaaDoor.Rf

/-- The partition's state: the elements block by block, where each stands, the block of each, and of each block where it begins, where it ends, how many of it are marked. -/
structure St where
  elems : List Nat
  place : List Nat
  inn : List Nat
  blocks : List (Nat × Nat × Nat)

def St.E (s : St) (i : Nat) : Nat := s.elems.getD i 0
def St.P (s : St) (e : Nat) : Nat := s.place.getD e 0
def St.I (s : St) (e : Nat) : Nat := s.inn.getD e 0
def St.F (s : St) (b : Nat) : Nat := (s.blocks.getD b (0, 0, 0)).1
def St.T (s : St) (b : Nat) : Nat := (s.blocks.getD b (0, 0, 0)).2.1
def St.M (s : St) (b : Nat) : Nat := (s.blocks.getD b (0, 0, 0)).2.2

theorem getD_set {α : Type} (l : List α) (i j : Nat) (v d : α) : (l.set i v).getD j d = if i = j ∧ i < l.length then v else l.getD j d := by
  simp only [List.getD, List.getElem?_set]
  by_cases h : i = j
  · subst h
    by_cases h2 : i < l.length
    · simp [h2]
    · simp [h2]
  · simp [h]

theorem getD_append_one {α : Type} (l : List α) (j : Nat) (v d : α) : (l ++ [v]).getD j d = if j = l.length then v else l.getD j d := by
  simp only [List.getD, List.getElem?_append]
  by_cases h : j < l.length
  · simp [h, show ¬ j = l.length by omega]
  · by_cases h2 : j = l.length
    · subst h2; simp
    · simp [h, h2, show ¬ j - l.length = 0 by omega]

/-- The exchange of two elements, and of their places. -/
def St.swap (s : St) (i k : Nat) : St :=
  { s with elems := (s.elems.set i (s.E k)).set k (s.E i), place := (s.place.set (s.E k) i).set (s.E i) k }

def St.markIn (s : St) (b : Nat) : St := { s with blocks := s.blocks.set b (s.F b, s.T b, s.M b + 1) }

/-- Mark of an element that is there. -/
def St.mark (s : St) (e : Nat) : Bool × St :=
  if s.P e < s.F (s.I e) + s.M (s.I e) then (false, s) else (true, (s.swap (s.P e) (s.F (s.I e) + s.M (s.I e))).markIn (s.I e))

def setAll (l : List Nat) (es : List Nat) (v : Nat) : List Nat := es.foldl (fun a e => a.set e v) l

/-- A block is cut in two: the elements of lo to hi become the new block. -/
def St.cut (s : St) (b lo hi lo' hi' : Nat) : St :=
  { s with blocks := s.blocks.set b (lo', hi', 0) ++ [(lo, hi, 0)], inn := setAll s.inn ((s.elems.take hi).drop lo) s.blocks.length }

def St.bare (s : St) (b : Nat) : St := { s with blocks := s.blocks.set b (s.F b, s.T b, 0) }

/-- Split of a block that is there: the number of the new block, if there is one. -/
def St.split (s : St) (b : Nat) : Option Nat × St :=
  if s.M b = 0 ∨ s.T b - s.F b - s.M b = 0 then (none, s.bare b)
  else if s.M b ≤ s.T b - s.F b - s.M b then (some s.blocks.length, s.cut b (s.F b) (s.F b + s.M b) (s.F b + s.M b) (s.T b))
  else (some s.blocks.length, s.cut b (s.F b + s.M b) (s.T b) (s.F b) (s.F b + s.M b))

/-- The invariant of a partition of n elements. -/
structure Inv (s : St) (n : Nat) : Prop where
  le : s.elems.length = n
  lp : s.place.length = n
  li : s.inn.length = n
  e1 : ∀ i, i < n → s.E i < n ∧ s.P (s.E i) = i
  p1 : ∀ e, e < n → s.P e < n ∧ s.E (s.P e) = e
  in1 : ∀ e, e < n → s.I e < s.blocks.length ∧ s.F (s.I e) ≤ s.P e ∧ s.P e < s.T (s.I e)
  b1 : ∀ b, b < s.blocks.length → s.F b < s.T b ∧ s.T b ≤ n ∧ s.F b + s.M b ≤ s.T b
  in2 : ∀ b, b < s.blocks.length → ∀ i, s.F b ≤ i → i < s.T b → s.I (s.E i) = b

/-- Is an element marked? -/
def St.marked (s : St) (e : Nat) : Bool := decide (s.P e < s.F (s.I e) + s.M (s.I e))

theorem swap_E (s : St) (n i k j : Nat) (h : Inv s n) (hi : i < n) (hk : k < n) : (s.swap i k).E j = if j = k then s.E i else if j = i then s.E k else s.E j := by
  have hl := h.le
  simp only [St.swap, St.E, getD_set, List.length_set, hl]
  grind

theorem swap_P (s : St) (n i k e : Nat) (h : Inv s n) (hi : i < n) (hk : k < n) : (s.swap i k).P e = if e = s.E i then k else if e = s.E k then i else s.P e := by
  have hl := h.lp
  have h1 := (h.e1 i hi).1
  have h2 := (h.e1 k hk).1
  simp only [St.swap, St.P, getD_set, List.length_set, hl]
  grind

theorem E_inj {s : St} {n i j : Nat} (h : Inv s n) (hi : i < n) (hj : j < n) (e : s.E i = s.E j) : i = j := by
  rw [← (h.e1 i hi).2, ← (h.e1 j hj).2, e]

theorem markIn_I (s : St) (b e : Nat) : (s.markIn b).I e = s.I e := rfl
theorem markIn_E (s : St) (b e : Nat) : (s.markIn b).E e = s.E e := rfl
theorem markIn_P (s : St) (b e : Nat) : (s.markIn b).P e = s.P e := rfl
theorem markIn_F (s : St) (b c : Nat) : (s.markIn b).F c = s.F c := by
  simp only [St.markIn, St.F, getD_set]; split
  · rename_i h; rw [h.1]
  · rfl
theorem markIn_T (s : St) (b c : Nat) : (s.markIn b).T c = s.T c := by
  simp only [St.markIn, St.T, getD_set]; split
  · rename_i h; rw [h.1]
  · rfl
theorem markIn_M (s : St) (b c : Nat) (hb : b < s.blocks.length) : (s.markIn b).M c = if c = b then s.M b + 1 else s.M c := by
  simp only [St.markIn, St.M, getD_set]
  grind
theorem markIn_len (s : St) (b : Nat) : (s.markIn b).blocks.length = s.blocks.length := by simp [St.markIn]

theorem swap_inv {s : St} {n i k : Nat} (h : Inv s n) (hi : i < n) (hk : k < n) (hb : s.I (s.E i) = s.I (s.E k)) : Inv (s.swap i k) n := by
  have hE := fun j => swap_E s n i k j h hi hk
  have hP := fun e => swap_P s n i k e h hi hk
  have hI : ∀ e, (s.swap i k).I e = s.I e := fun _ => rfl
  have hF : ∀ e, (s.swap i k).F e = s.F e := fun _ => rfl
  have hT : ∀ e, (s.swap i k).T e = s.T e := fun _ => rfl
  have hM : ∀ e, (s.swap i k).M e = s.M e := fun _ => rfl
  have hB : (s.swap i k).blocks.length = s.blocks.length := rfl
  have ei := h.e1 i hi
  have ek := h.e1 k hk
  have i1 := h.in1 (s.E i) ei.1
  have k1 := h.in1 (s.E k) ek.1
  rw [ei.2] at i1
  rw [ek.2] at k1
  constructor
  · simp [St.swap, h.le]
  · simp [St.swap, h.lp]
  · exact h.li
  · intro j hj
    have ej := h.e1 j hj
    rw [hE, hP]
    by_cases g1 : j = k
    · subst g1; simp [ei.1]
    · by_cases g2 : j = i
      · subst g2
        simp only [g1, if_false, if_true, ek.1, true_and]
        split
        · rename_i g3; exact (E_inj h hk hi g3)
        · rfl
      · simp only [g1, g2, if_false, ej.1, true_and]
        rw [if_neg (fun g3 => g2 (E_inj h hj hi g3)), if_neg (fun g3 => g1 (E_inj h hj hk g3))]
        exact ej.2
  · intro e he
    have pe := h.p1 e he
    rw [hP]
    by_cases g1 : e = s.E i
    · subst g1; simp [hE, hk]
    · by_cases g2 : e = s.E k
      · subst g2
        simp only [g1, if_false, if_true, hi, true_and, hE]
        split
        · rename_i g3; rw [g3]
        · rfl
      · simp only [g1, g2, if_false, pe.1, true_and, hE]
        rw [if_neg (fun g3 => g2 (by rw [← g3]; exact pe.2.symm)), if_neg (fun g3 => g1 (by rw [← g3]; exact pe.2.symm))]
        exact pe.2
  · intro e he
    have oe := h.in1 e he
    rw [hI, hF, hT, hP, hB]
    refine ⟨oe.1, ?_⟩
    by_cases g1 : e = s.E i
    · subst g1; rw [if_pos rfl, hb]; exact k1.2
    · by_cases g2 : e = s.E k
      · subst g2; rw [if_neg g1, if_pos rfl, ← hb]; exact i1.2
      · rw [if_neg g1, if_neg g2]; exact oe.2
  · exact h.b1
  · intro b hb' j hj1 hj2
    rw [hF] at hj1
    rw [hT] at hj2
    rw [hI, hE]
    have tb := h.b1 b hb'
    by_cases g1 : j = k
    · subst g1; rw [if_pos rfl, hb]; exact h.in2 b hb' j hj1 hj2
    · by_cases g2 : j = i
      · subst g2; rw [if_neg g1, if_pos rfl, ← hb]; exact h.in2 b hb' j hj1 hj2
      · rw [if_neg g1, if_neg g2]; exact h.in2 b hb' j hj1 hj2

theorem markIn_inv {s : St} {n b : Nat} (h : Inv s n) (hb : b < s.blocks.length) (hm : s.F b + s.M b < s.T b) : Inv (s.markIn b) n := by
  constructor
  · exact h.le
  · exact h.lp
  · exact h.li
  · exact h.e1
  · exact h.p1
  · intro e he
    rw [markIn_I, markIn_F, markIn_T, markIn_P, markIn_len]
    exact h.in1 e he
  · intro c hc
    rw [markIn_len] at hc
    rw [markIn_F, markIn_T, markIn_M _ _ _ hb]
    have := h.b1 c hc
    split
    · rename_i g; subst g; omega
    · exact this
  · intro c hc j h1 h2
    rw [markIn_len] at hc
    rw [markIn_F] at h1
    rw [markIn_T] at h2
    rw [markIn_I, markIn_E]
    exact h.in2 c hc j h1 h2

/-- What a mark keeps. -/
theorem mark_inv {s : St} {n e : Nat} (h : Inv s n) (he : e < n) : Inv (s.mark e).2 n := by
  unfold St.mark
  split
  · exact h
  · rename_i hm
    have o := h.in1 e he
    have bb := h.b1 _ o.1
    have pe := h.p1 e he
    have hk : s.F (s.I e) + s.M (s.I e) < n := by omega
    have hsame : s.I (s.E (s.P e)) = s.I (s.E (s.F (s.I e) + s.M (s.I e))) := by
      rw [pe.2, h.in2 (s.I e) o.1 _ (by omega) (by omega)]
    have hs := swap_inv h pe.1 hk hsame
    exact markIn_inv (b := s.I e) hs o.1 (show s.F (s.I e) + s.M (s.I e) < s.T (s.I e) by omega)

theorem setAll_len (es : List Nat) (v : Nat) : ∀ l : List Nat, (setAll l es v).length = l.length := by
  induction es with
  | nil => intro l; rfl
  | cons e es ih => intro l; simp only [setAll, List.foldl_cons]; exact (ih _).trans (List.length_set ..)

theorem setAll_getD (es : List Nat) (v j d : Nat) : ∀ l : List Nat, (setAll l es v).getD j d = if j ∈ es ∧ j < l.length then v else l.getD j d := by
  induction es with
  | nil => intro l; simp [setAll]
  | cons e es ih =>
    intro l
    have := ih (l.set e v)
    simp only [setAll, List.foldl_cons] at this ⊢
    rw [this, getD_set, List.length_set]
    simp only [List.mem_cons]
    grind

theorem mem_range {s : St} {n lo hi e : Nat} (h : Inv s n) (hhi : hi ≤ n) (he : e < n) : e ∈ (s.elems.take hi).drop lo ↔ lo ≤ s.P e ∧ s.P e < hi := by
  have hl := h.le
  have pe := h.p1 e he
  constructor
  · intro hm
    obtain ⟨j, hj, hje⟩ := List.mem_iff_getElem.1 hm
    simp only [List.length_drop, List.length_take] at hj
    rw [List.getElem_drop, List.getElem_take] at hje
    have hlt : lo + j < n := by omega
    have hE : s.E (lo + j) = e := by
      rw [← hje]
      simp only [St.E, List.getD]
      rw [List.getElem?_eq_getElem (by omega)]
      rfl
    have := (h.e1 (lo + j) hlt).2
    rw [hE] at this
    omega
  · intro hp
    refine List.mem_iff_getElem.2 ⟨s.P e - lo, ?_, ?_⟩
    · simp only [List.length_drop, List.length_take]; omega
    · rw [List.getElem_drop, List.getElem_take]
      have := pe.2
      simp only [St.E, List.getD] at this
      rw [List.getElem?_eq_getElem (by omega)] at this
      simp only [Option.getD_some] at this
      simp only [show lo + (s.P e - lo) = s.P e by omega]
      exact this

theorem cut_inv {s : St} {n b lo hi lo' hi' : Nat} (h : Inv s n) (hb : b < s.blocks.length) (h1 : lo < hi) (h2 : lo' < hi')
    (hc : (lo = s.F b ∧ hi = lo' ∧ hi' = s.T b) ∨ (lo' = s.F b ∧ hi' = lo ∧ hi = s.T b)) : Inv (s.cut b lo hi lo' hi') n ∧
    (∀ e, e < n → (s.cut b lo hi lo' hi').I e = if lo ≤ s.P e ∧ s.P e < hi then s.blocks.length else s.I e) := by
  have bb := h.b1 b hb
  have hlen : (s.cut b lo hi lo' hi').blocks.length = s.blocks.length + 1 := by simp [St.cut]
  have hget : ∀ c, (s.cut b lo hi lo' hi').blocks.getD c (0, 0, 0) = if c = s.blocks.length then (lo, hi, 0) else if c = b then (lo', hi', 0) else s.blocks.getD c (0, 0, 0) := by
    intro c
    simp only [St.cut, getD_append_one, getD_set, List.length_set]
    grind
  have hI : ∀ e, e < n → (s.cut b lo hi lo' hi').I e = if lo ≤ s.P e ∧ s.P e < hi then s.blocks.length else s.I e := by
    intro e he
    have hl := h.li
    have hm := mem_range (lo := lo) (hi := hi) h (by omega) he
    simp only [St.I, St.cut, setAll_getD, hm]
    grind
  refine ⟨?_, hI⟩
  have hE : ∀ e, (s.cut b lo hi lo' hi').E e = s.E e := fun _ => rfl
  have hP : ∀ e, (s.cut b lo hi lo' hi').P e = s.P e := fun _ => rfl
  constructor
  · exact h.le
  · exact h.lp
  · simp only [St.cut, setAll_len]; exact h.li
  · exact h.e1
  · exact h.p1
  · intro e he
    have o := h.in1 e he
    rw [hI e he, hP, hlen]
    simp only [St.F, St.T, hget]
    by_cases g : lo ≤ s.P e ∧ s.P e < hi
    · simp only [g, and_self, if_true]
      exact ⟨by omega, trivial⟩
    · rw [if_neg g]
      have hne : s.I e ≠ s.blocks.length := by omega
      simp only [hne, if_false]
      by_cases g2 : s.I e = b
      · simp only [g2, if_true]; rw [g2] at o; omega
      · simp only [g2, if_false]; exact ⟨by omega, o.2⟩
  · intro c hc'
    rw [hlen] at hc'
    simp only [St.F, St.T, St.M, hget]
    by_cases g : c = s.blocks.length
    · simp only [g, if_true]; omega
    · simp only [g, if_false]
      by_cases g2 : c = b
      · simp only [g2, if_true]; omega
      · simp only [g2, if_false]; exact h.b1 c (by omega)
  · intro c hc' j hj1 hj2
    rw [hlen] at hc'
    rw [hE]
    simp only [St.F, hget] at hj1
    simp only [St.T, hget] at hj2
    by_cases g : c = s.blocks.length
    · simp only [g, if_true] at hj1 hj2 ⊢
      have ej := h.e1 j (by omega)
      rw [hI _ ej.1, ej.2, if_pos ⟨hj1, hj2⟩]
    · simp only [g, if_false] at hj1 hj2
      by_cases g2 : c = b
      · simp only [g2, if_true] at hj1 hj2
        have ej := h.e1 j (by omega)
        rw [hI _ ej.1, ej.2, if_neg (by omega), g2]
        exact h.in2 b hb j (by omega) (by omega)
      · simp only [g2, if_false] at hj1 hj2
        have hc2 : c < s.blocks.length := by omega
        have bc := h.b1 c hc2
        have hj3 : j < n := by have h3 : j < s.T c := hj2; omega
        have ej := h.e1 j hj3
        have ic := h.in2 c hc2 j hj1 hj2
        rw [hI _ ej.1, ej.2, if_neg ?_]
        · exact ic
        · intro hx
          have ib := h.in2 b hb j (by omega) (by omega)
          exact g2 (ic.symm.trans ib)

theorem bare_inv {s : St} {n b : Nat} (h : Inv s n) : Inv (s.bare b) n ∧ (∀ c, (s.bare b).F c = s.F c) ∧ (∀ c, (s.bare b).T c = s.T c) := by
  have hF : ∀ c, (s.bare b).F c = s.F c := by intro c; simp only [St.bare, St.F, getD_set]; grind
  have hT : ∀ c, (s.bare b).T c = s.T c := by intro c; simp only [St.bare, St.T, getD_set]; grind
  have hM : ∀ c, (s.bare b).M c ≤ s.M c := by intro c; simp only [St.bare, St.M, getD_set]; grind
  have hlen : (s.bare b).blocks.length = s.blocks.length := by simp [St.bare]
  refine ⟨⟨h.le, h.lp, h.li, h.e1, h.p1, ?_, ?_, ?_⟩, hF, hT⟩
  · intro e he; have := h.in1 e he; rw [hlen, hF, hT]; exact this
  · intro c hc; rw [hlen] at hc; have := h.b1 c hc; have := hM c; rw [hF, hT]; omega
  · intro c hc j h1 h2; rw [hlen] at hc; rw [hF] at h1; rw [hT] at h2; exact h.in2 c hc j h1 h2

theorem split_inv {s : St} {n b : Nat} (h : Inv s n) (hb : b < s.blocks.length) : Inv (s.split b).2 n := by
  unfold St.split
  have bb := h.b1 b hb
  split
  · exact (bare_inv h).1
  · split
    · exact (cut_inv h hb (by omega) (by omega) (.inl ⟨rfl, rfl, rfl⟩)).1
    · exact (cut_inv h hb (by omega) (by omega) (.inr ⟨rfl, rfl, rfl⟩)).1

end Go.Proofs.YtfkhaldheclheaaDoor.Rf
