/- The plain law behind RefineHalves: the marks, and what a split parts. No program in sight. -/
import Derived.Test.YtfkhaldheclheaaDoorRefParts
namespace Go.Proofs.YtfkhaldheclheaaDoor.Rf

theorem marked_iff (s : St) (x : Nat) : s.marked x = true ↔ s.P x < s.F (s.I x) + s.M (s.I x) := by simp [St.marked]

theorem bool_ext {a b : Bool} (h : a = true ↔ b = true) : a = b := by cases a <;> cases b <;> simp_all

theorem mark_marked {s : St} {n e : Nat} (h : Inv s n) (he : e < n) (x : Nat) (hx : x < n) : (s.mark e).2.marked x = (decide (x = e) || s.marked x) := by
  unfold St.mark
  have oe := h.in1 e he
  have be := h.b1 _ oe.1
  have pe := h.p1 e he
  have ox := h.in1 x hx
  have px := h.p1 x hx
  split
  · rename_i hm
    by_cases g : x = e
    · subst g; simp [marked_iff, hm]
    · simp [g]
  · rename_i hm
    have hk : s.F (s.I e) + s.M (s.I e) < n := by omega
    have hP := swap_P s n (s.P e) (s.F (s.I e) + s.M (s.I e)) x h pe.1 hk
    have hM := markIn_M (s.swap (s.P e) (s.F (s.I e) + s.M (s.I e))) (s.I e) (s.I x) oe.1
    have ek := h.e1 _ hk
    have ik := h.in2 (s.I e) oe.1 (s.F (s.I e) + s.M (s.I e)) (by omega) (by omega)
    have hM2 : (s.swap (s.P e) (s.F (s.I e) + s.M (s.I e))).M = s.M := rfl
    rw [hM2] at hM
    apply bool_ext
    rw [marked_iff, markIn_P, markIn_I, markIn_F]
    show _ < s.F (s.I x) + St.M _ (s.I x) ↔ _
    show (s.swap _ _).P x < s.F (s.I x) + St.M _ (s.I x) ↔ _
    rw [hM, hP, pe.2]
    simp only [Bool.or_eq_true, decide_eq_true_eq, marked_iff]
    by_cases g : x = e
    · subst g; simp
    · simp only [g, if_false, false_or]
      by_cases g2 : x = s.E (s.F (s.I e) + s.M (s.I e))
      · rw [if_pos g2]
        rw [← g2] at ek ik
        rw [ik, if_pos rfl]
        have : s.P e ≠ s.F (s.I e) + s.M (s.I e) := by
          intro hh; rw [← hh, pe.2] at g2; exact g g2
        omega
      · rw [if_neg g2]
        have : s.P x ≠ s.F (s.I e) + s.M (s.I e) := by
          intro hh; rw [← hh, px.2] at g2; exact g2 rfl
        split
        · rename_i g3; rw [g3]; omega
        · exact Iff.rfl

theorem bare_M (s : St) (b c : Nat) (hb : b < s.blocks.length) : (s.bare b).M c = if c = b then 0 else s.M c := by
  simp only [St.bare, St.M, getD_set]; grind

theorem bare_marked {s : St} {n b : Nat} (h : Inv s n) (hb : b < s.blocks.length) (x : Nat) (hx : x < n) : (s.bare b).marked x = (s.marked x && decide (s.I x ≠ b)) := by
  have ox := h.in1 x hx
  apply bool_ext
  simp only [Bool.and_eq_true, decide_eq_true_eq, marked_iff]
  rw [(bare_inv h).2.1]
  show s.P x < s.F (s.I x) + (s.bare b).M (s.I x) ↔ _
  rw [bare_M _ _ _ hb]
  split
  · rename_i g; constructor
    · intro _; omega
    · intro hh; exact absurd g hh.2
  · rename_i g; constructor
    · intro hh; exact ⟨hh, g⟩
    · intro hh; exact hh.1

theorem cut_get {s : St} {b lo hi lo' hi' : Nat} (hb : b < s.blocks.length) (c : Nat) : (s.cut b lo hi lo' hi').blocks.getD c (0, 0, 0) = if c = s.blocks.length then (lo, hi, 0) else if c = b then (lo', hi', 0) else s.blocks.getD c (0, 0, 0) := by
  simp only [St.cut, getD_append_one, getD_set, List.length_set]
  grind

theorem cut_marked {s : St} {n b lo hi lo' hi' : Nat} (h : Inv s n) (hb : b < s.blocks.length) (h1 : lo < hi) (h2 : lo' < hi')
    (hc : (lo = s.F b ∧ hi = lo' ∧ hi' = s.T b) ∨ (lo' = s.F b ∧ hi' = lo ∧ hi = s.T b)) (x : Nat) (hx : x < n) : (s.cut b lo hi lo' hi').marked x = (s.marked x && decide (s.I x ≠ b)) := by
  obtain ⟨hi2, hI⟩ := cut_inv h hb h1 h2 hc
  have ox := h.in1 x hx
  have ox2 := hi2.in1 x hx
  have bb := h.b1 b hb
  have hP : (s.cut b lo hi lo' hi').P x = s.P x := rfl
  apply bool_ext
  simp only [Bool.and_eq_true, decide_eq_true_eq, marked_iff]
  by_cases g : s.I x = b
  · have hM : (s.cut b lo hi lo' hi').M ((s.cut b lo hi lo' hi').I x) = 0 := by
      rw [hI x hx]
      simp only [St.M, cut_get hb]
      repeat' split
      all_goals first | rfl | (exfalso; omega) | contradiction
    rw [hM]
    constructor
    · intro _; omega
    · intro hh; exact absurd g hh.2
  · have hnot : ¬ (lo ≤ s.P x ∧ s.P x < hi) := by
      intro hh
      have hp := h.p1 x hx
      have := h.in2 b hb (s.P x) (by omega) (by omega)
      rw [hp.2] at this; exact g this
    have hI2 : (s.cut b lo hi lo' hi').I x = s.I x := by rw [hI x hx, if_neg hnot]
    rw [hI2, hP]
    simp only [St.M, St.F, cut_get hb]
    rw [if_neg (by omega), if_neg g]
    constructor
    · intro hh; exact ⟨hh, g⟩
    · intro hh; exact hh.1

theorem split_marked {s : St} {n b : Nat} (h : Inv s n) (hb : b < s.blocks.length) (x : Nat) (hx : x < n) : (s.split b).2.marked x = (s.marked x && decide (s.I x ≠ b)) := by
  have bb := h.b1 b hb
  unfold St.split
  split
  · exact bare_marked h hb x hx
  · split
    · exact cut_marked h hb (by omega) (by omega) (.inl ⟨rfl, rfl, rfl⟩) x hx
    · exact cut_marked h hb (by omega) (by omega) (.inr ⟨rfl, rfl, rfl⟩) x hx

/-- A block of which nothing is parted: its elements are all marked, or none is; the blocks stay. -/
theorem split_none {s : St} {n b : Nat} (h : Inv s n) (hb : b < s.blocks.length) (hs : (s.split b).1 = none) :
    (s.split b).2.inn = s.inn ∧ ∃ mv : Bool, ∀ x, x < n → s.I x = b → s.marked x = mv := by
  have bb := h.b1 b hb
  unfold St.split at hs ⊢
  split at hs
  · rename_i hc
    rw [if_pos hc]
    refine ⟨rfl, decide (s.M b ≠ 0), fun x hx hi => ?_⟩
    have ox := h.in1 x hx
    apply bool_ext
    rw [marked_iff]
    rw [hi] at ox ⊢
    simp only [decide_eq_true_eq]
    omega
  · split at hs <;> cases hs

theorem cut_len {s : St} {b lo hi lo' hi' : Nat} : (s.cut b lo hi lo' hi').blocks.length = s.blocks.length + 1 := by simp [St.cut]

/-- A block that is parted. -/
structure Parted (s : St) (n b : Nat) (mv : Bool) : Prop where
  len : (s.split b).2.blocks.length = s.blocks.length + 1
  half : 2 * ((s.split b).2.T s.blocks.length - (s.split b).2.F s.blocks.length) ≤ s.T b - s.F b
  sum : ((s.split b).2.T s.blocks.length - (s.split b).2.F s.blocks.length) + ((s.split b).2.T b - (s.split b).2.F b) = s.T b - s.F b
  new : ∀ x, x < n → (s.split b).2.I x = s.blocks.length → s.marked x = mv
  old : ∀ x, x < n → (s.split b).2.I x = b → s.marked x = !mv

theorem cut_parted {s : St} {n b lo hi lo' hi' : Nat} {mv : Bool} (h : Inv s n) (hb : b < s.blocks.length) (h1 : lo < hi) (h2 : lo' < hi')
    (hc : (lo = s.F b ∧ hi = lo' ∧ hi' = s.T b) ∨ (lo' = s.F b ∧ hi' = lo ∧ hi = s.T b)) (hh : 2 * (hi - lo) ≤ s.T b - s.F b) (hs : (s.split b).2 = s.cut b lo hi lo' hi')
    (hn : ∀ i, lo ≤ i → i < hi → decide (i < s.F b + s.M b) = mv) (ho : ∀ i, lo' ≤ i → i < hi' → decide (i < s.F b + s.M b) = !mv) : Parted s n b mv := by
  obtain ⟨hi2, hI⟩ := cut_inv h hb h1 h2 hc
  have bb := h.b1 b hb
  have hmk : ∀ x, x < n → s.I x = b → s.marked x = decide (s.P x < s.F b + s.M b) := by
    intro x _ hi; rw [St.marked, hi]
  have hin : ∀ x, x < n → lo ≤ s.P x ∧ s.P x < hi → s.I x = b := by
    intro x hx hp
    have := h.in2 b hb (s.P x) (by omega) (by omega)
    rw [(h.p1 x hx).2] at this; exact this
  refine ⟨by rw [hs]; exact cut_len, ?_, ?_, ?_, ?_⟩
  · rw [hs]; simp only [St.T, St.F, cut_get hb, if_true]; exact hh
  · rw [hs]; simp only [St.T, St.F, cut_get hb, if_true, show ¬ b = s.blocks.length by omega, if_false]
    have e1 : s.F b = (s.blocks.getD b (0,0,0)).1 := rfl
    have e2 : s.T b = (s.blocks.getD b (0,0,0)).2.1 := rfl
    omega
  · intro x hx hi'
    rw [hs, hI x hx] at hi'
    have ox := h.in1 x hx
    split at hi'
    · rename_i g
      rw [hmk x hx (hin x hx g)]
      exact hn _ g.1 g.2
    · omega
  · intro x hx hi'
    rw [hs, hI x hx] at hi'
    have ox := h.in1 x hx
    split at hi'
    · omega
    · rename_i g
      rw [hi'] at ox
      rw [hmk x hx hi']
      exact ho _ (by omega) (by omega)

theorem split_some {s : St} {n b k : Nat} (h : Inv s n) (hb : b < s.blocks.length) (hs : (s.split b).1 = some k) : k = s.blocks.length ∧ ∃ mv : Bool, Parted s n b mv := by
  have bb := h.b1 b hb
  by_cases hc : s.M b = 0 ∨ s.T b - s.F b - s.M b = 0
  · unfold St.split at hs; rw [if_pos hc] at hs; cases hs
  · by_cases hd : s.M b ≤ s.T b - s.F b - s.M b
    · have e : s.split b = (some s.blocks.length, s.cut b (s.F b) (s.F b + s.M b) (s.F b + s.M b) (s.T b)) := by unfold St.split; rw [if_neg hc, if_pos hd]
      refine ⟨by rw [e] at hs; exact (Option.some.inj hs).symm, true, cut_parted (lo := s.F b) (hi := s.F b + s.M b) (lo' := s.F b + s.M b) (hi' := s.T b) h hb (by omega) (by omega) (.inl ⟨rfl, rfl, rfl⟩) (by omega) (by rw [e]) ?_ ?_⟩
      · intro i h1 h2; simp; omega
      · intro i h1 h2; simp; omega
    · have e : s.split b = (some s.blocks.length, s.cut b (s.F b + s.M b) (s.T b) (s.F b) (s.F b + s.M b)) := by unfold St.split; rw [if_neg hc, if_neg hd]
      refine ⟨by rw [e] at hs; exact (Option.some.inj hs).symm, false, cut_parted (lo := s.F b + s.M b) (hi := s.T b) (lo' := s.F b) (hi' := s.F b + s.M b) h hb (by omega) (by omega) (.inr ⟨rfl, rfl, rfl⟩) (by omega) (by rw [e]) ?_ ?_⟩
      · intro i h1 h2; simp; omega
      · intro i h1 h2; simp; omega

/-- The marks of all elements. -/
def St.marks (s : St) (n : Nat) : List Bool := (List.range n).map s.marked

theorem marks_len (s : St) (n : Nat) : (s.marks n).length = n := by simp [St.marks]

theorem marks_get (s : St) (n x : Nat) (hx : x < n) : (s.marks n).getD x false = s.marked x := by simp [St.marks, List.getD, hx]

theorem bools_ext {a b : List Bool} (hl : a.length = b.length) (h : ∀ x, x < a.length → a.getD x false = b.getD x false) : a = b := by
  apply List.ext_getElem hl
  intro i h1 h2
  have := h i h1
  simpa [List.getD, h1, h2] using this

theorem marks_mark {s : St} {n e : Nat} (h : Inv s n) (he : e < n) : (s.mark e).2.marks n = (s.marks n).set e true := by
  apply bools_ext
  · simp [marks_len]
  · intro x hx
    rw [marks_len] at hx
    rw [marks_get _ _ _ hx, mark_marked h he x hx, getD_set, marks_len, marks_get _ _ _ hx]
    by_cases g : e = x
    · subst g; simp [he]
    · simp [g, show ¬ x = e from fun e => g e.symm]

/-- Some elements' marks are taken away. -/
def clr (mk : List Bool) (l : List Int) : List Bool := l.foldl (fun a x => a.set x.toNat false) mk

theorem clr_len (l : List Int) : ∀ mk : List Bool, (clr mk l).length = mk.length := by
  induction l with
  | nil => intro mk; rfl
  | cons x l ih => intro mk; exact (ih _).trans (List.length_set ..)

theorem clr_getD (l : List Int) (j : Nat) : ∀ mk : List Bool, (clr mk l).getD j false = (mk.getD j false && decide (¬ ∃ x ∈ l, x.toNat = j)) := by
  induction l with
  | nil => intro mk; simp [clr]
  | cons x l ih =>
    intro mk
    have := ih (mk.set x.toNat false)
    simp only [clr, List.foldl_cons] at this ⊢
    rw [this, getD_set]
    simp only [List.mem_cons, exists_eq_or_imp]
    by_cases g : x.toNat = j
    · simp only [g, true_and, true_or, not_true_eq_false, decide_false, Bool.and_false]
      split
      · simp
      · rename_i g2
        have : mk.getD j false = false := by simp [List.getD, List.getElem?_eq_none (show mk.length ≤ j by omega)]
        rw [this]; simp
    · simp [g]

theorem clr_take (mk : List Bool) (l : List Int) (k : Nat) (hk : k < l.length) : clr mk (l.take (k + 1)) = (clr mk (l.take k)).set (l.getD k 0).toNat false := by
  rw [List.take_succ_eq_append_getElem hk]
  unfold clr
  rw [List.foldl_append]
  simp [List.getD, hk]

theorem marks_split {s : St} {n b : Nat} (h : Inv s n) (hb : b < s.blocks.length) : (s.split b).2.marks n = clr (s.marks n) (s.mem b) := by
  apply bools_ext
  · rw [clr_len, marks_len, marks_len]
  · intro x hx
    rw [marks_len] at hx
    rw [marks_get _ _ _ hx, split_marked h hb x hx, clr_getD, marks_get _ _ _ hx]
    congr 1
    apply decide_eq_decide.2
    constructor
    · rintro g ⟨y, hy, e⟩
      obtain ⟨e', rfl, he1, he2⟩ := (mem_mem h hb).1 hy
      simp only [Int.toNat_natCast] at e
      subst e; exact g he2
    · intro g e
      exact g ⟨(x : Int), (mem_mem h hb).2 ⟨x, rfl, hx, e⟩, by simp⟩

theorem mem_inj {s : St} {n b i j : Nat} (hI : Inv s n) (hb : b < s.blocks.length) (hi : i < j) (hj : j < (s.mem b).length) : (s.mem b).getD i 0 < (s.mem b).getD j 0 := by
  have := List.pairwise_iff_getElem.1 (mem_sorted hI hb) i j (by omega) hj hi
  simpa [List.getD, hj, show i < (s.mem b).length by omega] using this

/-- What a mark reads while the ones ahead of it are taken away. -/
theorem clr_read {s : St} {n b k : Nat} (hI : Inv s n) (hb : b < s.blocks.length) (hk : k < (s.mem b).length) (mk : List Bool) :
    (clr mk ((s.mem b).take k)).getD ((s.mem b).getD k 0).toNat false = mk.getD ((s.mem b).getD k 0).toNat false := by
  rw [clr_getD]
  have : ¬ ∃ x ∈ (s.mem b).take k, x.toNat = ((s.mem b).getD k 0).toNat := by
    rintro ⟨y, hy, e⟩
    obtain ⟨i, hi, rfl⟩ := List.mem_iff_getElem.1 hy
    simp only [List.length_take] at hi
    rw [List.getElem_take] at e
    have h1 := mem_inj hI hb (show i < k by omega) hk
    have h2 : (s.mem b).getD i 0 = (s.mem b)[i]'(by omega) := by simp [List.getD, show i < (s.mem b).length by omega]
    obtain ⟨a, ha, _⟩ := mem_at hI hb (show i < (s.mem b).length by omega)
    obtain ⟨c, hc, _⟩ := mem_at hI hb hk
    rw [← h2] at e
    rw [ha, hc] at e h1
    simp at e; omega
  rw [decide_eq_true this, Bool.and_true]

end Go.Proofs.YtfkhaldheclheaaDoor.Rf
