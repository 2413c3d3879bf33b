/- The plain law behind RefinePlays: the reference's answers are the program's. No program in sight. -/
import Derived.Test.YtfkhaldheclheaaGreatDoorRefHalf
import Derived.Test.YtfkhaldheclheaaGreatDoorRefOf
namespace Go.Proofs.YtfkhaldheclheaaGreatDoor.Rf
set_option linter.unusedVariables false
set_option linter.unusedSimpArgs false

/-- The reference's elements of a block. -/
def refMem (inn : List Nat) (n : Nat) (b : Int) : List Int := ((List.range n).filter fun e => decide ((inn.getD e 0 : Int) = b)).map Int.ofNat

theorem refMem_zero (inn : List Nat) (b : Int) : refMem inn 0 b = [] := rfl

theorem refMem_succ (inn : List Nat) (k : Nat) (b : Int) : refMem inn (k + 1) b = if (inn.getD k 0 : Int) = b then refMem inn k b ++ [(k : Int)] else refMem inn k b := by
  unfold refMem
  rw [List.range_succ, List.filter_append, List.map_append]
  by_cases h : (inn.getD k 0 : Int) = b
  · rw [if_pos h, show List.filter (fun e => decide ((inn.getD e 0 : Int) = b)) [k] = [k] by simp only [List.filter_cons, List.filter_nil, h, decide_true, if_true]]; rfl
  · rw [if_neg h, show List.filter (fun e => decide ((inn.getD e 0 : Int) = b)) [k] = [] by rw [List.filter_cons, if_neg (by simpa using h)]; rfl]; simp only [List.map_nil, List.append_nil]

theorem refMem_le (inn : List Nat) (n : Nat) (b : Int) : (refMem inn n b).length ≤ n := by
  unfold refMem
  rw [List.length_map]
  have := List.length_filter_le (fun e => decide ((inn.getD e 0 : Int) = b)) (List.range n)
  rwa [List.length_range] at this

theorem sorted_unique {a b : List Int} (ha : a.Pairwise (· < ·)) (hb : b.Pairwise (· < ·)) (h : ∀ x, x ∈ a ↔ x ∈ b) : a = b := by
  induction a generalizing b with
  | nil => cases b with
    | nil => rfl
    | cons y b => exact absurd ((h y).2 (List.mem_cons_self ..)) (List.not_mem_nil)
  | cons x a ih =>
    cases b with
    | nil => exact absurd ((h x).1 (List.mem_cons_self ..)) (List.not_mem_nil)
    | cons y b =>
      rw [List.pairwise_cons] at ha hb
      have hxy : x = y := by
        have h1 := (h x).1 (List.mem_cons_self ..)
        have h2 := (h y).2 (List.mem_cons_self ..)
        rcases List.mem_cons.1 h1 with e | h1
        · exact e
        · rcases List.mem_cons.1 h2 with e | h2
          · exact e.symm
          · have := ha.1 y h2; have := hb.1 x h1; omega
      subst hxy
      rw [ih ha.2 hb.2 (fun z => ?_)]
      have hz := h z
      simp only [List.mem_cons] at hz
      constructor
      · intro hm
        rcases hz.1 (.inr hm) with e | hm'
        · have := ha.1 z hm; omega
        · exact hm'
      · intro hm
        rcases hz.2 (.inr hm) with e | hm'
        · have := hb.1 z hm; omega
        · exact hm'

theorem refMem_sorted (inn : List Nat) (n : Nat) (b : Int) : (refMem inn n b).Pairwise (· < ·) := by
  unfold refMem
  rw [List.pairwise_map]
  have := (List.pairwise_lt_range (n := n)).filter (fun e => decide ((inn.getD e 0 : Int) = b))
  exact this.imp (fun h => Int.ofNat_lt.2 h)

theorem refMem_mem {inn : List Nat} {n : Nat} {b x : Int} : x ∈ refMem inn n b ↔ ∃ e : Nat, x = e ∧ e < n ∧ (inn.getD e 0 : Int) = b := by
  unfold refMem
  rw [List.mem_map]
  constructor
  · rintro ⟨e, he, rfl⟩
    rw [List.mem_filter] at he
    exact ⟨e, rfl, List.mem_range.1 he.1, by simpa using he.2⟩
  · rintro ⟨e, rfl, h1, h2⟩
    exact ⟨e, by rw [List.mem_filter]; exact ⟨List.mem_range.2 h1, by simpa using h2⟩, rfl⟩

/-- Members is the reference's. -/
theorem mem_ref {s : St} {n b : Nat} (hI : Inv s n) (hb : b < s.blocks.length) : s.mem b = refMem s.inn n b := by
  refine sorted_unique (mem_sorted hI hb) (refMem_sorted _ _ _) (fun x => ?_)
  rw [mem_mem hI hb, refMem_mem]
  constructor
  · rintro ⟨e, rfl, h1, h2⟩
    exact ⟨e, rfl, h1, by have : s.inn.getD e 0 = b := h2; omega⟩
  · rintro ⟨e, rfl, h1, h2⟩
    exact ⟨e, rfl, h1, by show s.inn.getD e 0 = b; omega⟩

/-- How many of a block's elements below k are marked. -/
def refMarks (inn : List Nat) (mk : List Bool) (k : Nat) (b : Int) : Nat := (List.range k).countP fun e => decide ((inn.getD e 0 : Int) = b) && mk.getD e false

theorem refMarks_succ (inn : List Nat) (mk : List Bool) (k : Nat) (b : Int) : refMarks inn mk (k + 1) b = refMarks inn mk k b + if (inn.getD k 0 : Int) = b ∧ mk.getD k false = true then 1 else 0 := by
  unfold refMarks
  rw [List.range_succ, List.countP_append]
  congr 1
  by_cases h1 : (inn.getD k 0 : Int) = b <;> by_cases h2 : mk.getD k false = true <;> simp [h1, h2]

theorem refMarks_le (inn : List Nat) (mk : List Bool) (k : Nat) (b : Int) : refMarks inn mk k b ≤ k := by
  have := List.countP_le_length (p := fun e => decide ((inn.getD e 0 : Int) = b) && mk.getD e false) (l := List.range k)
  rwa [List.length_range] at this

theorem elems_range {s : St} {n : Nat} (h : Inv s n) : s.elems = (List.range n).map s.E := by
  apply List.ext_getElem
  · rw [List.length_map, List.length_range, h.le]
  · intro i h1 h2
    simp [St.E, List.getD, h1]

theorem elems_perm {s : St} {n : Nat} (h : Inv s n) : s.elems.Perm (List.range n) := by
  refine (List.perm_ext_iff_of_nodup ?_ List.nodup_range).2 ?_
  · refine List.pairwise_iff_getElem.2 ?_
    intro i j hi hj hij e
    rw [h.le] at hi hj
    have : s.E i = s.E j := by simp only [St.E, List.getD]; rw [List.getElem?_eq_getElem (by rw [h.le]; exact hi), List.getElem?_eq_getElem (by rw [h.le]; exact hj), e]
    have := E_inj h hi hj this
    omega
  · intro x
    rw [List.mem_range, elems_range h, List.mem_map]
    constructor
    · rintro ⟨i, hi, rfl⟩; exact (h.e1 i (List.mem_range.1 hi)).1
    · intro hx; exact ⟨s.P x, List.mem_range.2 (h.p1 x hx).1, (h.p1 x hx).2⟩

/-- Marks is the reference's. -/
theorem marks_ref {s : St} {n b : Nat} (h : Inv s n) (hb : b < s.blocks.length) : refMarks s.inn (s.marks n) n b = s.M b := by
  have bb := h.b1 b hb
  unfold refMarks
  have e1 : (List.range n).countP (fun e => decide ((s.inn.getD e 0 : Int) = b) && (s.marks n).getD e false) = s.elems.countP (fun e => decide ((s.inn.getD e 0 : Int) = b) && (s.marks n).getD e false) := ((elems_perm h).countP_eq _).symm
  rw [e1, elems_range h, List.countP_map]
  rw [show s.M b = (s.F b + s.M b) - s.F b by omega, ← countP_range (s.F b) (s.F b + s.M b) n (by omega) (by omega)]
  apply List.countP_congr
  intro i hi
  have hi := List.mem_range.1 hi
  have ei := h.e1 i hi
  have oi := h.in1 _ ei.1
  simp only [Function.comp, Bool.and_eq_true, decide_eq_true_eq]
  rw [marks_get _ _ _ ei.1, marked_iff, ei.2]
  have hI : s.inn.getD (s.E i) 0 = s.I (s.E i) := rfl
  rw [hI]
  rw [ei.2] at oi
  constructor
  · rintro ⟨h1, h2⟩
    have h1' : s.I (s.E i) = b := by omega
    rw [h1'] at oi h2
    omega
  · intro hx
    have := h.in2 b hb i hx.1 (by omega)
    rw [this]; exact ⟨rfl, hx.2⟩

/-- Marked: the blocks below b with a marked element. -/
def St.hot (s : St) : Nat → List Int
  | 0 => []
  | b + 1 => if 0 < s.M b then s.hot b ++ [(b : Int)] else s.hot b

theorem hot_len (s : St) : ∀ b, (s.hot b).length ≤ b := by
  intro b
  induction b with
  | zero => simp [St.hot]
  | succ b ih =>
    simp only [St.hot]
    split
    · simp; omega
    · omega

/-- What the reference's split does to one element. -/
def refSplit1 (moved : Bool) (sp : Bool) (nb : Nat) (q : List Nat × List Bool) (x : Int) : List Nat × List Bool :=
  (if sp && (q.2.getD x.toNat false == moved) then q.1.set x.toNat nb else q.1, q.2.set x.toNat false)

def refSplit (moved sp : Bool) (nb : Nat) (inn : List Nat) (mk : List Bool) (l : List Int) : List Nat × List Bool := l.foldl (refSplit1 moved sp nb) (inn, mk)

theorem refSplit_take (moved sp : Bool) (nb : Nat) (inn : List Nat) (mk : List Bool) (l : List Int) (k : Nat) (hk : k < l.length) :
    refSplit moved sp nb inn mk (l.take (k + 1)) = refSplit1 moved sp nb (refSplit moved sp nb inn mk (l.take k)) (l.getD k 0) := by
  rw [List.take_succ_eq_append_getElem hk]
  unfold refSplit
  rw [List.foldl_append]
  simp [List.getD, hk]

theorem refSplit_marks (moved sp : Bool) (nb : Nat) (l : List Int) : ∀ (inn : List Nat) (mk : List Bool), (refSplit moved sp nb inn mk l).2 = clr mk l := by
  induction l with
  | nil => intro inn mk; rfl
  | cons x l ih => intro inn mk; exact ih _ _

theorem refSplit_len (moved sp : Bool) (nb : Nat) (l : List Int) : ∀ (inn : List Nat) (mk : List Bool), (refSplit moved sp nb inn mk l).1.length = inn.length := by
  induction l with
  | nil => intro inn mk; rfl
  | cons x l ih =>
    intro inn mk
    refine (ih _ _).trans ?_
    show (if _ then _ else _ : List Nat).length = _
    split <;> simp

theorem refSplit_false (moved : Bool) (nb : Nat) (l : List Int) : ∀ (inn : List Nat) (mk : List Bool), (refSplit moved false nb inn mk l).1 = inn := by
  induction l with
  | nil => intro inn mk; rfl
  | cons x l ih => intro inn mk; exact ih _ _

/-- Of a list without doubles: what the reference's split makes of the blocks. -/
theorem refSplit_get (moved : Bool) (nb : Nat) (l : List Int) (hnn : ∀ x ∈ l, 0 ≤ x) (hnd : l.Nodup) : ∀ (inn : List Nat) (mk : List Bool) (j : Nat), j < inn.length →
    (refSplit moved true nb inn mk l).1.getD j 0 = if ((j : Int) ∈ l ∧ mk.getD j false = moved) then nb else inn.getD j 0 := by
  induction l with
  | nil => intro inn mk j hj; simp [refSplit]
  | cons x l ih =>
    intro inn mk j hj
    rw [List.nodup_cons] at hnd
    have hx : 0 ≤ x := hnn x (List.mem_cons_self ..)
    have := ih (fun y hy => hnn y (List.mem_cons_of_mem _ hy)) hnd.2 (refSplit1 moved true nb (inn, mk) x).1 (refSplit1 moved true nb (inn, mk) x).2 j (by simp only [refSplit1]; split <;> simp [hj])
    have hstep : refSplit moved true nb inn mk (x :: l) = refSplit moved true nb (refSplit1 moved true nb (inn, mk) x).1 (refSplit1 moved true nb (inn, mk) x).2 l := rfl
    rw [hstep, this]
    have h1 : (refSplit1 moved true nb (inn, mk) x).1 = if mk.getD x.toNat false = moved then inn.set x.toNat nb else inn := by
      simp only [refSplit1, Bool.true_and, beq_iff_eq]
    have h2 : (refSplit1 moved true nb (inn, mk) x).2 = mk.set x.toNat false := rfl
    rw [h1, h2]
    by_cases g : x.toNat = j
    · have hxj : (j : Int) = x := by omega
      subst g
      have hnl : ¬ ((x.toNat : Int) ∈ l) := by rw [hxj]; exact hnd.1
      rw [if_neg (fun h => hnl h.1)]
      have hin : (x.toNat : Int) ∈ x :: l := by rw [hxj]; exact List.mem_cons_self ..
      by_cases hm : mk.getD x.toNat false = moved
      · rw [if_pos hm, getD_set, if_pos ⟨rfl, hj⟩, if_pos ⟨hin, hm⟩]
      · rw [if_neg hm, if_neg (fun h => hm h.2)]
    · have hxj : ¬ (j : Int) = x := by omega
      have hmem : ((j : Int) ∈ x :: l) ↔ ((j : Int) ∈ l) := by simp [hxj]
      have hms : (mk.set x.toNat false).getD j false = mk.getD j false := by rw [getD_set, if_neg (fun h => g h.1)]
      rw [hms]
      simp only [hmem]
      have : (if mk.getD x.toNat false = moved then inn.set x.toNat nb else inn).getD j 0 = inn.getD j 0 := by
        split
        · rw [getD_set, if_neg (fun h => g h.1)]
        · rfl
      rw [this]

theorem inn_ext {a b : List Nat} (hl : a.length = b.length) (h : ∀ x, x < a.length → a.getD x 0 = b.getD x 0) : a = b := by
  apply List.ext_getElem hl
  intro i h1 h2
  have := h i h1
  simpa [List.getD, h1, h2] using this

theorem split_len_eq (s : St) (b : Nat) : (s.split b).2.inn.length = s.inn.length := by
  unfold St.split
  split
  · rfl
  · split <;> exact setAll_len _ _ _

theorem split_mv {s : St} {n b : Nat} (h : Inv s n) (hb : b < s.blocks.length) (hsp : ¬ (s.M b = 0 ∨ s.T b - s.F b - s.M b = 0)) (x : Nat) (hx : x < n) :
    (s.split b).2.I x = if s.I x = b ∧ s.marked x = decide (s.M b ≤ s.T b - s.F b - s.M b) then s.blocks.length else s.I x := by
  have bb := h.b1 b hb
  have ox := h.in1 x hx
  have hin : ∀ lo hi, s.F b ≤ lo → hi ≤ s.T b → (lo ≤ s.P x ∧ s.P x < hi) → s.I x = b := by
    intro lo hi h1 h2 hp
    have := h.in2 b hb (s.P x) (by omega) (by omega)
    rw [(h.p1 x hx).2] at this; exact this
  unfold St.split
  rw [if_neg hsp]
  by_cases hd : s.M b ≤ s.T b - s.F b - s.M b
  · rw [if_pos hd]
    show (s.cut b (s.F b) (s.F b + s.M b) (s.F b + s.M b) (s.T b)).I x = _
    rw [(cut_inv h hb (by omega) (by omega) (.inl ⟨rfl, rfl, rfl⟩)).2 x hx]
    by_cases g : s.F b ≤ s.P x ∧ s.P x < s.F b + s.M b
    · have gi := hin _ _ (Nat.le_refl _) bb.2.2 g
      rw [if_pos g, if_pos ⟨gi, by simp [St.marked, gi, g.2, hd]⟩]
    · rw [if_neg g, if_neg]
      rintro ⟨gi, gm⟩
      simp only [St.marked, gi, hd, decide_true, decide_eq_true_eq] at gm
      rw [gi] at ox; omega
  · rw [if_neg hd]
    show (s.cut b (s.F b + s.M b) (s.T b) (s.F b) (s.F b + s.M b)).I x = _
    rw [(cut_inv h hb (by omega) (by omega) (.inr ⟨rfl, rfl, rfl⟩)).2 x hx]
    by_cases g : s.F b + s.M b ≤ s.P x ∧ s.P x < s.T b
    · have gi := hin _ _ (by omega) (Nat.le_refl _) g
      rw [if_pos g, if_pos ⟨gi, by simp [St.marked, gi, hd]; omega⟩]
    · rw [if_neg g, if_neg]
      rintro ⟨gi, gm⟩
      simp only [St.marked, gi, hd, decide_false, decide_eq_false_iff_not] at gm
      rw [gi] at ox; omega

/-- The reference's split is the program's. -/
theorem split_ref {s : St} {n b : Nat} (h : Inv s n) (hb : b < s.blocks.length) :
    (s.split b).1.isSome = (decide (0 < s.M b) && decide (s.M b < (s.mem b).length)) ∧
    refSplit (decide (2 * s.M b ≤ (s.mem b).length)) ((s.split b).1.isSome) s.blocks.length s.inn (s.marks n) (s.mem b) = ((s.split b).2.inn, (s.split b).2.marks n) ∧
    (s.split b).1.getD 0 = (if (s.split b).1.isSome then s.blocks.length else 0) ∧ (s.split b).2.blocks.length = s.blocks.length + (if (s.split b).1.isSome then 1 else 0) := by
  have bb := h.b1 b hb
  have hl := mem_len h hb
  have hI' := split_inv h hb
  have h2 : (refSplit (decide (2 * s.M b ≤ (s.mem b).length)) ((s.split b).1.isSome) s.blocks.length s.inn (s.marks n) (s.mem b)).2 = (s.split b).2.marks n := by
    rw [refSplit_marks, marks_split h hb]
  by_cases hsp : s.M b = 0 ∨ s.T b - s.F b - s.M b = 0
  · have e : s.split b = (none, s.bare b) := by unfold St.split; rw [if_pos hsp]
    refine ⟨?_, ?_, by rw [e]; rfl, by rw [e]; simp [St.bare]⟩
    · rw [e, hl]; simp; omega
    · apply Prod.ext
      · rw [e]; exact refSplit_false _ _ _ _ _
      · exact h2
  · have hs : (s.split b).1 = some s.blocks.length ∧ (s.split b).2.blocks.length = s.blocks.length + 1 := by
      unfold St.split; rw [if_neg hsp]
      split
      · exact ⟨rfl, cut_len⟩
      · exact ⟨rfl, cut_len⟩
    refine ⟨?_, ?_, by rw [hs.1]; rfl, by rw [hs.1, hs.2]; rfl⟩
    · rw [hs.1, hl]; simp; omega
    · apply Prod.ext
      · rw [hs.1]
        apply inn_ext
        · simp only [Option.isSome_some]; rw [refSplit_len, split_len_eq]
        · intro x hx
          rw [refSplit_len, h.li] at hx
          simp only [Option.isSome_some]
          rw [refSplit_get _ _ _ (fun y hy => by obtain ⟨e, rfl, _⟩ := (mem_mem h hb).1 hy; omega) ((mem_sorted h hb).imp (fun hlt => by omega)) _ _ x (by rw [h.li]; exact hx)]
          have hI := split_mv h hb hsp x hx
          show _ = (s.split b).2.I x
          rw [hI, marks_get _ _ _ hx]
          have hmem : ((x : Int) ∈ s.mem b) ↔ s.I x = b := by
            rw [mem_mem h hb]
            constructor
            · rintro ⟨e, he, _, hi⟩; have : x = e := by omega
              rw [this]; exact hi
            · intro hi; exact ⟨x, rfl, hx, hi⟩
          have hdd : decide (2 * s.M b ≤ (s.mem b).length) = decide (s.M b ≤ s.T b - s.F b - s.M b) := by
            apply decide_eq_decide.2; rw [hl]; omega
          rw [hdd]
          simp only [hmem]
          rfl
      · exact h2

theorem new_blocks (n : Nat) : (ofSt (List.replicate n 0)).blocks.length = if 0 < n then 1 else 0 := by
  have hB : (ofSt (List.replicate n 0)).blocks.length = (Cn.seen (List.replicate n 0)).length := outer_blocks _ _ _
  rw [hB]
  have : ∀ k, Cn.seen (List.replicate k 0) = if 0 < k then [0] else [] := by
    intro k
    induction k with
    | zero => rfl
    | succ k ih =>
      rw [List.replicate_succ', Cn.seen_snoc, ih]
      by_cases h : 0 < k
      · simp [h]
      · simp [h]
  rw [this]; split <;> rfl

theorem new_inn (n : Nat) : (ofSt (List.replicate n 0)).inn = List.replicate n 0 := by
  apply inn_ext
  · show (Cn.canon _).length = _; rw [Cn.canon_len]; simp
  · intro x hx
    have hx' : x < n := by have : x < (Cn.canon (List.replicate n 0)).length := hx; rw [Cn.canon_len] at this; simpa using this
    have h1 := (of_inv (List.replicate n 0)).in1 x (by simpa using hx')
    rw [new_blocks] at h1
    have h2 : (ofSt (List.replicate n 0)).I x = 0 := by
      have := h1.1; split at this <;> omega
    show (ofSt (List.replicate n 0)).I x = _
    rw [h2]; simp [List.getD, hx']

/-- The greatest of some numbers, one more: what the reference's Together reckons. -/
def topOf (l : List Nat) : Nat := l.foldl (fun n c => if c < n then n else c + 1) 0

theorem topOf_snoc (l : List Nat) (c : Nat) : topOf (l ++ [c]) = if c < topOf l then topOf l else c + 1 := by
  unfold topOf
  rw [List.foldl_append]
  rfl

theorem topOf_take (l : List Nat) (k : Nat) (hk : k < l.length) : topOf (l.take (k + 1)) = if l.getD k 0 < topOf (l.take k) then topOf (l.take k) else l.getD k 0 + 1 := by
  rw [List.take_succ_eq_append_getElem hk, topOf_snoc]
  simp [List.getD, hk]

theorem topOf_le {l : List Nat} {m : Nat} (h : ∀ x ∈ l, x < m) : topOf l ≤ m := by
  suffices g : ∀ k, k ≤ l.length → topOf (l.take k) ≤ m by
    have := g l.length (Nat.le_refl _); rwa [List.take_length] at this
  intro k
  induction k with
  | zero => intro _; simp [topOf]
  | succ k ih =>
    intro hk
    rw [topOf_take _ _ (by omega)]
    have hm := h (l.getD k 0) (by simp only [List.getD, List.getElem?_eq_getElem (show k < l.length by omega), Option.getD_some]; exact List.getElem_mem _)
    have := ih (by omega)
    split <;> omega

theorem topOf_ge (l : List Nat) : ∀ x ∈ l, x < topOf l := by
  suffices g : ∀ k, k ≤ l.length → ∀ x ∈ l.take k, x < topOf (l.take k) by
    have := g l.length (Nat.le_refl _); rwa [List.take_length] at this
  intro k
  induction k with
  | zero => intro _ x hx; simp at hx
  | succ k ih =>
    intro hk x hx
    rw [topOf_take _ _ (by omega)]
    rw [List.take_succ_eq_append_getElem (by omega), List.mem_append, List.mem_singleton] at hx
    have hd : l.getD k 0 = l[k] := by simp [List.getD, show k < l.length by omega]
    rcases hx with hx | hx
    · have := ih (by omega) x hx
      split <;> omega
    · subst hx; split <;> omega

theorem topOf_canon (l : List Int) : topOf (Cn.canon l) = (Cn.seen l).length := by
  apply Nat.le_antisymm
  · apply topOf_le
    intro x hx
    obtain ⟨i, hi, rfl⟩ := List.mem_iff_getElem.1 hx
    have := Cn.canon_lt l i (by rw [← Cn.canon_len l]; exact hi)
    simpa [List.getD, hi] using this
  · rcases Nat.eq_zero_or_pos (Cn.seen l).length with h | h
    · omega
    · obtain ⟨k, hk, hkc⟩ := Cn.canon_onto l ((Cn.seen l).length - 1) (by omega)
      have := topOf_ge (Cn.canon l) ((Cn.canon l).getD k 0) (by simp only [List.getD, List.getElem?_eq_getElem (show k < (Cn.canon l).length by rw [Cn.canon_len]; exact hk), Option.getD_some]; exact List.getElem_mem _)
      omega

end Go.Proofs.YtfkhaldheclheaaGreatDoor.Rf
