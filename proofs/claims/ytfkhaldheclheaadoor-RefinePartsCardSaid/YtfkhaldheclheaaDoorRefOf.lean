/- The plain side of refine.Of: its two loops, round by round, and that what they make is a partition. -/
import Derived.Test.YtfkhaldheclheaaDoorRefHalf
import Derived.Test.YtfkhaldheclheaaDoorCanonPlain
namespace Go.Proofs.YtfkhaldheclheaaDoor.Rf
set_option linter.unusedVariables false
set_option linter.unusedSimpArgs false

/-- One element: it goes behind the others if its class is b. -/
def pushE (inn : List Nat) (b : Nat) (q : List Nat × List Nat) (e : Nat) : List Nat × List Nat :=
  if inn.getD e 0 = b then (q.1 ++ [e], q.2.set e q.1.length) else q

def inner (inn : List Nat) (b k : Nat) (q : List Nat × List Nat) : List Nat × List Nat := (List.range k).foldl (pushE inn b) q

/-- The elements, the places and the blocks behind b rounds. -/
def outer (inn : List Nat) (n : Nat) : Nat → (List Nat × List Nat) × List (Nat × Nat × Nat)
  | 0 => (([], List.replicate n 0), [])
  | b + 1 => (inner inn b n (outer inn n b).1, (outer inn n b).2 ++ [((outer inn n b).1.1.length, (inner inn b n (outer inn n b).1).1.length, 0)])

theorem inner_zero (inn : List Nat) (b : Nat) (q : List Nat × List Nat) : inner inn b 0 q = q := rfl

theorem inner_succ (inn : List Nat) (b k : Nat) (q : List Nat × List Nat) : inner inn b (k + 1) q = pushE inn b (inner inn b k q) k := by
  simp [inner, List.range_succ, List.foldl_append]

theorem inner_len (inn : List Nat) (b : Nat) (q : List Nat × List Nat) : ∀ k, (inner inn b k q).2.length = q.2.length ∧ (inner inn b k q).1.length ≤ q.1.length + k := by
  intro k
  induction k with
  | zero => exact ⟨rfl, Nat.le_refl _⟩
  | succ k ih =>
    rw [inner_succ]
    unfold pushE
    split
    · simp only [List.length_set, List.length_append, List.length_cons, List.length_nil]; exact ⟨ih.1, by omega⟩
    · exact ⟨ih.1, by omega⟩

theorem outer_blocks (inn : List Nat) (n : Nat) : ∀ b, (outer inn n b).2.length = b := by
  intro b
  induction b with
  | zero => rfl
  | succ b ih => simp [outer, ih]

theorem outer_place (inn : List Nat) (n : Nat) : ∀ b, (outer inn n b).1.2.length = n := by
  intro b
  induction b with
  | zero => simp [outer]
  | succ b ih => simp only [outer]; rw [(inner_len _ _ _ _).1, ih]

/-- What stands behind some rounds: of all elements whose class is below b, and of those of class b below k. -/
structure Mid (inn : List Nat) (n b k : Nat) (q : List Nat × List Nat) : Prop where
  lp : q.2.length = n
  e1 : ∀ i, i < q.1.length → q.1.getD i 0 < n ∧ q.2.getD (q.1.getD i 0) 0 = i ∧ (inn.getD (q.1.getD i 0) 0 < b ∨ inn.getD (q.1.getD i 0) 0 = b ∧ q.1.getD i 0 < k)
  p1 : ∀ e, e < n → (inn.getD e 0 < b ∨ inn.getD e 0 = b ∧ e < k) → q.2.getD e 0 < q.1.length ∧ q.1.getD (q.2.getD e 0) 0 = e

theorem getD_left (l t : List Nat) (j : Nat) (h : j < l.length) : (l ++ t).getD j 0 = l.getD j 0 := by
  simp [List.getD, List.getElem?_append, h]

theorem getD_app (l : List Nat) (v j : Nat) : (l ++ [v]).getD j 0 = if j = l.length then v else l.getD j 0 := getD_append_one l j v 0

theorem Mid.step {inn : List Nat} {n b k : Nat} {q : List Nat × List Nat} (h : Mid inn n b k q) (hk : k < n) : Mid inn n b (k + 1) (pushE inn b q k) := by
  unfold pushE
  split
  · rename_i hb
    have hfresh : ∀ i, i < q.1.length → q.1.getD i 0 ≠ k := by
      intro i hi e
      have := (h.e1 i hi).2.2
      rw [e, hb] at this
      omega
    constructor
    · simp [h.lp]
    · intro i hi
      simp only [List.length_append, List.length_cons, List.length_nil] at hi
      simp only [getD_app, getD_set, h.lp]
      by_cases g : i = q.1.length
      · simp only [g, if_true]
        refine ⟨hk, by simp [hk], .inr ⟨hb, by omega⟩⟩
      · simp only [g, if_false]
        have := h.e1 i (by omega)
        have hf := hfresh i (by omega)
        refine ⟨this.1, ?_, by omega⟩
        rw [if_neg (by intro e; exact hf e.1.symm)]
        exact this.2.1
    · intro e he hc
      simp only [List.length_append, List.length_cons, List.length_nil, getD_app, getD_set, h.lp]
      by_cases g : k = e
      · subst g; simp [hk]
      · have := h.p1 e he (by omega)
        rw [if_neg (by intro x; exact g x.1)]
        refine ⟨by omega, ?_⟩
        rw [if_neg (by omega)]
        exact this.2
  · rename_i hb
    constructor
    · exact h.lp
    · intro i hi
      have := h.e1 i hi
      exact ⟨this.1, this.2.1, by omega⟩
    · intro e he hc
      refine h.p1 e he ?_
      rcases hc with hc | ⟨hc, hlt⟩
      · exact .inl hc
      · right
        refine ⟨hc, ?_⟩
        rcases Nat.lt_or_ge e k with g | g
        · exact g
        · have : e = k := by omega
          subst this; exact absurd hc hb

theorem Mid.inner {inn : List Nat} {n b : Nat} {q : List Nat × List Nat} (h : Mid inn n b 0 q) : ∀ k, k ≤ n → Mid inn n b k (inner inn b k q) := by
  intro k
  induction k with
  | zero => intro _; exact h
  | succ k ih => intro hk; rw [inner_succ]; exact (ih (by omega)).step (by omega)

theorem Mid.next {inn : List Nat} {n b : Nat} {q : List Nat × List Nat} (h : Mid inn n b n q) : Mid inn n (b + 1) 0 q := by
  refine ⟨h.lp, fun i hi => ?_, fun e he hc => h.p1 e he (by omega)⟩
  have := h.e1 i hi
  exact ⟨this.1, this.2.1, by omega⟩

theorem outer_mid (inn : List Nat) (n : Nat) : ∀ b, Mid inn n b 0 (outer inn n b).1 := by
  intro b
  induction b with
  | zero =>
    refine ⟨by simp [outer], fun i hi => ?_, fun e he hc => ?_⟩
    · simp [outer] at hi
    · omega
  | succ b ih => exact (ih.inner n (Nat.le_refl _)).next

/-- The elements that stood stay where they stand. -/
theorem inner_old (inn : List Nat) (b : Nat) (q : List Nat × List Nat) : ∀ k, ∃ t, (inner inn b k q).1 = q.1 ++ t := by
  intro k
  induction k with
  | zero => exact ⟨[], by simp [inner]⟩
  | succ k ih =>
    obtain ⟨t, ht⟩ := ih
    rw [inner_succ]
    unfold pushE
    split
    · exact ⟨t ++ [k], by simp [ht]⟩
    · exact ⟨t, ht⟩

theorem outer_old (inn : List Nat) (n b : Nat) : ∀ c, b ≤ c → ∃ t, (outer inn n c).1.1 = (outer inn n b).1.1 ++ t := by
  intro c
  induction c with
  | zero => intro h; obtain rfl : b = 0 := by omega
            exact ⟨[], by simp⟩
  | succ c ih =>
    intro h
    by_cases g : b = c + 1
    · subst g; exact ⟨[], by simp⟩
    · obtain ⟨t, ht⟩ := ih (by omega)
      obtain ⟨u, hu⟩ := inner_old inn c (outer inn n c).1 n
      exact ⟨t ++ u, by simp [outer, hu, ht]⟩

theorem outer_block (inn : List Nat) (n b : Nat) : ∀ c, b < c → (outer inn n c).2.getD b (0, 0, 0) = ((outer inn n b).1.1.length, (outer inn n (b + 1)).1.1.length, 0) := by
  intro c
  induction c with
  | zero => intro h; omega
  | succ c ih =>
    intro h
    simp only [outer, getD_append_one, outer_blocks]
    by_cases g : b = c
    · subst g; simp [outer]
    · rw [if_neg g, ih (by omega)]
      simp [outer]

/-- The partition that Of makes of classes. -/
def ofSt (l : List Int) : St :=
  { elems := (outer (Cn.canon l) l.length (Cn.seen l).length).1.1, place := (outer (Cn.canon l) l.length (Cn.seen l).length).1.2, inn := Cn.canon l, blocks := (outer (Cn.canon l) l.length (Cn.seen l).length).2 }

/-- Where an element of class c stands: among those that round c has laid. -/
theorem stand (inn : List Nat) (n m c e : Nat) (hc : c < m) (he : e < n) (hec : inn.getD e 0 = c) :
    (outer inn n c).1.1.length ≤ (outer inn n m).1.2.getD e 0 ∧ (outer inn n m).1.2.getD e 0 < (outer inn n (c + 1)).1.1.length := by
  have hm := outer_mid inn n m
  have h1 := outer_mid inn n c
  have h2 := outer_mid inn n (c + 1)
  have hp := hm.p1 e he (by omega)
  obtain ⟨t1, ht1⟩ := outer_old inn n c m (by omega)
  obtain ⟨t2, ht2⟩ := outer_old inn n (c + 1) m (by omega)
  constructor
  · rcases Nat.lt_or_ge ((outer inn n m).1.2.getD e 0) (outer inn n c).1.1.length with g | g
    · exfalso
      have := (h1.e1 _ g).2.2
      have hx : (outer inn n c).1.1.getD ((outer inn n m).1.2.getD e 0) 0 = e := by
        have h3 := hp.2
        rw [ht1, getD_left _ _ _ g] at h3
        exact h3
      rw [hx] at this
      omega
    · exact g
  · have hp2 := h2.p1 e he (by omega)
    have hx : (outer inn n m).1.1.getD ((outer inn n (c + 1)).1.2.getD e 0) 0 = e := by
      have h3 := hp2.2
      rw [ht2, getD_left _ _ _ hp2.1]
      exact h3
    have hlen : (outer inn n (c + 1)).1.1.length ≤ (outer inn n m).1.1.length := by rw [ht2]; simp
    have := (hm.e1 ((outer inn n (c + 1)).1.2.getD e 0) (by omega)).2.1
    rw [hx] at this
    omega

theorem of_inv (l : List Int) : Inv (ofSt l) l.length := by
  have hm := outer_mid (Cn.canon l) l.length (Cn.seen l).length
  have hall : ∀ e, e < l.length → (Cn.canon l).getD e 0 < (Cn.seen l).length := fun e he => Cn.canon_lt l e he
  have hlen : (outer (Cn.canon l) l.length (Cn.seen l).length).1.1.length = l.length := by
    have hperm : (outer (Cn.canon l) l.length (Cn.seen l).length).1.1.Perm (List.range l.length) := by
      refine (List.perm_ext_iff_of_nodup ?_ List.nodup_range).2 ?_
      · refine List.pairwise_iff_getElem.2 ?_
        intro a b ha' hb' hlt hab
        have ha := (hm.e1 a ha').2.1
        have hb := (hm.e1 b hb').2.1
        have hea : (outer (Cn.canon l) l.length (Cn.seen l).length).1.1.getD a 0 = (outer (Cn.canon l) l.length (Cn.seen l).length).1.1[a] := by simp [List.getD, ha']
        have heb : (outer (Cn.canon l) l.length (Cn.seen l).length).1.1.getD b 0 = (outer (Cn.canon l) l.length (Cn.seen l).length).1.1[b] := by simp [List.getD, hb']
        rw [hea, hab, ← heb, hb] at ha
        omega
      · intro e
        rw [List.mem_range]
        constructor
        · intro hmem
          obtain ⟨i, hi, rfl⟩ := List.mem_iff_getElem.1 hmem
          have := (hm.e1 i hi).1
          simpa [List.getD, hi] using this
        · intro he
          have := hm.p1 e he (.inl (hall e he))
          obtain ⟨j, hj⟩ : ∃ j, j = (outer (Cn.canon l) l.length (Cn.seen l).length).1.2.getD e 0 := ⟨_, rfl⟩
          rw [← hj] at this
          refine List.mem_iff_getElem.2 ⟨j, this.1, ?_⟩
          have h2 := this.2
          simp only [List.getD, List.getElem?_eq_getElem this.1, Option.getD_some] at h2
          exact h2
    rw [hperm.length_eq, List.length_range]
  have hF : ∀ c, c < (Cn.seen l).length → (ofSt l).F c = (outer (Cn.canon l) l.length c).1.1.length := by
    intro c hc; simp only [St.F, ofSt, outer_block _ _ _ _ hc]
  have hT : ∀ c, c < (Cn.seen l).length → (ofSt l).T c = (outer (Cn.canon l) l.length (c + 1)).1.1.length := by
    intro c hc; simp only [St.T, ofSt, outer_block _ _ _ _ hc]
  have hM : ∀ c, c < (Cn.seen l).length → (ofSt l).M c = 0 := by
    intro c hc; simp only [St.M, ofSt, outer_block _ _ _ _ hc]
  have hB : (ofSt l).blocks.length = (Cn.seen l).length := outer_blocks _ _ _
  constructor
  · exact hlen
  · exact hm.lp
  · exact Cn.canon_len l
  · intro i hi
    have := hm.e1 i (by rw [hlen]; exact hi)
    exact ⟨this.1, this.2.1⟩
  · intro e he
    have := hm.p1 e he (.inl (hall e he))
    refine ⟨?_, this.2⟩
    have h1 := this.1
    rw [hlen] at h1
    exact h1
  · intro e he
    have hc := hall e he
    have st := stand (Cn.canon l) l.length (Cn.seen l).length _ e hc he rfl
    rw [hB]
    refine ⟨hc, ?_, ?_⟩
    · show (ofSt l).F ((Cn.canon l).getD e 0) ≤ _; rw [hF _ hc]; exact st.1
    · show _ < (ofSt l).T ((Cn.canon l).getD e 0); rw [hT _ hc]; exact st.2
  · intro c hc
    rw [hB] at hc
    rw [hF _ hc, hT _ hc, hM _ hc]
    obtain ⟨k, hk, hkc⟩ := Cn.canon_onto l c hc
    have st := stand (Cn.canon l) l.length (Cn.seen l).length c k hc hk hkc
    obtain ⟨t2, ht2⟩ := outer_old (Cn.canon l) l.length (c + 1) (Cn.seen l).length (by omega)
    have h3 : (outer (Cn.canon l) l.length (c + 1)).1.1.length ≤ l.length := by have h4 := congrArg List.length ht2; rw [hlen, List.length_append] at h4; omega
    omega
  · intro c hc i h1 h2
    rw [hB] at hc
    rw [hF _ hc] at h1
    rw [hT _ hc] at h2
    obtain ⟨t2, ht2⟩ := outer_old (Cn.canon l) l.length (c + 1) (Cn.seen l).length (by omega)
    have h3 : (outer (Cn.canon l) l.length (c + 1)).1.1.length ≤ l.length := by have h4 := congrArg List.length ht2; rw [hlen, List.length_append] at h4; omega
    have hi : i < l.length := by omega
    have he := hm.e1 i (by rw [hlen]; exact hi)
    have st := stand (Cn.canon l) l.length (Cn.seen l).length _ _ (hall _ he.1) he.1 rfl
    rw [he.2.1] at st
    have hI : (ofSt l).I ((ofSt l).E i) = (Cn.canon l).getD ((outer (Cn.canon l) l.length (Cn.seen l).length).1.1.getD i 0) 0 := rfl
    rw [hI]
    generalize hd : (Cn.canon l).getD ((outer (Cn.canon l) l.length (Cn.seen l).length).1.1.getD i 0) 0 = d at st
    rcases Nat.lt_trichotomy d c with g | g | g
    · obtain ⟨t, ht⟩ := outer_old (Cn.canon l) l.length (d + 1) c (by omega)
      have : (outer (Cn.canon l) l.length (d + 1)).1.1.length ≤ (outer (Cn.canon l) l.length c).1.1.length := by rw [ht]; simp
      omega
    · exact g
    · obtain ⟨t, ht⟩ := outer_old (Cn.canon l) l.length (c + 1) d (by omega)
      have : (outer (Cn.canon l) l.length (c + 1)).1.1.length ≤ (outer (Cn.canon l) l.length d).1.1.length := by rw [ht]; simp
      omega

theorem outer_le (l : List Int) (b : Nat) (h : b ≤ (Cn.seen l).length) : (outer (Cn.canon l) l.length b).1.1.length ≤ l.length := by
  obtain ⟨t, ht⟩ := outer_old (Cn.canon l) l.length b _ h
  have h1 := (of_inv l).le
  have h2 := congrArg List.length ht
  rw [List.length_append] at h2
  have h3 : (outer (Cn.canon l) l.length (Cn.seen l).length).1.1.length = l.length := h1
  omega

theorem inner_old2 (inn : List Nat) (b : Nat) (q : List Nat × List Nat) (k : Nat) : ∀ c, k ≤ c → ∃ t, (inner inn b c q).1 = (inner inn b k q).1 ++ t := by
  intro c
  induction c with
  | zero => intro h; obtain rfl : k = 0 := by omega
            exact ⟨[], by simp⟩
  | succ c ih =>
    intro h
    by_cases g : k = c + 1
    · subst g; exact ⟨[], by simp⟩
    · obtain ⟨t, ht⟩ := ih (by omega)
      rw [inner_succ]
      unfold pushE
      split
      · exact ⟨t ++ [c], by simp [ht]⟩
      · exact ⟨t, ht⟩

theorem inner_le (l : List Int) (b k : Nat) (h : b < (Cn.seen l).length) (hk : k ≤ l.length) : (inner (Cn.canon l) b k (outer (Cn.canon l) l.length b).1).1.length ≤ l.length := by
  obtain ⟨t, ht⟩ := inner_old2 (Cn.canon l) b (outer (Cn.canon l) l.length b).1 k l.length hk
  have h1 := outer_le l (b + 1) h
  have h2 := congrArg List.length ht
  rw [List.length_append] at h2
  have h3 : (outer (Cn.canon l) l.length (b + 1)).1.1 = (inner (Cn.canon l) b l.length (outer (Cn.canon l) l.length b).1).1 := rfl
  rw [h3] at h1
  omega

end Go.Proofs.YtfkhaldheclheaaDoor.Rf
