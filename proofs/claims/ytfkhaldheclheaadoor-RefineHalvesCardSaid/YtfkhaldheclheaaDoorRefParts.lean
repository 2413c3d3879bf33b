/- The plain law behind the play of a script on a partition: the invariant is kept; the blocks part the elements; a block in order. No program in sight. -/
import Derived.Test.YtfkhaldheclheaaDoorRefPlain
namespace Go.Proofs.YtfkhaldheclheaaDoor.Rf

/-- One op of a script: 1 marks, any other number splits; of what is not there nothing becomes. -/
def St.step (s : St) (n : Nat) (o : Int × Int) : St :=
  if o.1 = 1 then (if 0 ≤ o.2 ∧ o.2 < (n : Int) then (s.mark o.2.toNat).2 else s)
  else (if 0 ≤ o.2 ∧ o.2 < (s.blocks.length : Int) then (s.split o.2.toNat).2 else s)

theorem step_inv {s : St} {n : Nat} (h : Inv s n) (o : Int × Int) : Inv (s.step n o) n := by
  unfold St.step
  split
  · split
    · exact mark_inv h (by omega)
    · exact h
  · split
    · exact split_inv h (by omega)
    · exact h

def St.play (s : St) (n : Nat) (l : List (Int × Int)) : St := l.foldl (fun s o => s.step n o) s

theorem play_inv {n : Nat} (l : List (Int × Int)) : ∀ {s : St}, Inv s n → Inv (s.play n l) n := by
  induction l with
  | nil => intro s h; exact h
  | cons o l ih => intro s h; exact ih (step_inv h o)

theorem play_snoc (s : St) (n : Nat) (l : List (Int × Int)) (o : Int × Int) : s.play n (l ++ [o]) = (s.play n l).step n o := by
  simp [St.play, List.foldl_append]

theorem step_blocks_le {s : St} {n : Nat} (o : Int × Int) : (s.step n o).blocks.length ≤ s.blocks.length + 1 := by
  unfold St.step
  split
  · split
    · unfold St.mark; split
      · simp
      · rw [markIn_len]; simp [St.swap]
    · simp
  · split
    · unfold St.split; split
      · simp [St.bare]
      · split <;> simp [St.cut]
    · simp

/-- How many elements the blocks below b have together. -/
def St.tot (s : St) : Nat → Nat
  | 0 => 0
  | b + 1 => s.tot b + (s.T b - s.F b)

theorem countP_below (f : Nat → Nat) (l : List Nat) (m : Nat) : l.countP (fun i => f i < m + 1) = l.countP (fun i => f i < m) + l.countP (fun i => f i = m) := by
  induction l with
  | nil => rfl
  | cons x l ih =>
    simp only [List.countP_cons, ih]
    by_cases h1 : f x < m
    · have : f x < m + 1 := by omega
      have : ¬ f x = m := by omega
      simp [*]; omega
    · by_cases h2 : f x = m
      · simp [h2]; omega
      · have : ¬ f x < m + 1 := by omega
        simp [*]

theorem countP_range (a b : Nat) : ∀ n, a ≤ b → b ≤ n → (List.range n).countP (fun i => decide (a ≤ i ∧ i < b)) = b - a := by
  intro n
  induction n generalizing b with
  | zero => intro h1 h2; simp; omega
  | succ n ih =>
    intro h1 h2
    rw [List.range_succ, List.countP_append]
    by_cases h : b ≤ n
    · rw [ih b h1 h]
      simp; omega
    · obtain rfl : b = n + 1 := by omega
      by_cases ha : a ≤ n
      · have := ih n ha (Nat.le_refl _)
        have e : (List.range n).countP (fun i => decide (a ≤ i ∧ i < n + 1)) = (List.range n).countP (fun i => decide (a ≤ i ∧ i < n)) := by
          apply List.countP_congr
          intro i hi
          have := List.mem_range.1 hi
          simp; omega
        rw [e, this]
        simp [ha]; omega
      · obtain rfl : a = n + 1 := by omega
        have e : (List.range n).countP (fun i => decide (n + 1 ≤ i ∧ i < n + 1)) = 0 := by
          rw [List.countP_eq_zero]; intro i hi; simp
        rw [e]; simp

theorem size_count {s : St} {n b : Nat} (h : Inv s n) (hb : b < s.blocks.length) : (List.range n).countP (fun i => s.I (s.E i) = b) = s.T b - s.F b := by
  have bb := h.b1 b hb
  rw [← countP_range (s.F b) (s.T b) n (by omega) bb.2.1]
  apply List.countP_congr
  intro i hi
  have hi := List.mem_range.1 hi
  simp only [decide_eq_true_eq]
  constructor
  · intro e
    have ei := h.e1 i hi
    have oi := h.in1 _ ei.1
    rw [ei.2, e] at oi
    exact oi.2
  · intro hx
    exact h.in2 b hb i hx.1 hx.2

theorem tot_count {s : St} {n : Nat} (h : Inv s n) : ∀ b, b ≤ s.blocks.length → s.tot b = (List.range n).countP (fun i => s.I (s.E i) < b) := by
  intro b
  induction b with
  | zero => intro _; simp [St.tot]
  | succ b ih =>
    intro hb
    rw [St.tot, ih (by omega), countP_below (fun i => s.I (s.E i)), size_count h (by omega)]

theorem tot_all {s : St} {n : Nat} (h : Inv s n) : s.tot s.blocks.length = n := by
  rw [tot_count h _ (Nat.le_refl _), List.countP_eq_length.2, List.length_range]
  intro i hi
  have := (h.in1 _ (h.e1 i (List.mem_range.1 hi)).1).1
  simpa using this

theorem tot_le {s : St} {n : Nat} (h : Inv s n) (b : Nat) (hb : b ≤ s.blocks.length) : s.tot b ≤ n := by
  rw [tot_count h _ hb]
  have := List.countP_le_length (p := fun i => decide (s.I (s.E i) < b)) (l := List.range n)
  rwa [List.length_range] at this

theorem blocks_le {s : St} {n : Nat} (h : Inv s n) : s.blocks.length ≤ n := by
  have : ∀ b, b ≤ s.blocks.length → b ≤ s.tot b := by
    intro b
    induction b with
    | zero => intro _; simp [St.tot]
    | succ b ih => intro hb; have := ih (by omega); have := (h.b1 b (by omega)).1; rw [St.tot]; omega
  have h1 := this _ (Nat.le_refl _)
  rw [tot_all h] at h1; exact h1

/-- A block's elements, where they stand. -/
def St.row (s : St) (b : Nat) : List Nat := (s.elems.take (s.T b)).drop (s.F b)

theorem row_len {s : St} {n b : Nat} (hI : Inv s n) (hb : b < s.blocks.length) : (s.row b).length = s.T b - s.F b := by
  have := hI.b1 b hb
  simp only [St.row, List.length_drop, List.length_take, hI.le]; omega

theorem row_get {s : St} {n b j : Nat} (hI : Inv s n) (hb : b < s.blocks.length) (hj : j < (s.row b).length) : (s.row b)[j] = s.E (s.F b + j) := by
  have := hI.b1 b hb
  have hl := row_len hI hb
  simp only [St.row, List.getElem_drop, List.getElem_take, St.E, List.getD]
  rw [List.getElem?_eq_getElem (by rw [hI.le]; omega)]
  rfl

/-- The same in order, as the program has them. -/
def St.mem (s : St) (b : Nat) : List Int := ((s.row b).map Int.ofNat).mergeSort fun x y => decide (x ≤ y)

theorem mem_len {s : St} {n b : Nat} (hI : Inv s n) (hb : b < s.blocks.length) : (s.mem b).length = s.T b - s.F b := by
  simp only [St.mem, List.length_mergeSort, List.length_map, row_len hI hb]

theorem mem_row {s : St} {n b e : Nat} (hI : Inv s n) (hb : b < s.blocks.length) : e ∈ s.row b ↔ e < n ∧ s.I e = b := by
  have bb := hI.b1 b hb
  constructor
  · intro h
    obtain ⟨j, hj, rfl⟩ := List.mem_iff_getElem.1 h
    have hl := row_len hI hb
    rw [row_get hI hb hj]
    exact ⟨(hI.e1 _ (by omega)).1, hI.in2 b hb _ (by omega) (by omega)⟩
  · rintro ⟨he, hi⟩
    have := hI.in1 e he
    rw [hi] at this
    exact (mem_range hI bb.2.1 he).2 this.2

theorem mem_mem {s : St} {n b : Nat} {x : Int} (hI : Inv s n) (hb : b < s.blocks.length) : x ∈ s.mem b ↔ ∃ e : Nat, x = e ∧ e < n ∧ s.I e = b := by
  rw [St.mem, List.mem_mergeSort, List.mem_map]
  constructor
  · rintro ⟨e, he, rfl⟩
    exact ⟨e, rfl, (mem_row hI hb).1 he⟩
  · rintro ⟨e, rfl, h⟩
    exact ⟨e, (mem_row hI hb).2 h, rfl⟩

theorem row_nodup {s : St} {n b : Nat} (hI : Inv s n) (hb : b < s.blocks.length) : (s.row b).Nodup := by
  have bb := hI.b1 b hb
  have hl := row_len hI hb
  refine List.pairwise_iff_getElem.2 ?_
  intro i j hi hj hij
  rw [row_get hI hb hi, row_get hI hb hj]
  intro e
  have := E_inj hI (by omega) (by omega) e
  omega

theorem mem_sorted {s : St} {n b : Nat} (hI : Inv s n) (hb : b < s.blocks.length) : (s.mem b).Pairwise (· < ·) := by
  have h1 : (s.mem b).Pairwise (fun x y => decide (x ≤ y) = true) := List.pairwise_mergeSort (by intro a b c; simp; omega) (by intro a b; simp; omega) _
  have h2 : (s.mem b).Nodup := by
    rw [St.mem, (List.mergeSort_perm _ _).nodup_iff, List.Nodup, List.pairwise_map]
    exact (row_nodup hI hb).imp (fun h e => h (Int.ofNat.inj e))
  exact (h1.and h2).imp (fun ⟨a, b⟩ => by simp at a; omega)

theorem mem_lt {s : St} {n b k : Nat} (hI : Inv s n) (hb : b < s.blocks.length) (h0 : 0 < k) (hk : k < (s.mem b).length) : (s.mem b).getD (k - 1) 0 < (s.mem b).getD k 0 := by
  have := List.pairwise_iff_getElem.1 (mem_sorted hI hb) (k - 1) k (by omega) hk (by omega)
  simpa [List.getD, hk, show k - 1 < (s.mem b).length by omega] using this

theorem mem_at {s : St} {n b k : Nat} (hI : Inv s n) (hb : b < s.blocks.length) (hk : k < (s.mem b).length) : ∃ e : Nat, (s.mem b).getD k 0 = e ∧ e < n ∧ s.I e = b := by
  have : (s.mem b).getD k 0 ∈ s.mem b := by simp only [List.getD, List.getElem?_eq_getElem hk, Option.getD_some]; exact List.getElem_mem hk
  exact (mem_mem hI hb).1 this

end Go.Proofs.YtfkhaldheclheaaDoor.Rf
