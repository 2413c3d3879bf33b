/- A partition in memory: its blocks as cells; the five parts of it; what stays while it is made. -/
import Derived.Test.YtfkhaldheclheaaGreatDoorMem
import Derived.Test.YtfkhaldheclheaaGreatDoorRefOf
namespace Go.Proofs.YtfkhaldheclheaaGreatDoor
open Go.RowKit
set_option linter.unusedVariables false
set_option linter.unusedSimpArgs false

/-- Blocks as cells. -/
def cellsB : List (Nat × Nat × Nat) → List Value
  | [] => []
  | b :: l => Value.int .i64 (b.1 : Nat) :: Value.int .i64 (b.2.1 : Nat) :: Value.int .i64 (b.2.2 : Nat) :: cellsB l

theorem cellsB_length : ∀ l, (cellsB l).length = l.length * 3
  | [] => rfl
  | b :: l => by simp [cellsB, cellsB_length l]; omega

theorem cellsB_append : ∀ l m, cellsB (l ++ m) = cellsB l ++ cellsB m
  | [], m => rfl
  | b :: l, m => by simp [cellsB, cellsB_append l m]

theorem cellsB_get0 : ∀ (l : List (Nat × Nat × Nat)) (b : Nat), b < l.length → (cellsB l)[b * 3]? = some (.int .i64 ((l.getD b (0, 0, 0)).1 : Nat))
  | x :: l, 0, _ => rfl
  | x :: l, b + 1, h => by
    rw [show (b + 1) * 3 = b * 3 + 3 by omega]
    simpa [cellsB] using cellsB_get0 l b (by simpa using h)
theorem cellsB_get1 : ∀ (l : List (Nat × Nat × Nat)) (b : Nat), b < l.length → (cellsB l)[b * 3 + 1]? = some (.int .i64 ((l.getD b (0, 0, 0)).2.1 : Nat))
  | x :: l, 0, _ => rfl
  | x :: l, b + 1, h => by
    rw [show (b + 1) * 3 + 1 = b * 3 + 1 + 3 by omega]
    simpa [cellsB] using cellsB_get1 l b (by simpa using h)
theorem cellsB_get2 : ∀ (l : List (Nat × Nat × Nat)) (b : Nat), b < l.length → (cellsB l)[b * 3 + 2]? = some (.int .i64 ((l.getD b (0, 0, 0)).2.2 : Nat))
  | x :: l, 0, _ => rfl
  | x :: l, b + 1, h => by
    rw [show (b + 1) * 3 + 2 = b * 3 + 2 + 3 by omega]
    simpa [cellsB] using cellsB_get2 l b (by simpa using h)

theorem cellsB_set0 : ∀ (l : List (Nat × Nat × Nat)) (b v : Nat), b < l.length → (cellsB l).set (b * 3) (.int .i64 (v : Nat)) = cellsB (l.set b (v, (l.getD b (0, 0, 0)).2.1, (l.getD b (0, 0, 0)).2.2))
  | x :: l, 0, v, _ => rfl
  | x :: l, b + 1, v, h => by
    rw [show (b + 1) * 3 = b * 3 + 3 by omega]
    have := cellsB_set0 l b v (by simpa using h)
    simp only [cellsB, List.set_cons_succ, this]
    rfl
theorem cellsB_set1 : ∀ (l : List (Nat × Nat × Nat)) (b v : Nat), b < l.length → (cellsB l).set (b * 3 + 1) (.int .i64 (v : Nat)) = cellsB (l.set b ((l.getD b (0, 0, 0)).1, v, (l.getD b (0, 0, 0)).2.2))
  | x :: l, 0, v, _ => rfl
  | x :: l, b + 1, v, h => by
    rw [show (b + 1) * 3 + 1 = b * 3 + 1 + 3 by omega]
    have := cellsB_set1 l b v (by simpa using h)
    simp only [cellsB, List.set_cons_succ, this]
    rfl
theorem cellsB_set2 : ∀ (l : List (Nat × Nat × Nat)) (b v : Nat), b < l.length → (cellsB l).set (b * 3 + 2) (.int .i64 (v : Nat)) = cellsB (l.set b ((l.getD b (0, 0, 0)).1, (l.getD b (0, 0, 0)).2.1, v))
  | x :: l, 0, v, _ => rfl
  | x :: l, b + 1, v, h => by
    rw [show (b + 1) * 3 + 2 = b * 3 + 2 + 3 by omega]
    have := cellsB_set2 l b v (by simpa using h)
    simp only [cellsB, List.set_cons_succ, this]
    rfl

theorem cellsB_zero (n : Nat) : cellsB (List.replicate n (0, 0, 0)) = List.replicate (n * 3) (Value.int .i64 0) := by
  induction n with
  | zero => rfl
  | succ n ih =>
    rw [List.replicate_succ, show (n + 1) * 3 = n * 3 + 1 + 1 + 1 by omega]
    simp only [cellsB, ih, List.replicate_succ]
    rfl

theorem cellsB_oneCell (l : List (Nat × Nat × Nat)) : ∀ u ∈ cellsB l, u.oneCell' = true := by
  induction l with
  | nil => intro u hu; cases hu
  | cons b l ih =>
    intro u hu
    simp only [cellsB, List.mem_cons] at hu
    rcases hu with rfl | rfl | rfl | hu
    · rfl
    · rfl
    · rfl
    · exact ih u hu

theorem madeCells_blocks (n : Nat) : (madeCells (Value.agg #[Value.int .i64 0, Value.int .i64 0, Value.int .i64 0]).cells (n * 3)).toList = cellsB (List.replicate n (0, 0, 0)) := by
  rw [cellsB_zero]
  apply List.ext_getElem?
  intro j
  by_cases hj : j < n * 3
  · have h3 : j % 3 < 3 := Nat.mod_lt _ (by omega)
    have hx : ∀ k, k < 3 → (#[Value.int .i64 0, Value.int .i64 0, Value.int .i64 0] : Array Value)[k]! = Value.int .i64 0 := by
      intro k hk
      match k, hk with
      | 0, _ => rfl
      | 1, _ => rfl
      | 2, _ => rfl
    have := hx (j % 3) h3
    simp [madeCells, hj, Value.cells]
    simpa using this
  · simp [madeCells, hj]

/-- A round of Of fills one block in: where it begins, then where it ends. -/
theorem blocks_next (A : List (Nat × Nat × Nat)) (b nb m m2 : Nat) (hA : A.length = b) (hb : b < nb) (bl bl1 : List (Nat × Nat × Nat)) (h0 : bl = A ++ List.replicate (nb - b) (0, 0, 0))
    (h1 : bl1 = bl.set b (m, (bl.getD b (0, 0, 0)).2.1, (bl.getD b (0, 0, 0)).2.2)) :
    bl1.set b ((bl1.getD b (0, 0, 0)).1, m2, (bl1.getD b (0, 0, 0)).2.2) = (A ++ [(m, m2, 0)]) ++ List.replicate (nb - (b + 1)) (0, 0, 0) := by
  have hr : List.replicate (nb - b) ((0, 0, 0) : Nat × Nat × Nat) = (0, 0, 0) :: List.replicate (nb - (b + 1)) (0, 0, 0) := by
    rw [show nb - b = (nb - (b + 1)) + 1 by omega, List.replicate_succ]
  have hb0 : bl.getD b (0, 0, 0) = (0, 0, 0) := by
    rw [h0, hr]; simp [List.getD, ← hA]
  rw [hb0] at h1
  have e1 : bl1 = A ++ (m, 0, 0) :: List.replicate (nb - (b + 1)) (0, 0, 0) := by
    rw [h1, h0, hr, List.set_append_right _ _ (by omega), hA, Nat.sub_self]; rfl
  have hb1 : bl1.getD b (0, 0, 0) = (m, 0, 0) := by rw [e1]; simp [List.getD, ← hA]
  rw [hb1, e1, List.set_append_right _ _ (by omega), hA, Nat.sub_self]
  simp

/-- A slice at a block's head. -/
def sl (g n cap : Nat) : Value := .slice (some ⟨g, 0, none⟩) n cap

/-- What stands while Of makes a partition. -/
structure OfR (w wr : World) (Bx gi gp gb S0 n nb : Nat) (inn : List Nat) (ve : Value) (q : List Nat × List Nat) (bl : List (Nat × Nat × Nat)) : Prop where
  box : wr.heap[Bx]? = some (.cells #[ve, .slice (some ⟨gp, 0, none⟩) n n, .slice (some ⟨gi, 0, none⟩) n n, .slice (some ⟨gb, 0, none⟩) nb nb] 59 (0, 0))
  el : wr.ownsRow S0 3 1 ve q.1.length (ints q.1)
  pl : Row wr gp 3 n (ints q.2)
  ir : Row wr gi 3 n (ints inn)
  bk : Row wr gb 75 (nb * 3) (cellsB bl)
  bel : Below w.heap.size w wr
  s0 : S0 ≤ wr.heap.size

/-- The five blocks are five, and new. -/
structure OfB (w : World) (Bx gi gp gb S0 : Nat) : Prop where
  n1 : gi ≠ gp
  n2 : gb ≠ gi
  n3 : gb ≠ gp
  n4 : Bx ≠ gi
  n5 : Bx ≠ gp
  n6 : Bx ≠ gb
  l1 : gi < S0
  l2 : gp < S0
  l3 : gb < S0
  l4 : Bx < S0
  h1 : w.heap.size ≤ gi
  h2 : w.heap.size ≤ gp
  h3 : w.heap.size ≤ gb
  h4 : w.heap.size ≤ Bx

section
variable {w wr : World} {Bx gi gp gb S0 n nb : Nat} {inn : List Nat} {ve : Value} {q : List Nat × List Nat} {bl : List (Nat × Nat × Nat)}

theorem owns_set {S0 e size n : Nat} {v : Value} {xs : List Value} {wr : World} (h : wr.ownsRow S0 e size v n xs) {a : Addr} (ha : a.block < S0) (u : Value) : (wr.setCell a u).ownsRow S0 e size v n xs :=
  owns_keep h (fun g hg => Below.heap_setCell wr a u g (by have := (h.lt g hg).1; omega))

theorem OfR.drew (h : OfR w wr Bx gi gp gb S0 n nb inn ve q bl) : OfR w wr.drew Bx gi gp gb S0 n nb inn ve q bl :=
  ⟨h.box, h.el, h.pl, h.ir, h.bk, h.bel.drew, h.s0⟩

theorem OfR.setB (h : OfR w wr Bx gi gp gb S0 n nb inn ve q bl) (hB : OfB w Bx gi gp gb S0) (j : Nat) (v : Value) (bl' : List (Nat × Nat × Nat)) (he : (cellsB bl).set j v = cellsB bl') :
    OfR w (wr.setCell ⟨gb, j, none⟩ v) Bx gi gp gb S0 n nb inn ve q bl' :=
  ⟨(Below.heap_setCell _ _ _ _ hB.n6).trans h.box, owns_set h.el hB.l3 _, h.pl.other (fun e => hB.n3 e.symm) _, h.ir.other (fun e => hB.n2 e.symm) _, by rw [← he]; exact h.bk.set j v, h.bel.setCell hB.h3 _, by simpa using h.s0⟩

theorem OfR.setP (h : OfR w wr Bx gi gp gb S0 n nb inn ve q bl) (hB : OfB w Bx gi gp gb S0) (j v : Nat) :
    OfR w (wr.setCell ⟨gp, j, none⟩ (.int .i64 (v : Nat))) Bx gi gp gb S0 n nb inn ve (q.1, q.2.set j v) bl :=
  ⟨(Below.heap_setCell _ _ _ _ hB.n5).trans h.box, owns_set h.el hB.l2 _, by rw [ints_set]; exact h.pl.set j _, h.ir.other hB.n1 _, h.bk.other hB.n3 _, h.bel.setCell hB.h2 _, by simpa using h.s0⟩

/-- An element is appended, and the slice put back into its field. -/
theorem OfR.push (h : OfR w wr Bx gi gp gb S0 n nb inn ve q bl) (hB : OfB w Bx gi gp gb S0) (e : Nat) {o : Obj} {v' : Value} {w1 : World}
    (hown : w1.ownsRow S0 3 1 v' (q.1.length + 1) (ints q.1 ++ [.int .i64 (e : Nat)])) (hg : (wr.alloc o).grownBy w1 ve.ownBlock) :
    OfR w (w1.setCell ⟨Bx, 0, none⟩ v') Bx gi gp gb S0 n nb inn v' (q.1 ++ [e], q.2) bl := by
  have hk : ∀ k, k < S0 → w1.heap[k]? = wr.heap[k]? := by
    intro k hk
    have h1 := hg.block k (by have := h.s0; simp; omega) (by
      intro e; have := (h.el.lt k e.symm).1; omega)
    exact h1.trans (Below.heap_alloc _ _ _ (by have := h.s0; omega))
  have hs : wr.heap.size ≤ w1.heap.size := by have := hg.size; simp at this; omega
  have hb1 : Below w.heap.size w w1 := (h.bel.alloc h.bel.size o).grown hg (by have := h.bel.size; simp; omega) (by
    intro k e; have := (h.el.lt k e).1; have := hB.h1; have := hB.l1; omega)
  refine ⟨?_, ?_, (h.pl.keep (hk _ hB.l2)).other (fun e => hB.n5 e.symm) _, (h.ir.keep (hk _ hB.l1)).other (fun e => hB.n4 e.symm) _, (h.bk.keep (hk _ hB.l3)).other (fun e => hB.n6 e.symm) _, hb1.setCell hB.h4 _, by have := h.s0; simp; omega⟩
  · have hbox := (hk _ hB.l4).trans h.box
    simp [World.setCell, Array.getElem?_modify, hbox]
  · have : (ints (q.1 ++ [e])) = ints q.1 ++ [.int .i64 (e : Nat)] := by simp [ints]
    show (w1.setCell _ _).ownsRow S0 _ 1 v' (q.1 ++ [e]).length (ints (q.1 ++ [e]))
    rw [this, List.length_append]
    exact owns_set hown hB.l4 _

theorem owns_shape {S0 e size n : Nat} {v : Value} {xs : List Value} {wr : World} (h : wr.ownsRow S0 e size v n xs) : ∃ ao cap, v = .slice ao n cap := by
  rcases h.2 with ⟨rfl, rfl⟩ | ⟨g, cap, cur, rfl, _⟩
  · exact ⟨_, _, rfl⟩
  · exact ⟨_, _, rfl⟩

end

/-- A partition lies at B: its four slices, and what they hold. -/
structure PartAt (w : World) (B : Nat) (ve vp vi vb : Value) (s : Rf.St) : Prop where
  box : w.heap[B]? = some (.cells #[ve, vp, vi, vb] 59 (0, 0))
  re : w.ownsRow 0 3 1 ve s.elems.length (ints s.elems)
  rp : w.ownsRow 0 3 1 vp s.place.length (ints s.place)
  ri : w.ownsRow 0 3 1 vi s.inn.length (ints s.inn)
  rb : w.ownsRow 0 75 3 vb s.blocks.length (cellsB s.blocks)
  aep : ∀ g, ve.ownBlock = some g → vp.ownBlock ≠ some g
  aei : ∀ g, ve.ownBlock = some g → vi.ownBlock ≠ some g
  api : ∀ g, vp.ownBlock = some g → vi.ownBlock ≠ some g

/-- The blocks of a partition. -/
def Foot (B : Nat) (ve vp vi vb : Value) (k : Nat) : Prop := k = B ∨ ve.ownBlock = some k ∨ vp.ownBlock = some k ∨ vi.ownBlock = some k ∨ vb.ownBlock = some k

/-- What a call that makes a partition leaves. -/
def NewPart (w : World) (s : Rf.St) (e : Ending) (w' : World) : Prop :=
  ∃ (B : Nat) (ve vp vi vb : Value), e = .returned (.tuple #[.pointer (some ⟨B, 0, none⟩), .nilIface]) ∧ PartAt w' B ve vp vi vb s ∧ (∀ k, Foot B ve vp vi vb k → w.heap.size ≤ k) ∧ Below w.heap.size w w'

theorem OfR.part {w wr : World} {Bx gi gp gb S0 n nb : Nat} {inn : List Nat} {ve : Value} {q : List Nat × List Nat} {bl : List (Nat × Nat × Nat)} {s : Rf.St}
    (h : OfR w wr Bx gi gp gb S0 n nb inn ve q bl) (hB : OfB w Bx gi gp gb S0) (hn : n ≤ 1000) (hnb : nb ≤ 1000) (h1 : s.elems = q.1) (h2 : s.place = q.2) (h3 : s.inn = inn) (h4 : s.blocks = bl)
    (l2 : q.2.length = n) (l3 : inn.length = n) (l4 : bl.length = nb) :
    PartAt wr Bx ve (.slice (some ⟨gp, 0, none⟩) n n) (.slice (some ⟨gi, 0, none⟩) n n) (.slice (some ⟨gb, 0, none⟩) nb nb) s ∧
      (∀ k, Foot Bx ve (.slice (some ⟨gp, 0, none⟩) n n) (.slice (some ⟨gi, 0, none⟩) n n) (.slice (some ⟨gb, 0, none⟩) nb nb) k → w.heap.size ≤ k) := by
  have hel : ∀ g, ve.ownBlock = some g → S0 ≤ g := fun g hg => (h.el.lt g hg).1
  have hp : Row wr gp 3 (n * 1) (ints q.2) := by rw [Nat.mul_one]; exact h.pl
  have hi : Row wr gi 3 (n * 1) (ints inn) := by rw [Nat.mul_one]; exact h.ir
  have hml : n ≤ maxLen := by unfold maxLen; omega
  have hmb : nb ≤ maxLen := by unfold maxLen; omega
  constructor
  · refine ⟨h.box, ?_, ?_, ?_, ?_, ?_, ?_, ?_⟩
    · rw [h1]; exact owns_base h.el (Nat.zero_le _)
    · rw [h2, l2]; exact hp.owns (Nat.le_refl _) hml (by rw [ints_length, l2, Nat.mul_one])
    · rw [h3, l3]; exact hi.owns (Nat.le_refl _) hml (by rw [ints_length, l3, Nat.mul_one])
    · rw [h4, l4]; exact h.bk.owns (Nat.le_refl _) hmb (by rw [cellsB_length, l4])
    · intro g hg e
      have := hel g hg; have := hB.l2
      simp only [Value.ownBlock, Option.some.injEq] at e; omega
    · intro g hg e
      have := hel g hg; have := hB.l1
      simp only [Value.ownBlock, Option.some.injEq] at e; omega
    · intro g hg e
      simp only [Value.ownBlock, Option.some.injEq] at hg e
      exact hB.n1 (e.trans hg.symm)
  · intro k hk
    have := hB.h1; have := hB.h2; have := hB.h3; have := hB.h4; have := hB.l4
    rcases hk with rfl | hk | hk | hk | hk
    · omega
    · have := hel k hk; omega
    · simp only [Value.ownBlock, Option.some.injEq] at hk; omega
    · simp only [Value.ownBlock, Option.some.injEq] at hk; omega
    · simp only [Value.ownBlock, Option.some.injEq] at hk; omega

end Go.Proofs.YtfkhaldheclheaaGreatDoor
