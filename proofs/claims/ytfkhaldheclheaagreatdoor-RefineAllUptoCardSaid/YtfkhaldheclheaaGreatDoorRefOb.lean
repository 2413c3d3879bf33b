/- A partition in memory, with its rows named; what the stores of a call do to it. -/
import Derived.Test.YtfkhaldheclheaaGreatDoorRefPart
namespace Go.Proofs.YtfkhaldheclheaaGreatDoor
open Go.RowKit
set_option linter.unusedVariables false
set_option linter.unusedSimpArgs false

/-- A partition that has an element, its rows named. -/
structure Ob (w : World) (B : Nat) (s : Rf.St) (n ge ce gp cp gi ci gb cb : Nat) : Prop where
  box : w.heap[B]? = some (.cells #[.slice (some ⟨ge, 0, none⟩) n ce, .slice (some ⟨gp, 0, none⟩) n cp, .slice (some ⟨gi, 0, none⟩) n ci, .slice (some ⟨gb, 0, none⟩) s.blocks.length cb] 59 (0, 0))
  o : Opened w B (.slice (some ⟨ge, 0, none⟩) n ce) (.slice (some ⟨gp, 0, none⟩) n cp) (.slice (some ⟨gi, 0, none⟩) n ci) (.slice (some ⟨gb, 0, none⟩) s.blocks.length cb) s n ge ce gp cp gi ci gb cb

section
variable {w : World} {B n ge ce gp cp gi ci gb cb : Nat} {s : Rf.St}

theorem Ob.c0 (h : Ob w B s n ge ce gp cp gi ci gb cb) : w.cell? ⟨B, 0, none⟩ = some (.slice (some ⟨ge, 0, none⟩) n ce) := by simp [World.cell?, h.box]
theorem Ob.c1 (h : Ob w B s n ge ce gp cp gi ci gb cb) : w.cell? ⟨B, 1, none⟩ = some (.slice (some ⟨gp, 0, none⟩) n cp) := by simp [World.cell?, h.box]
theorem Ob.c2 (h : Ob w B s n ge ce gp cp gi ci gb cb) : w.cell? ⟨B, 2, none⟩ = some (.slice (some ⟨gi, 0, none⟩) n ci) := by simp [World.cell?, h.box]
theorem Ob.c3 (h : Ob w B s n ge ce gp cp gi ci gb cb) : w.cell? ⟨B, 3, none⟩ = some (.slice (some ⟨gb, 0, none⟩) s.blocks.length cb) := by simp [World.cell?, h.box]

theorem Ob.keep {w' : World} (h : Ob w B s n ge ce gp cp gi ci gb cb) (hk : ∀ k, k = B ∨ k = ge ∨ k = gp ∨ k = gi ∨ k = gb → w'.heap[k]? = w.heap[k]?) : Ob w' B s n ge ce gp cp gi ci gb cb :=
  ⟨(hk B (.inl rfl)).trans h.box, rfl, rfl, rfl, rfl, h.o.re.keep (hk _ (.inr (.inl rfl))), h.o.rp.keep (hk _ (.inr (.inr (.inl rfl)))), h.o.ri.keep (hk _ (.inr (.inr (.inr (.inl rfl))))), h.o.rb.keep (hk _ (.inr (.inr (.inr (.inr rfl))))),
    h.o.le, h.o.lp, h.o.li, h.o.lb, h.o.nep, h.o.nei, h.o.npi, h.o.neb, h.o.npb, h.o.nib, h.o.nBe, h.o.nBp, h.o.nBi, h.o.nBb⟩

theorem Ob.lt (h : Ob w B s n ge ce gp cp gi ci gb cb) {k : Nat} (hk : k = B ∨ k = ge ∨ k = gp ∨ k = gi ∨ k = gb) : k < w.heap.size := by
  rcases hk with rfl | rfl | rfl | rfl | rfl
  · exact lt_of_block h.box
  · exact h.o.re.lt
  · exact h.o.rp.lt
  · exact h.o.ri.lt
  · exact h.o.rb.lt

theorem Ob.drewN (h : Ob w B s n ge ce gp cp gi ci gb cb) (q : Nat) : Ob (w.drewN q) B s n ge ce gp cp gi ci gb cb := h.keep (fun _ _ => rfl)
theorem Ob.drew (h : Ob w B s n ge ce gp cp gi ci gb cb) : Ob w.drew B s n ge ce gp cp gi ci gb cb := h.keep (fun _ _ => rfl)
theorem Ob.alloc (h : Ob w B s n ge ce gp cp gi ci gb cb) (o : Obj) : Ob (w.alloc o) B s n ge ce gp cp gi ci gb cb := h.keep (fun k hk => Below.heap_alloc _ _ _ (h.lt hk))

/-- A store into a block's cell. -/
theorem Ob.setB (h : Ob w B s n ge ce gp cp gi ci gb cb) (j : Nat) (v : Value) (bl : List (Nat × Nat × Nat)) (he : (cellsB s.blocks).set j v = cellsB bl) (hl : bl.length = s.blocks.length) :
    Ob (w.setCell ⟨gb, j, none⟩ v) B { s with blocks := bl } n ge ce gp cp gi ci gb cb := by
  refine ⟨?_, rfl, rfl, rfl, rfl, h.o.re.other h.o.neb _, h.o.rp.other h.o.npb _, h.o.ri.other h.o.nib _, ?_, h.o.le, h.o.lp, h.o.li, ?_, h.o.nep, h.o.nei, h.o.npi, h.o.neb, h.o.npb, h.o.nib, h.o.nBe, h.o.nBp, h.o.nBi, h.o.nBb⟩
  · rw [Below.heap_setCell _ _ _ _ h.o.nBb, h.box]; simp [hl]
  · have := h.o.rb.set j v
    rw [he] at this; exact this
  · show bl.length ≤ cb ∧ _
    rw [hl]; exact h.o.lb

/-- A store into the row that tells the blocks. -/
theorem Ob.setI (h : Ob w B s n ge ce gp cp gi ci gb cb) (e v : Nat) : Ob (w.setCell ⟨gi, e, none⟩ (.int .i64 (v : Nat))) B { s with inn := s.inn.set e v } n ge ce gp cp gi ci gb cb := by
  refine ⟨?_, rfl, rfl, rfl, rfl, h.o.re.other h.o.nei _, h.o.rp.other h.o.npi _, ?_, h.o.rb.other h.o.nib.symm _, h.o.le, h.o.lp, h.o.li, h.o.lb, h.o.nep, h.o.nei, h.o.npi, h.o.neb, h.o.npb, h.o.nib, h.o.nBe, h.o.nBp, h.o.nBi, h.o.nBb⟩
  · rw [Below.heap_setCell _ _ _ _ h.o.nBi, h.box]
  · rw [ints_set]; exact h.o.ri.set e _

/-- A block is appended, and the slice put back into its field. -/
theorem Ob.push {w1 w' : World} {v' : Value} {x : Nat × Nat × Nat} (h : Ob w B s n ge ce gp cp gi ci gb cb) (hown : w1.ownsRow 0 75 3 v' (s.blocks.length + 1) (cellsB s.blocks ++ cellsB [x]))
    (hg : w'.grownBy w1 (some gb)) (hw : ∀ k, k < w.heap.size → w'.heap[k]? = w.heap[k]?) (hs : w.heap.size ≤ w'.heap.size) :
    ∃ gb' cb', v' = .slice (some ⟨gb', 0, none⟩) (s.blocks.length + 1) cb' ∧ Ob (w1.setCell ⟨B, 3, none⟩ v') B { s with blocks := s.blocks ++ [x] } n ge ce gp cp gi ci gb' cb' := by
  obtain ⟨gb', cb', rfl, r, l1, l2⟩ := owns_pos hown (Nat.succ_pos _)
  have hk : ∀ k, k < w.heap.size → k ≠ gb → w1.heap[k]? = w.heap[k]? := fun k hk hn => (hg.block k (by omega) (by simp; exact hn)).trans (hw k hk)
  have re := h.o.re.keep (hk _ h.o.re.lt h.o.neb)
  have rp := h.o.rp.keep (hk _ h.o.rp.lt h.o.npb)
  have ri := h.o.ri.keep (hk _ h.o.ri.lt h.o.nib)
  have hb := (hk _ (lt_of_block h.box) h.o.nBb).trans h.box
  have nBb : B ≠ gb' := box_ne hb r (by decide)
  refine ⟨gb', cb', rfl, ?_, rfl, rfl, rfl, ?_, re.other h.o.nBe.symm _, rp.other h.o.nBp.symm _, ri.other h.o.nBi.symm _, ?_, h.o.le, h.o.lp, h.o.li, ?_, h.o.nep, h.o.nei, h.o.npi, row_ne re r (by decide), row_ne rp r (by decide), row_ne ri r (by decide), h.o.nBe, h.o.nBp, h.o.nBi, nBb⟩
  · simp [World.setCell, Array.getElem?_modify, hb]
  · simp
  · have := r.other (a := ⟨B, 3, none⟩) nBb.symm (.slice (some ⟨gb', 0, none⟩) (s.blocks.length + 1) cb')
    rw [← cellsB_append] at this; exact this
  · simp only [List.length_append, List.length_singleton]; exact ⟨l1, l2⟩

theorem PartAt.ob {ve vp vi vb : Value} (h : PartAt w B ve vp vi vb s) (hI : Rf.Inv s n) (hn : 0 < n) : ∃ ge ce gp cp gi ci gb cb, ve = .slice (some ⟨ge, 0, none⟩) n ce ∧ vp = .slice (some ⟨gp, 0, none⟩) n cp ∧
    vi = .slice (some ⟨gi, 0, none⟩) n ci ∧ vb = .slice (some ⟨gb, 0, none⟩) s.blocks.length cb ∧ Ob w B s n ge ce gp cp gi ci gb cb := by
  obtain ⟨ge, ce, gp, cp, gi, ci, gb, cb, o⟩ := h.opened hI hn
  have h1 := o.ve
  have h2 := o.vp
  have h3 := o.vi
  have h4 := o.vb
  subst h1 h2 h3 h4
  exact ⟨ge, ce, gp, cp, gi, ci, gb, cb, rfl, rfl, rfl, rfl, h.box, o⟩

theorem Ob.part (h : Ob w B s n ge ce gp cp gi ci gb cb) (l1 : s.elems.length = n) (l2 : s.place.length = n) (l3 : s.inn.length = n) :
    PartAt w B (.slice (some ⟨ge, 0, none⟩) n ce) (.slice (some ⟨gp, 0, none⟩) n cp) (.slice (some ⟨gi, 0, none⟩) n ci) (.slice (some ⟨gb, 0, none⟩) s.blocks.length cb) s := h.o.part h.box l1 l2 l3

end

end Go.Proofs.YtfkhaldheclheaaGreatDoor
