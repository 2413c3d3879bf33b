/- Walks: Members; Mark, Split, Members where there is no such element or block. -/
import Derived.Test.YtfkhaldheclheaaDoorRefW14
import Derived.Test.YtfkhaldheclheaaDoorSortI
import Derived.Test.YtfkhaldheclheaaDoorRefParts
namespace Go.Proofs.YtfkhaldheclheaaDoor
open Go.RowKit
set_option linter.unusedVariables false
set_option linter.unusedSimpArgs false

theorem below_drewN {n : Nat} {a w : World} (h : Below n a w) (q : Nat) : Below n a (w.drewN q) := ⟨h.os, h.tape, h.output, h.size, h.block⟩

set_option maxHeartbeats 1000000 in
theorem row_any {w : World} {B n b : Nat} {ve vp vi vb : Value} {s : Rf.St} (h : PartAt w B ve vp vi vb s) (hI : Rf.Inv s n) (hn : n ≤ 1000) (hb : b < s.blocks.length) :
    Calls Tryd.prog 31 #[.pointer (some ⟨B, 0, none⟩), .int .i64 b] w fun r w' =>
      ∃ ge, r = .returned (.slice (some ⟨ge, s.F b, none⟩) (s.T b - s.F b) (s.T b - s.F b)) ∧ (∀ j, j < s.T b - s.F b → w'.cell? ⟨ge, s.F b + j, none⟩ = some (.int .i64 ((s.row b).getD j 0 : Nat))) ∧ Below w.heap.size w w' := by
  have bb := hI.b1 b hb
  obtain ⟨ge, ce, gp, cp, gi, ci, gb, cb, rfl, rfl, rfl, rfl, o⟩ := h.ob hI (by omega)
  refine (row_some B s.blocks.length ce cb ge gb n b (s.F b) (s.T b) (s.M b) w hb bb.1 bb.2.1 hn o.o.le.1 o.c0 o.c3 (o.o.rb.cell (cellsB_get0 _ b hb)) (o.o.rb.cell (cellsB_get1 _ b hb)) (o.o.rb.cell (cellsB_get2 _ b hb))).mono ?_
  rintro r w' ⟨rfl, q, rfl⟩
  refine ⟨ge, rfl, fun j hj => ?_, below_drewN ((Below.refl _ _).alloc (Nat.le_refl _) _) q⟩
  have o2 := (o.alloc (.cells #[.int .i64 (s.F b : Nat), .int .i64 (s.T b : Nat), .int .i64 (s.M b : Nat)] 73)).drewN q
  have := o2.o.re.cell (ints_get (l := s.elems) (i := s.F b + j) (by rw [hI.le]; omega))
  rw [this]
  congr 3
  simp only [Rf.St.row, List.getD, List.getElem?_drop, List.getElem?_take]
  rw [if_pos (by omega)]

end Go.Proofs.YtfkhaldheclheaaDoor
