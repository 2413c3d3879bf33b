/- slices.Clone and slices.Sort at a slice of integers, by the shelf's contracts, in plain form. -/
import Derived.Test.YtfkhaldheclheaaDoorMem
import Derived.Ground.NamesProg
import Derived.Ground.Names2Prog
import Derived.Shelf.Lay
import Derived.Shelf.Slices.In.Clone
import Derived.Shelf.Slices.In.SortNone
import Derived.Sort.OwnSortedInts
import Derived.Sort.EveryDepth
namespace Go.Proofs.YtfkhaldheclheaaDoor
open Go.Shelf
shelf_lay Lays2.n15 Nm2 15 at Tryd as Tryd.laysClone
shelf_lay Lays.n189 Nm 189 at Tryd as Tryd.laysSort
end Go.Proofs.YtfkhaldheclheaaDoor

namespace Go.Proofs.YtfkhaldheclheaaDoor
open Go.RowKit Go.Shelf Go.Sort
set_option linter.unusedVariables false
set_option linter.unusedSimpArgs false

/-- slices.Clone of a slice with an address. -/
theorem clone_int (b off n c : Nat) (zs : List Int) (w : World) (hz : n ≤ zs.length) (hbig : n * 8 ≤ 140737488355328) (hc : ∀ j, j < zs.length → w.cell? ⟨b, off + j, none⟩ = some (.int .i64 (zs.getD j 0))) :
    Calls Tryd.prog 30 #[.slice (some ⟨b, off, none⟩) n c] w fun e w' => ∃ v', e = .returned v' ∧ w'.ownsRow w.heap.size 3 1 v' n ((zs.take n).map (Value.int .i64)) ∧ v' ≠ .slice none 0 0 ∧ Below w.heap.size w w' :=
  calls_of_every_depth fun D => AnyS.slices_Clone_int_in Tryd.laysClone D b off n c zs w hz hbig hc

/-- slices.Sort of a slice that begins at the head of a block. -/
theorem sort_int {base g cap : Nat} {zs : List Int} {w : World} (hown : w.ownsRow base 3 1 (.slice (some ⟨g, 0, none⟩) zs.length cap) zs.length (zs.map (Value.int .i64))) (hsz : zs.length < 4611686018427387904) :
    Calls Tryd.prog 32 #[.slice (some ⟨g, 0, none⟩) zs.length cap] w fun e w' => e = .returned (.tuple #[]) ∧
      w'.ownsRow base 3 1 (.slice (some ⟨g, 0, none⟩) zs.length cap) zs.length ((zs.mergeSort fun x y => decide (x ≤ y)).map (Value.int .i64)) ∧ w.grownBy w' (some g) := by
  rcases hown.2 with ⟨h0, _⟩ | ⟨g', cap', cur, hv, hbase, hb, h1, h2, h3, h4⟩
  · cases h0
  cases hv
  have h4' : cur.toList.take zs.length = zs.map (Value.int .i64) := by rw [Nat.mul_one] at h4; exact h4
  have hg : g < w.heap.size := (Array.getElem?_eq_some_iff.1 hb).1
  refine (calls_of_every_depth fun D => AnyS.slices_Sort_int_alone Tryd.laysSort D g 0 cap zs w (holds_of_blockI hb h4') hg hsz).mono ?_
  rintro e w' ⟨rfl, n, os, rfl⟩
  exact ⟨rfl, ownsRow_sortedI (List.length_mergeSort zs) hbase hb h1 h2 h3, grownBy_sortedI _⟩

end Go.Proofs.YtfkhaldheclheaaDoor
