/- Walks: Block; the exchange of two elements. -/
import Derived.Test.YtfkhaldheclheaaDoorRefW1
import Derived.BigRegion
import Derived.BigQuiet
import Derived.Deep.QuietTactic
namespace Go.Proofs.YtfkhaldheclheaaDoor
open Go.RowKit
set_option linter.unusedVariables false
set_option linter.unusedSimpArgs false

set_option maxHeartbeats 400000 in
theorem block_in (B n c0n m c2n g e : Nat) (ae : Option Addr) (v : Int) (w : World) (he : e < n) (hm : e < m)
    (c0 : w.cell? ⟨B, 0, none⟩ = some (.slice ae n c0n)) (c2 : w.cell? ⟨B, 2, none⟩ = some (.slice (some ⟨g, 0, none⟩) m c2n))
    (ce : w.cell? ⟨g, e, none⟩ = some (.int .i64 v)) :
    Calls Tryd.prog 9 #[.pointer (some ⟨B, 0, none⟩), .int .i64 e] w fun r w' =>
      r = .returned (.tuple #[.int .i64 v, .nilIface]) ∧ w = w' := by
  go_enter Tryd.func9, Tryd.ntmps9
  go_wp2_with (first
    | (go_at_call 17; refine (size_some _ _ _ _ _ c0).mono ?_; rintro e w' ⟨rfl, rfl⟩)
    | (go_at_call 22; refine (asked_in _ _ _ _ (by omega) (by omega)).mono ?_; rintro e w' ⟨rfl, rfl⟩))
  go_ret2
  exact ⟨rfl, rfl⟩

set_option maxHeartbeats 400000 in
theorem block_out (B n c0n : Nat) (e : Int) (ae : Option Addr) (xt : TypeId) (xv : Value) (w : World) (he : e < 0 ∨ (n : Int) ≤ e)
    (c0 : w.cell? ⟨B, 0, none⟩ = some (.slice ae n c0n)) (hg : w.cell? ⟨0, 0, none⟩ = some (.iface xt xv)) :
    Calls Tryd.prog 9 #[.pointer (some ⟨B, 0, none⟩), .int .i64 e] w fun r w' =>
      r = .returned (.tuple #[.int .i64 0, .iface 31 (.pointer (some ⟨w.heap.size, 0, none⟩))]) ∧ w.alloc (.cells #[.string layerRef, .int .i64 0, .int .i64 0, .iface xt xv] 35) = w' := by
  go_enter Tryd.func9, Tryd.ntmps9
  go_wp2_with (first
    | (go_at_call 17; refine (size_some _ _ _ _ _ c0).mono ?_; rintro e w' ⟨rfl, rfl⟩)
    | (go_at_call 22; refine (asked_out _ _ _ _ _ _ he hg).mono ?_; rintro e w' ⟨rfl, rfl⟩))
  go_ret2
  exact ⟨rfl, rfl⟩

end Go.Proofs.YtfkhaldheclheaaDoor
