/- Small facts of worlds that grow. -/
import Derived.Test.YtiiieailimphnaaGreatDoorTmW14
import Derived.Test.YtiiieailimphnaaGreatDoorTmW10
import Derived.StillTailTactics
import Derived.Deep.DeepCutAuto
import Derived.BigRegion
namespace Go.Proofs.YtiiieailimphnaaGreatDoor
open Go.RowKit Go.Maps
set_option linter.unusedVariables false
set_option linter.unusedSimpArgs false

theorem upTurned {F : Nat → Prop} {w w' : World} (h : Up w w') : Turned F w w' := (Turned.below h).newF

theorem heapUp {w : World} {g : Nat} {o o' : Obj} (h : w.heap[g]? = some o) : (w.alloc o').heap[g]? = some o :=
  (Below.heap_alloc _ _ _ (Array.getElem?_eq_some_iff.1 h).1).trans h

theorem heapDrew {w : World} {g : Nat} {o : Obj} (h : w.heap[g]? = some o) : w.drew.heap[g]? = some o := h

theorem heapNew {w : World} {g : Nat} {o : Obj} (h : g = w.heap.size) : (w.alloc o).heap[g]? = some o := by rw [h]; exact heap_alloc_new w o

/-- A truth value. -/
def BoolUp (b : Bool) (w : World) (v : Value) (w' : World) : Prop := v = .bool b ∧ Up w w'

end Go.Proofs.YtiiieailimphnaaGreatDoor
