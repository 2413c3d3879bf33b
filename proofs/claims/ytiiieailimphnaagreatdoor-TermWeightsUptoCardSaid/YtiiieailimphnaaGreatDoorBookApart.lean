/- Walks: the book, of kinds of lists of which it keeps none. Printed by mkbooknil.py. Walks: the book, asked whether its lists lie apart: lists of integers alone. Printed by mkapart.py. -/
import Derived.Test.YtiiieailimphnaaGreatDoorMem
import Derived.Test.YtiiieailimphnaaGreatDoorBookMark
import Derived.Test.YtiiieailimphnaaGreatDoorBookInts

namespace Go.Proofs.YtiiieailimphnaaGreatDoor
open Go.RowKit
set_option linter.unusedVariables false
set_option linter.unusedSimpArgs false

theorem stillTokens_nil {w : World} {bk : Nat} (h : w.cell? ⟨bk, 2, none⟩ = some (.slice none 0 0)) :
    Calls Tryz.prog 36 #[.pointer (some ⟨bk, 0, none⟩)] w fun r w' => r = .returned (.bool true) ∧ w = w' := by
  go_enter Tryz.func36, Tryz.ntmps36
  go_wp2_with fail
  refine wp_loop_rounds 1 ?_
  rw [rounds_succ]
  go_wp2_with fail
  go_ret
  exact ⟨rfl, rfl⟩

theorem putTokens_nil {w : World} {bk : Nat} (h : w.cell? ⟨bk, 2, none⟩ = some (.slice none 0 0)) :
    Calls Tryz.prog 47 #[.pointer (some ⟨bk, 0, none⟩)] w fun r w' => r = .returned (.tuple #[]) ∧ w = w' := by
  go_enter Tryz.func47, Tryz.ntmps47
  go_wp2_with fail
  refine wp_loop_rounds 1 ?_
  rw [rounds_succ]
  go_wp2_with fail
  go_end0
  exact ⟨rfl, rfl⟩

theorem growTokens_nil {w : World} {bk : Nat} (h : w.cell? ⟨bk, 2, none⟩ = some (.slice none 0 0)) :
    Calls Tryz.prog 58 #[.pointer (some ⟨bk, 0, none⟩)] w fun r w' => r = .returned (.slice none 0 0) ∧ w = w' := by
  go_enter Tryz.func58, Tryz.ntmps58
  go_wp2_with fail
  refine wp_loop_rounds 1 ?_
  rw [rounds_succ]
  go_wp2_with fail
  go_ret
  exact ⟨rfl, rfl⟩

theorem markedTokens_nil (w : World) :
    Calls Tryz.prog 69 #[.slice none 0 0] w fun r w' => r = .returned (.bool true) ∧ w = w' := by
  go_enter Tryz.func69, Tryz.ntmps69
  go_wp2_with fail
  refine wp_loop_rounds 1 ?_
  rw [rounds_succ]
  go_wp2_with fail
  go_ret
  exact ⟨rfl, rfl⟩

theorem stillTexts_nil {w : World} {bk : Nat} (h : w.cell? ⟨bk, 4, none⟩ = some (.slice none 0 0)) :
    Calls Tryz.prog 37 #[.pointer (some ⟨bk, 0, none⟩)] w fun r w' => r = .returned (.bool true) ∧ w = w' := by
  go_enter Tryz.func37, Tryz.ntmps37
  go_wp2_with fail
  refine wp_loop_rounds 1 ?_
  rw [rounds_succ]
  go_wp2_with fail
  go_ret
  exact ⟨rfl, rfl⟩

theorem putTexts_nil {w : World} {bk : Nat} (h : w.cell? ⟨bk, 4, none⟩ = some (.slice none 0 0)) :
    Calls Tryz.prog 48 #[.pointer (some ⟨bk, 0, none⟩)] w fun r w' => r = .returned (.tuple #[]) ∧ w = w' := by
  go_enter Tryz.func48, Tryz.ntmps48
  go_wp2_with fail
  refine wp_loop_rounds 1 ?_
  rw [rounds_succ]
  go_wp2_with fail
  go_end0
  exact ⟨rfl, rfl⟩

theorem growTexts_nil {w : World} {bk : Nat} (h : w.cell? ⟨bk, 4, none⟩ = some (.slice none 0 0)) :
    Calls Tryz.prog 59 #[.pointer (some ⟨bk, 0, none⟩)] w fun r w' => r = .returned (.slice none 0 0) ∧ w = w' := by
  go_enter Tryz.func59, Tryz.ntmps59
  go_wp2_with fail
  refine wp_loop_rounds 1 ?_
  rw [rounds_succ]
  go_wp2_with fail
  go_ret
  exact ⟨rfl, rfl⟩

theorem markedTexts_nil (w : World) :
    Calls Tryz.prog 70 #[.slice none 0 0] w fun r w' => r = .returned (.bool true) ∧ w = w' := by
  go_enter Tryz.func70, Tryz.ntmps70
  go_wp2_with fail
  refine wp_loop_rounds 1 ?_
  rw [rounds_succ]
  go_wp2_with fail
  go_ret
  exact ⟨rfl, rfl⟩

theorem stillBools_nil {w : World} {bk : Nat} (h : w.cell? ⟨bk, 6, none⟩ = some (.slice none 0 0)) :
    Calls Tryz.prog 38 #[.pointer (some ⟨bk, 0, none⟩)] w fun r w' => r = .returned (.bool true) ∧ w = w' := by
  go_enter Tryz.func38, Tryz.ntmps38
  go_wp2_with fail
  refine wp_loop_rounds 1 ?_
  rw [rounds_succ]
  go_wp2_with fail
  go_ret
  exact ⟨rfl, rfl⟩

theorem putBools_nil {w : World} {bk : Nat} (h : w.cell? ⟨bk, 6, none⟩ = some (.slice none 0 0)) :
    Calls Tryz.prog 49 #[.pointer (some ⟨bk, 0, none⟩)] w fun r w' => r = .returned (.tuple #[]) ∧ w = w' := by
  go_enter Tryz.func49, Tryz.ntmps49
  go_wp2_with fail
  refine wp_loop_rounds 1 ?_
  rw [rounds_succ]
  go_wp2_with fail
  go_end0
  exact ⟨rfl, rfl⟩

theorem growBools_nil {w : World} {bk : Nat} (h : w.cell? ⟨bk, 6, none⟩ = some (.slice none 0 0)) :
    Calls Tryz.prog 60 #[.pointer (some ⟨bk, 0, none⟩)] w fun r w' => r = .returned (.slice none 0 0) ∧ w = w' := by
  go_enter Tryz.func60, Tryz.ntmps60
  go_wp2_with fail
  refine wp_loop_rounds 1 ?_
  rw [rounds_succ]
  go_wp2_with fail
  go_ret
  exact ⟨rfl, rfl⟩

theorem markedBools_nil (w : World) :
    Calls Tryz.prog 71 #[.slice none 0 0] w fun r w' => r = .returned (.bool true) ∧ w = w' := by
  go_enter Tryz.func71, Tryz.ntmps71
  go_wp2_with fail
  refine wp_loop_rounds 1 ?_
  rw [rounds_succ]
  go_wp2_with fail
  go_ret
  exact ⟨rfl, rfl⟩

theorem stillSteps_nil {w : World} {bk : Nat} (h : w.cell? ⟨bk, 8, none⟩ = some (.slice none 0 0)) :
    Calls Tryz.prog 39 #[.pointer (some ⟨bk, 0, none⟩)] w fun r w' => r = .returned (.bool true) ∧ w = w' := by
  go_enter Tryz.func39, Tryz.ntmps39
  go_wp2_with fail
  refine wp_loop_rounds 1 ?_
  rw [rounds_succ]
  go_wp2_with fail
  go_ret
  exact ⟨rfl, rfl⟩

theorem putSteps_nil {w : World} {bk : Nat} (h : w.cell? ⟨bk, 8, none⟩ = some (.slice none 0 0)) :
    Calls Tryz.prog 50 #[.pointer (some ⟨bk, 0, none⟩)] w fun r w' => r = .returned (.tuple #[]) ∧ w = w' := by
  go_enter Tryz.func50, Tryz.ntmps50
  go_wp2_with fail
  refine wp_loop_rounds 1 ?_
  rw [rounds_succ]
  go_wp2_with fail
  go_end0
  exact ⟨rfl, rfl⟩

theorem growSteps_nil {w : World} {bk : Nat} (h : w.cell? ⟨bk, 8, none⟩ = some (.slice none 0 0)) :
    Calls Tryz.prog 61 #[.pointer (some ⟨bk, 0, none⟩)] w fun r w' => r = .returned (.slice none 0 0) ∧ w = w' := by
  go_enter Tryz.func61, Tryz.ntmps61
  go_wp2_with fail
  refine wp_loop_rounds 1 ?_
  rw [rounds_succ]
  go_wp2_with fail
  go_ret
  exact ⟨rfl, rfl⟩

theorem markedSteps_nil (w : World) :
    Calls Tryz.prog 72 #[.slice none 0 0] w fun r w' => r = .returned (.bool true) ∧ w = w' := by
  go_enter Tryz.func72, Tryz.ntmps72
  go_wp2_with fail
  refine wp_loop_rounds 1 ?_
  rw [rounds_succ]
  go_wp2_with fail
  go_ret
  exact ⟨rfl, rfl⟩

theorem stillEdges_nil {w : World} {bk : Nat} (h : w.cell? ⟨bk, 10, none⟩ = some (.slice none 0 0)) :
    Calls Tryz.prog 40 #[.pointer (some ⟨bk, 0, none⟩)] w fun r w' => r = .returned (.bool true) ∧ w = w' := by
  go_enter Tryz.func40, Tryz.ntmps40
  go_wp2_with fail
  refine wp_loop_rounds 1 ?_
  rw [rounds_succ]
  go_wp2_with fail
  go_ret
  exact ⟨rfl, rfl⟩

theorem putEdges_nil {w : World} {bk : Nat} (h : w.cell? ⟨bk, 10, none⟩ = some (.slice none 0 0)) :
    Calls Tryz.prog 51 #[.pointer (some ⟨bk, 0, none⟩)] w fun r w' => r = .returned (.tuple #[]) ∧ w = w' := by
  go_enter Tryz.func51, Tryz.ntmps51
  go_wp2_with fail
  refine wp_loop_rounds 1 ?_
  rw [rounds_succ]
  go_wp2_with fail
  go_end0
  exact ⟨rfl, rfl⟩

theorem growEdges_nil {w : World} {bk : Nat} (h : w.cell? ⟨bk, 10, none⟩ = some (.slice none 0 0)) :
    Calls Tryz.prog 62 #[.pointer (some ⟨bk, 0, none⟩)] w fun r w' => r = .returned (.slice none 0 0) ∧ w = w' := by
  go_enter Tryz.func62, Tryz.ntmps62
  go_wp2_with fail
  refine wp_loop_rounds 1 ?_
  rw [rounds_succ]
  go_wp2_with fail
  go_ret
  exact ⟨rfl, rfl⟩

theorem markedEdges_nil (w : World) :
    Calls Tryz.prog 73 #[.slice none 0 0] w fun r w' => r = .returned (.bool true) ∧ w = w' := by
  go_enter Tryz.func73, Tryz.ntmps73
  go_wp2_with fail
  refine wp_loop_rounds 1 ?_
  rw [rounds_succ]
  go_wp2_with fail
  go_ret
  exact ⟨rfl, rfl⟩

theorem stillNodes_nil {w : World} {bk : Nat} (h : w.cell? ⟨bk, 12, none⟩ = some (.slice none 0 0)) :
    Calls Tryz.prog 41 #[.pointer (some ⟨bk, 0, none⟩)] w fun r w' => r = .returned (.bool true) ∧ w = w' := by
  go_enter Tryz.func41, Tryz.ntmps41
  go_wp2_with fail
  refine wp_loop_rounds 1 ?_
  rw [rounds_succ]
  go_wp2_with fail
  go_ret
  exact ⟨rfl, rfl⟩

theorem putNodes_nil {w : World} {bk : Nat} (h : w.cell? ⟨bk, 12, none⟩ = some (.slice none 0 0)) :
    Calls Tryz.prog 52 #[.pointer (some ⟨bk, 0, none⟩)] w fun r w' => r = .returned (.tuple #[]) ∧ w = w' := by
  go_enter Tryz.func52, Tryz.ntmps52
  go_wp2_with fail
  refine wp_loop_rounds 1 ?_
  rw [rounds_succ]
  go_wp2_with fail
  go_end0
  exact ⟨rfl, rfl⟩

theorem growNodes_nil {w : World} {bk : Nat} (h : w.cell? ⟨bk, 12, none⟩ = some (.slice none 0 0)) :
    Calls Tryz.prog 63 #[.pointer (some ⟨bk, 0, none⟩)] w fun r w' => r = .returned (.slice none 0 0) ∧ w = w' := by
  go_enter Tryz.func63, Tryz.ntmps63
  go_wp2_with fail
  refine wp_loop_rounds 1 ?_
  rw [rounds_succ]
  go_wp2_with fail
  go_ret
  exact ⟨rfl, rfl⟩

theorem markedNodes_nil (w : World) :
    Calls Tryz.prog 74 #[.slice none 0 0] w fun r w' => r = .returned (.bool true) ∧ w = w' := by
  go_enter Tryz.func74, Tryz.ntmps74
  go_wp2_with fail
  refine wp_loop_rounds 1 ?_
  rw [rounds_succ]
  go_wp2_with fail
  go_ret
  exact ⟨rfl, rfl⟩

theorem stillPairs_nil {w : World} {bk : Nat} (h : w.cell? ⟨bk, 14, none⟩ = some (.slice none 0 0)) :
    Calls Tryz.prog 42 #[.pointer (some ⟨bk, 0, none⟩)] w fun r w' => r = .returned (.bool true) ∧ w = w' := by
  go_enter Tryz.func42, Tryz.ntmps42
  go_wp2_with fail
  refine wp_loop_rounds 1 ?_
  rw [rounds_succ]
  go_wp2_with fail
  go_ret
  exact ⟨rfl, rfl⟩

theorem putPairs_nil {w : World} {bk : Nat} (h : w.cell? ⟨bk, 14, none⟩ = some (.slice none 0 0)) :
    Calls Tryz.prog 53 #[.pointer (some ⟨bk, 0, none⟩)] w fun r w' => r = .returned (.tuple #[]) ∧ w = w' := by
  go_enter Tryz.func53, Tryz.ntmps53
  go_wp2_with fail
  refine wp_loop_rounds 1 ?_
  rw [rounds_succ]
  go_wp2_with fail
  go_end0
  exact ⟨rfl, rfl⟩

theorem growPairs_nil {w : World} {bk : Nat} (h : w.cell? ⟨bk, 14, none⟩ = some (.slice none 0 0)) :
    Calls Tryz.prog 64 #[.pointer (some ⟨bk, 0, none⟩)] w fun r w' => r = .returned (.slice none 0 0) ∧ w = w' := by
  go_enter Tryz.func64, Tryz.ntmps64
  go_wp2_with fail
  refine wp_loop_rounds 1 ?_
  rw [rounds_succ]
  go_wp2_with fail
  go_ret
  exact ⟨rfl, rfl⟩

theorem markedPairs_nil (w : World) :
    Calls Tryz.prog 75 #[.slice none 0 0] w fun r w' => r = .returned (.bool true) ∧ w = w' := by
  go_enter Tryz.func75, Tryz.ntmps75
  go_wp2_with fail
  refine wp_loop_rounds 1 ?_
  rw [rounds_succ]
  go_wp2_with fail
  go_ret
  exact ⟨rfl, rfl⟩

theorem stillRows_nil {w : World} {bk : Nat} (h : w.cell? ⟨bk, 16, none⟩ = some (.slice none 0 0)) :
    Calls Tryz.prog 43 #[.pointer (some ⟨bk, 0, none⟩)] w fun r w' => r = .returned (.bool true) ∧ w = w' := by
  go_enter Tryz.func43, Tryz.ntmps43
  go_wp2_with fail
  refine wp_loop_rounds 1 ?_
  rw [rounds_succ]
  go_wp2_with fail
  go_ret
  exact ⟨rfl, rfl⟩

theorem putRows_nil {w : World} {bk : Nat} (h : w.cell? ⟨bk, 16, none⟩ = some (.slice none 0 0)) :
    Calls Tryz.prog 54 #[.pointer (some ⟨bk, 0, none⟩)] w fun r w' => r = .returned (.tuple #[]) ∧ w = w' := by
  go_enter Tryz.func54, Tryz.ntmps54
  go_wp2_with fail
  refine wp_loop_rounds 1 ?_
  rw [rounds_succ]
  go_wp2_with fail
  go_end0
  exact ⟨rfl, rfl⟩

theorem growRows_nil {w : World} {bk : Nat} (h : w.cell? ⟨bk, 16, none⟩ = some (.slice none 0 0)) :
    Calls Tryz.prog 65 #[.pointer (some ⟨bk, 0, none⟩)] w fun r w' => r = .returned (.slice none 0 0) ∧ w = w' := by
  go_enter Tryz.func65, Tryz.ntmps65
  go_wp2_with fail
  refine wp_loop_rounds 1 ?_
  rw [rounds_succ]
  go_wp2_with fail
  go_ret
  exact ⟨rfl, rfl⟩

theorem markedRows_nil (w : World) :
    Calls Tryz.prog 76 #[.slice none 0 0] w fun r w' => r = .returned (.bool true) ∧ w = w' := by
  go_enter Tryz.func76, Tryz.ntmps76
  go_wp2_with fail
  refine wp_loop_rounds 1 ?_
  rw [rounds_succ]
  go_wp2_with fail
  go_ret
  exact ⟨rfl, rfl⟩

theorem stillLines_nil {w : World} {bk : Nat} (h : w.cell? ⟨bk, 18, none⟩ = some (.slice none 0 0)) :
    Calls Tryz.prog 44 #[.pointer (some ⟨bk, 0, none⟩)] w fun r w' => r = .returned (.bool true) ∧ w = w' := by
  go_enter Tryz.func44, Tryz.ntmps44
  go_wp2_with fail
  refine wp_loop_rounds 1 ?_
  rw [rounds_succ]
  go_wp2_with fail
  go_ret
  exact ⟨rfl, rfl⟩

theorem putLines_nil {w : World} {bk : Nat} (h : w.cell? ⟨bk, 18, none⟩ = some (.slice none 0 0)) :
    Calls Tryz.prog 55 #[.pointer (some ⟨bk, 0, none⟩)] w fun r w' => r = .returned (.tuple #[]) ∧ w = w' := by
  go_enter Tryz.func55, Tryz.ntmps55
  go_wp2_with fail
  refine wp_loop_rounds 1 ?_
  rw [rounds_succ]
  go_wp2_with fail
  go_end0
  exact ⟨rfl, rfl⟩

theorem growLines_nil {w : World} {bk : Nat} (h : w.cell? ⟨bk, 18, none⟩ = some (.slice none 0 0)) :
    Calls Tryz.prog 66 #[.pointer (some ⟨bk, 0, none⟩)] w fun r w' => r = .returned (.slice none 0 0) ∧ w = w' := by
  go_enter Tryz.func66, Tryz.ntmps66
  go_wp2_with fail
  refine wp_loop_rounds 1 ?_
  rw [rounds_succ]
  go_wp2_with fail
  go_ret
  exact ⟨rfl, rfl⟩

theorem markedLines_nil (w : World) :
    Calls Tryz.prog 77 #[.slice none 0 0] w fun r w' => r = .returned (.bool true) ∧ w = w' := by
  go_enter Tryz.func77, Tryz.ntmps77
  go_wp2_with fail
  refine wp_loop_rounds 1 ?_
  rw [rounds_succ]
  go_wp2_with fail
  go_ret
  exact ⟨rfl, rfl⟩

theorem stillWalks_nil {w : World} {bk : Nat} (h : w.cell? ⟨bk, 20, none⟩ = some (.slice none 0 0)) :
    Calls Tryz.prog 45 #[.pointer (some ⟨bk, 0, none⟩)] w fun r w' => r = .returned (.bool true) ∧ w = w' := by
  go_enter Tryz.func45, Tryz.ntmps45
  go_wp2_with fail
  refine wp_loop_rounds 1 ?_
  rw [rounds_succ]
  go_wp2_with fail
  go_ret
  exact ⟨rfl, rfl⟩

theorem putWalks_nil {w : World} {bk : Nat} (h : w.cell? ⟨bk, 20, none⟩ = some (.slice none 0 0)) :
    Calls Tryz.prog 56 #[.pointer (some ⟨bk, 0, none⟩)] w fun r w' => r = .returned (.tuple #[]) ∧ w = w' := by
  go_enter Tryz.func56, Tryz.ntmps56
  go_wp2_with fail
  refine wp_loop_rounds 1 ?_
  rw [rounds_succ]
  go_wp2_with fail
  go_end0
  exact ⟨rfl, rfl⟩

theorem growWalks_nil {w : World} {bk : Nat} (h : w.cell? ⟨bk, 20, none⟩ = some (.slice none 0 0)) :
    Calls Tryz.prog 67 #[.pointer (some ⟨bk, 0, none⟩)] w fun r w' => r = .returned (.slice none 0 0) ∧ w = w' := by
  go_enter Tryz.func67, Tryz.ntmps67
  go_wp2_with fail
  refine wp_loop_rounds 1 ?_
  rw [rounds_succ]
  go_wp2_with fail
  go_ret
  exact ⟨rfl, rfl⟩

theorem markedWalks_nil (w : World) :
    Calls Tryz.prog 78 #[.slice none 0 0] w fun r w' => r = .returned (.bool true) ∧ w = w' := by
  go_enter Tryz.func78, Tryz.ntmps78
  go_wp2_with fail
  refine wp_loop_rounds 1 ?_
  rw [rounds_succ]
  go_wp2_with fail
  go_ret
  exact ⟨rfl, rfl⟩

end Go.Proofs.YtiiieailimphnaaGreatDoor

namespace Go.Proofs.YtiiieailimphnaaGreatDoor
open Go.RowKit
set_option linter.unusedVariables false
set_option linter.unusedSimpArgs false

def entC (es : List Ent) (i : Nat) : List Int := (es.map (·.xs)).getD i []
def entV (es : List Ent) : List Value := es.map (·.v)
def entU (es : List Ent) : List Value := es.map (·.u)

theorem ent_at {es : List Ent} {i : Nat} (h : i < es.length) : nth (entV es) i = es[i].v ∧ nth (entU es) i = es[i].u ∧ entC es i = es[i].xs := by
  simp [nth, entV, entU, entC, List.getD, h]

theorem BookAt.els {w : World} {bk : Nat} {vi vw : Value} {es : List Ent} (h : BookAt w bk vi vw es) : Els w (entV es) (entC es) ∧ Els w (entU es) (entC es) := by
  refine ⟨fun i hi => ?_, fun i hi => ?_⟩
  · have hi' : i < es.length := by simpa [entV] using hi
    obtain ⟨e1, e2, e3⟩ := ent_at hi'
    rw [e1, e3]; exact (h.ent _ (List.getElem_mem hi')).1
  · have hi' : i < es.length := by simpa [entU] using hi
    obtain ⟨e1, e2, e3⟩ := ent_at hi'
    rw [e2, e3]; exact (h.ent _ (List.getElem_mem hi')).2

theorem BookAt.apt {w : World} {bk : Nat} {vi vw : Value} {es : List Ent} (h : BookAt w bk vi vw es) : Apt (entV es) := by
  have hnd : List.Pairwise (fun e1 e2 : Ent => ∀ x ∈ blk e1.v ++ blk e1.u, ∀ y ∈ blk e2.v ++ blk e2.u, x ≠ y) es := (List.pairwise_flatMap.1 h.nd).2
  have hp := List.pairwise_iff_getElem.1 hnd
  have key : ∀ i j g, (hi : i < es.length) → (hj : j < es.length) → i < j → es[i].v.ownBlock = some g → es[j].v.ownBlock ≠ some g := by
    intro i j g hi hj hij h1 h2
    exact hp i j hi hj hij g (List.mem_append_left _ (mem_blk.2 h1)) g (List.mem_append_left _ (mem_blk.2 h2)) rfl
  intro i j g hi hj hne h1 h2
  have hi' : i < es.length := by simpa [entV] using hi
  have hj' : j < es.length := by simpa [entV] using hj
  rw [(ent_at hi').1] at h1
  rw [(ent_at hj').1] at h2
  rcases Nat.lt_or_gt_of_ne hne with hlt | hlt
  · exact key i j g hi' hj' hlt h1 h2
  · exact key j i g hj' hi' hlt h2 h1

theorem BookAt.inV {w : World} {bk : Nat} {vi vw : Value} {es : List Ent} (h : BookAt w bk vi vw es) {k : Nat} (hk : InV (entV es) k) : BkFoot bk vi vw es k := by
  obtain ⟨i, hi, hg⟩ := hk
  have hi' : i < es.length := by simpa [entV] using hi
  rw [(ent_at hi').1] at hg
  exact .inr (.inr (.inr (mem_entBlocks.2 ⟨_, List.getElem_mem hi', .inl hg⟩)))

theorem lt_of_blockA {w : World} {g : Nat} {o : Obj} (h : w.heap[g]? = some o) : g < w.heap.size := (Array.getElem?_eq_some_iff.1 h).1

set_option maxHeartbeats 16000000 in
set_option maxRecDepth 100000 in
theorem apart_any {w : World} {bk : Nat} {vi vw : Value} {es : List Ent} (h : BookAt w bk vi vw es) (hl : es.length ≤ 400) :
    Calls Tryz.prog 16 #[.pointer (some ⟨bk, 0, none⟩)] w fun r w' => r = .returned (.bool true) ∧ Turned (InV (entV es)) w w' := by
  have hvl : (entV es).length = es.length := by simp [entV]
  have hul : (entU es).length = es.length := by simp [entU]
  have hsz : ∀ i, i < (entV es).length → (entC es i).length ≤ 900000 := fun i hi => by
    rw [hvl] at hi
    rw [(ent_at hi).2.2]; exact h.sz _ (List.getElem_mem hi)
  have hri : w.ownsRow 0 29 1 vi (entV es).length (entV es) := by rw [hvl]; exact h.ri
  have hrw : w.ownsRow 0 29 1 vw (entV es).length (entU es) := by rw [hvl]; exact h.rw
  have hbox := h.box
  have a0 : w.cell? ⟨bk, 0, none⟩ = some vi := by simp [World.cell?, hbox]
  have a1 : w.cell? ⟨bk, 1, none⟩ = some vw := by simp [World.cell?, hbox]
  have HS := Lib.hid (stillInts_any a0 a1 hri hrw (by rw [hul, hvl]) h.els.1 h.els.2 (by rw [hvl]; exact hl) (fun i hi => by have := hsz i hi; omega))
  have HAP := Lib.hid h.apt
  have HEL := Lib.hid h.els.1
  have HSZ := Lib.hid hsz
  have HRI := Lib.hid hri
  have HBX := Lib.hid hbox
  have HVL : Hid ((entV es).length ≤ 400) := by rw [hvl]; exact hl
  have hnb : ¬ InV (entV es) bk := h.els.1.ne_box hbox (by decide)
  obtain ⟨vs, hvs⟩ : ∃ vs, vs = entV es := ⟨_, rfl⟩
  obtain ⟨C, hC⟩ : ∃ C, C = entC es := ⟨_, rfl⟩
  rw [← hvs] at HAP HEL HSZ HRI HVL hnb
  rw [← hC] at HEL HSZ
  have HVS := Lib.hid hvs
  obtain ⟨io, ic, hio⟩ := owns_shape' HRI.out
  clear h hvl hul hsz hri hrw hbox a0 a1 hvs hC hl
  go_enter Tryz.func16, Tryz.ntmps16
  go_upto_region 3 with (go_at_call 35; refine HS.out.mono ?_; rintro r w1 ⟨rfl, hu1⟩)
  have hb1 := (hu1.block bk (lt_of_blockA HBX.out)).trans HBX.out
  have c2 : w1.cell? ⟨bk, 2, none⟩ = some (.slice none 0 0) := by simp [World.cell?, hb1]
  have c4 : w1.cell? ⟨bk, 4, none⟩ = some (.slice none 0 0) := by simp [World.cell?, hb1]
  have c6 : w1.cell? ⟨bk, 6, none⟩ = some (.slice none 0 0) := by simp [World.cell?, hb1]
  have c8 : w1.cell? ⟨bk, 8, none⟩ = some (.slice none 0 0) := by simp [World.cell?, hb1]
  have c10 : w1.cell? ⟨bk, 10, none⟩ = some (.slice none 0 0) := by simp [World.cell?, hb1]
  have c12 : w1.cell? ⟨bk, 12, none⟩ = some (.slice none 0 0) := by simp [World.cell?, hb1]
  have c14 : w1.cell? ⟨bk, 14, none⟩ = some (.slice none 0 0) := by simp [World.cell?, hb1]
  have c16 : w1.cell? ⟨bk, 16, none⟩ = some (.slice none 0 0) := by simp [World.cell?, hb1]
  have c18 : w1.cell? ⟨bk, 18, none⟩ = some (.slice none 0 0) := by simp [World.cell?, hb1]
  have c20 : w1.cell? ⟨bk, 20, none⟩ = some (.slice none 0 0) := by simp [World.cell?, hb1]

  have p0 : w1.cell? ⟨bk, 0, none⟩ = some vi := by simp [World.cell?, hb1]
  have HP := Lib.hid (putInts_any ⟨p0, hu1.owns HRI.out⟩ (HEL.out.up hu1) HAP.out hb1 HVL.out (fun i hi => by have := HSZ.out i hi; omega))
  have HB1 := Lib.hid hb1
  clear hb1 p0 HS
  go_upto_region 24 with (first
    | (go_at_call 36; refine (stillTokens_nil (by assumption)).mono ?_; rintro r y ⟨rfl, rfl⟩)
    | (go_at_call 37; refine (stillTexts_nil (by assumption)).mono ?_; rintro r y ⟨rfl, rfl⟩)
    | (go_at_call 38; refine (stillBools_nil (by assumption)).mono ?_; rintro r y ⟨rfl, rfl⟩)
    | (go_at_call 39; refine (stillSteps_nil (by assumption)).mono ?_; rintro r y ⟨rfl, rfl⟩)
    | (go_at_call 40; refine (stillEdges_nil (by assumption)).mono ?_; rintro r y ⟨rfl, rfl⟩)
    | (go_at_call 41; refine (stillNodes_nil (by assumption)).mono ?_; rintro r y ⟨rfl, rfl⟩)
    | (go_at_call 42; refine (stillPairs_nil (by assumption)).mono ?_; rintro r y ⟨rfl, rfl⟩)
    | (go_at_call 43; refine (stillRows_nil (by assumption)).mono ?_; rintro r y ⟨rfl, rfl⟩)
    | (go_at_call 44; refine (stillLines_nil (by assumption)).mono ?_; rintro r y ⟨rfl, rfl⟩)
    | (go_at_call 45; refine (stillWalks_nil (by assumption)).mono ?_; rintro r y ⟨rfl, rfl⟩)
    | (go_at_call 46; refine HP.out.mono ?_; rintro r w2 ⟨rfl, hP2⟩))
  have hb2 := (hP2.tur.block bk (lt_of_blockA HB1.out) hnb).trans HB1.out
  clear c2 c4 c6 c8 c10 c12 c14 c16 c18 c20
  have d2 : w2.cell? ⟨bk, 2, none⟩ = some (.slice none 0 0) := by simp [World.cell?, hb2]
  have d4 : w2.cell? ⟨bk, 4, none⟩ = some (.slice none 0 0) := by simp [World.cell?, hb2]
  have d6 : w2.cell? ⟨bk, 6, none⟩ = some (.slice none 0 0) := by simp [World.cell?, hb2]
  have d8 : w2.cell? ⟨bk, 8, none⟩ = some (.slice none 0 0) := by simp [World.cell?, hb2]
  have d10 : w2.cell? ⟨bk, 10, none⟩ = some (.slice none 0 0) := by simp [World.cell?, hb2]
  have d12 : w2.cell? ⟨bk, 12, none⟩ = some (.slice none 0 0) := by simp [World.cell?, hb2]
  have d14 : w2.cell? ⟨bk, 14, none⟩ = some (.slice none 0 0) := by simp [World.cell?, hb2]
  have d16 : w2.cell? ⟨bk, 16, none⟩ = some (.slice none 0 0) := by simp [World.cell?, hb2]
  have d18 : w2.cell? ⟨bk, 18, none⟩ = some (.slice none 0 0) := by simp [World.cell?, hb2]
  have d20 : w2.cell? ⟨bk, 20, none⟩ = some (.slice none 0 0) := by simp [World.cell?, hb2]

  have p0 : w2.cell? ⟨bk, 0, none⟩ = some vi := by simp [World.cell?, hb2]
  have hri2 : w2.ownsRow 0 29 1 vi vs.length vs := owns_keep (hu1.owns HRI.out) (fun g hg => hP2.tur.block g (owns_lt (hu1.owns HRI.out) hg) ((HEL.out.up hu1).ne (hu1.owns HRI.out) (by decide) hg))
  have hel2 : Els w2 vs (fun j => marks j 0 (C j).length) := by
    intro j hj
    have := hP2.el j hj
    rw [show putC C vs.length j = marks j 0 (C j).length by simp [putC, hj]] at this
    exact this
  have HG := Lib.hid (growInts_any (L := fun j => (C j).length) ⟨p0, hri2⟩ hel2 HAP.out hb2 HVL.out HSZ.out)
  have HB2 := Lib.hid hb2
  have HT2 : Hid (Turned (InV vs) w w2) := (Turned.refl _ _).upR hu1 |>.trans hP2.tur (fun _ _ h => h)
  have HRI2 := Lib.hid hri2
  have HEL2 := Lib.hid hel2
  clear hb2 p0 hri2 hel2 hP2 HP HB1 hu1
  go_upto_region 35 with (first
    | (go_at_call 47; refine (putTokens_nil (by assumption)).mono ?_; rintro r y ⟨rfl, rfl⟩)
    | (go_at_call 48; refine (putTexts_nil (by assumption)).mono ?_; rintro r y ⟨rfl, rfl⟩)
    | (go_at_call 49; refine (putBools_nil (by assumption)).mono ?_; rintro r y ⟨rfl, rfl⟩)
    | (go_at_call 50; refine (putSteps_nil (by assumption)).mono ?_; rintro r y ⟨rfl, rfl⟩)
    | (go_at_call 51; refine (putEdges_nil (by assumption)).mono ?_; rintro r y ⟨rfl, rfl⟩)
    | (go_at_call 52; refine (putNodes_nil (by assumption)).mono ?_; rintro r y ⟨rfl, rfl⟩)
    | (go_at_call 53; refine (putPairs_nil (by assumption)).mono ?_; rintro r y ⟨rfl, rfl⟩)
    | (go_at_call 54; refine (putRows_nil (by assumption)).mono ?_; rintro r y ⟨rfl, rfl⟩)
    | (go_at_call 55; refine (putLines_nil (by assumption)).mono ?_; rintro r y ⟨rfl, rfl⟩)
    | (go_at_call 56; refine (putWalks_nil (by assumption)).mono ?_; rintro r y ⟨rfl, rfl⟩)
    | (go_at_call 57; refine HG.out.mono ?_; rintro r w3 ⟨vo, outs, rfl, hol, hvo, hG3⟩))
  have hb3 := (hG3.tur.block bk (lt_of_blockA HB2.out) hnb).trans HB2.out
  clear d2 d4 d6 d8 d10 d12 d14 d16 d18 d20
  have e2 : w3.cell? ⟨bk, 2, none⟩ = some (.slice none 0 0) := by simp [World.cell?, hb3]
  have e4 : w3.cell? ⟨bk, 4, none⟩ = some (.slice none 0 0) := by simp [World.cell?, hb3]
  have e6 : w3.cell? ⟨bk, 6, none⟩ = some (.slice none 0 0) := by simp [World.cell?, hb3]
  have e8 : w3.cell? ⟨bk, 8, none⟩ = some (.slice none 0 0) := by simp [World.cell?, hb3]
  have e10 : w3.cell? ⟨bk, 10, none⟩ = some (.slice none 0 0) := by simp [World.cell?, hb3]
  have e12 : w3.cell? ⟨bk, 12, none⟩ = some (.slice none 0 0) := by simp [World.cell?, hb3]
  have e14 : w3.cell? ⟨bk, 14, none⟩ = some (.slice none 0 0) := by simp [World.cell?, hb3]
  have e16 : w3.cell? ⟨bk, 16, none⟩ = some (.slice none 0 0) := by simp [World.cell?, hb3]
  have e18 : w3.cell? ⟨bk, 18, none⟩ = some (.slice none 0 0) := by simp [World.cell?, hb3]
  have e20 : w3.cell? ⟨bk, 20, none⟩ = some (.slice none 0 0) := by simp [World.cell?, hb3]

  have e0 : w3.cell? ⟨bk, 0, none⟩ = some vi := by simp [World.cell?, hb3]
  have hri3 : w3.ownsRow 0 29 1 vi vs.length vs := owns_keep HRI2.out (fun g hg => hG3.tur.block g (owns_lt HRI2.out hg) (HEL2.out.ne HRI2.out (by decide) hg))
  have HM1 := Lib.hid (markedInts_any (vs := outs) (L := fun j => (C j).length + 96) (by rw [hol]; exact hvo) hG3.oel (by rw [hol]; exact HVL.out) (fun i hi => by have := HSZ.out i (by rw [← hol]; exact hi); omega))
  have HM2 : Hid (∀ w4, Up w3 w4 → Calls Tryz.prog 68 #[vi] w4 fun r w' => r = .returned (.bool true) ∧ Up w4 w') := fun w4 hu => markedInts_any (L := fun j => (C j).length) (hu.owns hri3) (hG3.el.up hu) HVL.out (fun i hi => by have := HSZ.out i hi; omega)
  have HT3 : Hid (Turned (InV vs) w w3) := HT2.out.trans hG3.tur (fun _ _ h => h)
  have HB3 : Hid (∀ y, Up w3 y → y.heap[bk]? = w3.heap[bk]?) := fun y hu => hu.block bk (lt_of_blockA hb3)
  have HX3 := Lib.hid hb3
  obtain ⟨oo, oc, rfl⟩ := owns_shape' hvo
  subst hio
  clear hri3 hvo hG3 hol HG HT2 HRI2 HEL2 HB2 hb3
  go_upto_region 44 with (first
    | (go_at_call 58; refine (growTokens_nil (by assumption)).mono ?_; rintro r y ⟨rfl, rfl⟩)
    | (go_at_call 59; refine (growTexts_nil (by assumption)).mono ?_; rintro r y ⟨rfl, rfl⟩)
    | (go_at_call 60; refine (growBools_nil (by assumption)).mono ?_; rintro r y ⟨rfl, rfl⟩)
    | (go_at_call 61; refine (growSteps_nil (by assumption)).mono ?_; rintro r y ⟨rfl, rfl⟩)
    | (go_at_call 62; refine (growEdges_nil (by assumption)).mono ?_; rintro r y ⟨rfl, rfl⟩)
    | (go_at_call 63; refine (growNodes_nil (by assumption)).mono ?_; rintro r y ⟨rfl, rfl⟩)
    | (go_at_call 64; refine (growPairs_nil (by assumption)).mono ?_; rintro r y ⟨rfl, rfl⟩)
    | (go_at_call 65; refine (growRows_nil (by assumption)).mono ?_; rintro r y ⟨rfl, rfl⟩)
    | (go_at_call 66; refine (growLines_nil (by assumption)).mono ?_; rintro r y ⟨rfl, rfl⟩)
    | (go_at_call 67; refine (growWalks_nil (by assumption)).mono ?_; rintro r y ⟨rfl, rfl⟩))
  go_wp2_with (first
    | (go_at_call 67; refine (growWalks_nil (by assumption)).mono ?_; rintro r y ⟨rfl, rfl⟩)
    | (go_at_call 68; (with_reducible refine HM1.out.mono ?_); rintro r w4 ⟨rfl, hu4⟩; (have hb4 := (HB3.out w4 hu4).trans HX3.out); (have f2 : w4.cell? ⟨bk, 2, none⟩ = some (.slice none 0 0) := by simp [World.cell?, hb4]); (have f4 : w4.cell? ⟨bk, 4, none⟩ = some (.slice none 0 0) := by simp [World.cell?, hb4]); (have f6 : w4.cell? ⟨bk, 6, none⟩ = some (.slice none 0 0) := by simp [World.cell?, hb4]); (have f8 : w4.cell? ⟨bk, 8, none⟩ = some (.slice none 0 0) := by simp [World.cell?, hb4]); (have f10 : w4.cell? ⟨bk, 10, none⟩ = some (.slice none 0 0) := by simp [World.cell?, hb4]); (have f12 : w4.cell? ⟨bk, 12, none⟩ = some (.slice none 0 0) := by simp [World.cell?, hb4]); (have f14 : w4.cell? ⟨bk, 14, none⟩ = some (.slice none 0 0) := by simp [World.cell?, hb4]); (have f16 : w4.cell? ⟨bk, 16, none⟩ = some (.slice none 0 0) := by simp [World.cell?, hb4]); (have f18 : w4.cell? ⟨bk, 18, none⟩ = some (.slice none 0 0) := by simp [World.cell?, hb4]); (have f20 : w4.cell? ⟨bk, 20, none⟩ = some (.slice none 0 0) := by simp [World.cell?, hb4]); (have f0 : w4.cell? ⟨bk, 0, none⟩ = some (.slice io vs.length ic) := by simp [World.cell?, hb4]); clear hb4)
    | (go_at_call 68; (with_reducible refine (HM2.out w4 hu4).mono ?_); rintro r w5 ⟨rfl, hu5⟩; (have hb5 := (HB3.out w5 (hu4.trans hu5)).trans HX3.out); (have g2 : w5.cell? ⟨bk, 2, none⟩ = some (.slice none 0 0) := by simp [World.cell?, hb5]); (have g4 : w5.cell? ⟨bk, 4, none⟩ = some (.slice none 0 0) := by simp [World.cell?, hb5]); (have g6 : w5.cell? ⟨bk, 6, none⟩ = some (.slice none 0 0) := by simp [World.cell?, hb5]); (have g8 : w5.cell? ⟨bk, 8, none⟩ = some (.slice none 0 0) := by simp [World.cell?, hb5]); (have g10 : w5.cell? ⟨bk, 10, none⟩ = some (.slice none 0 0) := by simp [World.cell?, hb5]); (have g12 : w5.cell? ⟨bk, 12, none⟩ = some (.slice none 0 0) := by simp [World.cell?, hb5]); (have g14 : w5.cell? ⟨bk, 14, none⟩ = some (.slice none 0 0) := by simp [World.cell?, hb5]); (have g16 : w5.cell? ⟨bk, 16, none⟩ = some (.slice none 0 0) := by simp [World.cell?, hb5]); (have g18 : w5.cell? ⟨bk, 18, none⟩ = some (.slice none 0 0) := by simp [World.cell?, hb5]); (have g20 : w5.cell? ⟨bk, 20, none⟩ = some (.slice none 0 0) := by simp [World.cell?, hb5]); clear hb5)
    | (go_at_call 69; refine (markedTokens_nil _).mono ?_; rintro r y ⟨rfl, rfl⟩)
    | (go_at_call 70; refine (markedTexts_nil _).mono ?_; rintro r y ⟨rfl, rfl⟩)
    | (go_at_call 71; refine (markedBools_nil _).mono ?_; rintro r y ⟨rfl, rfl⟩)
    | (go_at_call 72; refine (markedSteps_nil _).mono ?_; rintro r y ⟨rfl, rfl⟩)
    | (go_at_call 73; refine (markedEdges_nil _).mono ?_; rintro r y ⟨rfl, rfl⟩)
    | (go_at_call 74; refine (markedNodes_nil _).mono ?_; rintro r y ⟨rfl, rfl⟩)
    | (go_at_call 75; refine (markedPairs_nil _).mono ?_; rintro r y ⟨rfl, rfl⟩)
    | (go_at_call 76; refine (markedRows_nil _).mono ?_; rintro r y ⟨rfl, rfl⟩)
    | (go_at_call 77; refine (markedLines_nil _).mono ?_; rintro r y ⟨rfl, rfl⟩)
    | (go_at_call 78; refine (markedWalks_nil _).mono ?_; rintro r y ⟨rfl, rfl⟩))
  go_ret
  exact ⟨rfl, by rw [← HVS.out]; exact HT3.out.upR (hu4.trans hu5)⟩

end Go.Proofs.YtiiieailimphnaaGreatDoor
