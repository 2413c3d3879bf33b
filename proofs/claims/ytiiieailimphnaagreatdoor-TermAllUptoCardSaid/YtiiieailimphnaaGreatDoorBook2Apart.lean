/- Walks: what the book does with the kinds of lists of which it keeps none. Walks: the book, asked whether its lists lie apart: lists of integers and lists of pairs. Printed by mkapart2.py. -/
import Derived.Test.YtiiieailimphnaaGreatDoorMem
import Derived.Test.YtiiieailimphnaaGreatDoorBookMarkP
import Derived.Test.YtiiieailimphnaaGreatDoorBook2P

namespace Go.Proofs.YtiiieailimphnaaGreatDoor
open Go.RowKit
set_option linter.unusedVariables false
set_option linter.unusedSimpArgs false

theorem stillTokens_nil {w : World} {bk : Nat} (h : w.cell? ⟨bk, 2, none⟩ = some (.slice none 0 0)) :
    Calls Tryz.prog 36 #[.pointer (some ⟨bk, 0, none⟩)] w fun r w' => r = .returned (.bool true) ∧ w = w' := by
  go_enter Tryz.func36, Tryz.ntmps36
  go_wp2_with fail
  refine wp_loop_rounds 1 ?_
  rw [rounds_succ]
  go_wp2_with fail
  go_ret
  exact ⟨rfl, rfl⟩

theorem putTokens_nil {w : World} {bk : Nat} (h : w.cell? ⟨bk, 2, none⟩ = some (.slice none 0 0)) :
    Calls Tryz.prog 47 #[.pointer (some ⟨bk, 0, none⟩)] w fun r w' => r = .returned (.tuple #[]) ∧ w = w' := by
  go_enter Tryz.func47, Tryz.ntmps47
  go_wp2_with fail
  refine wp_loop_rounds 1 ?_
  rw [rounds_succ]
  go_wp2_with fail
  go_end0
  exact ⟨rfl, rfl⟩

theorem growTokens_nil {w : World} {bk : Nat} (h : w.cell? ⟨bk, 2, none⟩ = some (.slice none 0 0)) :
    Calls Tryz.prog 58 #[.pointer (some ⟨bk, 0, none⟩)] w fun r w' => r = .returned (.slice none 0 0) ∧ w = w' := by
  go_enter Tryz.func58, Tryz.ntmps58
  go_wp2_with fail
  refine wp_loop_rounds 1 ?_
  rw [rounds_succ]
  go_wp2_with fail
  go_ret
  exact ⟨rfl, rfl⟩

theorem markedTokens_nil (w : World) :
    Calls Tryz.prog 69 #[.slice none 0 0] w fun r w' => r = .returned (.bool true) ∧ w = w' := by
  go_enter Tryz.func69, Tryz.ntmps69
  go_wp2_with fail
  refine wp_loop_rounds 1 ?_
  rw [rounds_succ]
  go_wp2_with fail
  go_ret
  exact ⟨rfl, rfl⟩

theorem stillTexts_nil {w : World} {bk : Nat} (h : w.cell? ⟨bk, 4, none⟩ = some (.slice none 0 0)) :
    Calls Tryz.prog 37 #[.pointer (some ⟨bk, 0, none⟩)] w fun r w' => r = .returned (.bool true) ∧ w = w' := by
  go_enter Tryz.func37, Tryz.ntmps37
  go_wp2_with fail
  refine wp_loop_rounds 1 ?_
  rw [rounds_succ]
  go_wp2_with fail
  go_ret
  exact ⟨rfl, rfl⟩

theorem putTexts_nil {w : World} {bk : Nat} (h : w.cell? ⟨bk, 4, none⟩ = some (.slice none 0 0)) :
    Calls Tryz.prog 48 #[.pointer (some ⟨bk, 0, none⟩)] w fun r w' => r = .returned (.tuple #[]) ∧ w = w' := by
  go_enter Tryz.func48, Tryz.ntmps48
  go_wp2_with fail
  refine wp_loop_rounds 1 ?_
  rw [rounds_succ]
  go_wp2_with fail
  go_end0
  exact ⟨rfl, rfl⟩

theorem growTexts_nil {w : World} {bk : Nat} (h : w.cell? ⟨bk, 4, none⟩ = some (.slice none 0 0)) :
    Calls Tryz.prog 59 #[.pointer (some ⟨bk, 0, none⟩)] w fun r w' => r = .returned (.slice none 0 0) ∧ w = w' := by
  go_enter Tryz.func59, Tryz.ntmps59
  go_wp2_with fail
  refine wp_loop_rounds 1 ?_
  rw [rounds_succ]
  go_wp2_with fail
  go_ret
  exact ⟨rfl, rfl⟩

theorem markedTexts_nil (w : World) :
    Calls Tryz.prog 70 #[.slice none 0 0] w fun r w' => r = .returned (.bool true) ∧ w = w' := by
  go_enter Tryz.func70, Tryz.ntmps70
  go_wp2_with fail
  refine wp_loop_rounds 1 ?_
  rw [rounds_succ]
  go_wp2_with fail
  go_ret
  exact ⟨rfl, rfl⟩

theorem stillBools_nil {w : World} {bk : Nat} (h : w.cell? ⟨bk, 6, none⟩ = some (.slice none 0 0)) :
    Calls Tryz.prog 38 #[.pointer (some ⟨bk, 0, none⟩)] w fun r w' => r = .returned (.bool true) ∧ w = w' := by
  go_enter Tryz.func38, Tryz.ntmps38
  go_wp2_with fail
  refine wp_loop_rounds 1 ?_
  rw [rounds_succ]
  go_wp2_with fail
  go_ret
  exact ⟨rfl, rfl⟩

theorem putBools_nil {w : World} {bk : Nat} (h : w.cell? ⟨bk, 6, none⟩ = some (.slice none 0 0)) :
    Calls Tryz.prog 49 #[.pointer (some ⟨bk, 0, none⟩)] w fun r w' => r = .returned (.tuple #[]) ∧ w = w' := by
  go_enter Tryz.func49, Tryz.ntmps49
  go_wp2_with fail
  refine wp_loop_rounds 1 ?_
  rw [rounds_succ]
  go_wp2_with fail
  go_end0
  exact ⟨rfl, rfl⟩

theorem growBools_nil {w : World} {bk : Nat} (h : w.cell? ⟨bk, 6, none⟩ = some (.slice none 0 0)) :
    Calls Tryz.prog 60 #[.pointer (some ⟨bk, 0, none⟩)] w fun r w' => r = .returned (.slice none 0 0) ∧ w = w' := by
  go_enter Tryz.func60, Tryz.ntmps60
  go_wp2_with fail
  refine wp_loop_rounds 1 ?_
  rw [rounds_succ]
  go_wp2_with fail
  go_ret
  exact ⟨rfl, rfl⟩

theorem markedBools_nil (w : World) :
    Calls Tryz.prog 71 #[.slice none 0 0] w fun r w' => r = .returned (.bool true) ∧ w = w' := by
  go_enter Tryz.func71, Tryz.ntmps71
  go_wp2_with fail
  refine wp_loop_rounds 1 ?_
  rw [rounds_succ]
  go_wp2_with fail
  go_ret
  exact ⟨rfl, rfl⟩

theorem stillSteps_nil {w : World} {bk : Nat} (h : w.cell? ⟨bk, 8, none⟩ = some (.slice none 0 0)) :
    Calls Tryz.prog 39 #[.pointer (some ⟨bk, 0, none⟩)] w fun r w' => r = .returned (.bool true) ∧ w = w' := by
  go_enter Tryz.func39, Tryz.ntmps39
  go_wp2_with fail
  refine wp_loop_rounds 1 ?_
  rw [rounds_succ]
  go_wp2_with fail
  go_ret
  exact ⟨rfl, rfl⟩

theorem putSteps_nil {w : World} {bk : Nat} (h : w.cell? ⟨bk, 8, none⟩ = some (.slice none 0 0)) :
    Calls Tryz.prog 50 #[.pointer (some ⟨bk, 0, none⟩)] w fun r w' => r = .returned (.tuple #[]) ∧ w = w' := by
  go_enter Tryz.func50, Tryz.ntmps50
  go_wp2_with fail
  refine wp_loop_rounds 1 ?_
  rw [rounds_succ]
  go_wp2_with fail
  go_end0
  exact ⟨rfl, rfl⟩

theorem growSteps_nil {w : World} {bk : Nat} (h : w.cell? ⟨bk, 8, none⟩ = some (.slice none 0 0)) :
    Calls Tryz.prog 61 #[.pointer (some ⟨bk, 0, none⟩)] w fun r w' => r = .returned (.slice none 0 0) ∧ w = w' := by
  go_enter Tryz.func61, Tryz.ntmps61
  go_wp2_with fail
  refine wp_loop_rounds 1 ?_
  rw [rounds_succ]
  go_wp2_with fail
  go_ret
  exact ⟨rfl, rfl⟩

theorem markedSteps_nil (w : World) :
    Calls Tryz.prog 72 #[.slice none 0 0] w fun r w' => r = .returned (.bool true) ∧ w = w' := by
  go_enter Tryz.func72, Tryz.ntmps72
  go_wp2_with fail
  refine wp_loop_rounds 1 ?_
  rw [rounds_succ]
  go_wp2_with fail
  go_ret
  exact ⟨rfl, rfl⟩

theorem stillEdges_nil {w : World} {bk : Nat} (h : w.cell? ⟨bk, 10, none⟩ = some (.slice none 0 0)) :
    Calls Tryz.prog 40 #[.pointer (some ⟨bk, 0, none⟩)] w fun r w' => r = .returned (.bool true) ∧ w = w' := by
  go_enter Tryz.func40, Tryz.ntmps40
  go_wp2_with fail
  refine wp_loop_rounds 1 ?_
  rw [rounds_succ]
  go_wp2_with fail
  go_ret
  exact ⟨rfl, rfl⟩

theorem putEdges_nil {w : World} {bk : Nat} (h : w.cell? ⟨bk, 10, none⟩ = some (.slice none 0 0)) :
    Calls Tryz.prog 51 #[.pointer (some ⟨bk, 0, none⟩)] w fun r w' => r = .returned (.tuple #[]) ∧ w = w' := by
  go_enter Tryz.func51, Tryz.ntmps51
  go_wp2_with fail
  refine wp_loop_rounds 1 ?_
  rw [rounds_succ]
  go_wp2_with fail
  go_end0
  exact ⟨rfl, rfl⟩

theorem growEdges_nil {w : World} {bk : Nat} (h : w.cell? ⟨bk, 10, none⟩ = some (.slice none 0 0)) :
    Calls Tryz.prog 62 #[.pointer (some ⟨bk, 0, none⟩)] w fun r w' => r = .returned (.slice none 0 0) ∧ w = w' := by
  go_enter Tryz.func62, Tryz.ntmps62
  go_wp2_with fail
  refine wp_loop_rounds 1 ?_
  rw [rounds_succ]
  go_wp2_with fail
  go_ret
  exact ⟨rfl, rfl⟩

theorem markedEdges_nil (w : World) :
    Calls Tryz.prog 73 #[.slice none 0 0] w fun r w' => r = .returned (.bool true) ∧ w = w' := by
  go_enter Tryz.func73, Tryz.ntmps73
  go_wp2_with fail
  refine wp_loop_rounds 1 ?_
  rw [rounds_succ]
  go_wp2_with fail
  go_ret
  exact ⟨rfl, rfl⟩

theorem stillNodes_nil {w : World} {bk : Nat} (h : w.cell? ⟨bk, 12, none⟩ = some (.slice none 0 0)) :
    Calls Tryz.prog 41 #[.pointer (some ⟨bk, 0, none⟩)] w fun r w' => r = .returned (.bool true) ∧ w = w' := by
  go_enter Tryz.func41, Tryz.ntmps41
  go_wp2_with fail
  refine wp_loop_rounds 1 ?_
  rw [rounds_succ]
  go_wp2_with fail
  go_ret
  exact ⟨rfl, rfl⟩

theorem putNodes_nil {w : World} {bk : Nat} (h : w.cell? ⟨bk, 12, none⟩ = some (.slice none 0 0)) :
    Calls Tryz.prog 52 #[.pointer (some ⟨bk, 0, none⟩)] w fun r w' => r = .returned (.tuple #[]) ∧ w = w' := by
  go_enter Tryz.func52, Tryz.ntmps52
  go_wp2_with fail
  refine wp_loop_rounds 1 ?_
  rw [rounds_succ]
  go_wp2_with fail
  go_end0
  exact ⟨rfl, rfl⟩

theorem growNodes_nil {w : World} {bk : Nat} (h : w.cell? ⟨bk, 12, none⟩ = some (.slice none 0 0)) :
    Calls Tryz.prog 63 #[.pointer (some ⟨bk, 0, none⟩)] w fun r w' => r = .returned (.slice none 0 0) ∧ w = w' := by
  go_enter Tryz.func63, Tryz.ntmps63
  go_wp2_with fail
  refine wp_loop_rounds 1 ?_
  rw [rounds_succ]
  go_wp2_with fail
  go_ret
  exact ⟨rfl, rfl⟩

theorem markedNodes_nil (w : World) :
    Calls Tryz.prog 74 #[.slice none 0 0] w fun r w' => r = .returned (.bool true) ∧ w = w' := by
  go_enter Tryz.func74, Tryz.ntmps74
  go_wp2_with fail
  refine wp_loop_rounds 1 ?_
  rw [rounds_succ]
  go_wp2_with fail
  go_ret
  exact ⟨rfl, rfl⟩

theorem stillPairs_nil {w : World} {bk : Nat} (h : w.cell? ⟨bk, 14, none⟩ = some (.slice none 0 0)) :
    Calls Tryz.prog 42 #[.pointer (some ⟨bk, 0, none⟩)] w fun r w' => r = .returned (.bool true) ∧ w = w' := by
  go_enter Tryz.func42, Tryz.ntmps42
  go_wp2_with fail
  refine wp_loop_rounds 1 ?_
  rw [rounds_succ]
  go_wp2_with fail
  go_ret
  exact ⟨rfl, rfl⟩

theorem putPairs_nil {w : World} {bk : Nat} (h : w.cell? ⟨bk, 14, none⟩ = some (.slice none 0 0)) :
    Calls Tryz.prog 53 #[.pointer (some ⟨bk, 0, none⟩)] w fun r w' => r = .returned (.tuple #[]) ∧ w = w' := by
  go_enter Tryz.func53, Tryz.ntmps53
  go_wp2_with fail
  refine wp_loop_rounds 1 ?_
  rw [rounds_succ]
  go_wp2_with fail
  go_end0
  exact ⟨rfl, rfl⟩

theorem growPairs_nil {w : World} {bk : Nat} (h : w.cell? ⟨bk, 14, none⟩ = some (.slice none 0 0)) :
    Calls Tryz.prog 64 #[.pointer (some ⟨bk, 0, none⟩)] w fun r w' => r = .returned (.slice none 0 0) ∧ w = w' := by
  go_enter Tryz.func64, Tryz.ntmps64
  go_wp2_with fail
  refine wp_loop_rounds 1 ?_
  rw [rounds_succ]
  go_wp2_with fail
  go_ret
  exact ⟨rfl, rfl⟩

theorem markedPairs_nil (w : World) :
    Calls Tryz.prog 75 #[.slice none 0 0] w fun r w' => r = .returned (.bool true) ∧ w = w' := by
  go_enter Tryz.func75, Tryz.ntmps75
  go_wp2_with fail
  refine wp_loop_rounds 1 ?_
  rw [rounds_succ]
  go_wp2_with fail
  go_ret
  exact ⟨rfl, rfl⟩

theorem stillRows_nil {w : World} {bk : Nat} (h : w.cell? ⟨bk, 16, none⟩ = some (.slice none 0 0)) :
    Calls Tryz.prog 43 #[.pointer (some ⟨bk, 0, none⟩)] w fun r w' => r = .returned (.bool true) ∧ w = w' := by
  go_enter Tryz.func43, Tryz.ntmps43
  go_wp2_with fail
  refine wp_loop_rounds 1 ?_
  rw [rounds_succ]
  go_wp2_with fail
  go_ret
  exact ⟨rfl, rfl⟩

theorem putRows_nil {w : World} {bk : Nat} (h : w.cell? ⟨bk, 16, none⟩ = some (.slice none 0 0)) :
    Calls Tryz.prog 54 #[.pointer (some ⟨bk, 0, none⟩)] w fun r w' => r = .returned (.tuple #[]) ∧ w = w' := by
  go_enter Tryz.func54, Tryz.ntmps54
  go_wp2_with fail
  refine wp_loop_rounds 1 ?_
  rw [rounds_succ]
  go_wp2_with fail
  go_end0
  exact ⟨rfl, rfl⟩

theorem growRows_nil {w : World} {bk : Nat} (h : w.cell? ⟨bk, 16, none⟩ = some (.slice none 0 0)) :
    Calls Tryz.prog 65 #[.pointer (some ⟨bk, 0, none⟩)] w fun r w' => r = .returned (.slice none 0 0) ∧ w = w' := by
  go_enter Tryz.func65, Tryz.ntmps65
  go_wp2_with fail
  refine wp_loop_rounds 1 ?_
  rw [rounds_succ]
  go_wp2_with fail
  go_ret
  exact ⟨rfl, rfl⟩

theorem markedRows_nil (w : World) :
    Calls Tryz.prog 76 #[.slice none 0 0] w fun r w' => r = .returned (.bool true) ∧ w = w' := by
  go_enter Tryz.func76, Tryz.ntmps76
  go_wp2_with fail
  refine wp_loop_rounds 1 ?_
  rw [rounds_succ]
  go_wp2_with fail
  go_ret
  exact ⟨rfl, rfl⟩

theorem stillLines_nil {w : World} {bk : Nat} (h : w.cell? ⟨bk, 18, none⟩ = some (.slice none 0 0)) :
    Calls Tryz.prog 44 #[.pointer (some ⟨bk, 0, none⟩)] w fun r w' => r = .returned (.bool true) ∧ w = w' := by
  go_enter Tryz.func44, Tryz.ntmps44
  go_wp2_with fail
  refine wp_loop_rounds 1 ?_
  rw [rounds_succ]
  go_wp2_with fail
  go_ret
  exact ⟨rfl, rfl⟩

theorem putLines_nil {w : World} {bk : Nat} (h : w.cell? ⟨bk, 18, none⟩ = some (.slice none 0 0)) :
    Calls Tryz.prog 55 #[.pointer (some ⟨bk, 0, none⟩)] w fun r w' => r = .returned (.tuple #[]) ∧ w = w' := by
  go_enter Tryz.func55, Tryz.ntmps55
  go_wp2_with fail
  refine wp_loop_rounds 1 ?_
  rw [rounds_succ]
  go_wp2_with fail
  go_end0
  exact ⟨rfl, rfl⟩

theorem growLines_nil {w : World} {bk : Nat} (h : w.cell? ⟨bk, 18, none⟩ = some (.slice none 0 0)) :
    Calls Tryz.prog 66 #[.pointer (some ⟨bk, 0, none⟩)] w fun r w' => r = .returned (.slice none 0 0) ∧ w = w' := by
  go_enter Tryz.func66, Tryz.ntmps66
  go_wp2_with fail
  refine wp_loop_rounds 1 ?_
  rw [rounds_succ]
  go_wp2_with fail
  go_ret
  exact ⟨rfl, rfl⟩

theorem markedLines_nil (w : World) :
    Calls Tryz.prog 77 #[.slice none 0 0] w fun r w' => r = .returned (.bool true) ∧ w = w' := by
  go_enter Tryz.func77, Tryz.ntmps77
  go_wp2_with fail
  refine wp_loop_rounds 1 ?_
  rw [rounds_succ]
  go_wp2_with fail
  go_ret
  exact ⟨rfl, rfl⟩

theorem stillWalks_nil {w : World} {bk : Nat} (h : w.cell? ⟨bk, 20, none⟩ = some (.slice none 0 0)) :
    Calls Tryz.prog 45 #[.pointer (some ⟨bk, 0, none⟩)] w fun r w' => r = .returned (.bool true) ∧ w = w' := by
  go_enter Tryz.func45, Tryz.ntmps45
  go_wp2_with fail
  refine wp_loop_rounds 1 ?_
  rw [rounds_succ]
  go_wp2_with fail
  go_ret
  exact ⟨rfl, rfl⟩

theorem putWalks_nil {w : World} {bk : Nat} (h : w.cell? ⟨bk, 20, none⟩ = some (.slice none 0 0)) :
    Calls Tryz.prog 56 #[.pointer (some ⟨bk, 0, none⟩)] w fun r w' => r = .returned (.tuple #[]) ∧ w = w' := by
  go_enter Tryz.func56, Tryz.ntmps56
  go_wp2_with fail
  refine wp_loop_rounds 1 ?_
  rw [rounds_succ]
  go_wp2_with fail
  go_end0
  exact ⟨rfl, rfl⟩

theorem growWalks_nil {w : World} {bk : Nat} (h : w.cell? ⟨bk, 20, none⟩ = some (.slice none 0 0)) :
    Calls Tryz.prog 67 #[.pointer (some ⟨bk, 0, none⟩)] w fun r w' => r = .returned (.slice none 0 0) ∧ w = w' := by
  go_enter Tryz.func67, Tryz.ntmps67
  go_wp2_with fail
  refine wp_loop_rounds 1 ?_
  rw [rounds_succ]
  go_wp2_with fail
  go_ret
  exact ⟨rfl, rfl⟩

theorem markedWalks_nil (w : World) :
    Calls Tryz.prog 78 #[.slice none 0 0] w fun r w' => r = .returned (.bool true) ∧ w = w' := by
  go_enter Tryz.func78, Tryz.ntmps78
  go_wp2_with fail
  refine wp_loop_rounds 1 ?_
  rw [rounds_succ]
  go_wp2_with fail
  go_ret
  exact ⟨rfl, rfl⟩

end Go.Proofs.YtiiieailimphnaaGreatDoor

namespace Go.Proofs.YtiiieailimphnaaGreatDoor.B2
open Go.RowKit
set_option linter.unusedVariables false
set_option linter.unusedSimpArgs false

def entC (es : List Ent) (i : Nat) : List Int := (es.map (·.xs)).getD i []
def entV (es : List Ent) : List Value := es.map (·.v)
def entU (es : List Ent) : List Value := es.map (·.u)

theorem ent_at {es : List Ent} {i : Nat} (h : i < es.length) : nth (entV es) i = es[i].v ∧ nth (entU es) i = es[i].u ∧ entC es i = es[i].xs := by
  simp [nth, entV, entU, entC, List.getD, h]

theorem BookAt.els {w : World} {bk : Nat} {vi vw vp vq : Value} {es : List Ent} (h : BookAt w bk vi vw vp vq es) : Els w (entV es) (entC es) ∧ Els w (entU es) (entC es) := by
  refine ⟨fun i hi => ?_, fun i hi => ?_⟩
  · have hi' : i < es.length := by simpa [entV] using hi
    obtain ⟨e1, e2, e3⟩ := ent_at hi'
    rw [e1, e3]; exact (h.ent _ (List.getElem_mem hi')).1
  · have hi' : i < es.length := by simpa [entU] using hi
    obtain ⟨e1, e2, e3⟩ := ent_at hi'
    rw [e2, e3]; exact (h.ent _ (List.getElem_mem hi')).2

theorem BookAt.apt {w : World} {bk : Nat} {vi vw vp vq : Value} {es : List Ent} (h : BookAt w bk vi vw vp vq es) : Apt (entV es) := by
  have hnd : List.Pairwise (fun e1 e2 : Ent => ∀ x ∈ blk e1.v ++ blk e1.u, ∀ y ∈ blk e2.v ++ blk e2.u, x ≠ y) es := (List.pairwise_flatMap.1 h.nd).2
  have hp := List.pairwise_iff_getElem.1 hnd
  have key : ∀ i j g, (hi : i < es.length) → (hj : j < es.length) → i < j → es[i].v.ownBlock = some g → es[j].v.ownBlock ≠ some g := by
    intro i j g hi hj hij h1 h2
    exact hp i j hi hj hij g (List.mem_append_left _ (mem_blk.2 h1)) g (List.mem_append_left _ (mem_blk.2 h2)) rfl
  intro i j g hi hj hne h1 h2
  have hi' : i < es.length := by simpa [entV] using hi
  have hj' : j < es.length := by simpa [entV] using hj
  rw [(ent_at hi').1] at h1
  rw [(ent_at hj').1] at h2
  rcases Nat.lt_or_gt_of_ne hne with hlt | hlt
  · exact key i j g hi' hj' hlt h1 h2
  · exact key j i g hj' hi' hlt h2 h1

theorem BookAt.inV {w : World} {bk : Nat} {vi vw vp vq : Value} {es : List Ent} (h : BookAt w bk vi vw vp vq es) {k : Nat} (hk : InV (entV es) k) : BkFoot bk vi vw es k := by
  obtain ⟨i, hi, hg⟩ := hk
  have hi' : i < es.length := by simpa [entV] using hi
  rw [(ent_at hi').1] at hg
  exact .inr (.inr (.inr (mem_entBlocks.2 ⟨_, List.getElem_mem hi', .inl hg⟩)))

end Go.Proofs.YtiiieailimphnaaGreatDoor.B2

namespace Go.Proofs.YtiiieailimphnaaGreatDoor.Pr
open Go.RowKit
set_option linter.unusedVariables false
set_option linter.unusedSimpArgs false

def entC (es : List Ent) (i : Nat) : List (Int × Int) := (es.map (·.xs)).getD i []
def entV (es : List Ent) : List Value := es.map (·.v)
def entU (es : List Ent) : List Value := es.map (·.u)

theorem ent_at {es : List Ent} {i : Nat} (h : i < es.length) : nth (entV es) i = es[i].v ∧ nth (entU es) i = es[i].u ∧ entC es i = es[i].xs := by
  simp [nth, entV, entU, entC, List.getD, h]

theorem BookAt.els {w : World} {bk : Nat} {vi vw vp vq : Value} {es : List Ent} (h : BookAt w bk vi vw vp vq es) : Els w (entV es) (entC es) ∧ Els w (entU es) (entC es) := by
  refine ⟨fun i hi => ?_, fun i hi => ?_⟩
  · have hi' : i < es.length := by simpa [entV] using hi
    obtain ⟨e1, e2, e3⟩ := ent_at hi'
    rw [e1, e3]; exact (h.ent _ (List.getElem_mem hi')).1
  · have hi' : i < es.length := by simpa [entU] using hi
    obtain ⟨e1, e2, e3⟩ := ent_at hi'
    rw [e2, e3]; exact (h.ent _ (List.getElem_mem hi')).2

theorem BookAt.apt {w : World} {bk : Nat} {vi vw vp vq : Value} {es : List Ent} (h : BookAt w bk vi vw vp vq es) : Apt (entV es) := by
  have hnd : List.Pairwise (fun e1 e2 : Ent => ∀ x ∈ blk e1.v ++ blk e1.u, ∀ y ∈ blk e2.v ++ blk e2.u, x ≠ y) es := (List.pairwise_flatMap.1 h.nd).2
  have hp := List.pairwise_iff_getElem.1 hnd
  have key : ∀ i j g, (hi : i < es.length) → (hj : j < es.length) → i < j → es[i].v.ownBlock = some g → es[j].v.ownBlock ≠ some g := by
    intro i j g hi hj hij h1 h2
    exact hp i j hi hj hij g (List.mem_append_left _ (mem_blk.2 h1)) g (List.mem_append_left _ (mem_blk.2 h2)) rfl
  intro i j g hi hj hne h1 h2
  have hi' : i < es.length := by simpa [entV] using hi
  have hj' : j < es.length := by simpa [entV] using hj
  rw [(ent_at hi').1] at h1
  rw [(ent_at hj').1] at h2
  rcases Nat.lt_or_gt_of_ne hne with hlt | hlt
  · exact key i j g hi' hj' hlt h1 h2
  · exact key j i g hj' hi' hlt h2 h1

theorem BookAt.inV {w : World} {bk : Nat} {vi vw vp vq : Value} {es : List Ent} (h : BookAt w bk vi vw vp vq es) {k : Nat} (hk : InV (entV es) k) : BkFoot bk vi vw es k := by
  obtain ⟨i, hi, hg⟩ := hk
  have hi' : i < es.length := by simpa [entV] using hi
  rw [(ent_at hi').1] at hg
  exact .inr (.inr (.inr (mem_entBlocks.2 ⟨_, List.getElem_mem hi', .inl hg⟩)))

end Go.Proofs.YtiiieailimphnaaGreatDoor.Pr

namespace Go.Proofs.YtiiieailimphnaaGreatDoor
open Go.RowKit
set_option linter.unusedVariables false
set_option linter.unusedSimpArgs false

theorem upTurnedA {F : Nat → Prop} {w w' : World} (h : Up w w') : Turned F w w' := ⟨h.os, h.tape, h.output, h.size, fun k hk _ => h.block k hk⟩

set_option maxHeartbeats 16000000 in
set_option maxRecDepth 100000 in
theorem apart2_any {w : World} {bk : Nat} {vi vw vp vq : Value} {es : List B2.Ent} {qs : List Pr.Ent} (h : B2.BookAt w bk vi vw vp vq es) (hp : Pr.BookAt w bk vp vq vi vw qs) (hl : es.length ≤ 400) (hl2 : qs.length ≤ 400) :
    Calls Tryz.prog 16 #[.pointer (some ⟨bk, 0, none⟩)] w fun r w' => r = .returned (.bool true) ∧ Turned (fun k => InV (B2.entV es) k ∨ InV (Pr.entV qs) k) w w' := by
  have hvl : (B2.entV es).length = es.length := by simp [B2.entV]
  have hul : (B2.entU es).length = es.length := by simp [B2.entU]
  have pvl : (Pr.entV qs).length = qs.length := by simp [Pr.entV]
  have pul : (Pr.entU qs).length = qs.length := by simp [Pr.entU]
  have hsz : ∀ i, i < (B2.entV es).length → (B2.entC es i).length ≤ 900000 := fun i hi => by
    rw [hvl] at hi
    rw [(B2.ent_at hi).2.2]; exact h.sz _ (List.getElem_mem hi)
  have psz : ∀ i, i < (Pr.entV qs).length → (Pr.entC qs i).length ≤ 900000 := fun i hi => by
    rw [pvl] at hi
    rw [(Pr.ent_at hi).2.2]; exact hp.sz _ (List.getElem_mem hi)
  have hri : w.ownsRow 0 29 1 vi (B2.entV es).length (B2.entV es) := by rw [hvl]; exact h.ri
  have hrw : w.ownsRow 0 29 1 vw (B2.entV es).length (B2.entU es) := by rw [hvl]; exact h.rw
  have pri : w.ownsRow 0 33 1 vp (Pr.entV qs).length (Pr.entV qs) := by rw [pvl]; exact hp.ri
  have prw : w.ownsRow 0 33 1 vq (Pr.entV qs).length (Pr.entU qs) := by rw [pvl]; exact hp.rw
  have hbox := h.box
  have a0 : w.cell? ⟨bk, 0, none⟩ = some vi := by simp [World.cell?, hbox]
  have a1 : w.cell? ⟨bk, 1, none⟩ = some vw := by simp [World.cell?, hbox]
  have a14 : w.cell? ⟨bk, 14, none⟩ = some vp := by simp [World.cell?, hbox]
  have a15 : w.cell? ⟨bk, 15, none⟩ = some vq := by simp [World.cell?, hbox]
  have hel := h.els.1
  have pel := hp.els.1
  have HS := Lib.hid (stillInts_any a0 a1 hri hrw (by rw [hul, hvl]) h.els.1 h.els.2 (by rw [hvl]; exact hl) (fun i hi => by have := hsz i hi; omega))
  have HSP : Hid (∀ W, Up w W → Calls Tryz.prog 42 #[.pointer (some ⟨bk, 0, none⟩)] W fun r w' => r = .returned (.bool true) ∧ Up W w') := Lib.hid (fun W hW =>
    Pr.stillPairs_any (hW.cell a14) (hW.cell a15) (hW.owns pri) (hW.owns prw) (by rw [pul, pvl]) (hp.els.1.up hW) (hp.els.2.up hW) (by rw [pvl]; exact hl2) (fun i hi => by have := psz i hi; omega))
  have HAP := Lib.hid h.apt
  have PAP := Lib.hid hp.apt
  have HVL : Hid ((B2.entV es).length ≤ 400) := Lib.hid (by rw [hvl]; exact hl)
  have PVL : Hid ((Pr.entV qs).length ≤ 400) := Lib.hid (by rw [pvl]; exact hl2)
  have hnb : ¬ InV (B2.entV es) bk := hel.ne_box hbox (by decide)
  have pnb : ¬ InV (Pr.entV qs) bk := pel.ne_box hbox (by decide)
  obtain ⟨vs, hvs⟩ : ∃ vs, vs = B2.entV es := ⟨_, rfl⟩
  obtain ⟨C, hC⟩ : ∃ C, C = B2.entC es := ⟨_, rfl⟩
  obtain ⟨us, hus⟩ : ∃ vs, vs = Pr.entV qs := ⟨_, rfl⟩
  obtain ⟨D, hD⟩ : ∃ C, C = Pr.entC qs := ⟨_, rfl⟩
  rw [← hvs] at HAP hel hsz hri HVL hnb
  rw [← hC] at hel hsz
  rw [← hus] at PAP pel psz pri PVL pnb
  rw [← hD] at pel psz
  have HVS := Lib.hid (⟨hvs, hus⟩ : vs = B2.entV es ∧ us = Pr.entV qs)
  obtain ⟨io, ic, rfl⟩ := owns_shape' hri
  obtain ⟨po, pc, rfl⟩ := owns_shape' pri
  have HEL := Lib.hid hel
  have PEL := Lib.hid pel
  have HSZ := Lib.hid hsz
  have PSZ := Lib.hid psz
  have HRI := Lib.hid hri
  have PRI := Lib.hid pri
  have HBX := Lib.hid hbox
  have HNB := Lib.hid hnb
  have PNB := Lib.hid pnb
  clear h hp hvl hul pvl pul hsz psz hri hrw pri prw hbox a0 a1 a14 a15 hvs hC hus hD hl hl2 hel pel hnb pnb
  go_enter Tryz.func16, Tryz.ntmps16
  go_upto_region 3 with (go_at_call 35; refine HS.out.mono ?_; rintro r w1 ⟨rfl, hu1⟩)
  have HU1 := Lib.hid hu1
  have hb1 := (hu1.block bk (lt_of_block' HBX.out)).trans HBX.out
  have c2 : w1.cell? ⟨bk, 2, none⟩ = some (.slice none 0 0) := by simp [World.cell?, hb1]
  have c4 : w1.cell? ⟨bk, 4, none⟩ = some (.slice none 0 0) := by simp [World.cell?, hb1]
  have c6 : w1.cell? ⟨bk, 6, none⟩ = some (.slice none 0 0) := by simp [World.cell?, hb1]
  have c8 : w1.cell? ⟨bk, 8, none⟩ = some (.slice none 0 0) := by simp [World.cell?, hb1]
  have c10 : w1.cell? ⟨bk, 10, none⟩ = some (.slice none 0 0) := by simp [World.cell?, hb1]
  have c12 : w1.cell? ⟨bk, 12, none⟩ = some (.slice none 0 0) := by simp [World.cell?, hb1]
  clear hb1 hu1 HS
  go_upto_region 15 with (first
    | (go_at_call 36; refine (stillTokens_nil (by assumption)).mono ?_; rintro r y ⟨rfl, rfl⟩)
    | (go_at_call 37; refine (stillTexts_nil (by assumption)).mono ?_; rintro r y ⟨rfl, rfl⟩)
    | (go_at_call 38; refine (stillBools_nil (by assumption)).mono ?_; rintro r y ⟨rfl, rfl⟩)
    | (go_at_call 39; refine (stillSteps_nil (by assumption)).mono ?_; rintro r y ⟨rfl, rfl⟩)
    | (go_at_call 40; refine (stillEdges_nil (by assumption)).mono ?_; rintro r y ⟨rfl, rfl⟩)
    | (go_at_call 41; refine (stillNodes_nil (by assumption)).mono ?_; rintro r y ⟨rfl, rfl⟩))
  clear c2 c4 c6 c8 c10 c12
  go_upto_region 17 with (go_at_call 42; refine (HSP.out _ HU1.out).mono ?_; rintro r w2 ⟨rfl, hu2⟩)
  have hU2 := HU1.out.trans hu2
  have hb2 := (hU2.block bk (lt_of_block' HBX.out)).trans HBX.out
  have c16 : w2.cell? ⟨bk, 16, none⟩ = some (.slice none 0 0) := by simp [World.cell?, hb2]
  have c18 : w2.cell? ⟨bk, 18, none⟩ = some (.slice none 0 0) := by simp [World.cell?, hb2]
  have c20 : w2.cell? ⟨bk, 20, none⟩ = some (.slice none 0 0) := by simp [World.cell?, hb2]
  have p0 : w2.cell? ⟨bk, 0, none⟩ = some (.slice io vs.length ic) := by simp [World.cell?, hb2]
  have hri2 := hU2.owns HRI.out
  have hel2 := HEL.out.up hU2
  have HP := Lib.hid (putInts_any ⟨p0, hri2⟩ hel2 HAP.out hb2 HVL.out (fun i hi => by have := HSZ.out i hi; omega))
  have HRI2 := Lib.hid hri2
  have HEL2 := Lib.hid hel2
  have PRI2 := Lib.hid (hU2.owns PRI.out)
  have PEL2 := Lib.hid (PEL.out.up hU2)
  have HB2 := Lib.hid hb2
  have HU2 := Lib.hid hU2
  clear hb2 p0 hu2 hU2 hri2 hel2 HSP HU1 HRI HEL PRI PEL
  go_upto_region 23 with (first
    | (go_at_call 43; refine (stillRows_nil (by assumption)).mono ?_; rintro r y ⟨rfl, rfl⟩)
    | (go_at_call 44; refine (stillLines_nil (by assumption)).mono ?_; rintro r y ⟨rfl, rfl⟩)
    | (go_at_call 45; refine (stillWalks_nil (by assumption)).mono ?_; rintro r y ⟨rfl, rfl⟩))
  clear c16 c18 c20
  go_upto_region 24 with (go_at_call 46; refine HP.out.mono ?_; rintro r w3 ⟨rfl, hP3⟩)
  have hb3 := (hP3.tur.block bk (lt_of_block' HB2.out) HNB.out).trans HB2.out
  have d2 : w3.cell? ⟨bk, 2, none⟩ = some (.slice none 0 0) := by simp [World.cell?, hb3]
  have d4 : w3.cell? ⟨bk, 4, none⟩ = some (.slice none 0 0) := by simp [World.cell?, hb3]
  have d6 : w3.cell? ⟨bk, 6, none⟩ = some (.slice none 0 0) := by simp [World.cell?, hb3]
  have d8 : w3.cell? ⟨bk, 8, none⟩ = some (.slice none 0 0) := by simp [World.cell?, hb3]
  have d10 : w3.cell? ⟨bk, 10, none⟩ = some (.slice none 0 0) := by simp [World.cell?, hb3]
  have d12 : w3.cell? ⟨bk, 12, none⟩ = some (.slice none 0 0) := by simp [World.cell?, hb3]
  have p14 : w3.cell? ⟨bk, 14, none⟩ = some (.slice po us.length pc) := by simp [World.cell?, hb3]
  have hri3 : w3.ownsRow 0 29 1 (.slice io vs.length ic) vs.length vs := owns_keep HRI2.out (fun g hg => hP3.tur.block g (owns_lt HRI2.out hg) (HEL2.out.ne HRI2.out (by decide) hg))
  have hel3 : Els w3 vs (fun j => marks j 0 (C j).length) := by
    intro j hj
    have := hP3.el j hj
    rw [show putC C vs.length j = marks j 0 (C j).length by simp [putC, hj]] at this
    exact this
  have pri3 : w3.ownsRow 0 33 1 (.slice po us.length pc) us.length us := owns_keep PRI2.out (fun g hg => hP3.tur.block g (owns_lt PRI2.out hg) (HEL2.out.ne PRI2.out (by decide) hg))
  have pel3 : Pr.Els w3 us D := fun i hi => owns_keep (PEL2.out i hi) (fun g hg => hP3.tur.block g (owns_lt (PEL2.out i hi) hg) (HEL2.out.ne (PEL2.out i hi) (by decide) hg))
  have PP := Lib.hid (Pr.putPairs_any ⟨p14, pri3⟩ pel3 PAP.out hb3 PVL.out (fun i hi => by have := PSZ.out i hi; omega))
  have HT3 : Hid (Turned (fun k => InV vs k ∨ InV us k) w w3) := Lib.hid ((upTurnedA HU2.out).trans hP3.tur (fun _ _ h => .inl h))
  have HRI3 := Lib.hid hri3
  have HEL3 := Lib.hid hel3
  have PRI3 := Lib.hid pri3
  have PEL3 := Lib.hid pel3
  have HB3 := Lib.hid hb3
  clear hb3 p14 hri3 hel3 pri3 pel3 hP3 HP HRI2 HEL2 PRI2 PEL2 HB2 HU2
  go_upto_region 30 with (first
    | (go_at_call 47; refine (putTokens_nil (by assumption)).mono ?_; rintro r y ⟨rfl, rfl⟩)
    | (go_at_call 48; refine (putTexts_nil (by assumption)).mono ?_; rintro r y ⟨rfl, rfl⟩)
    | (go_at_call 49; refine (putBools_nil (by assumption)).mono ?_; rintro r y ⟨rfl, rfl⟩)
    | (go_at_call 50; refine (putSteps_nil (by assumption)).mono ?_; rintro r y ⟨rfl, rfl⟩)
    | (go_at_call 51; refine (putEdges_nil (by assumption)).mono ?_; rintro r y ⟨rfl, rfl⟩)
    | (go_at_call 52; refine (putNodes_nil (by assumption)).mono ?_; rintro r y ⟨rfl, rfl⟩))
  clear d2 d4 d6 d8 d10 d12
  go_upto_region 31 with (go_at_call 53; refine PP.out.mono ?_; rintro r w4 ⟨rfl, hP4⟩)
  have hb4 := (hP4.tur.block bk (lt_of_block' HB3.out) PNB.out).trans HB3.out
  have d16 : w4.cell? ⟨bk, 16, none⟩ = some (.slice none 0 0) := by simp [World.cell?, hb4]
  have d18 : w4.cell? ⟨bk, 18, none⟩ = some (.slice none 0 0) := by simp [World.cell?, hb4]
  have d20 : w4.cell? ⟨bk, 20, none⟩ = some (.slice none 0 0) := by simp [World.cell?, hb4]
  have p0 : w4.cell? ⟨bk, 0, none⟩ = some (.slice io vs.length ic) := by simp [World.cell?, hb4]
  have hri4 : w4.ownsRow 0 29 1 (.slice io vs.length ic) vs.length vs := owns_keep HRI3.out (fun g hg => hP4.tur.block g (owns_lt HRI3.out hg) (PEL3.out.ne HRI3.out (by decide) hg))
  have hel4 : Els w4 vs (fun j => marks j 0 (C j).length) := fun i hi => owns_keep (HEL3.out i hi) (fun g hg => hP4.tur.block g (owns_lt (HEL3.out i hi) hg) (PEL3.out.ne (HEL3.out i hi) (by decide) hg))
  have pri4 : w4.ownsRow 0 33 1 (.slice po us.length pc) us.length us := owns_keep PRI3.out (fun g hg => hP4.tur.block g (owns_lt PRI3.out hg) (PEL3.out.ne PRI3.out (by decide) hg))
  have pel4 : Pr.Els w4 us (fun j => Pr.marks j 0 (D j).length) := by
    intro j hj
    have := hP4.el j hj
    rw [show Pr.putC D us.length j = Pr.marks j 0 (D j).length by simp [Pr.putC, hj]] at this
    exact this
  have HG := Lib.hid (growInts_any (L := fun j => (C j).length) ⟨p0, hri4⟩ hel4 HAP.out hb4 HVL.out HSZ.out)
  have HT4 : Hid (Turned (fun k => InV vs k ∨ InV us k) w w4) := Lib.hid (HT3.out.trans hP4.tur (fun _ _ h => .inr h))
  have HRI4 := Lib.hid hri4
  have HEL4 := Lib.hid hel4
  have PRI4 := Lib.hid pri4
  have PEL4 := Lib.hid pel4
  have HB4 := Lib.hid hb4
  clear hb4 p0 hri4 hel4 pri4 pel4 hP4 PP HRI3 HEL3 PRI3 PEL3 HB3 HT3
  go_upto_region 34 with (first
    | (go_at_call 54; refine (putRows_nil (by assumption)).mono ?_; rintro r y ⟨rfl, rfl⟩)
    | (go_at_call 55; refine (putLines_nil (by assumption)).mono ?_; rintro r y ⟨rfl, rfl⟩)
    | (go_at_call 56; refine (putWalks_nil (by assumption)).mono ?_; rintro r y ⟨rfl, rfl⟩))
  clear d16 d18 d20
  go_upto_region 35 with (go_at_call 57; refine HG.out.mono ?_; rintro r w5 ⟨vo, outs, rfl, hol, hvo, hG5⟩)
  have hb5 := (hG5.tur.block bk (lt_of_block' HB4.out) HNB.out).trans HB4.out
  have e2 : w5.cell? ⟨bk, 2, none⟩ = some (.slice none 0 0) := by simp [World.cell?, hb5]
  have e4 : w5.cell? ⟨bk, 4, none⟩ = some (.slice none 0 0) := by simp [World.cell?, hb5]
  have e6 : w5.cell? ⟨bk, 6, none⟩ = some (.slice none 0 0) := by simp [World.cell?, hb5]
  have e8 : w5.cell? ⟨bk, 8, none⟩ = some (.slice none 0 0) := by simp [World.cell?, hb5]
  have e10 : w5.cell? ⟨bk, 10, none⟩ = some (.slice none 0 0) := by simp [World.cell?, hb5]
  have e12 : w5.cell? ⟨bk, 12, none⟩ = some (.slice none 0 0) := by simp [World.cell?, hb5]
  have p14 : w5.cell? ⟨bk, 14, none⟩ = some (.slice po us.length pc) := by simp [World.cell?, hb5]
  have hri5 : w5.ownsRow 0 29 1 (.slice io vs.length ic) vs.length vs := owns_keep HRI4.out (fun g hg => hG5.tur.block g (owns_lt HRI4.out hg) (HEL4.out.ne HRI4.out (by decide) hg))
  have pri5 : w5.ownsRow 0 33 1 (.slice po us.length pc) us.length us := owns_keep PRI4.out (fun g hg => hG5.tur.block g (owns_lt PRI4.out hg) (HEL4.out.ne PRI4.out (by decide) hg))
  have pel5 : Pr.Els w5 us (fun j => Pr.marks j 0 (D j).length) := fun i hi => owns_keep (PEL4.out i hi) (fun g hg => hG5.tur.block g (owns_lt (PEL4.out i hi) hg) (HEL4.out.ne (PEL4.out i hi) (by decide) hg))
  have PG := Lib.hid (Pr.growPairs_any (L := fun j => (D j).length) ⟨p14, pri5⟩ pel5 PAP.out hb5 PVL.out PSZ.out)
  have HT5 : Hid (Turned (fun k => InV vs k ∨ InV us k) w w5) := Lib.hid (HT4.out.trans hG5.tur (fun _ _ h => .inl h))
  obtain ⟨oo, oc, rfl⟩ := owns_shape' hvo
  have HVO := Lib.hid hvo
  have HOL := Lib.hid hol
  have HGE := Lib.hid hG5.el
  have HGO := Lib.hid hG5.oel
  have HRI5 := Lib.hid hri5
  have PRI5 := Lib.hid pri5
  have PEL5 := Lib.hid pel5
  have HB5 := Lib.hid hb5
  clear hb5 p14 hri5 pri5 pel5 hG5 hvo hol HG HRI4 HEL4 PRI4 PEL4 HB4 HT4
  go_upto_region 41 with (first
    | (go_at_call 58; refine (growTokens_nil (by assumption)).mono ?_; rintro r y ⟨rfl, rfl⟩)
    | (go_at_call 59; refine (growTexts_nil (by assumption)).mono ?_; rintro r y ⟨rfl, rfl⟩)
    | (go_at_call 60; refine (growBools_nil (by assumption)).mono ?_; rintro r y ⟨rfl, rfl⟩)
    | (go_at_call 61; refine (growSteps_nil (by assumption)).mono ?_; rintro r y ⟨rfl, rfl⟩)
    | (go_at_call 62; refine (growEdges_nil (by assumption)).mono ?_; rintro r y ⟨rfl, rfl⟩)
    | (go_at_call 63; refine (growNodes_nil (by assumption)).mono ?_; rintro r y ⟨rfl, rfl⟩))
  clear e2 e4 e6 e8 e10 e12
  go_upto_region 42 with (go_at_call 64; refine PG.out.mono ?_; rintro r w6 ⟨vo2, outs2, rfl, hol2, hvo2, hG6⟩)
  have hb6 := (hG6.tur.block bk (lt_of_block' HB5.out) PNB.out).trans HB5.out
  have e16 : w6.cell? ⟨bk, 16, none⟩ = some (.slice none 0 0) := by simp [World.cell?, hb6]
  have e18 : w6.cell? ⟨bk, 18, none⟩ = some (.slice none 0 0) := by simp [World.cell?, hb6]
  have e20 : w6.cell? ⟨bk, 20, none⟩ = some (.slice none 0 0) := by simp [World.cell?, hb6]
  have hri6 : w6.ownsRow 0 29 1 (.slice io vs.length ic) vs.length vs := owns_keep HRI5.out (fun g hg => hG6.tur.block g (owns_lt HRI5.out hg) (PEL5.out.ne HRI5.out (by decide) hg))
  have hel6 : Els w6 vs (fun j => marks j 0 (C j).length) := fun i hi => owns_keep (HGE.out i hi) (fun g hg => hG6.tur.block g (owns_lt (HGE.out i hi) hg) (PEL5.out.ne (HGE.out i hi) (by decide) hg))
  have hou6 : Els w6 outs (fun j => marks j 0 ((C j).length + 96)) := fun i hi => owns_keep (HGO.out i hi) (fun g hg => hG6.tur.block g (owns_lt (HGO.out i hi) hg) (PEL5.out.ne (HGO.out i hi) (by decide) hg))
  have hvo6 := owns_keep HVO.out (fun g hg => hG6.tur.block g (owns_lt HVO.out hg) (PEL5.out.ne HVO.out (by decide) hg))
  have pri6 : w6.ownsRow 0 33 1 (.slice po us.length pc) us.length us := owns_keep PRI5.out (fun g hg => hG6.tur.block g (owns_lt PRI5.out hg) (PEL5.out.ne PRI5.out (by decide) hg))
  have HM1 := Lib.hid (markedInts_any (vs := outs) (L := fun j => (C j).length + 96) (by rw [HOL.out]; exact hvo6) hou6 (by rw [HOL.out]; exact HVL.out) (fun i hi => by have := HSZ.out i (by rw [← HOL.out]; exact hi); omega))
  have HM2 : Hid (∀ W, Up w6 W → Calls Tryz.prog 68 #[.slice io vs.length ic] W fun r w' => r = .returned (.bool true) ∧ Up W w') := Lib.hid (fun W hu => markedInts_any (L := fun j => (C j).length) (hu.owns hri6) (hel6.up hu) HVL.out (fun i hi => by have := HSZ.out i hi; omega))
  obtain ⟨ao, ac, rfl⟩ := owns_shape' hvo2
  have HM3 : Hid (∀ W, Up w6 W → Calls Tryz.prog 75 #[.slice ao us.length ac] W fun r w' => r = .returned (.bool true) ∧ Up W w') := Lib.hid (fun W hu => Pr.markedPairs_any (vs := outs2) (L := fun j => (D j).length + 96) (by rw [hol2]; exact hu.owns hvo2) (hG6.oel.up hu) (by rw [hol2]; exact PVL.out) (fun i hi => by have := PSZ.out i (by rw [← hol2]; exact hi); omega))
  have HM4 : Hid (∀ W, Up w6 W → Calls Tryz.prog 75 #[.slice po us.length pc] W fun r w' => r = .returned (.bool true) ∧ Up W w') := Lib.hid (fun W hu => Pr.markedPairs_any (L := fun j => (D j).length) (hu.owns pri6) (hG6.el.up hu) PVL.out (fun i hi => by have := PSZ.out i hi; omega))
  have HT6 : Hid (Turned (fun k => InV vs k ∨ InV us k) w w6) := Lib.hid (HT5.out.trans hG6.tur (fun _ _ h => .inr h))
  have HX6 : Hid (∀ y, Up w6 y → y.heap[bk]? = _) := Lib.hid (fun y hu => (hu.block bk (lt_of_block' hb6)).trans hb6)
  clear hb6 hri6 hel6 hou6 hvo6 pri6 hvo2 hol2 hG6 PG HVO HOL HGE HGO HRI5 PRI5 PEL5 HB5 HT5
  go_upto_region 44 with (first
    | (go_at_call 65; refine (growRows_nil (by assumption)).mono ?_; rintro r y ⟨rfl, rfl⟩)
    | (go_at_call 66; refine (growLines_nil (by assumption)).mono ?_; rintro r y ⟨rfl, rfl⟩)
    | (go_at_call 67; refine (growWalks_nil (by assumption)).mono ?_; rintro r y ⟨rfl, rfl⟩))
  go_wp2_with (first
    | (go_at_call 67; refine (growWalks_nil (by assumption)).mono ?_; rintro r y ⟨rfl, rfl⟩)
    | (go_at_call 68; (with_reducible refine HM1.out.mono ?_); rintro r w7 ⟨rfl, hu7⟩; (have hb7 := HX6.out w7 hu7); (have f2 : w7.cell? ⟨bk, 2, none⟩ = some (.slice none 0 0) := by simp [World.cell?, hb7]); (have f4 : w7.cell? ⟨bk, 4, none⟩ = some (.slice none 0 0) := by simp [World.cell?, hb7]); (have f6 : w7.cell? ⟨bk, 6, none⟩ = some (.slice none 0 0) := by simp [World.cell?, hb7]); (have f8 : w7.cell? ⟨bk, 8, none⟩ = some (.slice none 0 0) := by simp [World.cell?, hb7]); (have f10 : w7.cell? ⟨bk, 10, none⟩ = some (.slice none 0 0) := by simp [World.cell?, hb7]); (have f12 : w7.cell? ⟨bk, 12, none⟩ = some (.slice none 0 0) := by simp [World.cell?, hb7]); (have f16 : w7.cell? ⟨bk, 16, none⟩ = some (.slice none 0 0) := by simp [World.cell?, hb7]); (have f18 : w7.cell? ⟨bk, 18, none⟩ = some (.slice none 0 0) := by simp [World.cell?, hb7]); (have f20 : w7.cell? ⟨bk, 20, none⟩ = some (.slice none 0 0) := by simp [World.cell?, hb7]); (have f0 : w7.cell? ⟨bk, 0, none⟩ = some (.slice io vs.length ic) := by simp [World.cell?, hb7]); (have f14 : w7.cell? ⟨bk, 14, none⟩ = some (.slice po us.length pc) := by simp [World.cell?, hb7]); clear hb7)
    | (go_at_call 68; (with_reducible refine (HM2.out _ hu7).mono ?_); rintro r w8 ⟨rfl, hu8⟩; (have hU8 := hu7.trans hu8); (have hb8 := HX6.out w8 hU8); (have g2 : w8.cell? ⟨bk, 2, none⟩ = some (.slice none 0 0) := by simp [World.cell?, hb8]); (have g4 : w8.cell? ⟨bk, 4, none⟩ = some (.slice none 0 0) := by simp [World.cell?, hb8]); (have g6 : w8.cell? ⟨bk, 6, none⟩ = some (.slice none 0 0) := by simp [World.cell?, hb8]); (have g8 : w8.cell? ⟨bk, 8, none⟩ = some (.slice none 0 0) := by simp [World.cell?, hb8]); (have g10 : w8.cell? ⟨bk, 10, none⟩ = some (.slice none 0 0) := by simp [World.cell?, hb8]); (have g12 : w8.cell? ⟨bk, 12, none⟩ = some (.slice none 0 0) := by simp [World.cell?, hb8]); (have g16 : w8.cell? ⟨bk, 16, none⟩ = some (.slice none 0 0) := by simp [World.cell?, hb8]); (have g18 : w8.cell? ⟨bk, 18, none⟩ = some (.slice none 0 0) := by simp [World.cell?, hb8]); (have g20 : w8.cell? ⟨bk, 20, none⟩ = some (.slice none 0 0) := by simp [World.cell?, hb8]); (have g0 : w8.cell? ⟨bk, 0, none⟩ = some (.slice io vs.length ic) := by simp [World.cell?, hb8]); (have g14 : w8.cell? ⟨bk, 14, none⟩ = some (.slice po us.length pc) := by simp [World.cell?, hb8]); clear hb8)
    | (go_at_call 75; (with_reducible refine (HM3.out _ hU8).mono ?_); rintro r w9 ⟨rfl, hu9⟩; (have hU9 := hU8.trans hu9); (have hb9 := HX6.out w9 hU9); (have h2 : w9.cell? ⟨bk, 2, none⟩ = some (.slice none 0 0) := by simp [World.cell?, hb9]); (have h4 : w9.cell? ⟨bk, 4, none⟩ = some (.slice none 0 0) := by simp [World.cell?, hb9]); (have h6 : w9.cell? ⟨bk, 6, none⟩ = some (.slice none 0 0) := by simp [World.cell?, hb9]); (have h8 : w9.cell? ⟨bk, 8, none⟩ = some (.slice none 0 0) := by simp [World.cell?, hb9]); (have h10 : w9.cell? ⟨bk, 10, none⟩ = some (.slice none 0 0) := by simp [World.cell?, hb9]); (have h12 : w9.cell? ⟨bk, 12, none⟩ = some (.slice none 0 0) := by simp [World.cell?, hb9]); (have h16 : w9.cell? ⟨bk, 16, none⟩ = some (.slice none 0 0) := by simp [World.cell?, hb9]); (have h18 : w9.cell? ⟨bk, 18, none⟩ = some (.slice none 0 0) := by simp [World.cell?, hb9]); (have h20 : w9.cell? ⟨bk, 20, none⟩ = some (.slice none 0 0) := by simp [World.cell?, hb9]); (have h0 : w9.cell? ⟨bk, 0, none⟩ = some (.slice io vs.length ic) := by simp [World.cell?, hb9]); (have h14 : w9.cell? ⟨bk, 14, none⟩ = some (.slice po us.length pc) := by simp [World.cell?, hb9]); clear hb9)
    | (go_at_call 75; (with_reducible refine (HM4.out _ hU9).mono ?_); rintro r w10 ⟨rfl, hu10⟩; (have hU10 := hU9.trans hu10); (have hb10 := HX6.out w10 hU10); (have i2 : w10.cell? ⟨bk, 2, none⟩ = some (.slice none 0 0) := by simp [World.cell?, hb10]); (have i4 : w10.cell? ⟨bk, 4, none⟩ = some (.slice none 0 0) := by simp [World.cell?, hb10]); (have i6 : w10.cell? ⟨bk, 6, none⟩ = some (.slice none 0 0) := by simp [World.cell?, hb10]); (have i8 : w10.cell? ⟨bk, 8, none⟩ = some (.slice none 0 0) := by simp [World.cell?, hb10]); (have i10 : w10.cell? ⟨bk, 10, none⟩ = some (.slice none 0 0) := by simp [World.cell?, hb10]); (have i12 : w10.cell? ⟨bk, 12, none⟩ = some (.slice none 0 0) := by simp [World.cell?, hb10]); (have i16 : w10.cell? ⟨bk, 16, none⟩ = some (.slice none 0 0) := by simp [World.cell?, hb10]); (have i18 : w10.cell? ⟨bk, 18, none⟩ = some (.slice none 0 0) := by simp [World.cell?, hb10]); (have i20 : w10.cell? ⟨bk, 20, none⟩ = some (.slice none 0 0) := by simp [World.cell?, hb10]); (have i0 : w10.cell? ⟨bk, 0, none⟩ = some (.slice io vs.length ic) := by simp [World.cell?, hb10]); (have i14 : w10.cell? ⟨bk, 14, none⟩ = some (.slice po us.length pc) := by simp [World.cell?, hb10]); clear hb10)
    | (go_at_call 69; refine (markedTokens_nil _).mono ?_; rintro r y ⟨rfl, rfl⟩)
    | (go_at_call 70; refine (markedTexts_nil _).mono ?_; rintro r y ⟨rfl, rfl⟩)
    | (go_at_call 71; refine (markedBools_nil _).mono ?_; rintro r y ⟨rfl, rfl⟩)
    | (go_at_call 72; refine (markedSteps_nil _).mono ?_; rintro r y ⟨rfl, rfl⟩)
    | (go_at_call 73; refine (markedEdges_nil _).mono ?_; rintro r y ⟨rfl, rfl⟩)
    | (go_at_call 74; refine (markedNodes_nil _).mono ?_; rintro r y ⟨rfl, rfl⟩)
    | (go_at_call 76; refine (markedRows_nil _).mono ?_; rintro r y ⟨rfl, rfl⟩)
    | (go_at_call 77; refine (markedLines_nil _).mono ?_; rintro r y ⟨rfl, rfl⟩)
    | (go_at_call 78; refine (markedWalks_nil _).mono ?_; rintro r y ⟨rfl, rfl⟩))
  go_ret
  exact ⟨rfl, by rw [← HVS.out.1, ← HVS.out.2]; exact HT6.out.upR hU10⟩

end Go.Proofs.YtiiieailimphnaaGreatDoor
