/- Walks: Split. -/
import Derived.Test.YtfkhaldheclheaaGreatDoorRefOb
import Derived.Test.YtfkhaldheclheaaGreatDoorRefW8
import Derived.Test.YtfkhaldheclheaaGreatDoorErrAs
import Derived.BigRegion
import Derived.BigQuiet
import Derived.Deep.QuietTactic
namespace Go.Proofs.YtfkhaldheclheaaGreatDoor
open Go.RowKit
set_option linter.unusedVariables false
set_option linter.unusedSimpArgs false

/-- A split that parts nothing. -/
def SplitFlat (w : World) (gb b : Nat) (r : Ending) (w' : World) : Prop :=
  r = .returned (.tuple #[.int .i64 0, .bool false, .nilIface]) ∧ ∃ q, ((w.alloc (.cells #[.pointer none] 77)).drewN q).setCell ⟨gb, b * 3 + 2, none⟩ (.int .i64 0) = w'

set_option maxHeartbeats 4000000 in
set_option maxRecDepth 100000 in
theorem split_flat (B b n nb ge ce gp cp gi ci gb cb f t m : Nat) (s : Rf.St) (w : World) (h : Ob w B s n ge ce gp cp gi ci gb cb) (hb : b < nb) (hnb : nb = s.blocks.length) (hf : f = s.F b) (ht : t = s.T b) (hm : m = s.M b)
    (hft : f < t) (htn : t ≤ n) (hfm : f + m ≤ t) (hn : n ≤ 1000) (hz : m = 0 ∨ t - f - m = 0) :
    Calls Tryz.prog 17 #[.pointer (some ⟨B, 0, none⟩), .int .i64 b] w (SplitFlat w gb b) := by
  have h' := h.alloc (.cells #[.pointer none] 77)
  have hbl : b < s.blocks.length := by omega
  have C3 := h.c3
  have c3 := h'.c3
  have cf := h'.o.rb.cell (cellsB_get0 s.blocks b hbl)
  have ct := h'.o.rb.cell (cellsB_get1 s.blocks b hbl)
  have cm := h'.o.rb.cell (cellsB_get2 s.blocks b hbl)
  have fm := h'.o.rb.free (b * 3 + 2)
  change _ = some (Value.int .i64 (s.F b : Nat)) at cf
  change _ = some (Value.int .i64 (s.T b : Nat)) at ct
  change _ = some (Value.int .i64 (s.M b : Nat)) at cm
  rw [← hf] at cf
  rw [← ht] at ct
  rw [← hm] at cm
  rw [← hnb] at c3 C3
  clear hf ht hm hnb hbl h h'
  have s1 : IntKind.i64.wrap ((t : Int) - (f : Int)) = (t : Int) - (f : Int) := IntWalk.i64_in _ (by omega)
  have s2 : IntKind.i64.wrap ((t : Int) - (f : Int) - (m : Int)) = (t : Int) - (f : Int) - (m : Int) := IntWalk.i64_in _ (by omega)
  have hfault : w.heap.size ≤ w.heap.size := Nat.le_refl _
  by_cases hm0 : m = 0
  · subst hm0
    go_enter Tryz.func17, Tryz.ntmps17
    go_wp2_with (first
      | (go_at_call 18; refine (blocks_some _ _ _ _ _ C3).mono ?_; rintro e w' ⟨rfl, rfl⟩)
      | (go_at_call 82; refine (asked_in _ _ _ _ (by omega) (by omega)).mono ?_; rintro e w' ⟨rfl, rfl⟩)
      | (go_at_call 84; refine (as_nil _ _).mono ?_; rintro e w' ⟨rfl, rfl⟩))
    go_quiet (fail)
    go_wp2_with fail
    go_ret3
    exact ⟨rfl, _, rfl⟩
  · have hm1 : ((m : Int) == 0) = false := by simp; omega
    have hm2 : ((t : Int) - (f : Int) - (m : Int) == 0) = true := by simp; omega
    go_enter Tryz.func17, Tryz.ntmps17
    go_wp2_with (first
      | (go_at_call 18; refine (blocks_some _ _ _ _ _ C3).mono ?_; rintro e w' ⟨rfl, rfl⟩)
      | (go_at_call 82; refine (asked_in _ _ _ _ (by omega) (by omega)).mono ?_; rintro e w' ⟨rfl, rfl⟩)
      | (go_at_call 84; refine (as_nil _ _).mono ?_; rintro e w' ⟨rfl, rfl⟩))
    go_quiet (fail)
    go_wp2_with fail
    go_ret3
    exact ⟨rfl, _, rfl⟩

end Go.Proofs.YtfkhaldheclheaaGreatDoor
