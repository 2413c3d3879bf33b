/- The marks of a list, as the book makes them: markInts, by its contract. -/
import Derived.Test.YtfkhaldheclheaaGreatDoorLst
import Derived.Test.YtfkhaldheclheaaGreatDoorAppK
import Derived.Deep.DeepCutAuto
namespace Go.Proofs.YtfkhaldheclheaaGreatDoor
open Go.RowKit
set_option linter.unusedVariables false
set_option linter.unusedSimpArgs false

/-- The marks of the list i, from a place on, so many. -/
def marks (i k0 n : Nat) : List Int := (List.range n).map fun (k : Nat) => -1000000 * (i : Int) - ((k0 + k : Nat) : Int) - 7

theorem marks_len (i k0 n : Nat) : (marks i k0 n).length = n := by simp [marks]

theorem marks_zero (i k0 : Nat) : marks i k0 0 = [] := rfl

theorem marks_succ (i k0 n : Nat) : marks i k0 (n + 1) = marks i k0 n ++ [-1000000 * (i : Int) - ((k0 + n : Nat) : Int) - 7] := by
  simp [marks, List.range_succ]

theorem marks_append (i k0 n m : Nat) : marks i k0 n ++ marks i (k0 + n) m = marks i k0 (n + m) := by
  induction m with
  | zero => simp [marks_zero]
  | succ m ih => rw [marks_succ, ← List.append_assoc, ih, ← Nat.add_assoc, marks_succ, Nat.add_assoc]

theorem marks_get (i k0 n k : Nat) (h : k < n) : (marks i k0 n).getD k 0 = -1000000 * (i : Int) - ((k0 + k : Nat) : Int) - 7 := by
  simp [marks, List.getD, h]

theorem Tryz.intInfoM : (Tryz.prog.info? 3).map (fun i => (i.zero, i.size, i.bytes)) = some (some (.int .i64 0), 1, 8) := by kernel_rfl

/-- A new list. -/
def NewInts (w : World) (xs : List Int) (r : Ending) (w' : World) : Prop := ∃ v, r = .returned v ∧ w'.ownsRow w.heap.size 3 1 v xs.length (xs.map (Value.int .i64)) ∧ Up w w'

set_option maxHeartbeats 1000000 in
set_option maxRecDepth 100000 in
theorem markInts_any (i k0 n : Nat) (w : World) (hi : i ≤ 1000000) (hk : k0 ≤ 1000000) (hn : n ≤ 1000000) :
    Calls Tryz.prog 101 #[.int .i64 i, .int .i64 k0, .int .i64 n] w (NewInts w (marks i k0 n)) := by
  obtain ⟨i0, hi0, hz0, hz1, hz2⟩ := info_parts Tryz.intInfoM
  have HMS : Hid (∀ k, marks i k0 (k + 1) = marks i k0 k ++ [-1000000 * (i : Int) - ((k0 + k : Nat) : Int) - 7]) := fun k => marks_succ i k0 k
  have HML : Hid (∀ k, (marks i k0 k).length = k) := fun k => marks_len i k0 k
  have hsum : IntKind.i64.wrap ((k0 : Int) + (n : Int)) = (k0 : Int) + (n : Int) := IntWalk.i64_in _ (by omega)
  go_enter Tryz.func101, Tryz.ntmps101
  go_wp2_with fail
  go_loopw [7, 8] (fun lv j wr => ∃ k : Nat, k ≤ n ∧ j = .int .i64 ((k0 + k : Nat) : Int) ∧ wr.ownsRow w.heap.size 3 1 lv k ((marks i k0 k).map (Value.int .i64)) ∧ Up w wr) (fun _ j _ => (k0 + n) - (intOf j).toNat)
  case atStart => exact ⟨0, Nat.zero_le _, by simp, World.ownsRow_nil _ _ _ _, Up.refl w⟩
  case round =>
    obtain ⟨k, hkn, rfl, hown, hup⟩ := hrel
    have hsz := hup.size
    by_cases hlt : k < n
    · have q1 : decide (((k0 + k : Nat) : Int) < (k0 : Int) + (n : Int)) = true := by simp; omega
      obtain ⟨so, sc, rfl⟩ := owns_shape' hown
      obtain ⟨x, hx⟩ : ∃ x, x = k0 + k := ⟨_, rfl⟩
      rw [← hx] at q1
      have HX := Lib.hid hx
      have hxl : (x : Int) ≤ 2000000 := by omega
      have hil : (i : Int) ≤ 1000000 := by omega
      have m1 : IntKind.i64.wrap (-1000000 * (i : Int)) = -1000000 * (i : Int) := IntWalk.i64_in _ (by omega)
      have m2 : IntKind.i64.wrap (-1000000 * (i : Int) - (x : Int)) = -1000000 * (i : Int) - (x : Int) := IntWalk.i64_in _ (by omega)
      have m3 : IntKind.i64.wrap (-1000000 * (i : Int) - (x : Int) - 7) = -1000000 * (i : Int) - (x : Int) - 7 := IntWalk.i64_in _ (by omega)
      rw [← hx]
      clear hx
      go_wp2_with (at_builtin; (refine wpList_append_own _ rfl _ _ 22 rfl w.heap.size 3 i0 (.int .i64 0) 1 8 Tryz.underlying22 hi0 hz0 hz1 hz2 rfl (by decide) _ k _ rfl (hown.alloc _) ⟨wr.heap.size, 0, none⟩ 1 1 [.int .i64 (-1000000 * (i : Int) - (x : Int) - 7)] rfl rfl (cell_one_new wr _ _) (ints_oneCell .i64 [-1000000 * (i : Int) - (x : Int) - 7]) (by unfold maxLen; omega) (by omega) (by simp; omega) ?_); intro v' w2 hown' hgrow' hnil'; clear hnil')
      go_roundw
      case rel => exact ⟨k + 1, by omega, by rw [HX.out]; go_num, by rw [HMS.out, List.map_append, ← HX.out]; exact hown', (hup.alloc _).grown hgrow' (fun g hg => (hown.lt g hg).1)⟩
      case measure => have hxx := HX.out; clear m1 m2 m3; simp [intOf]; omega
    · have q1 : decide (((k0 + k : Nat) : Int) < (k0 : Int) + (n : Int)) = false := by simp; omega
      obtain rfl : k = n := by omega
      go_wp2_with fail
      go_ret
      exact ⟨_, rfl, by rw [HML.out]; exact hown, hup⟩

end Go.Proofs.YtfkhaldheclheaaGreatDoor
