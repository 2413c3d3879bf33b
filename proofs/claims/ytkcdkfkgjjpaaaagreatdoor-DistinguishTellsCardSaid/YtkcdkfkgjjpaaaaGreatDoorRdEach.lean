/- Walk: rounds.each. -/
import Derived.Test.YtkcdkfkgjjpaaaaGreatDoorRdNext
namespace Go.Proofs.YtkcdkfkgjjpaaaaGreatDoor
open Go.RowKit Go.Sort Go.Maps
set_option linter.unusedVariables false
set_option linter.unusedSimpArgs false

/-- The closure that tells rounds, made. -/
def EachNew (w : World) (B : Nat) (s : Sy.Lts) (r : Ending) (w' : World) : Prop :=
  ∃ bb cb gb gc, r = .returned (.func (.func 196) #[] #[.pointer (some ⟨bb, 0, none⟩), .pointer (some ⟨cb, 0, none⟩), .pointer (some ⟨gb, 0, none⟩)]) ∧ Up w w' ∧ (w.heap.size ≤ bb ∧ w.heap.size ≤ cb) ∧ EachAt w' bb cb gb B s false gc (List.replicate s.n.toNat 0)

set_option maxHeartbeats 4000000 in
set_option maxRecDepth 100000 in
theorem each_any {w : World} {B : Nat} {s : Sy.Lts} (h : GraphAt w B s) (hR : Sy.Right s) :
    Calls Tryz.prog 153 #[.pointer (some ⟨B, 0, none⟩)] w (EachNew w B s) := by
  obtain ⟨i0, hi, hz0, hz1, hz2⟩ := info_parts Tryz.intInfoR
  obtain ⟨n, hn⟩ : ∃ n : Nat, s.n = (n : Nat) := ⟨s.n.toNat, by have := hR.n0; omega⟩
  have hn1 : n ≤ 1000 := by have := hR.n1; omega
  have HG := Lib.hid h
  have HN := Lib.hid hn
  clear hn h
  go_enter Tryz.func153, Tryz.ntmps153
  go_wp2_with (first
    | (go_at_call 43; refine (states_in (HG.out.up (by exact (Up.refl _).alloc _))).mono ?_; rintro r w1 ⟨rfl, hu1⟩; rw [HN.out])
    | (at_make; refine wpList_make_full _ rfl _ _ 35 rfl 0 3 i0 (.int .i64 0) 1 Tryz.underlying35 hi hz0 hz1 _ _ _ _ n rfl rfl rfl rfl (by rw [hz2]; omega) (by unfold maxLen; omega) (Nat.zero_le _) ?_; intro w2 hown hgrow))
  go_ret
  obtain ⟨hrow, -, -, -⟩ := Row.of hown
  have hrow0 : Row w2 w1.heap.size 3 n (ints (List.replicate n 0)) := by
    have e : (madeCells (Value.int .i64 0).cells (n * 1)).toList = ints (List.replicate n 0) := by
      rw [Nat.mul_one, ints_zero]; exact toList_madeCells_one _ _
    rw [← e]; simpa using hrow
  have hu0 : Up w w1 := Up.trans ((Up.refl _).alloc _) hu1
  have hu2 : Up w1 w2 := (Up.refl _).grown hgrow (by simp)
  have hs : s.n.toNat = n := by rw [HN.out]; rfl
  have hg : w2.heap[w.heap.size]? = some (.cells #[.pointer (some ⟨B, 0, none⟩)] 29 (0, 0)) :=
    ((hu1.trans hu2).block _ (by show w.heap.size < (w.heap.push _).size; simp)).trans (by show (w.heap.push _)[w.heap.size]? = _; simp)
  have hlt := lt_of_block' hg
  refine ⟨_, _, _, w1.heap.size, rfl, ((hu0.trans hu2).alloc _).alloc _, ⟨by omega, by omega⟩, ?_⟩
  rw [hs]
  have hu3 : ∀ o o', Up w2 ((w2.alloc o).alloc o') := fun o o' => ((Up.refl _).alloc o).alloc o'
  refine ⟨?_, ?_, ?_, ?_, ⟨w2, HG.out.up (hu0.trans hu2), hu3 _ _, by omega, by omega⟩⟩
  · show ((w2.heap.push _).push _)[w2.heap.size + 1]? = _
    simp [Array.getElem?_push, Array.getElem_push]
  · rw [List.length_replicate]
    show ((w2.heap.push _).push _)[w2.heap.size]? = _
    simp [Array.getElem?_push]
  · rw [List.length_replicate]
    exact (hu3 _ _).row hrow0
  · exact ((hu3 _ _).block _ hlt).trans hg

end Go.Proofs.YtkcdkfkgjjpaaaaGreatDoor
