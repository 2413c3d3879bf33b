/- Lists of integers where they stand: a slice, nil or not, that reads as a list; SameInts. -/
import Derived.Test.YtkcdkfkgjjpaaaaGreatDoorMem
import Derived.BigQuiet
import Derived.Deep.QuietTactic
import Derived.IntWalk
namespace Go.Proofs.YtkcdkfkgjjpaaaaGreatDoor
open Go.RowKit
set_option linter.unusedVariables false
set_option linter.unusedSimpArgs false

/-- A world in which nothing that was there has turned. -/
def Up (w w1 : World) : Prop := Below w.heap.size w w1

theorem Up.refl (w : World) : Up w w := Below.refl _ _
theorem Up.drew {w w1 : World} (h : Up w w1) : Up w w1.drew := Below.drew h
theorem Up.drewN {w w1 : World} (h : Up w w1) (n : Nat) : Up w (w1.drewN n) := ⟨h.os, h.tape, h.output, h.size, h.block⟩
theorem Up.alloc {w w1 : World} (h : Up w w1) (o : Obj) : Up w (w1.alloc o) := Below.alloc h h.size o
theorem Up.trans {w w1 w2 : World} (h : Up w w1) (k : Up w1 w2) : Up w w2 := Below.trans h (k.mono h.size)
theorem Up.cell {w w1 : World} (h : Up w w1) {p : Addr} {v : Value} (hc : w.cell? p = some v) : w1.cell? p = some v := (Below.cell h (World.block_lt_of_cell? w p hc)).trans hc
theorem Up.free {w w1 : World} (h : Up w w1) {p : Addr} {v : Value} (hc : w.cell? p = some v) : w1.frozen? p = w.frozen? p := Below.frozen h (World.block_lt_of_cell? w p hc)
theorem Up.row {w w1 : World} (h : Up w w1) {g cap : Nat} {e : TypeId} {xs : List Value} (hr : Row w g e cap xs) : Row w1 g e cap xs := hr.keep (h.block _ hr.lt)
theorem Up.owns {w w1 : World} (h : Up w w1) {base e size n : Nat} {v : Value} {xs : List Value} (hr : w.ownsRow base e size v n xs) : w1.ownsRow base e size v n xs := owns_keep hr (fun g hg => h.block g (owns_lt hr hg))
theorem Up.setCell {w w1 : World} (h : Up w w1) {p : Addr} (hp : w.heap.size ≤ p.block) (u : Value) : Up w (w1.setCell p u) := Below.setCell h hp u
theorem Up.grown {w w1 w2 : World} {row : Option Nat} (h : Up w w1) (hg : w1.grownBy w2 row) (hr : ∀ k, row = some k → w.heap.size ≤ k) : Up w w2 := Below.grown h hg h.size hr

/-- Integers stand in cells from an address on. -/
def IntsAt (w : World) (g off : Nat) (xs : List Int) : Prop := ∀ i, i < xs.length → w.cell? ⟨g, off + i, none⟩ = some (.int .i64 (xs.getD i 0))

/-- A slice reads as a list. -/
def Lst (w : World) (v : Value) (xs : List Int) : Prop := ∃ ao cap g off, v = .slice ao xs.length cap ∧ (0 < xs.length → ao = some ⟨g, off, none⟩) ∧ IntsAt w g off xs

theorem owns_shape' {S0 e size n : Nat} {v : Value} {xs : List Value} {wr : World} (h : wr.ownsRow S0 e size v n xs) : ∃ ao cap, v = .slice ao n cap := by
  rcases h.2 with ⟨rfl, rfl⟩ | ⟨g, cap, cur, rfl, _⟩
  · exact ⟨_, _, rfl⟩
  · exact ⟨_, _, rfl⟩

theorem row_ne' {w : World} {g c : Nat} {e e' : TypeId} {xs : List Value} {cs : Array Value} (h : Row w g e c xs) (h' : w.heap[g]? = some (.cells cs e' (0, 0))) (he : e ≠ e') : False := by
  obtain ⟨cur, h1, _⟩ := h
  rw [h1] at h'
  simp only [Option.some.injEq, Obj.cells.injEq] at h'
  exact he h'.2.1

theorem Lst.up {w w1 : World} {v : Value} {xs : List Int} (h : Lst w v xs) (hu : Up w w1) : Lst w1 v xs := by
  obtain ⟨ao, cap, g, off, hv, ha, hc⟩ := h
  exact ⟨ao, cap, g, off, hv, ha, fun i hi => hu.cell (hc i hi)⟩

theorem Row.intsAt {w : World} {g cap : Nat} {xs : List Int} (h : Row w g 3 cap (xs.map (Value.int .i64))) : IntsAt w g 0 xs := by
  intro i hi
  rw [Nat.zero_add]
  refine h.cell ?_
  simp [List.getD, hi]

theorem Row.lst {w : World} {g cap n c : Nat} {xs : List Int} (h : Row w g 3 cap (xs.map (Value.int .i64))) (hn : xs.length = n) : Lst w (.slice (some ⟨g, 0, none⟩) n c) xs :=
  ⟨_, _, g, 0, by rw [hn], fun _ => rfl, h.intsAt⟩

theorem owns_lst {w : World} {base n : Nat} {v : Value} {xs : List Int} (h : w.ownsRow base 3 1 v n (xs.map (Value.int .i64))) : Lst w v xs := by
  have hn : xs.length = n := by have := h.1; rw [List.length_map, Nat.mul_one] at this; exact this
  rcases owns_cases h with ⟨rfl, h0, _⟩ | ⟨g, cap, rfl, hr, _⟩
  · have : xs = [] := List.eq_nil_of_length_eq_zero (by omega)
    subst this
    exact ⟨none, 0, 0, 0, rfl, fun h => by simp at h, fun i hi => by simp at hi⟩
  · exact hr.lst hn

theorem ints_asInt (l : List Nat) : ints l = (l.map Int.ofNat).map (Value.int .i64) := by simp [ints]

def Same (w : World) (b : Bool) (r : Ending) (w' : World) : Prop := r = .returned (.bool b) ∧ ∃ q, w' = w.drewN q

set_option maxHeartbeats 1000000 in
set_option maxRecDepth 100000 in
theorem sameInts_same {v u : Value} {xs : List Int} {w : World} (hm : xs.length ≤ 1000000) (hv : Lst w v xs) (hu : Lst w u xs) :
    Calls Tryz.prog 20 #[v, u] w (Same w true) := by
  obtain ⟨ao, c, g, off, rfl, ha, hx⟩ := hv
  obtain ⟨bo, d, h, off2, rfl, hb, hy⟩ := hu
  have HX := Lib.hid hx
  have HY := Lib.hid hy
  have HA := Lib.hid ha
  have HB := Lib.hid hb
  obtain ⟨n, hn⟩ : ∃ n, n = xs.length := ⟨_, rfl⟩
  rw [← hn] at hm HA HB ⊢
  have HN := Lib.hid hn
  have qn : ((n : Int) != (n : Int)) = false := by simp
  clear hn hx hy ha hb
  go_enter Tryz.func20, Tryz.ntmps20
  go_wp2_with fail
  go_loopw [5] (fun i wr => ∃ j q : Nat, j ≤ n ∧ i = .int .i64 j ∧ wr = w.drewN q) (fun i _ => n - (intOf i).toNat)
  case atStart => exact ⟨0, 0, Nat.zero_le _, rfl, rfl⟩
  case round =>
    obtain ⟨j, q, hj, rfl, rfl⟩ := hrel
    by_cases hlt : j < n
    · obtain rfl := HA.out (by omega)
      obtain rfl := HB.out (by omega)
      have cx := HX.out j (by rw [← HN.out]; exact hlt)
      have cy := HY.out j (by rw [← HN.out]; exact hlt)
      obtain ⟨x, hxe⟩ : ∃ x, x = xs.getD j 0 := ⟨_, rfl⟩
      rw [← hxe] at cx cy
      have qx : (x == x) = true := by simp
      clear hxe
      go_wp2_with fail
      go_quiet (fail)
      go_wp2_with fail
      go_roundw
      case rel => exact ⟨j + 1, _, by omega, by go_num, rfl⟩
      case measure => simp [intOf]; omega
    · obtain rfl : j = n := by omega
      go_wp2_with fail
      go_ret
      exact ⟨rfl, _, rfl⟩

end Go.Proofs.YtkcdkfkgjjpaaaaGreatDoor
