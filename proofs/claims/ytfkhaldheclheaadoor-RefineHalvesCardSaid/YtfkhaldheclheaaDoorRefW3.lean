/- Walks of the small functions of package refine. Walks: Block; the exchange of two elements. Walks: the exchange of two elements of a partition. -/
import Derived.Test.YtfkhaldheclheaaDoorRows
import Derived.WalkKit
import Derived.WalkSpells
import Derived.WalkLawsBesides
import Derived.Lib.Hide
import Derived.BigRegion
import Derived.BigQuiet
import Derived.Deep.QuietTactic
import Derived.Test.YtfkhaldheclheaaDoorMem

namespace Go.Proofs.YtfkhaldheclheaaDoor
open Go.RowKit
set_option linter.unusedVariables false
set_option linter.unusedSimpArgs false

set_option maxHeartbeats 400000 in
theorem faultNew (layer : ByteArray) (xt : TypeId) (xv : Value) (w : World) :
    Calls Tryd.prog 18 #[.string layer, .iface xt xv] w fun e w' =>
      e = .returned (.iface 31 (.pointer (some ⟨w.heap.size, 0, none⟩))) ∧ w.alloc (.cells #[.string layer, .int .i64 0, .int .i64 0, .iface xt xv] 35) = w' := by
  go_enter Tryd.func18, Tryd.ntmps18
  go_wp2
  go_ret
  exact ⟨rfl, rfl⟩

set_option maxHeartbeats 400000 in
theorem own_some (b : Addr) (w : World) :
    Calls Tryd.prog 29 #[.pointer (some b)] w fun e w' => e = .returned (.pointer (some b)) ∧ w = w' := by
  go_enter Tryd.func29, Tryd.ntmps29
  go_wp2
  go_ret
  exact ⟨rfl, rfl⟩

set_option maxHeartbeats 400000 in
theorem size_some (B : Nat) (ao : Option Addr) (n cap : Nat) (w : World) (c0 : w.cell? ⟨B, 0, none⟩ = some (.slice ao n cap)) :
    Calls Tryd.prog 17 #[.pointer (some ⟨B, 0, none⟩)] w fun e w' => e = .returned (.int .i64 n) ∧ w = w' := by
  go_enter Tryd.func17, Tryd.ntmps17
  go_wp2_with (go_at_call 29; refine (own_some _ _).mono ?_; rintro e w' ⟨rfl, rfl⟩)
  go_ret
  exact ⟨rfl, rfl⟩

set_option maxHeartbeats 400000 in
theorem blocks_some (B : Nat) (ao : Option Addr) (n cap : Nat) (w : World) (c3 : w.cell? ⟨B, 3, none⟩ = some (.slice ao n cap)) :
    Calls Tryd.prog 16 #[.pointer (some ⟨B, 0, none⟩)] w fun e w' => e = .returned (.int .i64 n) ∧ w = w' := by
  go_enter Tryd.func16, Tryd.ntmps16
  go_wp2_with (go_at_call 29; refine (own_some _ _).mono ?_; rintro e w' ⟨rfl, rfl⟩)
  go_ret
  exact ⟨rfl, rfl⟩

set_option maxHeartbeats 400000 in
theorem asked_in (b : Addr) (i n : Int) (w : World) (h0 : 0 ≤ i) (h1 : i < n) :
    Calls Tryd.prog 22 #[.pointer (some b), .int .i64 i, .int .i64 n] w fun e w' => e = .returned .nilIface ∧ w = w' := by
  go_enter Tryd.func22, Tryd.ntmps22
  go_wp2_with fail
  go_ret
  exact ⟨rfl, rfl⟩

/-- The layer's name, as the program has it. -/
def layerRef : ByteArray := { data := #[114, 101, 102, 105, 110, 101] }

set_option maxHeartbeats 400000 in
theorem asked_out (b : Addr) (i n : Int) (xt : TypeId) (xv : Value) (w : World) (h : i < 0 ∨ n ≤ i) (hg : w.cell? ⟨0, 0, none⟩ = some (.iface xt xv)) :
    Calls Tryd.prog 22 #[.pointer (some b), .int .i64 i, .int .i64 n] w fun e w' =>
      e = .returned (.iface 31 (.pointer (some ⟨w.heap.size, 0, none⟩))) ∧ w.alloc (.cells #[.string layerRef, .int .i64 0, .int .i64 0, .iface xt xv] 35) = w' := by
  by_cases h0 : i < 0
  · go_enter Tryd.func22, Tryd.ntmps22
    go_wp2_with (go_at_call 18; refine (faultNew _ _ _ _).mono ?_; rintro e w' ⟨rfl, rfl⟩)
    go_ret
    exact ⟨rfl, rfl⟩
  · have h1 : n ≤ i := by omega
    have h2 : 0 ≤ i := by omega
    clear h
    go_enter Tryd.func22, Tryd.ntmps22
    go_wp2_with (go_at_call 18; refine (faultNew _ _ _ _).mono ?_; rintro e w' ⟨rfl, rfl⟩)
    go_ret
    exact ⟨rfl, rfl⟩

end Go.Proofs.YtfkhaldheclheaaDoor

namespace Go.Proofs.YtfkhaldheclheaaDoor
open Go.RowKit
set_option linter.unusedVariables false
set_option linter.unusedSimpArgs false

set_option maxHeartbeats 400000 in
theorem block_in (B n c0n m c2n g e : Nat) (ae : Option Addr) (v : Int) (w : World) (he : e < n) (hm : e < m)
    (c0 : w.cell? ⟨B, 0, none⟩ = some (.slice ae n c0n)) (c2 : w.cell? ⟨B, 2, none⟩ = some (.slice (some ⟨g, 0, none⟩) m c2n))
    (ce : w.cell? ⟨g, e, none⟩ = some (.int .i64 v)) :
    Calls Tryd.prog 9 #[.pointer (some ⟨B, 0, none⟩), .int .i64 e] w fun r w' =>
      r = .returned (.tuple #[.int .i64 v, .nilIface]) ∧ w = w' := by
  go_enter Tryd.func9, Tryd.ntmps9
  go_wp2_with (first
    | (go_at_call 17; refine (size_some _ _ _ _ _ c0).mono ?_; rintro e w' ⟨rfl, rfl⟩)
    | (go_at_call 22; refine (asked_in _ _ _ _ (by omega) (by omega)).mono ?_; rintro e w' ⟨rfl, rfl⟩))
  go_ret2
  exact ⟨rfl, rfl⟩

set_option maxHeartbeats 400000 in
theorem block_out (B n c0n : Nat) (e : Int) (ae : Option Addr) (xt : TypeId) (xv : Value) (w : World) (he : e < 0 ∨ (n : Int) ≤ e)
    (c0 : w.cell? ⟨B, 0, none⟩ = some (.slice ae n c0n)) (hg : w.cell? ⟨0, 0, none⟩ = some (.iface xt xv)) :
    Calls Tryd.prog 9 #[.pointer (some ⟨B, 0, none⟩), .int .i64 e] w fun r w' =>
      r = .returned (.tuple #[.int .i64 0, .iface 31 (.pointer (some ⟨w.heap.size, 0, none⟩))]) ∧ w.alloc (.cells #[.string layerRef, .int .i64 0, .int .i64 0, .iface xt xv] 35) = w' := by
  go_enter Tryd.func9, Tryd.ntmps9
  go_wp2_with (first
    | (go_at_call 17; refine (size_some _ _ _ _ _ c0).mono ?_; rintro e w' ⟨rfl, rfl⟩)
    | (go_at_call 22; refine (asked_out _ _ _ _ _ _ he hg).mono ?_; rintro e w' ⟨rfl, rfl⟩))
  go_ret2
  exact ⟨rfl, rfl⟩

end Go.Proofs.YtfkhaldheclheaaDoor

namespace Go.Proofs.YtfkhaldheclheaaDoor
open Go.RowKit
set_option linter.unusedVariables false
set_option linter.unusedSimpArgs false

/-- The world behind an exchange of the elements i and k, which are x and y. -/
def swapW (w : World) (ge gp i k x y : Nat) : World :=
  (((((w.setCell ⟨ge, i, none⟩ (.int .i64 y)).setCell ⟨ge, k, none⟩ (.int .i64 x)).drew).setCell ⟨gp, y, none⟩ (.int .i64 i)).setCell ⟨gp, x, none⟩ (.int .i64 k)).drew

set_option maxHeartbeats 4000000 in
set_option maxRecDepth 100000 in
theorem swap_ne (B n ecap pcap ge gp i k x y : Nat) (u v : Value) (w : World) (hi : i < n) (hk : k < n) (hx : x < n) (hy : y < n) (hik : i ≠ k) (hxy : x ≠ y) (hg : ge ≠ gp) (hB1 : B ≠ ge) (hB2 : B ≠ gp)
    (c0 : w.cell? ⟨B, 0, none⟩ = some (.slice (some ⟨ge, 0, none⟩) n ecap)) (c1 : w.cell? ⟨B, 1, none⟩ = some (.slice (some ⟨gp, 0, none⟩) n pcap))
    (ei : w.cell? ⟨ge, i, none⟩ = some (.int .i64 x)) (ek : w.cell? ⟨ge, k, none⟩ = some (.int .i64 y))
    (fi : w.frozen? ⟨ge, i, none⟩ = false) (fk : w.frozen? ⟨ge, k, none⟩ = false)
    (px : w.cell? ⟨gp, x, none⟩ = some u) (py : w.cell? ⟨gp, y, none⟩ = some v)
    (fx : w.frozen? ⟨gp, x, none⟩ = false) (fy : w.frozen? ⟨gp, y, none⟩ = false) :
    Calls Tryd.prog 27 #[.pointer (some ⟨B, 0, none⟩), .int .i64 i, .int .i64 k] w fun r w' =>
      r = .returned (.tuple #[]) ∧ swapW w ge gp i k x y = w' := by
  go_enter Tryd.func27, Tryd.ntmps27
  go_wp2
  go_region
  go_wp2
  obtain ⟨w1, hw1⟩ : ∃ w1, ((w.setCell ⟨ge, i, none⟩ (.int .i64 (y : Int))).setCell ⟨ge, k, none⟩ (.int .i64 (x : Int))).drew = w1 := ⟨_, rfl⟩
  have ot : ∀ b o, b ≠ ge → w1.cell? ⟨b, o, none⟩ = w.cell? ⟨b, o, none⟩ := by
    intro b o h
    rw [← hw1]; show ((w.setCell _ _).setCell _ _).cell? _ = _
    rw [World.cell?_setCell_other _ _ _ _ (by simp only [ne_eq, Addr.mk.injEq]; omega), World.cell?_setCell_other _ _ _ _ (by simp only [ne_eq, Addr.mk.injEq]; omega)]
  have fr : ∀ b o, w1.frozen? ⟨b, o, none⟩ = w.frozen? ⟨b, o, none⟩ := by
    intro b o
    rw [← hw1]; show ((w.setCell _ _).setCell _ _).frozen? _ = _
    rw [World.frozen?_setCell, World.frozen?_setCell]
  have hne : (⟨ge, k, none⟩ : Addr) ≠ ⟨ge, i, none⟩ := by simp only [ne_eq, Addr.mk.injEq]; omega
  have di : w1.cell? ⟨ge, i, none⟩ = some (.int .i64 y) := by
    rw [← hw1]; show ((w.setCell _ _).setCell _ _).cell? _ = _
    rw [World.cell?_setCell_other _ _ _ _ hne, World.cell?_setCell_same _ _ _ ei]
  have dk : w1.cell? ⟨ge, k, none⟩ = some (.int .i64 x) := by
    rw [← hw1]; show ((w.setCell _ _).setCell _ _).cell? _ = _
    rw [World.cell?_setCell_same (u := .int .i64 y)]
    rw [World.cell?_setCell_other _ _ _ _ (fun e => hne e.symm)]; exact ek
  have d0 := (ot B 0 hB1).trans c0
  have d1 := (ot B 1 hB1).trans c1
  have dx := (ot gp x (fun e => hg e.symm)).trans px
  have dy := (ot gp y (fun e => hg e.symm)).trans py
  have gx := (fr gp x).trans fx
  have gy := (fr gp y).trans fy
  have HW : Hid (((w1.setCell ⟨gp, y, none⟩ (.int .i64 (i : Int))).setCell ⟨gp, x, none⟩ (.int .i64 (k : Int))).drew = swapW w ge gp i k x y) := by rw [← hw1]; rfl
  rw [hw1]
  clear hw1 ot fr ei ek fi fk px py fx fy c0 c1 hne
  go_region
  go_wp2
  go_end0
  exact ⟨rfl, HW.out.symm⟩

set_option maxHeartbeats 4000000 in
set_option maxRecDepth 100000 in
theorem swap_eq (B n ecap pcap ge gp i x : Nat) (u : Value) (w : World) (hi : i < n) (hx : x < n) (hg : ge ≠ gp) (hB1 : B ≠ ge) (hB2 : B ≠ gp)
    (c0 : w.cell? ⟨B, 0, none⟩ = some (.slice (some ⟨ge, 0, none⟩) n ecap)) (c1 : w.cell? ⟨B, 1, none⟩ = some (.slice (some ⟨gp, 0, none⟩) n pcap))
    (ei : w.cell? ⟨ge, i, none⟩ = some (.int .i64 x)) (fi : w.frozen? ⟨ge, i, none⟩ = false)
    (px : w.cell? ⟨gp, x, none⟩ = some u) (fx : w.frozen? ⟨gp, x, none⟩ = false) :
    Calls Tryd.prog 27 #[.pointer (some ⟨B, 0, none⟩), .int .i64 i, .int .i64 i] w fun r w' =>
      r = .returned (.tuple #[]) ∧ swapW w ge gp i i x x = w' := by
  go_enter Tryd.func27, Tryd.ntmps27
  go_wp2
  go_region
  go_wp2
  obtain ⟨w1, hw1⟩ : ∃ w1, ((w.setCell ⟨ge, i, none⟩ (.int .i64 (x : Int))).setCell ⟨ge, i, none⟩ (.int .i64 (x : Int))).drew = w1 := ⟨_, rfl⟩
  have ot : ∀ b o, b ≠ ge → w1.cell? ⟨b, o, none⟩ = w.cell? ⟨b, o, none⟩ := by
    intro b o h
    rw [← hw1]; show ((w.setCell _ _).setCell _ _).cell? _ = _
    rw [World.cell?_setCell_other _ _ _ _ (by simp only [ne_eq, Addr.mk.injEq]; omega), World.cell?_setCell_other _ _ _ _ (by simp only [ne_eq, Addr.mk.injEq]; omega)]
  have fr : ∀ b o, w1.frozen? ⟨b, o, none⟩ = w.frozen? ⟨b, o, none⟩ := by
    intro b o
    rw [← hw1]; show ((w.setCell _ _).setCell _ _).frozen? _ = _
    rw [World.frozen?_setCell, World.frozen?_setCell]
  have di : w1.cell? ⟨ge, i, none⟩ = some (.int .i64 x) := by
    rw [← hw1]; show ((w.setCell _ _).setCell _ _).cell? _ = _
    rw [World.cell?_setCell_same (u := .int .i64 x)]
    rw [World.cell?_setCell_same _ _ _ ei]
  have d0 := (ot B 0 hB1).trans c0
  have d1 := (ot B 1 hB1).trans c1
  have dx := (ot gp x (fun e => hg e.symm)).trans px
  have gx := (fr gp x).trans fx
  have HW : Hid (((w1.setCell ⟨gp, x, none⟩ (.int .i64 (i : Int))).setCell ⟨gp, x, none⟩ (.int .i64 (i : Int))).drew = swapW w ge gp i i x x) := by rw [← hw1]; rfl
  rw [hw1]
  clear hw1 ot fr ei fi px fx c0 c1
  go_region
  go_wp2
  go_end0
  exact ⟨rfl, HW.out.symm⟩

end Go.Proofs.YtfkhaldheclheaaDoor
