/- Walks: the exchange of two elements of a partition. -/
import Derived.Test.YtfkhaldheclheaaDoorRefW2
import Derived.Test.YtfkhaldheclheaaDoorMem
namespace Go.Proofs.YtfkhaldheclheaaDoor
open Go.RowKit
set_option linter.unusedVariables false
set_option linter.unusedSimpArgs false

/-- The world behind an exchange of the elements i and k, which are x and y. -/
def swapW (w : World) (ge gp i k x y : Nat) : World :=
  (((((w.setCell ⟨ge, i, none⟩ (.int .i64 y)).setCell ⟨ge, k, none⟩ (.int .i64 x)).drew).setCell ⟨gp, y, none⟩ (.int .i64 i)).setCell ⟨gp, x, none⟩ (.int .i64 k)).drew

set_option maxHeartbeats 4000000 in
set_option maxRecDepth 100000 in
theorem swap_ne (B n ecap pcap ge gp i k x y : Nat) (u v : Value) (w : World) (hi : i < n) (hk : k < n) (hx : x < n) (hy : y < n) (hik : i ≠ k) (hxy : x ≠ y) (hg : ge ≠ gp) (hB1 : B ≠ ge) (hB2 : B ≠ gp)
    (c0 : w.cell? ⟨B, 0, none⟩ = some (.slice (some ⟨ge, 0, none⟩) n ecap)) (c1 : w.cell? ⟨B, 1, none⟩ = some (.slice (some ⟨gp, 0, none⟩) n pcap))
    (ei : w.cell? ⟨ge, i, none⟩ = some (.int .i64 x)) (ek : w.cell? ⟨ge, k, none⟩ = some (.int .i64 y))
    (fi : w.frozen? ⟨ge, i, none⟩ = false) (fk : w.frozen? ⟨ge, k, none⟩ = false)
    (px : w.cell? ⟨gp, x, none⟩ = some u) (py : w.cell? ⟨gp, y, none⟩ = some v)
    (fx : w.frozen? ⟨gp, x, none⟩ = false) (fy : w.frozen? ⟨gp, y, none⟩ = false) :
    Calls Tryd.prog 27 #[.pointer (some ⟨B, 0, none⟩), .int .i64 i, .int .i64 k] w fun r w' =>
      r = .returned (.tuple #[]) ∧ swapW w ge gp i k x y = w' := by
  go_enter Tryd.func27, Tryd.ntmps27
  go_wp2
  go_region
  go_wp2
  obtain ⟨w1, hw1⟩ : ∃ w1, ((w.setCell ⟨ge, i, none⟩ (.int .i64 (y : Int))).setCell ⟨ge, k, none⟩ (.int .i64 (x : Int))).drew = w1 := ⟨_, rfl⟩
  have ot : ∀ b o, b ≠ ge → w1.cell? ⟨b, o, none⟩ = w.cell? ⟨b, o, none⟩ := by
    intro b o h
    rw [← hw1]; show ((w.setCell _ _).setCell _ _).cell? _ = _
    rw [World.cell?_setCell_other _ _ _ _ (by simp only [ne_eq, Addr.mk.injEq]; omega), World.cell?_setCell_other _ _ _ _ (by simp only [ne_eq, Addr.mk.injEq]; omega)]
  have fr : ∀ b o, w1.frozen? ⟨b, o, none⟩ = w.frozen? ⟨b, o, none⟩ := by
    intro b o
    rw [← hw1]; show ((w.setCell _ _).setCell _ _).frozen? _ = _
    rw [World.frozen?_setCell, World.frozen?_setCell]
  have hne : (⟨ge, k, none⟩ : Addr) ≠ ⟨ge, i, none⟩ := by simp only [ne_eq, Addr.mk.injEq]; omega
  have di : w1.cell? ⟨ge, i, none⟩ = some (.int .i64 y) := by
    rw [← hw1]; show ((w.setCell _ _).setCell _ _).cell? _ = _
    rw [World.cell?_setCell_other _ _ _ _ hne, World.cell?_setCell_same _ _ _ ei]
  have dk : w1.cell? ⟨ge, k, none⟩ = some (.int .i64 x) := by
    rw [← hw1]; show ((w.setCell _ _).setCell _ _).cell? _ = _
    rw [World.cell?_setCell_same (u := .int .i64 y)]
    rw [World.cell?_setCell_other _ _ _ _ (fun e => hne e.symm)]; exact ek
  have d0 := (ot B 0 hB1).trans c0
  have d1 := (ot B 1 hB1).trans c1
  have dx := (ot gp x (fun e => hg e.symm)).trans px
  have dy := (ot gp y (fun e => hg e.symm)).trans py
  have gx := (fr gp x).trans fx
  have gy := (fr gp y).trans fy
  have HW : Hid (((w1.setCell ⟨gp, y, none⟩ (.int .i64 (i : Int))).setCell ⟨gp, x, none⟩ (.int .i64 (k : Int))).drew = swapW w ge gp i k x y) := by rw [← hw1]; rfl
  rw [hw1]
  clear hw1 ot fr ei ek fi fk px py fx fy c0 c1 hne
  go_region
  go_wp2
  go_end0
  exact ⟨rfl, HW.out.symm⟩

set_option maxHeartbeats 4000000 in
set_option maxRecDepth 100000 in
theorem swap_eq (B n ecap pcap ge gp i x : Nat) (u : Value) (w : World) (hi : i < n) (hx : x < n) (hg : ge ≠ gp) (hB1 : B ≠ ge) (hB2 : B ≠ gp)
    (c0 : w.cell? ⟨B, 0, none⟩ = some (.slice (some ⟨ge, 0, none⟩) n ecap)) (c1 : w.cell? ⟨B, 1, none⟩ = some (.slice (some ⟨gp, 0, none⟩) n pcap))
    (ei : w.cell? ⟨ge, i, none⟩ = some (.int .i64 x)) (fi : w.frozen? ⟨ge, i, none⟩ = false)
    (px : w.cell? ⟨gp, x, none⟩ = some u) (fx : w.frozen? ⟨gp, x, none⟩ = false) :
    Calls Tryd.prog 27 #[.pointer (some ⟨B, 0, none⟩), .int .i64 i, .int .i64 i] w fun r w' =>
      r = .returned (.tuple #[]) ∧ swapW w ge gp i i x x = w' := by
  go_enter Tryd.func27, Tryd.ntmps27
  go_wp2
  go_region
  go_wp2
  obtain ⟨w1, hw1⟩ : ∃ w1, ((w.setCell ⟨ge, i, none⟩ (.int .i64 (x : Int))).setCell ⟨ge, i, none⟩ (.int .i64 (x : Int))).drew = w1 := ⟨_, rfl⟩
  have ot : ∀ b o, b ≠ ge → w1.cell? ⟨b, o, none⟩ = w.cell? ⟨b, o, none⟩ := by
    intro b o h
    rw [← hw1]; show ((w.setCell _ _).setCell _ _).cell? _ = _
    rw [World.cell?_setCell_other _ _ _ _ (by simp only [ne_eq, Addr.mk.injEq]; omega), World.cell?_setCell_other _ _ _ _ (by simp only [ne_eq, Addr.mk.injEq]; omega)]
  have fr : ∀ b o, w1.frozen? ⟨b, o, none⟩ = w.frozen? ⟨b, o, none⟩ := by
    intro b o
    rw [← hw1]; show ((w.setCell _ _).setCell _ _).frozen? _ = _
    rw [World.frozen?_setCell, World.frozen?_setCell]
  have di : w1.cell? ⟨ge, i, none⟩ = some (.int .i64 x) := by
    rw [← hw1]; show ((w.setCell _ _).setCell _ _).cell? _ = _
    rw [World.cell?_setCell_same (u := .int .i64 x)]
    rw [World.cell?_setCell_same _ _ _ ei]
  have d0 := (ot B 0 hB1).trans c0
  have d1 := (ot B 1 hB1).trans c1
  have dx := (ot gp x (fun e => hg e.symm)).trans px
  have gx := (fr gp x).trans fx
  have HW : Hid (((w1.setCell ⟨gp, x, none⟩ (.int .i64 (i : Int))).setCell ⟨gp, x, none⟩ (.int .i64 (i : Int))).drew = swapW w ge gp i i x x) := by rw [← hw1]; rfl
  rw [hw1]
  clear hw1 ot fr ei fi px fx c0 c1
  go_region
  go_wp2
  go_end0
  exact ⟨rfl, HW.out.symm⟩

end Go.Proofs.YtfkhaldheclheaaDoor
