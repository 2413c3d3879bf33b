/- api.Code of the errors that rounds tells: none, a number that is not there, a system that is none (a fault that wraps a fault). -/
import Derived.Test.YtpmdjicaefmbnaaGreatDoorRdIs
import Derived.Test.YtpmdjicaefmbnaaGreatDoorErrBare
namespace Go.Proofs.YtpmdjicaefmbnaaGreatDoor
open Go.RowKit Go.Extern.Stop Go.Stop Go.Extern
set_option linter.unusedVariables false
set_option linter.unusedSimpArgs false

/-- The sentinels' variables up to ErrSystem, in the order of their numbers. -/
def sentG : List Nat := [3, 1, 2, 4, 5, 6, 7, 8, 9, 10, 11, 12, 13, 0]

/-- What is laid at them: errors of errors.New's make, each another one. -/
structure Sts14 (w : World) (a : Nat → Addr) : Prop where
  sent : ∀ i, i < 14 → Sent w (sentG.getD i 0) (a i)
  ne : ∀ i j, i < 14 → j < 14 → i ≠ j → a i ≠ a j

theorem Sent.up {w w' : World} {g : Nat} {a : Addr} (h : Sent w g a) (hu : Up w w') : Sent w' g a := by
  obtain ⟨ca, ta, hc⟩ := h.blk
  exact ⟨hu.cell h.var, ca, ta, (hu.block _ (lt_of_block' hc)).trans hc⟩

theorem Sts14.up {w w' : World} {a : Nat → Addr} (h : Sts14 w a) (hu : Up w w') : Sts14 w' a := ⟨fun i hi => (h.sent i hi).up hu, h.ne⟩

/-- A fault that wraps a fault that wraps the sentinel at a. -/
def Nests (w : World) (v : Value) (a : Addr) : Prop :=
  ∃ qb pb, v = faultAt qb ∧ w.cell? ⟨qb, 3, none⟩ = some (.iface 101 (.pointer (some ⟨pb, 0, none⟩))) ∧ w.cell? ⟨pb, 3, none⟩ = some (.iface 299 (.pointer (some a)))

theorem fault_cell {w : World} {pb : Nat} {l : ByteArray} {v : Value} (h : FaultE w pb l v) : w.cell? ⟨pb, 3, none⟩ = some v := by
  unfold FaultE at h
  simp [World.cell?, h]

theorem nests_of {w : World} {qb pb : Nat} {l1 l2 : ByteArray} {a : Addr} (h1 : FaultE w qb l1 (faultAt pb)) (h2 : FaultE w pb l2 (.iface 299 (.pointer (some a)))) : Nests w (faultAt qb) a :=
  ⟨qb, pb, rfl, fault_cell h1, fault_cell h2⟩

theorem wraps_of {w : World} {pb : Nat} {l : ByteArray} {a : Addr} (h : FaultE w pb l (.iface 299 (.pointer (some a)))) : Wraps w (faultAt pb) a := .inr ⟨pb, rfl, fault_cell h⟩

theorem nest_is {w : World} {v : Value} {a : Addr} (h : Nests w v a) :
    Calls Tryz.prog 27 #[v, .iface 299 (.pointer (some a))] w fun e w' => e = .returned (.bool true) ∧ w = w' := by
  obtain ⟨qb, pb, rfl, h1, h2⟩ := h
  exact is_nest_same qb pb a w h1 h2

theorem nest_not {w : World} {v : Value} {a b : Addr} {ca cb : Array Value} {ta tb : TypeId} (h : Nests w v a) (hne : a ≠ b) (ha : w.heap[a.block]? = some (.cells ca ta (0, 0))) (hb : w.heap[b.block]? = some (.cells cb tb (0, 0))) :
    Calls Tryz.prog 27 #[v, .iface 299 (.pointer (some b))] w fun e w' => e = .returned (.bool false) ∧ w = w' := by
  obtain ⟨qb, pb, rfl, h1, h2⟩ := h
  exact is_nest_other qb pb b a ca cb ta tb w h1 h2 hne ha hb

/-- errors.Is of a system that is none, at each sentinel up to ErrSystem. -/
theorem nest_each {w : World} {v : Value} {a : Nat → Addr} (h : Nests w v (a 13)) (S : Sts14 w a) : ∀ i, i < 13 →
    Calls Tryz.prog 27 #[v, .iface 299 (.pointer (some (a i)))] w fun e w' => e = .returned (.bool false) ∧ w = w' := fun i hi => by
  obtain ⟨c, t, hc⟩ := (S.sent 13 (by decide)).blk
  obtain ⟨c1, t1, hc1⟩ := (S.sent i (by omega)).blk
  exact nest_not h (S.ne 13 i (by decide) (by omega) (by omega)) hc hc1

theorem code_nil (w : World) : Calls Tryz.prog 28 #[.nilIface] w fun r w' => r = .returned (.int .i64 0) ∧ w = w' := by
  go_enter Tryz.func28, Tryz.ntmps28
  go_wp2
  go_ret
  exact ⟨rfl, rfl⟩

theorem code_index {w : World} {v : Value} {a : Nat → Addr} (h : Wraps w v (a 2)) (S : Sts14 w a) :
    Calls Tryz.prog 28 #[v] w fun r w' => r = .returned (.int .i64 3) ∧ w = w' :=
  code_3 h (S.sent 0 (by decide)) (S.sent 1 (by decide)) (S.sent 2 (by decide)) (S.ne 2 0 (by decide) (by decide) (by decide)) (S.ne 2 1 (by decide) (by decide) (by decide))

set_option maxHeartbeats 2000000 in
theorem rest_14 {w : World} {v : Value} {a : Nat → Addr} (h : Nests w v (a 13)) (S : Sts14 w a) :
    Calls Tryz.prog 108 #[v] w fun r w' => r = .returned (.int .i64 14) ∧ w = w' := by
  have H := Lib.hid (nest_each h S)
  have HT := Lib.hid (nest_is h)
  have g10 : w.cell? ⟨11, 0, none⟩ = some (.iface 299 (.pointer (some (a 10)))) := (S.sent 10 (by decide)).var
  have g11 : w.cell? ⟨12, 0, none⟩ = some (.iface 299 (.pointer (some (a 11)))) := (S.sent 11 (by decide)).var
  have g12 : w.cell? ⟨13, 0, none⟩ = some (.iface 299 (.pointer (some (a 12)))) := (S.sent 12 (by decide)).var
  have g13 : w.cell? ⟨0, 0, none⟩ = some (.iface 299 (.pointer (some (a 13)))) := (S.sent 13 (by decide)).var
  obtain ⟨qb, pb, rfl, -, -⟩ := h
  unfold faultAt at H HT ⊢
  clear S
  go_enter Tryz.func108, Tryz.ntmps108
  go_wp2_with (first
    | (go_at_call 27; (with_reducible refine HT.out.mono ?_); rintro e w4 ⟨rfl, rfl⟩)
    | (go_at_call 27; (with_reducible refine (H.out _ (by decide)).mono ?_); rintro e w4 ⟨rfl, rfl⟩))
  go_ret
  exact ⟨rfl, rfl⟩

set_option maxHeartbeats 4000000 in
theorem code_14 {w : World} {v : Value} {a : Nat → Addr} (h : Nests w v (a 13)) (S : Sts14 w a) :
    Calls Tryz.prog 28 #[v] w fun r w' => r = .returned (.int .i64 14) ∧ w = w' := by
  have H := Lib.hid (nest_each h S)
  have HR := Lib.hid (rest_14 h S)
  have g0 : w.cell? ⟨3, 0, none⟩ = some (.iface 299 (.pointer (some (a 0)))) := (S.sent 0 (by decide)).var
  have g1 : w.cell? ⟨1, 0, none⟩ = some (.iface 299 (.pointer (some (a 1)))) := (S.sent 1 (by decide)).var
  have g2 : w.cell? ⟨2, 0, none⟩ = some (.iface 299 (.pointer (some (a 2)))) := (S.sent 2 (by decide)).var
  have g3 : w.cell? ⟨4, 0, none⟩ = some (.iface 299 (.pointer (some (a 3)))) := (S.sent 3 (by decide)).var
  have g4 : w.cell? ⟨5, 0, none⟩ = some (.iface 299 (.pointer (some (a 4)))) := (S.sent 4 (by decide)).var
  have g5 : w.cell? ⟨6, 0, none⟩ = some (.iface 299 (.pointer (some (a 5)))) := (S.sent 5 (by decide)).var
  have g6 : w.cell? ⟨7, 0, none⟩ = some (.iface 299 (.pointer (some (a 6)))) := (S.sent 6 (by decide)).var
  have g7 : w.cell? ⟨8, 0, none⟩ = some (.iface 299 (.pointer (some (a 7)))) := (S.sent 7 (by decide)).var
  have g8 : w.cell? ⟨9, 0, none⟩ = some (.iface 299 (.pointer (some (a 8)))) := (S.sent 8 (by decide)).var
  have g9 : w.cell? ⟨10, 0, none⟩ = some (.iface 299 (.pointer (some (a 9)))) := (S.sent 9 (by decide)).var
  obtain ⟨qb, pb, rfl, -, -⟩ := h
  unfold faultAt at H HR ⊢
  clear S
  go_enter Tryz.func28, Tryz.ntmps28
  go_wp2_with (first
    | (go_at_call 108; refine HR.out.mono ?_; rintro e w4 ⟨rfl, rfl⟩)
    | (go_at_call 27; (with_reducible refine (H.out _ (by decide)).mono ?_); rintro e w4 ⟨rfl, rfl⟩))
  go_ret
  exact ⟨rfl, rfl⟩

end Go.Proofs.YtpmdjicaefmbnaaGreatDoor
