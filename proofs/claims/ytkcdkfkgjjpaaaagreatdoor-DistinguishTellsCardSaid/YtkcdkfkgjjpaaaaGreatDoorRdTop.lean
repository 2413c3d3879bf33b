/- api.Code of the errors that rounds tells: none, a number that is not there, a system that is none (a fault that wraps a fault). Walk: rounds.Rank. -/
import Derived.Test.YtkcdkfkgjjpaaaaGreatDoorRdIs
import Derived.Test.YtkcdkfkgjjpaaaaGreatDoorErrBare

namespace Go.Proofs.YtkcdkfkgjjpaaaaGreatDoor
open Go.RowKit Go.Extern.Stop Go.Stop Go.Extern
set_option linter.unusedVariables false
set_option linter.unusedSimpArgs false

/-- The sentinels' variables up to ErrSystem, in the order of their numbers. -/
def sentG : List Nat := [6, 4, 3, 7, 8, 9, 10, 11, 12, 13, 15, 16, 17, 2]

/-- What is laid at them: errors of errors.New's make, each another one. -/
structure Sts14 (w : World) (a : Nat → Addr) : Prop where
  sent : ∀ i, i < 14 → Sent w (sentG.getD i 0) (a i)
  ne : ∀ i j, i < 14 → j < 14 → i ≠ j → a i ≠ a j

theorem Sent.up {w w' : World} {g : Nat} {a : Addr} (h : Sent w g a) (hu : Up w w') : Sent w' g a := by
  obtain ⟨ca, ta, hc⟩ := h.blk
  exact ⟨hu.cell h.var, ca, ta, (hu.block _ (lt_of_block' hc)).trans hc⟩

theorem Sts14.up {w w' : World} {a : Nat → Addr} (h : Sts14 w a) (hu : Up w w') : Sts14 w' a := ⟨fun i hi => (h.sent i hi).up hu, h.ne⟩

/-- A fault that wraps a fault that wraps the sentinel at a. -/
def Nests (w : World) (v : Value) (a : Addr) : Prop :=
  ∃ qb pb, v = faultAt qb ∧ w.cell? ⟨qb, 3, none⟩ = some (.iface 103 (.pointer (some ⟨pb, 0, none⟩))) ∧ w.cell? ⟨pb, 3, none⟩ = some (.iface 354 (.pointer (some a)))

theorem fault_cell {w : World} {pb : Nat} {l : ByteArray} {v : Value} (h : FaultE w pb l v) : w.cell? ⟨pb, 3, none⟩ = some v := by
  unfold FaultE at h
  simp [World.cell?, h]

theorem nests_of {w : World} {qb pb : Nat} {l1 l2 : ByteArray} {a : Addr} (h1 : FaultE w qb l1 (faultAt pb)) (h2 : FaultE w pb l2 (.iface 354 (.pointer (some a)))) : Nests w (faultAt qb) a :=
  ⟨qb, pb, rfl, fault_cell h1, fault_cell h2⟩

theorem wraps_of {w : World} {pb : Nat} {l : ByteArray} {a : Addr} (h : FaultE w pb l (.iface 354 (.pointer (some a)))) : Wraps w (faultAt pb) a := .inr ⟨pb, rfl, fault_cell h⟩

theorem nest_is {w : World} {v : Value} {a : Addr} (h : Nests w v a) :
    Calls Tryz.prog 16 #[v, .iface 354 (.pointer (some a))] w fun e w' => e = .returned (.bool true) ∧ w = w' := by
  obtain ⟨qb, pb, rfl, h1, h2⟩ := h
  exact is_nest_same qb pb a w h1 h2

theorem nest_not {w : World} {v : Value} {a b : Addr} {ca cb : Array Value} {ta tb : TypeId} (h : Nests w v a) (hne : a ≠ b) (ha : w.heap[a.block]? = some (.cells ca ta (0, 0))) (hb : w.heap[b.block]? = some (.cells cb tb (0, 0))) :
    Calls Tryz.prog 16 #[v, .iface 354 (.pointer (some b))] w fun e w' => e = .returned (.bool false) ∧ w = w' := by
  obtain ⟨qb, pb, rfl, h1, h2⟩ := h
  exact is_nest_other qb pb b a ca cb ta tb w h1 h2 hne ha hb

/-- errors.Is of a system that is none, at each sentinel up to ErrSystem. -/
theorem nest_each {w : World} {v : Value} {a : Nat → Addr} (h : Nests w v (a 13)) (S : Sts14 w a) : ∀ i, i < 13 →
    Calls Tryz.prog 16 #[v, .iface 354 (.pointer (some (a i)))] w fun e w' => e = .returned (.bool false) ∧ w = w' := fun i hi => by
  obtain ⟨c, t, hc⟩ := (S.sent 13 (by decide)).blk
  obtain ⟨c1, t1, hc1⟩ := (S.sent i (by omega)).blk
  exact nest_not h (S.ne 13 i (by decide) (by omega) (by omega)) hc hc1

theorem code_nil (w : World) : Calls Tryz.prog 53 #[.nilIface] w fun r w' => r = .returned (.int .i64 0) ∧ w = w' := by
  go_enter Tryz.func53, Tryz.ntmps53
  go_wp2
  go_ret
  exact ⟨rfl, rfl⟩

theorem code_index {w : World} {v : Value} {a : Nat → Addr} (h : Wraps w v (a 2)) (S : Sts14 w a) :
    Calls Tryz.prog 53 #[v] w fun r w' => r = .returned (.int .i64 3) ∧ w = w' :=
  code_3 h (S.sent 0 (by decide)) (S.sent 1 (by decide)) (S.sent 2 (by decide)) (S.ne 2 0 (by decide) (by decide) (by decide)) (S.ne 2 1 (by decide) (by decide) (by decide))

set_option maxHeartbeats 2000000 in
theorem rest_14 {w : World} {v : Value} {a : Nat → Addr} (h : Nests w v (a 13)) (S : Sts14 w a) :
    Calls Tryz.prog 125 #[v] w fun r w' => r = .returned (.int .i64 14) ∧ w = w' := by
  have H := Lib.hid (nest_each h S)
  have HT := Lib.hid (nest_is h)
  have g10 : w.cell? ⟨15, 0, none⟩ = some (.iface 354 (.pointer (some (a 10)))) := (S.sent 10 (by decide)).var
  have g11 : w.cell? ⟨16, 0, none⟩ = some (.iface 354 (.pointer (some (a 11)))) := (S.sent 11 (by decide)).var
  have g12 : w.cell? ⟨17, 0, none⟩ = some (.iface 354 (.pointer (some (a 12)))) := (S.sent 12 (by decide)).var
  have g13 : w.cell? ⟨2, 0, none⟩ = some (.iface 354 (.pointer (some (a 13)))) := (S.sent 13 (by decide)).var
  obtain ⟨qb, pb, rfl, -, -⟩ := h
  unfold faultAt at H HT ⊢
  clear S
  go_enter Tryz.func125, Tryz.ntmps125
  go_wp2_with (first
    | (go_at_call 16; (with_reducible refine HT.out.mono ?_); rintro e w4 ⟨rfl, rfl⟩)
    | (go_at_call 16; (with_reducible refine (H.out _ (by decide)).mono ?_); rintro e w4 ⟨rfl, rfl⟩))
  go_ret
  exact ⟨rfl, rfl⟩

set_option maxHeartbeats 4000000 in
theorem code_14 {w : World} {v : Value} {a : Nat → Addr} (h : Nests w v (a 13)) (S : Sts14 w a) :
    Calls Tryz.prog 53 #[v] w fun r w' => r = .returned (.int .i64 14) ∧ w = w' := by
  have H := Lib.hid (nest_each h S)
  have HR := Lib.hid (rest_14 h S)
  have g0 : w.cell? ⟨6, 0, none⟩ = some (.iface 354 (.pointer (some (a 0)))) := (S.sent 0 (by decide)).var
  have g1 : w.cell? ⟨4, 0, none⟩ = some (.iface 354 (.pointer (some (a 1)))) := (S.sent 1 (by decide)).var
  have g2 : w.cell? ⟨3, 0, none⟩ = some (.iface 354 (.pointer (some (a 2)))) := (S.sent 2 (by decide)).var
  have g3 : w.cell? ⟨7, 0, none⟩ = some (.iface 354 (.pointer (some (a 3)))) := (S.sent 3 (by decide)).var
  have g4 : w.cell? ⟨8, 0, none⟩ = some (.iface 354 (.pointer (some (a 4)))) := (S.sent 4 (by decide)).var
  have g5 : w.cell? ⟨9, 0, none⟩ = some (.iface 354 (.pointer (some (a 5)))) := (S.sent 5 (by decide)).var
  have g6 : w.cell? ⟨10, 0, none⟩ = some (.iface 354 (.pointer (some (a 6)))) := (S.sent 6 (by decide)).var
  have g7 : w.cell? ⟨11, 0, none⟩ = some (.iface 354 (.pointer (some (a 7)))) := (S.sent 7 (by decide)).var
  have g8 : w.cell? ⟨12, 0, none⟩ = some (.iface 354 (.pointer (some (a 8)))) := (S.sent 8 (by decide)).var
  have g9 : w.cell? ⟨13, 0, none⟩ = some (.iface 354 (.pointer (some (a 9)))) := (S.sent 9 (by decide)).var
  obtain ⟨qb, pb, rfl, -, -⟩ := h
  unfold faultAt at H HR ⊢
  clear S
  go_enter Tryz.func53, Tryz.ntmps53
  go_wp2_with (first
    | (go_at_call 125; refine HR.out.mono ?_; rintro e w4 ⟨rfl, rfl⟩)
    | (go_at_call 16; (with_reducible refine (H.out _ (by decide)).mono ?_); rintro e w4 ⟨rfl, rfl⟩))
  go_ret
  exact ⟨rfl, rfl⟩

end Go.Proofs.YtkcdkfkgjjpaaaaGreatDoor

namespace Go.Proofs.YtkcdkfkgjjpaaaaGreatDoor
open Go.RowKit Go.Sort Go.Maps
set_option linter.unusedVariables false
set_option linter.unusedSimpArgs false

/-- Two states of a system. -/
def There (s : Sy.Lts) (p q : Int) : Prop := 0 ≤ p ∧ p < s.n ∧ 0 ≤ q ∧ q < s.n

/-- What Rank leaves. -/
def RankDone (s : Sy.Lts) (p q : Int) (w : World) (x xi : Value) (r : Ending) (w' : World) : Prop :=
  Up w w' ∧ ((Sy.right s = true ∧ There s p q ∧ r = .returned (.tuple #[.int .i64 (Rd.rank s p.toNat q.toNat), .nilIface])) ∨
    (Sy.right s = true ∧ ¬ There s p q ∧ ∃ pb, r = .returned (.tuple #[.int .i64 0, faultAt pb]) ∧ w.heap.size ≤ pb ∧ FaultE w' pb layerRounds xi) ∨
    (Sy.right s = false ∧ ∃ qb pb, r = .returned (.tuple #[.int .i64 0, faultAt qb]) ∧ w.heap.size ≤ qb ∧ w.heap.size ≤ pb ∧ FaultE w' qb layerRounds (faultAt pb) ∧ FaultE w' pb layerSystem x))

theorem rounds_small {s : Sy.Lts} (hR : Sy.Right s) : (Rd.rounds s).length ≤ 1001 := by
  rw [Rd.rounds_len]
  have h1 := hR.n1
  by_cases h0 : s.n.toNat = 0
  · rw [last_zero h0]; omega
  · have := Rd.last_lt s (by omega); omega

theorem rounds_mem {s : Sy.Lts} {c : List Nat} (h : c ∈ Rd.rounds s) : c.length = s.n.toNat := by
  obtain ⟨k, -, rfl⟩ := List.mem_map.1 h
  exact Rd.R_len s k

/-- The rank, asked of All's rows. -/
theorem rank_rows {s : Sy.Lts} {w W : World} {b : Nat} {v : Value} {vs : List Value} {p q : Nat} (hR : Sy.Right s) (ho : w.ownsRow b 35 1 v (Rd.last s + 1) vs) (hr : RowsOf b w vs (Rd.rounds s)) (hu : Up w W) (hp : p < s.n.toNat) (hq : q < s.n.toNat) :
    Calls Tryz.prog 103 #[v, .int .i64 (p : Nat), .int .i64 (q : Nat)] W fun r w' => r = .returned (.int .i64 (Rd.rank s p q)) ∧ Up W w' := by
  have hrd := (RowsOf.at ho hr (Rd.rounds_len s) (by omega)).up hu
  have h1 := hR.n1
  exact rank_any hrd (rounds_small hR) (fun c hc => by have := rounds_mem hc; omega)

/-- All of a right system, its argument in a box. -/
theorem all_yes {s : Sy.Lts} {ao : Option Addr} {k cap : Nat} {xt : TypeId} {xv : Value} {w : World} (hr : Sy.right s = true) (hT : Tab w) (hG : ErrT w) (hs : Ls3 w (.slice ao k cap) s.es) (hE : w.cell? ⟨2, 0, none⟩ = some (.iface xt xv)) (hl : s.es.length ≤ maxLen) :
    Calls Tryz.prog 102 #[.agg #[.int .i64 s.n, .int .i64 s.m, .int .i64 s.start, .slice ao k cap]] (w.alloc (.cells #[.int .i64 s.n, .int .i64 s.m, .int .i64 s.start, .slice ao k cap] 27)) fun r w1 =>
      ∃ av cv vs, r = .returned (.tuple #[.slice av (Rd.last s + 1) cv, .nilIface]) ∧ Up w w1 ∧ w1.heap[w.heap.size]? = some (.cells #[.int .i64 s.n, .int .i64 s.m, .int .i64 s.start, .slice ao k cap] 27 (0, 0)) ∧ w1.ownsRow (w.heap.size + 1) 35 1 (.slice av (Rd.last s + 1) cv) (Rd.last s + 1) vs ∧ RowsOf (w.heap.size + 1) w1 vs (Rd.rounds s) := by
  have hu := (Up.refl w).alloc (.cells #[.int .i64 s.n, .int .i64 s.m, .int .i64 s.start, .slice ao k cap] 27)
  refine (all_any s (.slice ao k cap) xt xv _ (hT.up hu) (hu.cell hG) (hs.up hu) (hu.cell hE) hl).mono ?_
  rintro r w1 ⟨hu1, ⟨-, v, vs, rfl, ho, hrw⟩ | ⟨h1, -⟩⟩
  · rw [World.size_alloc] at ho hrw
    obtain ⟨av, cv, rfl⟩ := owns_shape' ho
    have hb1 := (hu1.block _ (by simp)).trans (heap_alloc_new w (.cells #[.int .i64 s.n, .int .i64 s.m, .int .i64 s.start, .slice ao k cap] 27))
    exact ⟨av, cv, vs, rfl, hu.trans hu1, hb1, ho, hrw⟩
  · exact absurd (hr.symm.trans h1) (by decide)

/-- All of a system that is none, its argument in a box. -/
theorem all_no {s : Sy.Lts} {ao : Option Addr} {k cap : Nat} {xt : TypeId} {xv : Value} {w : World} (hr : Sy.right s = false) (hT : Tab w) (hG : ErrT w) (hs : Ls3 w (.slice ao k cap) s.es) (hE : w.cell? ⟨2, 0, none⟩ = some (.iface xt xv)) (hl : s.es.length ≤ maxLen) :
    Calls Tryz.prog 102 #[.agg #[.int .i64 s.n, .int .i64 s.m, .int .i64 s.start, .slice ao k cap]] (w.alloc (.cells #[.int .i64 s.n, .int .i64 s.m, .int .i64 s.start, .slice ao k cap] 27)) fun r w1 =>
      ∃ qb pb, r = .returned (.tuple #[.slice none 0 0, faultAt qb]) ∧ Up w w1 ∧ w1.heap[w.heap.size]? = some (.cells #[.int .i64 s.n, .int .i64 s.m, .int .i64 s.start, .slice ao k cap] 27 (0, 0)) ∧ w.heap.size ≤ qb ∧ w.heap.size ≤ pb ∧ FaultE w1 qb layerRounds (faultAt pb) ∧ FaultE w1 pb layerSystem (.iface xt xv) := by
  have hu := (Up.refl w).alloc (.cells #[.int .i64 s.n, .int .i64 s.m, .int .i64 s.start, .slice ao k cap] 27)
  refine (all_any s (.slice ao k cap) xt xv _ (hT.up hu) (hu.cell hG) (hs.up hu) (hu.cell hE) hl).mono ?_
  rintro r w1 ⟨hu1, ⟨h1, -⟩ | ⟨-, qb, pb, rfl, hqb, hpb, hf1, hf2⟩⟩
  · exact absurd (h1.symm.trans hr) (by decide)
  · rw [World.size_alloc] at hqb hpb
    exact ⟨qb, pb, rfl, hu.trans hu1, (hu1.block _ (by simp)).trans (heap_alloc_new w _), by omega, by omega, hf1, hf2⟩

theorem ls3_shape {w : World} {v : Value} {l : List Sy.Edge} (h : Ls3 w v l) : ∃ ao cap, v = .slice ao l.length cap := by
  obtain ⟨ao, cap, g, off, rfl, -, -⟩ := h
  exact ⟨ao, cap, rfl⟩

set_option maxHeartbeats 2000000 in
set_option maxRecDepth 100000 in
theorem rank_bad (s : Sy.Lts) (se : Value) (p q : Int) (a : Addr) (xi : Value) (w : World) (hr : Sy.right s = false) (hT : Tab w) (hG : ErrT w) (hs : Ls3 w se s.es) (hE : w.cell? ⟨2, 0, none⟩ = some (.iface 354 (.pointer (some a)))) (hl : s.es.length ≤ maxLen) :
    Calls Tryz.prog 29 #[sysV s se, .int .i64 p, .int .i64 q] w (RankDone s p q w (.iface 354 (.pointer (some a))) xi) := by
  obtain ⟨ao, cap, rfl⟩ := ls3_shape hs
  have HA := Lib.hid (all_no hr hT hG hs hE hl)
  have HR := Lib.hid hr
  clear hr hT hG hl hs
  unfold sysV
  go_enter Tryz.func29, Tryz.ntmps29
  go_wp2_with (first
    | (go_at_call 102; refine HA.out.mono ?_; rintro r w1 ⟨qb, pb, rfl, hu1, -, hqb, hpb, hf1, hf2⟩; (have hE1 := hu1.cell hE); (have HF1 := Lib.hid hf1); (have HF2 := Lib.hid hf2); (have HU1 := Lib.hid hu1); (have HB := Lib.hid (And.intro hqb hpb)); clear hf1 hf2 hu1 hqb hpb hE; unfold faultAt)
    | (go_at_call 16; refine (is_nest_same qb pb a _ (fault_cell HF1.out) (fault_cell HF2.out)).mono ?_; rintro e w2 ⟨rfl, rfl⟩))
  go_ret2
  exact ⟨HU1.out, .inr (.inr ⟨HR.out, qb, pb, rfl, HB.out.1, HB.out.2, HF1.out, HF2.out⟩)⟩

set_option maxHeartbeats 2000000 in
set_option maxRecDepth 100000 in
theorem rank_in (s : Sy.Lts) (se : Value) (p q : Nat) (a : Addr) (xi : Value) (w : World) (hr : Sy.right s = true) (hT : Tab w) (hG : ErrT w) (hs : Ls3 w se s.es) (hE : w.cell? ⟨2, 0, none⟩ = some (.iface 354 (.pointer (some a)))) (hl : s.es.length ≤ maxLen)
    (hp : p < s.n.toNat) (hq : q < s.n.toNat) :
    Calls Tryz.prog 29 #[sysV s se, .int .i64 (p : Nat), .int .i64 (q : Nat)] w (RankDone s p q w (.iface 354 (.pointer (some a))) xi) := by
  obtain ⟨ao, cap, rfl⟩ := ls3_shape hs
  have hA := all_yes hr hT hG hs hE hl
  obtain ⟨n, hn⟩ : ∃ n : Nat, s.n = (n : Nat) := ⟨s.n.toNat, by omega⟩
  rw [hn] at hA
  have HA := Lib.hid hA
  have HR := Lib.hid hr
  have hpn : p < n := by rw [hn] at hp; exact hp
  have hqn : q < n := by rw [hn] at hq; exact hq
  have HP := Lib.hid hp
  have HQ := Lib.hid hq
  have HN := Lib.hid hn
  unfold sysV
  rw [hn]
  clear hr hT hG hl hp hq hs hA hn
  have q1 : decide ((p : Int) < 0) = false := by simp
  have q2 : decide ((q : Int) < 0) = false := by simp
  have q3 : decide ((n : Int) ≤ (p : Int)) = false := by simp; omega
  have q4 : decide ((n : Int) ≤ (q : Int)) = false := by simp; omega
  go_enter Tryz.func29, Tryz.ntmps29
  go_wp2_with (first
    | (go_at_call 102; refine HA.out.mono ?_; rintro r w1 ⟨av, cv, vs, rfl, hu1, hbx, ho, hrw⟩; (have cB := (four_cells hbx).1.1); (have hE1 := hu1.cell hE); (have HO := Lib.hid ho); (have HW := Lib.hid hrw); (have HU1 := Lib.hid hu1); clear ho hrw hu1 hE)
    | (go_at_call 16; refine (is_nil a _).mono ?_; rintro e w2 ⟨rfl, rfl⟩)
    | (go_at_call 103; refine (rank_rows ((Sy.right_iff s).1 HR.out) HO.out HW.out (Up.refl _) HP.out HQ.out).mono ?_; rintro e w3 ⟨rfl, hu3⟩))
  go_ret2
  exact ⟨HU1.out.trans hu3, .inl ⟨HR.out, ⟨by omega, by rw [HN.out]; omega, by omega, by rw [HN.out]; omega⟩, rfl⟩⟩

set_option maxHeartbeats 8000000 in
set_option maxRecDepth 100000 in
theorem rank_out (s : Sy.Lts) (se : Value) (p q : Int) (a : Addr) (xt : TypeId) (xv : Value) (w : World) (hr : Sy.right s = true) (hT : Tab w) (hG : ErrT w) (hs : Ls3 w se s.es) (hE : w.cell? ⟨2, 0, none⟩ = some (.iface 354 (.pointer (some a))))
    (hI : w.cell? ⟨3, 0, none⟩ = some (.iface xt xv)) (hl : s.es.length ≤ maxLen) (ht : ¬ There s p q) :
    Calls Tryz.prog 29 #[sysV s se, .int .i64 p, .int .i64 q] w (RankDone s p q w (.iface 354 (.pointer (some a))) (.iface xt xv)) := by
  obtain ⟨ao, cap, rfl⟩ := ls3_shape hs
  have HA := Lib.hid (all_yes hr hT hG hs hE hl)
  have HR := Lib.hid hr
  have HNT := Lib.hid ht
  have hR := (Sy.right_iff s).1 hr
  have hn0 := hR.n0
  have hcs : (decide (p < 0) = true) ∨ (decide (p < 0) = false ∧ decide (s.n ≤ p) = true) ∨ (decide (p < 0) = false ∧ decide (s.n ≤ p) = false ∧ decide (q < 0) = true) ∨ (decide (p < 0) = false ∧ decide (s.n ≤ p) = false ∧ decide (q < 0) = false ∧ decide (s.n ≤ q) = true) := by
    unfold There at ht
    simp only [decide_eq_true_eq, decide_eq_false_iff_not]
    omega
  unfold sysV
  clear hr hT hG hl hs hR ht
  rcases hcs with q1 | ⟨q1, q2⟩ | ⟨q1, q2, q3⟩ | ⟨q1, q2, q3, q4⟩
  all_goals
    go_enter Tryz.func29, Tryz.ntmps29
    go_wp2_with (first
      | (go_at_call 102; refine HA.out.mono ?_; rintro r w1 ⟨av, cv, vs, rfl, hu1, hbx, ho, hrw⟩; (have cB := (four_cells hbx).1.1); (have hE1 := hu1.cell hE); (have hI1 := hu1.cell hI); (have HU1 := Lib.hid hu1); clear ho hrw hu1 hE hI hbx)
      | (go_at_call 16; refine (is_nil a _).mono ?_; rintro e w2 ⟨rfl, rfl⟩)
      | (go_at_call 99; refine (faultNewE layerRounds _ _ _).mono ?_; rintro e w3 ⟨rfl, hw3⟩; (have HW3 := Lib.hid (fault_up hw3)); (have HU3 := Lib.hid (show Up w w3 by rw [hw3]; exact HU1.out.alloc _)); clear hw3))
    go_ret2
    exact ⟨HU3.out, .inr (.inl ⟨HR.out, HNT.out, _, rfl, HU1.out.size, HW3.out⟩)⟩

/-- Rank of whatever system and whatever numbers. -/
theorem rankTop_any (s : Sy.Lts) (se : Value) (p q : Int) (a : Addr) (xt : TypeId) (xv : Value) (w : World) (hT : Tab w) (hG : ErrT w) (hs : Ls3 w se s.es) (hE : w.cell? ⟨2, 0, none⟩ = some (.iface 354 (.pointer (some a))))
    (hI : w.cell? ⟨3, 0, none⟩ = some (.iface xt xv)) (hl : s.es.length ≤ maxLen) :
    Calls Tryz.prog 29 #[sysV s se, .int .i64 p, .int .i64 q] w (RankDone s p q w (.iface 354 (.pointer (some a))) (.iface xt xv)) := by
  cases hr : Sy.right s
  · exact rank_bad s se p q a _ w hr hT hG hs hE hl
  · by_cases ht : There s p q
    · obtain ⟨P, rfl⟩ : ∃ P : Nat, p = (P : Nat) := ⟨p.toNat, by unfold There at ht; omega⟩
      obtain ⟨Q, rfl⟩ : ∃ Q : Nat, q = (Q : Nat) := ⟨q.toNat, by unfold There at ht; omega⟩
      unfold There at ht
      exact rank_in s se P Q a _ w hr hT hG hs hE hl (by omega) (by omega)
    · exact rank_out s se p q a xt xv w hr hT hG hs hE hI hl ht

end Go.Proofs.YtkcdkfkgjjpaaaaGreatDoor
