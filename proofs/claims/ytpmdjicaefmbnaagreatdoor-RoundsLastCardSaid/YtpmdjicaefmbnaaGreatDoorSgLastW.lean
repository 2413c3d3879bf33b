/- Walks: system.Classes where classes are in the one form; Together of a round. The plain side of RoundsLast. The statement RoundsLast, walked. -/
import Derived.Test.YtpmdjicaefmbnaaGreatDoorSgRefine
import Derived.Test.YtpmdjicaefmbnaaGreatDoorRdAlive
import Derived.Test.YtpmdjicaefmbnaaGreatDoorQuiet
import Derived.Test.YtpmdjicaefmbnaaGreatDoorRdIsW

namespace Go.Proofs.YtpmdjicaefmbnaaGreatDoor
open Go.RowKit Go.Sort Go.Maps
set_option linter.unusedVariables false
set_option linter.unusedSimpArgs false

/-- A row of a round, as it reads. -/
def RoundLs (s : Sy.Lts) (w : World) (u : Value) (k n : Nat) : Prop :=
  ∃ ao c g off, u = .slice ao n c ∧ (0 < n → ao = some ⟨g, off, none⟩) ∧ (∀ i, i < n → w.cell? ⟨g, off + i, none⟩ = some (.int .i64 (((Rd.R s k).getD i 0 : Nat) : Int))) ∧ Lst w u ((Rd.R s k).map Int.ofNat)

theorem RoundLs.up {s : Sy.Lts} {w w1 : World} {u : Value} {k n : Nat} (h : RoundLs s w u k n) (hu : Up w w1) : RoundLs s w1 u k n := by
  obtain ⟨ao, c, g, off, h1, h2, h3, h4⟩ := h
  exact ⟨ao, c, g, off, h1, h2, fun i hi => hu.cell (h3 i hi), h4.up hu⟩

/-- The rows of the rounds, as they read. -/
theorem round_rowsL {s : Sy.Lts} {w : World} {b n : Nat} {v : Value} {vs : List Value} (ho : w.ownsRow b 34 1 v (Rd.last s + 1) vs) (hr : RowsOf b w vs (Rd.rounds s)) (hn : s.n.toNat = n) :
    ∃ g cap, v = .slice (some ⟨g, 0, none⟩) (Rd.last s + 1) cap ∧ ∀ k, k < Rd.last s + 1 → ∃ u, w.cell? ⟨g, k, none⟩ = some u ∧ RoundLs s w u k n := by
  obtain ⟨g, cap, rfl, h⟩ := RowsOf.at ho hr (Rd.rounds_len s) (by omega)
  rw [Rd.rounds_len] at h ⊢
  refine ⟨g, cap, rfl, fun k hk => ?_⟩
  obtain ⟨u, h1, h2⟩ := h k hk
  have e : (Rd.rounds s).getD k [] = Rd.R s k := by simp [List.getD, Rd.rounds_get s k hk]
  rw [e] at h2
  have h3 := h2
  obtain ⟨ao, c, g2, off, hu, ha, hx⟩ := h2
  rw [List.length_map, Rd.R_len, hn] at hu ha
  exact ⟨u, h1, ao, c, g2, off, hu, ha, fun i hi => at_nat hx (by rw [Rd.R_len, hn]; exact hi), h3⟩

theorem seen_nat (c : List Nat) : (Cn.seen (c.map Int.ofNat)).length = Rd.cls c := by
  have e : Cn.seen (c.map Int.ofNat) = Rd.seen (c.map Int.ofNat) := rfl
  rw [e, Rd.seen_map Int.ofNat c (fun a _ b _ h => Int.ofNat.inj h), List.length_map]; rfl

theorem cls_zero (s : Sy.Lts) (h : 0 < s.n.toNat) : Rd.cls (Rd.R s 0) = 1 := by
  obtain ⟨m, hm⟩ : ∃ m, s.n.toNat = m + 1 := ⟨s.n.toNat - 1, by omega⟩
  have hs : ∀ m : Nat, Rd.seen (List.replicate (m + 1) (0 : Nat)) = [0] := by
    intro m
    induction m with
    | zero => rfl
    | succ m ih => rw [List.replicate_succ' (n := m + 1), Rd.seen_snoc, ih]; rfl
  have e : Rd.R s 0 = List.replicate s.n.toNat 0 := rfl
  unfold Rd.cls
  rw [e, hm, hs]; rfl

theorem cls_less {s : Sy.Lts} {k : Nat} (h : k + 1 < Rd.last s + 1) : Rd.cls (Rd.R s k) < Rd.cls (Rd.R s (k + 1)) := Rd.R_more s k (Rd.last_prev s k (by omega))

theorem R_stays {s : Sy.Lts} {k p q : Nat} (hp : p < s.n.toNat) (hq : q < s.n.toNat) (h : (Rd.R s (k + 1)).getD p 0 = (Rd.R s (k + 1)).getD q 0) : (Rd.R s k).getD p 0 = (Rd.R s k).getD q 0 := by
  have := Rd.next_eq_iff s (Rd.R s k) (p := p) (q := q) (by rw [Rd.R_len]; exact hp) (by rw [Rd.R_len]; exact hq)
  exact (this.1 h).1

theorem nat_wf (c : List Nat) (hc : ∀ x ∈ c, x ≤ 1000000) (k : Nat) (hk : k < c.length) : (Lit.int .i64 ((c.map Int.ofNat).getD k 0)).wf = true := by
  have e : (c.map Int.ofNat).getD k 0 = ((c[k] : Nat) : Int) := by simp [List.getD, hk]
  rw [e]
  have := hc _ (List.getElem_mem hk)
  exact WalkArith.wf_i64 (by omega)

theorem tog_any {w : World} {v : Value} {c : List Nat} (hv : Lst w v (c.map Int.ofNat)) (hc : ∀ x ∈ c, x ≤ 1000000) (hl : c.length ≤ 1000) :
    Calls Tryz.prog 33 #[v] w fun r w' => r = .returned (.int .i64 (Rd.cls c : Nat)) ∧ Up w w' := by
  obtain ⟨ao, cap, g, off, rfl, ha, hx⟩ := hv
  rw [← seen_nat c]
  rw [List.length_map] at ha ⊢
  exact together_any' g off c.length cap ao ha (c.map Int.ofNat) w (by rw [List.length_map]) (by omega) (fun k hk => nat_wf c hc k hk) (fun k hk => hx k (by rw [List.length_map]; exact hk))

set_option maxHeartbeats 4000000 in
set_option maxRecDepth 100000 in
theorem sysClasses_yes {w : World} {s : Sy.Lts} {ao : Option Addr} {L cap n : Nat} {v : Value} {c : List Nat} (hn : s.n = (n : Nat)) (hv : Lst w v (c.map Int.ofNat)) (hcn : Rd.canon c = c) (hc : ∀ x ∈ c, x ≤ 1000000) (hl : c.length = n) (hn1 : n ≤ 1000) :
    Calls Tryz.prog 32 #[.agg #[.int .i64 s.n, .int .i64 s.m, .int .i64 s.start, .slice ao L cap], v] w fun r w' => r = .returned (.bool true) ∧ Up w w' := by
  have HCA : Hid (∀ W, Up w W → Calls Tryz.prog 111 #[v] W fun r w' => ∃ g, r = .returned (.slice (some ⟨g, 0, none⟩) n n) ∧ Hid (Lst w' (.slice (some ⟨g, 0, none⟩) n n) (c.map Int.ofNat) ∧ Up W w')) := Lib.hid (fun W hu => by
    obtain ⟨ao, cap, g, off, rfl, ha, hx⟩ := hv.up hu
    rw [List.length_map] at ha ⊢
    rw [hl] at ha ⊢
    refine (canon_any' g off n cap ao ha (c.map Int.ofNat) W (by rw [List.length_map, hl]) (by omega) (fun k hk => nat_wf c hc k (by omega)) (fun k hk => hx k (by rw [List.length_map]; omega))).mono ?_
    rintro r w' ⟨rfl, hrow, hb⟩
    have e : Cn.canon (c.map Int.ofNat) = c := by rw [cn_rd, Rd.canon_map Int.ofNat c (fun a _ b _ h => Int.ofNat.inj h), hcn]
    rw [e] at hrow
    refine ⟨_, rfl, Lib.hid ⟨⟨some ⟨W.heap.size + 1, 0, none⟩, n, W.heap.size + 1, 0, by rw [List.length_map, hl], fun _ => rfl, fun i hi => ?_⟩, hb⟩⟩
    rw [List.length_map] at hi
    rw [Nat.zero_add, hrow.cell (ints_get hi)]
    simp [List.getD, hi])
  have HV := Lib.hid hv
  have HEQ : Hid (∀ W u, Up w W → Lst W u (c.map Int.ofNat) → Calls Tryz.prog 110 #[v, u] W (Eql W true)) := Lib.hid (fun W u hu h => by
    have := equal_ints (HV.out.up hu) h (by rw [List.length_map]; omega) (by rw [List.length_map]; omega)
    simpa using this)
  obtain ⟨a1, cap1, g1, off1, rfl, -, -⟩ := hv
  rw [List.length_map, hl] at HCA HEQ HV ⊢
  rw [hn]
  clear hn hcn hc hl
  have HU0 : Hid (Up w (w.alloc (.cells #[.int .i64 (n : Int), .int .i64 s.m, .int .i64 s.start, .slice ao L cap] 24))) := Lib.hid ((Up.refl w).alloc _)
  have qn : ((n : Int) == (n : Int)) = true := by simp
  go_enter Tryz.func32, Tryz.ntmps32
  go_wp2_with (first
    | (go_at_call 111; refine (HCA.out _ HU0.out).mono ?_; rintro r w1 ⟨g, rfl, HL⟩)
    | (go_at_call 110; refine (HEQ.out _ _ (HU0.out.trans HL.out.2) HL.out.1).mono ?_; rintro r w2 ⟨rfl, hu2⟩))
  go_ret
  exact ⟨rfl, (HU0.out.trans HL.out.2).trans hu2⟩

end Go.Proofs.YtpmdjicaefmbnaaGreatDoor

namespace Go.Proofs.YtpmdjicaefmbnaaGreatDoor
open Go.RowKit Go.Sort Go.Maps
set_option linter.unusedVariables false
set_option linter.unusedSimpArgs false

set_option maxHeartbeats 4000000 in
set_option maxRecDepth 100000 in
theorem lastLaw_out (s : Sy.Lts) (se : Value) (a : Nat → Addr) (w : World) (hc : decide (80 < s.n) = true ∨ (decide (80 < s.n) = false ∧ decide (600 < (s.es.length : Int)) = true)) (hS : Set14 w s se a) :
    Calls Tryz.prog 9 #[sysV s se] w (Good w) := by
  obtain ⟨ao, cap, rfl⟩ := ls3_shape hS.arg
  have hA : ∀ W, Up w W → Calls Tryz.prog 10 #[] W fun r w' => r = .returned (.bool true) ∧ Up W w' := fun W hu => alive_any (hS.tab.up hu) (hu.cell hS.typ) (hu.cell hS.sys)
  obtain ⟨L, hL⟩ : ∃ L, L = s.es.length := ⟨_, rfl⟩
  unfold sysV
  rw [← hL] at hc ⊢
  have HA := Lib.hid hA
  have HU0 : Hid (Up w (w.alloc (.cells #[.int .i64 s.n, .int .i64 s.m, .int .i64 s.start, .slice ao L cap] 24))) := Lib.hid ((Up.refl w).alloc _)
  clear hA hS hL
  rcases hc with q1 | ⟨q1, q2⟩
  all_goals
    go_enter Tryz.func9, Tryz.ntmps9
    go_wp2_with (go_at_call 10; refine (HA.out _ HU0.out).mono ?_; rintro r w2 ⟨rfl, hu2⟩)
    go_ret
    exact ⟨rfl, HU0.out.trans hu2⟩

theorem nests_up {w w1 : World} {v : Value} {a : Addr} (h : Nests w v a) (hu : Up w w1) : Nests w1 v a := by
  obtain ⟨qb, pb, e, c1, c2⟩ := h
  exact ⟨qb, pb, e, hu.cell c1, hu.cell c2⟩

set_option maxHeartbeats 8000000 in
set_option maxRecDepth 100000 in
theorem lastLaw_bad (s : Sy.Lts) (se : Value) (a : Nat → Addr) (w : World) (h80 : s.n ≤ 80) (h600 : (s.es.length : Int) ≤ 600) (hr : Sy.right s = false) (hS : Set14 w s se a) :
    Calls Tryz.prog 9 #[sysV s se] w (Good w) := by
  obtain ⟨ao, cap, rfl⟩ := ls3_shape hS.arg
  have hA : ∀ W, Up w W → Calls Tryz.prog 10 #[] W fun r w' => r = .returned (.bool true) ∧ Up W w' := fun W hu => alive_any (hS.tab.up hu) (hu.cell hS.typ) (hu.cell hS.sys)
  have hAL : ∀ W, Up w W → Calls Tryz.prog 11 #[sysV s (.slice ao s.es.length cap)] W fun r w' => ∃ qb, r = .returned (.tuple #[.slice none 0 0, faultAt qb]) ∧ Hid (Nests w' (faultAt qb) (a 13)) ∧ Up W w' := fun W hu => by
    refine (all_any s _ _ _ W (hS.tab.up hu) (hu.cell hS.typ) (hS.arg.up hu) (hu.cell hS.sys) hS.len).mono ?_
    rintro r w' ⟨hu1, ⟨h1, -⟩ | ⟨-, qb, pb, rfl, -, -, hf1, hf2⟩⟩
    · exact absurd (hr.symm.trans h1) (by decide)
    · exact ⟨qb, rfl, Lib.hid (nests_of hf1 hf2), hu1⟩
  have hCL : ∀ W, Up w W → Calls Tryz.prog 30 #[sysV s (.slice ao s.es.length cap)] W fun r w' => ∃ qb, r = .returned (.tuple #[.slice none 0 0, faultAt qb]) ∧ Hid (Nests w' (faultAt qb) (a 13)) ∧ Up W w' := fun W hu => by
    refine (classes_bad s _ _ _ W hr (hS.arg.up hu) (hu.cell hS.sys) (hu.cell hS.typ) hS.len).mono ?_
    rintro r w' ⟨qb, rfl, hf, hu1⟩
    obtain ⟨pb, hf1, hf2⟩ := hf.out
    exact ⟨qb, rfl, Lib.hid (nests_of hf1 hf2), hu1⟩
  have HCD : Hid (∀ W qb, Up w W → Nests W (faultAt qb) (a 13) → Calls Tryz.prog 28 #[.iface 101 (.pointer (some ⟨qb, 0, none⟩))] W fun r w' => r = .returned (.int .i64 14) ∧ W = w') := Lib.hid (fun W qb hu hN => code_14 hN (hS.sts.up hu))
  obtain ⟨L, hL⟩ : ∃ L, L = s.es.length := ⟨_, rfl⟩
  unfold sysV at hAL hCL ⊢
  rw [← hL] at hAL hCL h600 ⊢
  have HA := Lib.hid hA
  have HAL := Lib.hid hAL
  have HCL := Lib.hid hCL
  have hb0 := heap_alloc_new w (.cells #[.int .i64 s.n, .int .i64 s.m, .int .i64 s.start, .slice ao L cap] 24)
  have HB0 := Lib.hid hb0
  have HU0 : Hid (Up w (w.alloc (.cells #[.int .i64 s.n, .int .i64 s.m, .int .i64 s.start, .slice ao L cap] 24))) := Lib.hid ((Up.refl w).alloc _)
  have q1 : decide (80 < s.n) = false := by simp; omega
  have q2 : decide (600 < (L : Int)) = false := by simp; omega
  unfold faultAt at HAL HCL HCD
  clear hA hAL hCL hS hL hb0 h80 h600 hr
  go_enter Tryz.func9, Tryz.ntmps9
  go_wp2_with (first
    | (go_at_call 11; refine (HAL.out _ HU0.out).mono ?_; rintro r w1 ⟨qb1, rfl, HN1, hu1⟩; (obtain ⟨⟨k0, k1, k2, k3⟩, -⟩ := four_cells ((hu1.block _ (lt_of_block' HB0.out)).trans HB0.out)); (have HUB1 := Lib.hid (HU0.out.trans hu1)); clear hu1)
    | (go_at_call 30; refine (HCL.out _ HUB1.out).mono ?_; rintro r w2 ⟨qb2, rfl, HN2, hu2⟩; (have HU12 := Lib.hid hu2); (have HUB2 := Lib.hid (HUB1.out.trans hu2)); clear hu2 k0 k1 k2 k3)
    | (go_at_call 10; refine (HA.out _ HUB2.out).mono ?_; rintro r w3 ⟨rfl, hu3⟩; (have HU23 := Lib.hid hu3); (have HUB3 := Lib.hid (HUB2.out.trans hu3)); clear hu3)
    | (go_at_call 28; (with_reducible refine (HCD.out _ qb1 HUB3.out (nests_up HN1.out (HU12.out.trans HU23.out))).mono ?_); rintro r w4 ⟨rfl, rfl⟩)
    | (go_at_call 28; (with_reducible refine (HCD.out _ qb2 HUB3.out (nests_up HN2.out HU23.out)).mono ?_); rintro r w4 ⟨rfl, rfl⟩))
  go_ret
  exact ⟨rfl, HUB3.out⟩

theorem R_le {s : Sy.Lts} (hR : Sy.Right s) (k : Nat) : ∀ x ∈ Rd.R s k, x ≤ 1000000 := by
  intro x hx
  rw [← Rd.R_canon s k] at hx
  obtain ⟨i, hi, rfl⟩ := List.mem_iff_getElem.1 hx
  have hi' : i < (Rd.R s k).length := by rw [Rd.canon_len] at hi; exact hi
  have h1 := Rd.canon_lt (Rd.R s k) i hi'
  have h2 := Rd.seen_len (Rd.R s k)
  have h3 := Rd.R_len s k
  have h4 := hR.n1
  have e : (Rd.canon (Rd.R s k))[i] = (Rd.canon (Rd.R s k)).getD i 0 := getD_of 0 hi
  rw [e]
  omega

set_option maxHeartbeats 16000000 in
set_option maxRecDepth 100000 in
theorem lastLaw_ok (s : Sy.Lts) (se : Value) (a : Nat → Addr) (w : World) (h80 : s.n ≤ 80) (h600 : (s.es.length : Int) ≤ 600) (hr : Sy.right s = true) (hS : Set14 w s se a) :
    Calls Tryz.prog 9 #[sysV s se] w (Good w) := by
  obtain ⟨ao, cap, rfl⟩ := ls3_shape hS.arg
  have hA : ∀ W, Up w W → Calls Tryz.prog 10 #[] W fun r w' => r = .returned (.bool true) ∧ Up W w' := fun W hu => alive_any (hS.tab.up hu) (hu.cell hS.typ) (hu.cell hS.sys)
  have hL := all_yes hr hS.tab hS.typ hS.arg hS.sys hS.len
  have hR := (Sy.right_iff s).1 hr
  have hCL : ∀ W, Up w W → Calls Tryz.prog 30 #[sysV s (.slice ao s.es.length cap)] W (ClassesOk s W s.n.toNat) := fun W hu => classes_ok s _ _ _ W hr (hS.arg.up hu) (hu.cell hS.sys) hS.len
  have HR := Lib.hid hR
  obtain ⟨n, hn⟩ : ∃ n : Nat, s.n = (n : Nat) := ⟨s.n.toNat, by have := hR.n0; omega⟩
  have hn1 : n ≤ 80 := by omega
  have hnn : s.n.toNat = n := by rw [hn]; rfl
  have HNN := Lib.hid hnn
  have HSN := Lib.hid hn
  rw [hnn] at hCL
  obtain ⟨L, hLL⟩ : ∃ L, L = s.es.length := ⟨_, rfl⟩
  have HA := Lib.hid hA
  unfold sysV at hCL ⊢
  rw [← hLL] at h600 hL hCL ⊢
  have HCI : Hid (∀ W v c, Lst W v (c.map Int.ofNat) → Rd.canon c = c → (∀ x ∈ c, x ≤ 1000000) → c.length = n → Calls Tryz.prog 32 #[.agg #[.int .i64 (n : Int), .int .i64 s.m, .int .i64 s.start, .slice ao L cap], v] W fun r w' => r = .returned (.bool true) ∧ Up W w') := Lib.hid (fun W v c h1 h2 h3 h4 => by
    have := sysClasses_yes (s := s) (ao := ao) (L := L) (cap := cap) hn h1 h2 h3 h4 (by omega)
    rw [hn] at this; exact this)
  rw [hn] at hL hCL h80 ⊢
  have HL := Lib.hid hL
  have HCL := Lib.hid hCL
  obtain ⟨K0, hK0⟩ : ∃ K0, K0 = Rd.last s + 1 := ⟨_, rfl⟩
  have HK0 := Lib.hid hK0
  rw [← hK0] at HL
  have hK1 : 0 < K0 := by omega
  have q0 : ((K0 : Int) == 0) = false := by simp; omega
  have hK2 : K0 ≤ 80 ∧ K0 ≤ max n 1 := by
    by_cases h0 : 0 < s.n.toNat
    · have := Rd.last_lt s h0; omega
    · have := last_zero (s := s) (by omega); omega
  obtain ⟨hK2, hK3⟩ := hK2
  have q1 : decide ((80 : Int) < (n : Int)) = false := by simp; omega
  have q2 : decide ((600 : Int) < (L : Int)) = false := by simp; omega
  clear hK0 hS hL hCL hA hR hr hn hnn hLL h80 h600
  go_enter Tryz.func9, Tryz.ntmps9
  go_upto_region 5 with (first
    | (go_at_call 11; refine HL.out.mono ?_; rintro r w1 ⟨av, cv, vs, rfl, hu1, hb1, ho1, hrw1⟩; (obtain ⟨⟨c0, c1, c2, c3⟩, -⟩ := four_cells hb1); rw [HK0.out] at ho1; (obtain ⟨g, cap1, he, hrd⟩ := round_rowsL ho1 hrw1 HNN.out); rw [← HK0.out] at he hrd; simp only [Value.slice.injEq, true_and] at he; (obtain ⟨rfl, rfl⟩ := he); (have HRD := Lib.hid hrd); (have HU1 := Lib.hid hu1); (have HB1 := Lib.hid hb1); clear ho1 hrw1 hu1 hrd)
    | (go_at_call 30; refine (HCL.out _ HU1.out).mono ?_; rintro r w2 ⟨a2, cc2, rfl, HO, hu2⟩; (have HU2 := Lib.hid hu2); clear hu2 c0 c1 c2 c3 hb1))
  obtain ⟨ul, hcl, al, cl, gl, ol, rfl, hal, hxl, hll⟩ := HRD.out (K0 - 1) (by omega)
  have dl := HU2.out.cell hcl
  have HSI : Hid (∀ W, Up w2 W → Calls Tryz.prog 31 #[.slice al n cl, .slice a2 n cc2] W (Same W true)) := Lib.hid (fun W hu => by
    have e : K0 - 1 = Rd.last s := by rw [HK0.out]; rfl
    have h1 := hll.up (HU2.out.trans hu)
    rw [e] at h1
    have h2 := hu.owns HO.out
    have e2 : ints (Rd.R s (Rd.last s)) = ((Rd.R s (Rd.last s)).map Int.ofNat).map (Value.int .i64) := by simp [ints]
    have e3 : n = ((Rd.R s (Rd.last s)).map Int.ofNat).length := by rw [List.length_map, Rd.R_len, HNN.out]
    refine sameInts_same (by rw [← e3]; omega) h1 ?_
    rw [e2] at h2
    exact owns_lst h2)
  have cB := four_cells ((HU2.out.block _ (lt_of_block' HB1.out)).trans HB1.out)
  obtain ⟨⟨c0, c1, c2, c3⟩, -⟩ := cB
  clear hcl hal hxl hll
  have qm : (K0 : Int) ≤ max (n : Int) 1 := by omega
  have qm2 : decide (max (n : Int) 1 < (K0 : Int)) = false := by simp; omega
  go_upto_region 9 with (go_at_call 31; (with_reducible refine (HSI.out _ (Up.refl _)).mono ?_); rintro r w3 ⟨rfl, q3, rfl⟩)
  have HU3 : Hid (Up w2 (w2.drewN q3)) := Lib.hid ((Up.refl w2).drewN q3)
  obtain ⟨w3, hw3⟩ : ∃ w3, w3 = w2.drewN q3 := ⟨_, rfl⟩
  rw [← hw3] at HU3 ⊢
  have HUW := Lib.hid (HU1.out.trans (HU2.out.trans HU3.out))
  have HCB : Hid (∀ W, Up w3 W → W.cell? ⟨w.heap.size, 0, none⟩ = some (.int .i64 (n : Nat)) ∧ W.cell? ⟨w.heap.size, 1, none⟩ = some (.int .i64 s.m) ∧ W.cell? ⟨w.heap.size, 2, none⟩ = some (.int .i64 s.start) ∧ W.cell? ⟨w.heap.size, 3, none⟩ = some (.slice ao L cap)) := Lib.hid (fun W hu => ⟨(HU3.out.trans hu).cell c0, (HU3.out.trans hu).cell c1, (HU3.out.trans hu).cell c2, (HU3.out.trans hu).cell c3⟩)
  have HRW : Hid (∀ k, k < K0 → ∃ ak ck gk ok, w3.cell? ⟨g, k, none⟩ = some (.slice ak n ck) ∧ (0 < n → ak = some ⟨gk, ok, none⟩) ∧ (∀ i, i < n → w3.cell? ⟨gk, ok + i, none⟩ = some (.int .i64 (((Rd.R s k).getD i 0 : Nat) : Int))) ∧ Lst w3 (.slice ak n ck) ((Rd.R s k).map Int.ofNat)) := Lib.hid (fun k hk => by
    obtain ⟨uk, hck, ak, ck, gk, ok, rfl, h1, h2, h3⟩ := HRD.out k hk
    have hu := HU2.out.trans HU3.out
    exact ⟨ak, ck, gk, ok, hu.cell hck, h1, fun i hi => hu.cell (h2 i hi), h3.up hu⟩)
  obtain ⟨bs, hbs⟩ : ∃ b, b = w.heap.size := ⟨_, rfl⟩
  rw [← hbs] at HCB ⊢
  clear hw3 hbs c0 c1 c2 c3 dl HB1 HSI HCL HL HO qm qm2 HRD
  go_wp2_with fail
  go_loopw [7] (fun i wk => ∃ k : Nat, i = .int .i64 k ∧ k ≤ K0 ∧ Up w3 wk) (fun i _ => K0 - (intOf i).toNat)
  case atStart => exact ⟨0, rfl, Nat.zero_le _, Up.refl _⟩
  case round =>
    obtain ⟨k, rfl, hk, hu⟩ := hrel
    rename World => wk
    by_cases hlt : k < K0
    · obtain ⟨ak, ck, gk, ok, hck, hak, hxk, hlk⟩ := HRW.out k hlt
      have dk := hu.cell hck
      obtain ⟨c0, c1, c2, c3⟩ := HCB.out wk hu
      have HXK := Lib.hid hxk
      have HAK := Lib.hid hak
      have HCK : Hid (∀ W, Up wk W → Calls Tryz.prog 32 #[.agg #[.int .i64 (n : Int), .int .i64 s.m, .int .i64 s.start, .slice ao L cap], .slice ak n ck] W fun r w' => r = .returned (.bool true) ∧ Up W w') := Lib.hid (fun W hW => HCI.out W _ _ (hlk.up (hu.trans hW)) (Rd.R_canon s k) (R_le HR.out k) (by rw [Rd.R_len, HNN.out]))
      have HTK : Hid (∀ W, Up wk W → Calls Tryz.prog 33 #[.slice ak n ck] W fun r w' => r = .returned (.int .i64 (Rd.cls (Rd.R s k) : Nat)) ∧ Up W w') := Lib.hid (fun W hW => tog_any (hlk.up (hu.trans hW)) (R_le HR.out k) (by rw [Rd.R_len, HNN.out]; omega))
      have HU := Lib.hid hu
      clear hck hak hxk hlk hu
      by_cases hk0 : k = 0
      · subst hk0
        have qk1 : ((0 : Nat) : Int) = 0 := rfl
        by_cases hd : 0 < n
        · have HT0 := HTK.out
          rw [cls_zero s (by rw [HNN.out]; exact hd)] at HT0
          have hd2 : decide (0 < n) = true := by simpa using hd
          have HTK := Lib.hid HT0
          clear HT0
          go_upto_region 12 with fail
          refine wp_region_quiet_in (fun w' => Up wk w') (by kernel_rfl) (by kernel_rfl) (Up.refl _).drew ?_
          iterate 41
            refine WQ.step (fun K hK => ?_)
            go_simp
            first
              | (refine hK _ ?_
                 clear hK K)
              | (apply Exists.intro
                 refine ⟨?_, hK _ ?_⟩
                 · intro w' hw'
                   have f0 := hw'.cell c0
                   have f1 := hw'.cell c1
                   have f2 := hw'.cell c2
                   have f3 := hw'.cell c3
                   have f4 := hw'.cell dk
                   first
                     | (go_at_call 32; (with_reducible refine (HCK.out _ hw').mono ?_); rintro r w4 ⟨rfl, hu4⟩; exact ⟨rfl, hw'.trans hu4⟩)
                     | (go_at_call 33; (with_reducible refine (HTK.out _ hw').mono ?_); rintro r w4 ⟨rfl, hu4⟩; exact ⟨rfl, hw'.trans hu4⟩)
                     | (go_simp
                        first | done | rfl | exact ⟨rfl, rfl⟩)
                 clear hK K)
          refine WQ.nil ?_
          intro w5 hu5
          have HU5 := Lib.hid (HU.out.trans hu5)
          clear hu5
          go_wp2_with fail
          go_loopw [8] (fun i wp => i = .int .i64 0 ∧ Up w5 wp) (fun _ _ => 0)
          case atStart => exact ⟨rfl, Up.refl _⟩
          case round =>
            obtain ⟨rfl, hup⟩ := hrel
            rename World => wp
            go_wp2_with fail
            go_roundw
            case rel => exact ⟨1, by go_num, by omega, HU5.out.trans hup⟩
            case measure => simp [intOf]; omega
        · have hd2 : decide (0 < n) = false := by simpa using hd
          go_upto_region 12 with fail
          refine wp_region_quiet_in (fun w' => Up wk w') (by kernel_rfl) (by kernel_rfl) (Up.refl _).drew ?_
          iterate 41
            refine WQ.step (fun K hK => ?_)
            go_simp
            first
              | (refine hK _ ?_
                 clear hK K)
              | (apply Exists.intro
                 refine ⟨?_, hK _ ?_⟩
                 · intro w' hw'
                   have f0 := hw'.cell c0
                   have f1 := hw'.cell c1
                   have f2 := hw'.cell c2
                   have f3 := hw'.cell c3
                   have f4 := hw'.cell dk
                   first
                     | (go_at_call 32; (with_reducible refine (HCK.out _ hw').mono ?_); rintro r w4 ⟨rfl, hu4⟩; exact ⟨rfl, hw'.trans hu4⟩)
                     | (go_simp
                        first | done | rfl | exact ⟨rfl, rfl⟩)
                 clear hK K)
          refine WQ.nil ?_
          intro w5 hu5
          have HU5 := Lib.hid (HU.out.trans hu5)
          clear hu5
          go_wp2_with fail
          go_loopw [8] (fun i wp => i = .int .i64 0 ∧ Up w5 wp) (fun _ _ => 0)
          case atStart => exact ⟨rfl, Up.refl _⟩
          case round =>
            obtain ⟨rfl, hup⟩ := hrel
            rename World => wp
            go_wp2_with fail
            go_roundw
            case rel => exact ⟨1, by go_num, by omega, HU5.out.trans hup⟩
            case measure => simp [intOf]; omega
      · obtain ⟨a1, cc1, g1, o1, hc1, ha1, hx1, hl1⟩ := HRW.out (k - 1) (by omega)
        have dk1 := HU.out.cell hc1
        have HXK1 := Lib.hid hx1
        have HAK1 := Lib.hid ha1
        have HT1 : Hid (∀ W, Up wk W → Calls Tryz.prog 33 #[.slice a1 n cc1] W fun r w' => r = .returned (.int .i64 (Rd.cls (Rd.R s (k - 1)) : Nat)) ∧ Up W w') := Lib.hid (fun W hW => tog_any (hl1.up (HU.out.trans hW)) (R_le HR.out (k - 1)) (by rw [Rd.R_len, HNN.out]; omega))
        have hless := cls_less (s := s) (k := k - 1) (by rw [← HK0.out]; omega)
        rw [show k - 1 + 1 = k by omega] at hless
        obtain ⟨A, hA1⟩ : ∃ A, A = Rd.cls (Rd.R s k) := ⟨_, rfl⟩
        obtain ⟨A1, hA2⟩ : ∃ A1, A1 = Rd.cls (Rd.R s (k - 1)) := ⟨_, rfl⟩
        rw [← hA1] at HTK hless
        rw [← hA2] at HT1 hless
        have qa : decide ((A : Int) ≤ (A1 : Int)) = false := by simp; omega
        have qk0 : ((k : Int) == 0) = false := by simp; omega
        have qk1 : decide (0 < (k : Int)) = true := by simp; omega
        have qk6 : 0 < k := by omega
        have qk8 : (1 : Int) ≤ (k : Int) := by omega
        have qk7 : decide (0 < k) = true := by simp; omega
        have qa2 : ¬ A ≤ A1 := by omega
        have qa3 : decide (A ≤ A1) = false := by simp; omega
        have qk2 : IntKind.i64.wrap ((k : Int) - 1) = (k : Int) - 1 := by simp [IntKind.wrap, IntKind.bits, IntKind.signed]; omega
        have qk3 : ((k : Int) - 1).toNat = k - 1 := by omega
        have qk4 : (0 : Int) ≤ (k : Int) - 1 := by omega
        have qk5 : (k : Int) - 1 < (K0 : Int) := by omega
        clear hc1 ha1 hx1 hl1 hA1 hA2 hless
        go_upto_region 12 with fail
        refine wp_region_quiet_in (fun w' => Up wk w') (by kernel_rfl) (by kernel_rfl) (Up.refl _).drew ?_
        iterate 41
          refine WQ.step (fun K hK => ?_)
          go_simp
          first
            | (refine hK _ ?_
               clear hK K)
            | (apply Exists.intro
               refine ⟨?_, hK _ ?_⟩
               · intro w' hw'
                 have f0 := hw'.cell c0
                 have f1 := hw'.cell c1
                 have f2 := hw'.cell c2
                 have f3 := hw'.cell c3
                 have f4 := hw'.cell dk
                 have f5 := hw'.cell dk1
                 first
                   | (go_at_call 32; (with_reducible refine (HCK.out _ hw').mono ?_); rintro r w4 ⟨rfl, hu4⟩; exact ⟨rfl, hw'.trans hu4⟩)
                   | (go_at_call 33; (with_reducible refine (HTK.out _ hw').mono ?_); rintro r w4 ⟨rfl, hu4⟩; exact ⟨rfl, hw'.trans hu4⟩)
                   | (go_at_call 33; (with_reducible refine (HT1.out _ hw').mono ?_); rintro r w4 ⟨rfl, hu4⟩; exact ⟨rfl, hw'.trans hu4⟩)
                   | (go_simp
                      first | done | rfl | exact ⟨rfl, rfl⟩)
               clear hK K)
        refine WQ.nil ?_
        intro w5 hu5
        have HU5 := Lib.hid (HU.out.trans hu5)
        have ek := hu5.cell dk
        have ek1 := hu5.cell dk1
        have eb := hu5.cell c0
        clear hu5 qa qa2 qa3 dk dk1 c0 c1 c2 c3
        go_wp2_with fail
        go_loopw [8] (fun i wp => ∃ p : Nat, i = .int .i64 p ∧ p ≤ n ∧ Up w5 wp) (fun i _ => n - (intOf i).toNat)
        case atStart => exact ⟨0, rfl, Nat.zero_le _, Up.refl _⟩
        case round =>
          obtain ⟨p, rfl, hp, hup⟩ := hrel
          rename World => wp
          have ebp := hup.cell eb
          have HUP := Lib.hid hup
          clear hup
          by_cases hlp : p < n
          · go_wp2_with fail
            go_loopw [9] (fun i wr => ∃ q : Nat, i = .int .i64 q ∧ q ≤ p ∧ Up wp wr) (fun i _ => p - (intOf i).toNat)
            case atStart => exact ⟨0, rfl, Nat.zero_le _, Up.refl _⟩
            case round =>
              obtain ⟨q, rfl, hq, huq⟩ := hrel
              by_cases hlq : q < p
              · have e1 := HAK.out (by omega)
                have e2 := HAK1.out (by omega)
                subst e1
                subst e2
                have hqn : q < n := by omega
                have hrq := HUP.out.trans huq
                have h3q := HU5.out.trans hrq
                have d1 := hrq.cell ek
                have d1' := hrq.cell ek1
                have d2 := h3q.cell (HXK.out p hlp)
                have d3 := h3q.cell (HXK.out q hqn)
                have d4 := h3q.cell (HXK1.out p hlp)
                have d5 := h3q.cell (HXK1.out q hqn)
                have hlaw : (Rd.R s k).getD p 0 = (Rd.R s k).getD q 0 → (Rd.R s (k - 1)).getD p 0 = (Rd.R s (k - 1)).getD q 0 := by
                  have := R_stays (s := s) (k := k - 1) (p := p) (q := q) (by rw [HNN.out]; exact hlp) (by rw [HNN.out]; exact hqn)
                  rwa [show k - 1 + 1 = k by omega] at this
                generalize (Rd.R s k).getD p 0 = M at d2 hlaw
                generalize (Rd.R s k).getD q 0 = M2 at d3 hlaw
                generalize (Rd.R s (k - 1)).getD p 0 = N at d4 hlaw
                generalize (Rd.R s (k - 1)).getD q 0 = N2 at d5 hlaw
                have HUQ := Lib.hid (HUP.out.trans huq)
                have HUQ2 := Lib.hid huq
                clear huq hrq h3q
                by_cases hM : M = M2
                · have hN := hlaw hM
                  subst hM
                  subst hN
                  have qb1 : ((M : Int) == (M : Int)) = true := by simp
                  have qb2 : ((N : Int) != (N : Int)) = false := by simp
                  clear hlaw
                  go_upto_region 20 with fail
                  go_quiet (fail)
                  go_wp2_with fail
                  go_roundw
                  case rel => exact ⟨q + 1, by go_num, by omega, HUQ2.out.drewN _⟩
                  case measure => simp [intOf]; omega
                · have qb1 : ((M : Int) == (M2 : Int)) = false := by simp; omega
                  clear hlaw hM
                  go_upto_region 20 with fail
                  go_quiet (fail)
                  go_wp2_with fail
                  go_roundw
                  case rel => exact ⟨q + 1, by go_num, by omega, HUQ2.out.drewN _⟩
                  case measure => simp [intOf]; omega
              · obtain rfl : q = p := by omega
                go_wp2_with fail
                go_roundw
                case rel => exact ⟨q + 1, by go_num, by omega, HUP.out.trans huq⟩
                case measure => simp [intOf]; omega
          · obtain rfl : p = n := by omega
            go_wp2_with fail
            go_roundw
            case rel => exact ⟨k + 1, by go_num, by omega, HU5.out.trans HUP.out⟩
            case measure => simp [intOf]; omega
    · obtain rfl : k = K0 := by omega
      go_wp2_with (go_at_call 10; refine (HA.out _ (HUW.out.trans hu)).mono ?_; rintro r w4 ⟨rfl, hu4⟩)
      go_ret
      exact ⟨rfl, (HUW.out.trans hu).trans hu4⟩

/-- THE STATEMENT, WALKED. -/
theorem lastLaw_any {s : Sy.Lts} {se : Value} {a : Nat → Addr} {w : World} (hs : Ls3 w se s.es) (hl : s.es.length ≤ maxLen) (S : Sts14 w a) (hT : Tab w) (hG : ErrT w) :
    Calls Tryz.prog 9 #[sysV s se] w (Good w) := by
  have hS : Set14 w s se a := ⟨S, hT, hG, hs, hl⟩
  by_cases h1 : 80 < s.n
  · exact lastLaw_out s se a w (.inl (decide_eq_true h1)) hS
  · by_cases h2 : 600 < (s.es.length : Int)
    · exact lastLaw_out s se a w (.inr ⟨decide_eq_false h1, decide_eq_true h2⟩) hS
    · cases hr : Sy.right s
      · exact lastLaw_bad s se a w (by omega) (by omega) hr hS
      · exact lastLaw_ok s se a w (by omega) (by omega) hr hS

end Go.Proofs.YtpmdjicaefmbnaaGreatDoor
