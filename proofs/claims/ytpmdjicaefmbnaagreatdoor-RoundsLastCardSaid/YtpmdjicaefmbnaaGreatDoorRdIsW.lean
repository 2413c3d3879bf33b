/- The statement RoundsIs, walked. -/
import Derived.Test.YtpmdjicaefmbnaaGreatDoorRdAlive
namespace Go.Proofs.YtpmdjicaefmbnaaGreatDoor
open Go.RowKit Go.Sort Go.Maps
set_option linter.unusedVariables false
set_option linter.unusedSimpArgs false

/-- What is laid, and what the argument is: handed to a walk together. -/
structure Set14 (w : World) (s : Sy.Lts) (se : Value) (a : Nat → Addr) : Prop where
  sts : Sts14 w a
  tab : Tab w
  typ : ErrT w
  arg : Ls3 w se s.es
  len : s.es.length ≤ maxLen

theorem Set14.up {w w1 : World} {s : Sy.Lts} {se : Value} {a : Nat → Addr} (h : Set14 w s se a) (hu : Up w w1) : Set14 w1 s se a :=
  ⟨h.sts.up hu, h.tab.up hu, hu.cell h.typ, h.arg.up hu, h.len⟩

theorem Set14.sys {w : World} {s : Sy.Lts} {se : Value} {a : Nat → Addr} (h : Set14 w s se a) : w.cell? ⟨0, 0, none⟩ = some (.iface 299 (.pointer (some (a 13)))) := (h.sts.sent 13 (by decide)).var
theorem Set14.idx {w : World} {s : Sy.Lts} {se : Value} {a : Nat → Addr} (h : Set14 w s se a) : w.cell? ⟨2, 0, none⟩ = some (.iface 299 (.pointer (some (a 2)))) := (h.sts.sent 2 (by decide)).var

set_option maxHeartbeats 4000000 in
set_option maxRecDepth 100000 in
theorem is_out (s : Sy.Lts) (se : Value) (p q : Int) (a : Nat → Addr) (w : World) (hg : 600 < s.es.length ∨ 200 < s.n ∧ s.n ≤ 1000) (hS : Set14 w s se a) :
    Calls Tryz.prog 7 #[sysV s se, .int .i64 p, .int .i64 q] w (Good w) := by
  obtain ⟨ao, cap, rfl⟩ := ls3_shape hS.arg
  have HA : Hid (∀ W, Up w W → Calls Tryz.prog 10 #[] W fun r w' => r = .returned (.bool true) ∧ Up W w') := Lib.hid (fun W hu => alive_any (hS.tab.up hu) (hu.cell hS.typ) (hu.cell hS.sys))
  obtain ⟨L, hL⟩ : ∃ L, L = s.es.length := ⟨_, rfl⟩
  rw [← hL] at hg ⊢
  clear hS hL
  unfold sysV
  by_cases h600 : 600 < L
  · go_enter Tryz.func7, Tryz.ntmps7
    go_wp2_with (go_at_call 10; refine (HA.out _ ((Up.refl w).alloc _)).mono ?_; rintro r w1 ⟨rfl, hu1⟩)
    go_ret
    exact ⟨rfl, ((Up.refl w).alloc _).trans hu1⟩
  · have q1 : decide ((200 : Int) < s.n) = true := by simp; omega
    have q2 : decide (s.n ≤ (1000 : Int)) = true := by simp; omega
    have q3 : decide ((600 : Int) < (L : Int)) = false := by simp; omega
    go_enter Tryz.func7, Tryz.ntmps7
    go_wp2_with (go_at_call 10; refine (HA.out _ ((Up.refl w).alloc _)).mono ?_; rintro r w1 ⟨rfl, hu1⟩)
    go_ret
    exact ⟨rfl, ((Up.refl w).alloc _).trans hu1⟩

theorem there_cases (n p q : Int) : (decide (0 ≤ p) = false) ∨ (decide (0 ≤ p) = true ∧ decide (p < n) = false) ∨ (decide (0 ≤ p) = true ∧ decide (p < n) = true ∧ decide (0 ≤ q) = false) ∨
    (decide (0 ≤ p) = true ∧ decide (p < n) = true ∧ decide (0 ≤ q) = true ∧ decide (q < n) = false) ∨ (decide (0 ≤ p) = true ∧ decide (p < n) = true ∧ decide (0 ≤ q) = true ∧ decide (q < n) = true) := by
  simp only [decide_eq_true_eq, decide_eq_false_iff_not]
  omega

theorem guard_cases {n : Int} (h : n ≤ 200 ∨ 1000 < n) : (decide (200 < n) = false) ∨ (decide (200 < n) = true ∧ decide (n ≤ 1000) = false) := by
  simp only [decide_eq_true_eq, decide_eq_false_iff_not]
  omega

/-- Rank of a system that is none, its argument in a box. -/
theorem rank_no {s : Sy.Lts} {ao : Option Addr} {k cap : Nat} {a : Nat → Addr} {w : World} (p q : Int) (hr : Sy.right s = false) (hS : Set14 w s (.slice ao k cap) a) :
    Calls Tryz.prog 23 #[.agg #[.int .i64 s.n, .int .i64 s.m, .int .i64 s.start, .slice ao k cap], .int .i64 p, .int .i64 q] (w.alloc (.cells #[.int .i64 s.n, .int .i64 s.m, .int .i64 s.start, .slice ao k cap] 24)) fun r w1 =>
      ∃ qb, r = .returned (.tuple #[.int .i64 0, faultAt qb]) ∧ Up w w1 ∧ (w1.heap[w.heap.size]? = some (.cells #[.int .i64 s.n, .int .i64 s.m, .int .i64 s.start, .slice ao k cap] 24 (0, 0))) ∧ ∃ pb, FaultE w1 qb layerRounds (faultAt pb) ∧ FaultE w1 pb layerSystem (.iface 299 (.pointer (some (a 13)))) := by
  have hu := (Up.refl w).alloc (.cells #[.int .i64 s.n, .int .i64 s.m, .int .i64 s.start, .slice ao k cap] 24)
  have hS1 := hS.up hu
  refine (rankTop_any s (.slice ao k cap) p q _ _ _ _ hS1.tab hS1.typ hS1.arg hS1.sys hS1.idx hS1.len).mono ?_
  rintro r w1 ⟨hu1, ⟨h1, -⟩ | ⟨h1, -⟩ | ⟨-, qb, pb, rfl, -, -, hf1, hf2⟩⟩
  · exact absurd (hr.symm.trans h1) (by decide)
  · exact absurd (hr.symm.trans h1) (by decide)
  · exact ⟨qb, rfl, hu.trans hu1, (hu1.block _ (by simp)).trans (heap_alloc_new w _), pb, hf1, hf2⟩

/-- Rank of a right system at two states, its argument in a box. -/
theorem rank_yes {s : Sy.Lts} {ao : Option Addr} {k cap : Nat} {a : Nat → Addr} {w : World} {p q : Int} (hr : Sy.right s = true) (ht : There s p q) (hS : Set14 w s (.slice ao k cap) a) :
    Calls Tryz.prog 23 #[.agg #[.int .i64 s.n, .int .i64 s.m, .int .i64 s.start, .slice ao k cap], .int .i64 p, .int .i64 q] (w.alloc (.cells #[.int .i64 s.n, .int .i64 s.m, .int .i64 s.start, .slice ao k cap] 24)) fun r w1 =>
      r = .returned (.tuple #[.int .i64 (Rd.rank s p.toNat q.toNat), .nilIface]) ∧ Up w w1 ∧ (w1.heap[w.heap.size]? = some (.cells #[.int .i64 s.n, .int .i64 s.m, .int .i64 s.start, .slice ao k cap] 24 (0, 0))) := by
  have hu := (Up.refl w).alloc (.cells #[.int .i64 s.n, .int .i64 s.m, .int .i64 s.start, .slice ao k cap] 24)
  have hS1 := hS.up hu
  refine (rankTop_any s (.slice ao k cap) p q _ _ _ _ hS1.tab hS1.typ hS1.arg hS1.sys hS1.idx hS1.len).mono ?_
  rintro r w1 ⟨hu1, ⟨-, -, rfl⟩ | ⟨-, h1, -⟩ | ⟨h1, -⟩⟩
  · exact ⟨rfl, hu.trans hu1, (hu1.block _ (by simp)).trans (heap_alloc_new w _)⟩
  · exact absurd ht h1
  · exact absurd (hr.symm.trans h1) (by decide)

/-- Rank of a right system at numbers that are not both states, its argument in a box. -/
theorem rank_off {s : Sy.Lts} {ao : Option Addr} {k cap : Nat} {a : Nat → Addr} {w : World} {p q : Int} (hr : Sy.right s = true) (ht : ¬ There s p q) (hS : Set14 w s (.slice ao k cap) a) :
    Calls Tryz.prog 23 #[.agg #[.int .i64 s.n, .int .i64 s.m, .int .i64 s.start, .slice ao k cap], .int .i64 p, .int .i64 q] (w.alloc (.cells #[.int .i64 s.n, .int .i64 s.m, .int .i64 s.start, .slice ao k cap] 24)) fun r w1 =>
      ∃ pb, r = .returned (.tuple #[.int .i64 0, faultAt pb]) ∧ Up w w1 ∧ (w1.heap[w.heap.size]? = some (.cells #[.int .i64 s.n, .int .i64 s.m, .int .i64 s.start, .slice ao k cap] 24 (0, 0))) ∧ FaultE w1 pb layerRounds (.iface 299 (.pointer (some (a 2)))) := by
  have hu := (Up.refl w).alloc (.cells #[.int .i64 s.n, .int .i64 s.m, .int .i64 s.start, .slice ao k cap] 24)
  have hS1 := hS.up hu
  refine (rankTop_any s (.slice ao k cap) p q _ _ _ _ hS1.tab hS1.typ hS1.arg hS1.sys hS1.idx hS1.len).mono ?_
  rintro r w1 ⟨hu1, ⟨-, h1, -⟩ | ⟨-, -, pb, rfl, -, hf⟩ | ⟨h1, -⟩⟩
  · exact absurd h1 ht
  · exact ⟨pb, rfl, hu.trans hu1, (hu1.block _ (by simp)).trans (heap_alloc_new w _), hf⟩
  · exact absurd (hr.symm.trans h1) (by decide)

set_option maxHeartbeats 16000000 in
set_option maxRecDepth 100000 in
theorem is_bad (s : Sy.Lts) (se : Value) (p q : Int) (a : Nat → Addr) (w : World) (h600 : s.es.length ≤ 600) (hn : s.n ≤ 200 ∨ 1000 < s.n) (hr : Sy.right s = false) (hS : Set14 w s se a) :
    Calls Tryz.prog 7 #[sysV s se, .int .i64 p, .int .i64 q] w (Good w) := by
  obtain ⟨ao, cap, rfl⟩ := ls3_shape hS.arg
  have HA : Hid (∀ W, Up w W → Calls Tryz.prog 10 #[] W fun r w' => r = .returned (.bool true) ∧ Up W w') := Lib.hid (fun W hu => alive_any (hS.tab.up hu) (hu.cell hS.typ) (hu.cell hS.sys))
  have HK := Lib.hid (rank_no p q hr hS)
  have HC : Hid (∀ W, Up w W → Calls Tryz.prog 26 #[.agg #[.int .i64 s.n, .int .i64 s.m, .int .i64 s.start, .slice ao s.es.length cap]] W fun r w' => (∃ pb, r = .returned (faultAt pb)) ∧ Up W w') := Lib.hid (fun W hu => by
    refine (check_any s _ _ _ W (hS.arg.up hu) (hu.cell hS.sys) hS.len).mono ?_
    rintro r w' ⟨hu1, ⟨h1, -⟩ | ⟨-, rfl, -⟩⟩
    · exact absurd (hr.symm.trans h1) (by decide)
    · exact ⟨⟨_, rfl⟩, hu1⟩)
  have HS := Lib.hid hS
  have hE := hS.sys
  obtain ⟨L, hL⟩ : ∃ L, L = s.es.length := ⟨_, rfl⟩
  rw [← hL] at HK HC h600 ⊢
  clear hS hL hr
  unfold sysV
  have g1 : decide ((600 : Int) < (L : Int)) = false := by simp; omega
  have h1 := guard_cases hn
  have h2 := there_cases s.n p q
  clear hn
  rcases h1 with g2 | ⟨g2, g3⟩ <;> rcases h2 with q1 | ⟨q1, q2⟩ | ⟨q1, q2, q3⟩ | ⟨q1, q2, q3, q4⟩ | ⟨q1, q2, q3, q4⟩
  all_goals
    go_enter Tryz.func7, Tryz.ntmps7
    go_wp2_with (first
      | (go_at_call 23; refine HK.out.mono ?_; rintro r w1 ⟨qb, rfl, hu1, hb1, pb, hf1, hf2⟩; (obtain ⟨⟨b0, b1, b2, b3⟩, -⟩ := four_cells hb1); (have HB1 := Lib.hid hb1); (have HF1 := Lib.hid hf1); (have HF2 := Lib.hid hf2); clear hb1 hf1 hf2; unfold faultAt)
      | (go_at_call 26; refine (HC.out _ hu1).mono ?_; rintro r w2 ⟨⟨pb2, rfl⟩, hu2⟩; (obtain ⟨⟨b0', b1', b2', b3'⟩, -⟩ := four_cells ((hu2.block _ (lt_of_block' HB1.out)).trans HB1.out)); unfold faultAt)
      | (go_at_call 10; refine (HA.out _ (hu1.trans hu2)).mono ?_; rintro r w3 ⟨rfl, hu3⟩; (have hE3 := ((hu1.trans hu2).trans hu3).cell hE))
      | (go_at_call 27; refine (nest_is (nests_of (HF1.out.up (hu2.trans hu3)) (HF2.out.up (hu2.trans hu3)))).mono ?_; rintro e w4 ⟨rfl, rfl⟩)
      | (go_at_call 28; refine (code_14 (nests_of (HF1.out.up (hu2.trans hu3)) (HF2.out.up (hu2.trans hu3))) (HS.out.up ((hu1.trans hu2).trans hu3)).sts).mono ?_; rintro e w5 ⟨rfl, rfl⟩))
    go_ret
    exact ⟨rfl, (hu1.trans hu2).trans hu3⟩

set_option maxHeartbeats 16000000 in
set_option maxRecDepth 100000 in
theorem is_there (s : Sy.Lts) (se : Value) (p q : Int) (a : Nat → Addr) (w : World) (h600 : s.es.length ≤ 600) (hn : s.n ≤ 200) (hr : Sy.right s = true) (ht : There s p q) (hS : Set14 w s se a) :
    Calls Tryz.prog 7 #[sysV s se, .int .i64 p, .int .i64 q] w (Good w) := by
  obtain ⟨ao, cap, rfl⟩ := ls3_shape hS.arg
  have HA : Hid (∀ W, Up w W → Calls Tryz.prog 10 #[] W fun r w' => r = .returned (.bool true) ∧ Up W w') := Lib.hid (fun W hu => alive_any (hS.tab.up hu) (hu.cell hS.typ) (hu.cell hS.sys))
  have HK := Lib.hid (rank_yes hr ht hS)
  have HC : Hid (∀ W, Up w W → Calls Tryz.prog 26 #[.agg #[.int .i64 s.n, .int .i64 s.m, .int .i64 s.start, .slice ao s.es.length cap]] W fun r w' => r = .returned .nilIface ∧ Up W w') := Lib.hid (fun W hu => by
    refine (check_any s _ _ _ W (hS.arg.up hu) (hu.cell hS.sys) hS.len).mono ?_
    rintro r w' ⟨hu1, ⟨-, rfl⟩ | ⟨h1, -⟩⟩
    · exact ⟨rfl, hu1⟩
    · exact absurd (hr.symm.trans h1) (by decide))
  have hE := hS.sys
  obtain ⟨L, hL⟩ : ∃ L, L = s.es.length := ⟨_, rfl⟩
  obtain ⟨R, hR⟩ : ∃ R, R = Rd.rank s p.toNat q.toNat := ⟨_, rfl⟩
  rw [← hR] at HK
  rw [← hL] at HK HC h600 ⊢
  have g1 : decide ((600 : Int) < (L : Int)) = false := by simp; omega
  have g2 : decide ((200 : Int) < s.n) = false := by simp; omega
  unfold There at ht
  have q1 : decide (0 ≤ p) = true := by simp; omega
  have q2 : decide (p < s.n) = true := by simp; omega
  have q3 : decide (0 ≤ q) = true := by simp; omega
  have q4 : decide (q < s.n) = true := by simp; omega
  clear hS hL hR hr ht hn
  unfold sysV
  go_enter Tryz.func7, Tryz.ntmps7
  go_wp2_with (first
    | (go_at_call 23; refine HK.out.mono ?_; rintro r w1 ⟨rfl, hu1, hb1⟩; (obtain ⟨⟨b0, b1, b2, b3⟩, -⟩ := four_cells hb1); (have HB1 := Lib.hid hb1); clear hb1)
    | (go_at_call 26; refine (HC.out _ hu1).mono ?_; rintro r w2 ⟨rfl, hu2⟩; (obtain ⟨⟨b0', b1', b2', b3'⟩, -⟩ := four_cells ((hu2.block _ (lt_of_block' HB1.out)).trans HB1.out)))
    | (go_at_call 10; refine (HA.out _ (hu1.trans hu2)).mono ?_; rintro r w3 ⟨rfl, hu3⟩; (have hE3 := ((hu1.trans hu2).trans hu3).cell hE))
    | (go_at_call 27; refine (is_nil (a 13) _).mono ?_; rintro e w4 ⟨rfl, rfl⟩)
    | (go_at_call 28; refine (code_nil _).mono ?_; rintro e w5 ⟨rfl, rfl⟩))
  go_ret
  exact ⟨rfl, (hu1.trans hu2).trans hu3⟩

set_option maxHeartbeats 16000000 in
set_option maxRecDepth 100000 in
theorem is_off (s : Sy.Lts) (se : Value) (p q : Int) (a : Nat → Addr) (w : World) (h600 : s.es.length ≤ 600) (hn : s.n ≤ 200) (hr : Sy.right s = true) (ht : ¬ There s p q) (hS : Set14 w s se a) :
    Calls Tryz.prog 7 #[sysV s se, .int .i64 p, .int .i64 q] w (Good w) := by
  obtain ⟨ao, cap, rfl⟩ := ls3_shape hS.arg
  have HA : Hid (∀ W, Up w W → Calls Tryz.prog 10 #[] W fun r w' => r = .returned (.bool true) ∧ Up W w') := Lib.hid (fun W hu => alive_any (hS.tab.up hu) (hu.cell hS.typ) (hu.cell hS.sys))
  have HK := Lib.hid (rank_off hr ht hS)
  have HC : Hid (∀ W, Up w W → Calls Tryz.prog 26 #[.agg #[.int .i64 s.n, .int .i64 s.m, .int .i64 s.start, .slice ao s.es.length cap]] W fun r w' => r = .returned .nilIface ∧ Up W w') := Lib.hid (fun W hu => by
    refine (check_any s _ _ _ W (hS.arg.up hu) (hu.cell hS.sys) hS.len).mono ?_
    rintro r w' ⟨hu1, ⟨-, rfl⟩ | ⟨h1, -⟩⟩
    · exact ⟨rfl, hu1⟩
    · exact absurd (hr.symm.trans h1) (by decide))
  have HS := Lib.hid hS
  have hE := hS.sys
  have HN : Hid (∀ W v, Up w W → Wraps W v (a 2) → Calls Tryz.prog 27 #[v, .iface 299 (.pointer (some (a 13)))] W fun e w' => e = .returned (.bool false) ∧ W = w') := Lib.hid (fun W v hu hv => by
    obtain ⟨c1, t1, h1⟩ := ((hS.up hu).sts.sent 2 (by decide)).blk
    obtain ⟨c2, t2, h2⟩ := ((hS.up hu).sts.sent 13 (by decide)).blk
    exact is_other hv (hS.sts.ne 2 13 (by decide) (by decide) (by decide)) h1 h2)
  obtain ⟨L, hL⟩ : ∃ L, L = s.es.length := ⟨_, rfl⟩
  rw [← hL] at HK HC h600 ⊢
  have g1 : decide ((600 : Int) < (L : Int)) = false := by simp; omega
  have g2 : decide ((200 : Int) < s.n) = false := by simp; omega
  have h2 := there_cases s.n p q
  unfold There at ht
  clear hS hL hr hn
  unfold sysV
  rcases h2 with q1 | ⟨q1, q2⟩ | ⟨q1, q2, q3⟩ | ⟨q1, q2, q3, q4⟩ | ⟨q1, q2, q3, q4⟩
  rotate_left 4
  · exact absurd (by simp only [decide_eq_true_eq] at q1 q2 q3 q4; omega) ht
  all_goals
    clear ht
    go_enter Tryz.func7, Tryz.ntmps7
    go_wp2_with (first
      | (go_at_call 23; refine HK.out.mono ?_; rintro r w1 ⟨qb, rfl, hu1, hb1, hf1⟩; (obtain ⟨⟨b0, b1, b2, b3⟩, -⟩ := four_cells hb1); (have HB1 := Lib.hid hb1); (have HF1 := Lib.hid hf1); clear hb1 hf1; unfold faultAt)
      | (go_at_call 26; refine (HC.out _ hu1).mono ?_; rintro r w2 ⟨rfl, hu2⟩; (obtain ⟨⟨b0', b1', b2', b3'⟩, -⟩ := four_cells ((hu2.block _ (lt_of_block' HB1.out)).trans HB1.out)))
      | (go_at_call 10; refine (HA.out _ (hu1.trans hu2)).mono ?_; rintro r w3 ⟨rfl, hu3⟩; (have hE3 := ((hu1.trans hu2).trans hu3).cell hE))
      | (go_at_call 27; refine (HN.out _ _ ((hu1.trans hu2).trans hu3) (wraps_of (HF1.out.up (hu2.trans hu3)))).mono ?_; rintro e w4 ⟨rfl, rfl⟩)
      | (go_at_call 28; refine (code_index (wraps_of (HF1.out.up (hu2.trans hu3))) (HS.out.up ((hu1.trans hu2).trans hu3)).sts).mono ?_; rintro e w5 ⟨rfl, rfl⟩))
    go_ret
    exact ⟨rfl, (hu1.trans hu2).trans hu3⟩

/-- THE STATEMENT, WALKED. -/
theorem is_any {s : Sy.Lts} {se : Value} {a : Nat → Addr} {w : World} (hs : Ls3 w se s.es) (hl : s.es.length ≤ maxLen) (p q : Int) (S : Sts14 w a) (hT : Tab w) (hG : ErrT w) :
    Calls Tryz.prog 7 #[sysV s se, .int .i64 p, .int .i64 q] w (Good w) := by
  have hS : Set14 w s se a := ⟨S, hT, hG, hs, hl⟩
  by_cases hg : 600 < s.es.length ∨ 200 < s.n ∧ s.n ≤ 1000
  · exact is_out s se p q a w hg hS
  · cases hr : Sy.right s
    · exact is_bad s se p q a w (by omega) (by omega) hr hS
    · have hR := (Sy.right_iff s).1 hr
      have h1 := hR.n1
      by_cases ht : There s p q
      · exact is_there s se p q a w (by omega) (by omega) hr ht hS
      · exact is_off s se p q a w (by omega) (by omega) hr ht hS

end Go.Proofs.YtpmdjicaefmbnaaGreatDoor
