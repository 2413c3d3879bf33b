/- Walks: (*Graph).Degree, the law's small, the statement DistinguishBounded. -/
import Derived.Test.YtkcdkfkgjjpaaaaGreatDoorDtCmp
namespace Go.Proofs.YtkcdkfkgjjpaaaaGreatDoor
open Go.RowKit Go.Sort Go.Maps
set_option linter.unusedVariables false
set_option linter.unusedSimpArgs false

/-- The greatest number of steps. -/
def DegDone (s : Sy.Lts) (w : World) (r : Ending) (w' : World) : Prop := ∃ dg : Nat, r = .returned (.int .i64 (dg : Nat)) ∧ (∀ q, q < s.n.toNat → (Sy.steps s q).length ≤ dg) ∧ dg ≤ 1000000 ∧ Up w w'

set_option maxHeartbeats 4000000 in
set_option maxRecDepth 100000 in
theorem degree_any {w : World} {B : Nat} {s : Sy.Lts} (h : GraphAt w B s) (hR : Sy.Right s) :
    Calls Tryz.prog 14 #[.pointer (some ⟨B, 0, none⟩)] w (DegDone s w) := by
  obtain ⟨n, hn⟩ : ∃ n : Nat, s.n = (n : Nat) := ⟨s.n.toNat, by have := hR.n0; omega⟩
  have hn2 : s.n.toNat = n := by omega
  have hn1 : n ≤ 1000 := by have := hR.n1; omega
  have HS := Lib.hid (states_in h)
  rw [hn] at HS
  have HE : Hid (∀ W p, Up w W → p < n → Calls Tryz.prog 44 #[.pointer (some ⟨B, 0, none⟩), .int .i64 (p : Nat)] W (Read2 W (Sy.steps s p))) := Lib.hid (fun W p hW hp => each_in (h.up hW) hR (by omega))
  have HL : Hid (∀ p, (Sy.steps s p).length ≤ 1000000) := Lib.hid (steps_len hR)
  unfold DegDone
  rw [hn2]
  clear h hR hn hn2
  go_enter Tryz.func14, Tryz.ntmps14
  go_wp2_with (go_at_call 43; refine HS.out.mono ?_; rintro r w1 ⟨rfl, hu1⟩)
  go_loopw [7, 3] (fun i v wr => ∃ j dg : Nat, i = .int .i64 j ∧ v = .int .i64 dg ∧ j ≤ n ∧ dg ≤ 1000000 ∧ Up w wr ∧ Hid (∀ q, q < j → (Sy.steps s q).length ≤ dg)) (fun i _ _ => n - (intOf i).toNat)
  case atStart => exact ⟨0, 0, rfl, rfl, Nat.zero_le _, Nat.zero_le _, hu1, Lib.hid (fun q hq => by omega)⟩
  case round =>
    obtain ⟨j, dg, rfl, rfl, hj, hdl, hu, HJ⟩ := hrel
    by_cases hlt : j < n
    · have HC := Lib.hid (HE.out wr j hu hlt)
      have hl := HL.out j
      go_wp2_with (go_at_call 44; refine HC.out.mono ?_; rintro r w2 ⟨v1, rfl, hu2, ao, cap, g, off, rfl, -, -⟩)
      obtain ⟨K, hK⟩ : ∃ K, K = (Sy.steps s j).length := ⟨_, rfl⟩
      have HN : Hid (∀ q, q < j + 1 → (Sy.steps s q).length ≤ max dg K) := Lib.hid (fun q hq => by
        rcases Nat.lt_succ_iff_lt_or_eq.1 hq with h1 | rfl
        · have := HJ.out q h1; omega
        · rw [← hK]; omega)
      rw [← hK] at hl ⊢
      clear hK
      go_roundw
      case rel => exact ⟨j + 1, max dg K, by go_num, by congr 1; omega, by omega, by omega, hu.trans hu2, HN⟩
      case measure => simp [intOf]; omega
    · obtain rfl : j = n := by omega
      go_wp2_with fail
      go_ret
      exact ⟨dg, rfl, HJ.out, hdl, hu⟩

set_option maxHeartbeats 1000000 in
theorem small_any (s : Sy.Lts) (ao : Option Addr) (k cap : Nat) (w : World) : Calls Tryz.prog 12 #[.agg #[.int .i64 s.n, .int .i64 s.m, .int .i64 s.start, .slice ao k cap]] w fun r w' =>
    r = .returned (.bool (decide (s.n ≤ 30) && decide ((k : Int) ≤ 150))) ∧ Up w w' := by
  by_cases h1 : s.n ≤ 30
  · have q1 : decide (s.n ≤ 30) = true := by simpa using h1
    go_enter Tryz.func12, Tryz.ntmps12
    go_wp2_with fail
    go_ret
    exact ⟨ret_bool (by simp [q1]), (Up.refl w).alloc _⟩
  · have q1 : decide (s.n ≤ 30) = false := by simpa using h1
    go_enter Tryz.func12, Tryz.ntmps12
    go_wp2_with fail
    go_ret
    exact ⟨ret_bool (by simp [q1]), (Up.refl w).alloc _⟩

/-- New of a system that is one. -/
theorem new_for {s : Sy.Lts} {ao : Option Addr} {cap : Nat} {xt : TypeId} {xv : Value} {w : World} (hr : Sy.right s = true) (hs : Ls3 w (.slice ao s.es.length cap) s.es) (hE : w.cell? ⟨2, 0, none⟩ = some (.iface xt xv)) (hl : s.es.length ≤ maxLen) :
    Calls Tryz.prog 13 #[.agg #[.int .i64 s.n, .int .i64 s.m, .int .i64 s.start, .slice ao s.es.length cap]] w fun r w1 => Up w w1 ∧ ∃ B, r = .returned (.tuple #[.pointer (some ⟨B, 0, none⟩), .nilIface]) ∧ GraphAt w1 B s := by
  refine (new_any s (.slice ao s.es.length cap) xt xv _ hs hE hl).mono ?_
  rintro r w1 ⟨hu1, ⟨-, B, rfl, hB, hg⟩ | ⟨h1, -⟩⟩
  · exact ⟨hu1, B, rfl, hg⟩
  · exact absurd (hr.symm.trans h1) (by decide)

theorem new_not {s : Sy.Lts} {ao : Option Addr} {cap : Nat} {xt : TypeId} {xv : Value} {w : World} (hr : Sy.right s = false) (hs : Ls3 w (.slice ao s.es.length cap) s.es) (hE : w.cell? ⟨2, 0, none⟩ = some (.iface xt xv)) (hl : s.es.length ≤ maxLen) :
    Calls Tryz.prog 13 #[.agg #[.int .i64 s.n, .int .i64 s.m, .int .i64 s.start, .slice ao s.es.length cap]] w fun r w1 => Up w w1 ∧ ∃ pb, r = .returned (.tuple #[.pointer none, .iface 103 (.pointer (some ⟨pb, 0, none⟩))]) := by
  refine (new_any s (.slice ao s.es.length cap) xt xv _ hs hE hl).mono ?_
  rintro r w1 ⟨hu1, ⟨h1, -⟩ | ⟨-, pb, rfl, -⟩⟩
  · exact absurd (h1.symm.trans hr) (by decide)
  · exact ⟨hu1, pb, rfl⟩

/-- Compare tells no error: what it tells. -/
theorem cmp_ok {s : Sy.Lts} {ao : Option Addr} {cap p q : Nat} {a b i n m : Addr} {w : World} (hr : Sy.right s = true) (ht : There s p q) (h3 : s.n ≤ 300) (hno : Rd.rank s p q < 0 ∨ (Dt.F s p q).length ≤ 5000) (hT : Tab w) (hG : ErrT w) (hs : Ls3 w (.slice ao s.es.length cap) s.es) (hC : CmpSent w a b i n m) (hl : s.es.length ≤ maxLen) :
    Calls Tryz.prog 15 #[.agg #[.int .i64 s.n, .int .i64 s.m, .int .i64 s.start, .slice ao s.es.length cap], .int .i64 (p : Nat), .int .i64 (q : Nat)] w fun r w1 => Up w w1 ∧
      ((Rd.rank s p q < 0 ∧ ∃ a1 c1, r = .returned (.tuple #[.agg #[.bool true, .slice a1 s.n.toNat c1, .slice none 0 0], .nilIface]) ∧ w1.ownsRow w.heap.size 3 1 (.slice a1 s.n.toNat c1) s.n.toNat (ints (Rd.R s (Rd.last s)))) ∨
       (0 ≤ Rd.rank s p q ∧ (Dt.F s p q).length ≤ 5000 ∧ ∃ a1 c1, r = .returned (.tuple #[.agg #[.bool false, .slice none 0 0, .slice a1 (Dt.F s p q).length c1], .nilIface]) ∧ w1.ownsRow w.heap.size 71 2 (.slice a1 (Dt.F s p q).length c1) (Dt.F s p q).length (cells2 (Dt.F s p q)))) := by
  have hC2 := compare_any s (.slice ao s.es.length cap) p q a b i n m w hT hG hs hC hl
  refine Calls.mono hC2 ?_
  rintro r w1 ⟨hu1, ⟨-, -, -, hy⟩ | ⟨-, -, -, h1, h2, -⟩ | ⟨e, rfl, hb⟩⟩
  · exact ⟨hu1, hy⟩
  · simp only [Int.toNat_natCast] at h1 h2
    exact absurd hno (by omega)
  · rcases hb with ⟨_, _, k, _⟩ | ⟨_, k, _⟩ | ⟨k, _⟩
    · omega
    · exact absurd ht k
    · exact absurd (hr.symm.trans k) (by decide)

/-- Compare tells that the formula gets too great. -/
theorem cmp_lim {s : Sy.Lts} {ao : Option Addr} {cap p q : Nat} {a b i n m : Addr} {w : World} (hr : Sy.right s = true) (ht : There s p q) (h3 : s.n ≤ 300) (h0 : 0 ≤ Rd.rank s p q) (hlong : 5000 < (Dt.F s p q).length) (hT : Tab w) (hG : ErrT w) (hs : Ls3 w (.slice ao s.es.length cap) s.es) (hC : CmpSent w a b i n m) (hl : s.es.length ≤ maxLen) :
    Calls Tryz.prog 15 #[.agg #[.int .i64 s.n, .int .i64 s.m, .int .i64 s.start, .slice ao s.es.length cap], .int .i64 (p : Nat), .int .i64 (q : Nat)] w fun r w1 => Up w w1 ∧
      ∃ pb, r = .returned (.tuple #[.agg #[.bool false, .slice none 0 0, .slice none 0 0], .iface 103 (.pointer (some ⟨pb, 0, none⟩))]) ∧ FaultE w1 pb layerDist (.iface 354 (.pointer (some m))) := by
  have hC2 := compare_any s (.slice ao s.es.length cap) p q a b i n m w hT hG hs hC hl
  refine Calls.mono hC2 ?_
  rintro r w1 ⟨hu1, ⟨-, -, -, ⟨k, -⟩ | ⟨-, k, -⟩⟩ | ⟨-, -, -, h1, h2, pb, rfl, -, hf⟩ | ⟨e, rfl, hb⟩⟩
  · simp only [Int.toNat_natCast] at k
    omega
  · simp only [Int.toNat_natCast] at k
    omega
  · exact ⟨hu1, pb, rfl, hf⟩
  · rcases hb with ⟨_, _, k, _⟩ | ⟨_, k, _⟩ | ⟨k, _⟩
    · omega
    · exact absurd ht k
    · exact absurd (hr.symm.trans k) (by decide)

/-- Not there: which of the four questions tells it. -/
theorem not_there {s : Sy.Lts} {p q : Int} (hn0 : 0 ≤ s.n) (h : ¬ There s p q) : (decide (p < 0) = true) ∨ (decide (p < 0) = false ∧ decide (s.n ≤ p) = true) ∨ (decide (p < 0) = false ∧ decide (s.n ≤ p) = false ∧ decide (q < 0) = true) ∨ (decide (p < 0) = false ∧ decide (s.n ≤ p) = false ∧ decide (q < 0) = false ∧ decide (s.n ≤ q) = true) := by
  unfold There at h
  simp only [decide_eq_true_eq, decide_eq_false_iff_not]
  omega

set_option maxHeartbeats 8000000 in
set_option maxRecDepth 100000 in
theorem bounded_off {s : Sy.Lts} {se : Value} {w : World} {a b i n m : Addr} (hs : Ls3 w se s.es) (hl : s.es.length ≤ maxLen) (p q : Int) (hC : CmpSent w a b i n m) (hT : Tab w) (hG : ErrT w) (hoff : ¬ (s.n ≤ 30 ∧ (s.es.length : Int) ≤ 150 ∧ Sy.right s = true ∧ There s p q)) :
    Calls Tryz.prog 5 #[sysV s se, .int .i64 p, .int .i64 q] w (GoodD w) := by
  obtain ⟨ao, cap, rfl⟩ := ls3_shape hs
  have HA : Hid (∀ W, Up w W → Calls Tryz.prog 9 #[] W fun r w' => r = .returned (.bool true) ∧ Up W w') := Lib.hid (fun W hW => aliveD_any (hT.up hW) (hW.cell hG) (hC.up hW))
  have HNB : Hid (Sy.right s = false → ∀ W, Up w W → _) := Lib.hid (fun hr W hW => new_not hr (hs.up hW) (hC.up hW).sys hl)
  have HNY : Hid (Sy.right s = true → ∀ W, Up w W → _) := Lib.hid (fun hr W hW => new_for hr (hs.up hW) (hC.up hW).sys hl)
  have HSM := fun W => Lib.hid (small_any s ao s.es.length cap W)
  obtain ⟨L, hL⟩ : ∃ L, L = s.es.length := ⟨_, rfl⟩
  rw [← hL] at HNB HNY HSM hoff
  unfold sysV
  rw [← hL]
  have HB1 := Lib.hid (heap_alloc_new w (.cells #[.int .i64 s.n, .int .i64 s.m, .int .i64 s.start, .slice ao L cap] 27))
  have HU1 := Lib.hid ((Up.refl w).alloc (.cells #[.int .i64 s.n, .int .i64 s.m, .int .i64 s.start, .slice ao L cap] 27))
  clear hs hl hC hT hG hL
  by_cases hsm : s.n ≤ 30 ∧ (L : Int) ≤ 150
  · have e1 : (decide (s.n ≤ 30) && decide ((L : Int) ≤ 150)) = true := by simp [hsm.1, hsm.2]
    rw [e1] at HSM
    cases hr : Sy.right s
    · have HN := Lib.hid (HNB.out hr)
      clear HNB HNY hoff hsm hr e1
      go_enter Tryz.func5, Tryz.ntmps5
      go_wp2_with (first
        | (go_at_call 12; refine (HSM _).out.mono ?_; rintro r w2 ⟨rfl, hu2⟩; (obtain ⟨⟨b0, b1, b2, b3⟩, -⟩ := four_cells ((hu2.block _ (lt_of_block' HB1.out)).trans HB1.out)))
        | (go_at_call 13; refine (HN.out _ (HU1.out.trans hu2)).mono ?_; rintro r w3 ⟨hu3, pb, rfl⟩)
        | (go_at_call 9; refine (HA.out _ ((HU1.out.trans hu2).trans hu3)).mono ?_; rintro r w4 ⟨rfl, hu4⟩))
      go_ret
      exact ⟨rfl, ((HU1.out.trans hu2).trans hu3).trans hu4⟩
    · have HN := Lib.hid (HNY.out hr)
      have hcs := not_there (p := p) (q := q) ((Sy.right_iff s).1 hr).n0 (fun h => hoff ⟨hsm.1, hsm.2, hr, h⟩)
      clear HNB HNY hoff hsm hr e1
      rcases hcs with q1 | ⟨q1, q2⟩ | ⟨q1, q2, q3⟩ | ⟨q1, q2, q3, q4⟩
      all_goals
        go_enter Tryz.func5, Tryz.ntmps5
        go_wp2_with (first
          | (go_at_call 12; refine (HSM _).out.mono ?_; rintro r w2 ⟨rfl, hu2⟩; (obtain ⟨⟨b0, b1, b2, b3⟩, -⟩ := four_cells ((hu2.block _ (lt_of_block' HB1.out)).trans HB1.out)))
          | (go_at_call 13; refine (HN.out _ (HU1.out.trans hu2)).mono ?_; rintro r w3 ⟨hu3, B, rfl, -⟩; (obtain ⟨⟨c0, c1, c2, c3⟩, -⟩ := four_cells (((hu2.trans hu3).block _ (lt_of_block' HB1.out)).trans HB1.out)))
          | (go_at_call 9; refine (HA.out _ ((HU1.out.trans hu2).trans hu3)).mono ?_; rintro r w4 ⟨rfl, hu4⟩))
        go_ret
        exact ⟨rfl, ((HU1.out.trans hu2).trans hu3).trans hu4⟩
  · have e1 : (decide (s.n ≤ 30) && decide ((L : Int) ≤ 150)) = false := by
      by_cases h : s.n ≤ 30
      · have : ¬ (L : Int) ≤ 150 := fun h2 => hsm ⟨h, h2⟩
        simp [h, this]
      · simp [h]
    rw [e1] at HSM
    clear HNB HNY hoff hsm e1
    go_enter Tryz.func5, Tryz.ntmps5
    go_wp2_with (first
      | (go_at_call 12; refine (HSM _).out.mono ?_; rintro r w2 ⟨rfl, hu2⟩)
      | (go_at_call 9; refine (HA.out _ (HU1.out.trans hu2)).mono ?_; rintro r w4 ⟨rfl, hu4⟩))
    go_ret
    exact ⟨rfl, (HU1.out.trans hu2).trans hu4⟩

/-- The way to Compare's answer: the system's box, the greatest formula. -/
structure BoundedAt (s : Sy.Lts) (ao : Option Addr) (L cap : Nat) (w : World) (dg : Nat) (wr : World) : Prop where
  up : Up w wr
  box : wr.heap[w.heap.size]? = some (.cells #[.int .i64 s.n, .int .i64 s.m, .int .i64 s.start, .slice ao L cap] 27 (0, 0))
  deg : ∀ q, q < s.n.toNat → (Sy.steps s q).length ≤ dg

set_option maxHeartbeats 8000000 in
set_option maxRecDepth 100000 in
theorem bounded_in {s : Sy.Lts} {se : Value} {w : World} {a b i n m : Addr} (hs : Ls3 w se s.es) (hl : s.es.length ≤ maxLen) (p q : Nat) (hC : CmpSent w a b i n m) (hT : Tab w) (hG : ErrT w) (h30 : s.n ≤ 30) (h150 : (s.es.length : Int) ≤ 150) (hr : Sy.right s = true) (ht : There s p q) :
    Calls Tryz.prog 5 #[sysV s se, .int .i64 (p : Nat), .int .i64 (q : Nat)] w (GoodD w) := by
  obtain ⟨ao, cap, rfl⟩ := ls3_shape hs
  have hR := (Sy.right_iff s).1 hr
  have HA : Hid (∀ W, Up w W → Calls Tryz.prog 9 #[] W fun r w' => r = .returned (.bool true) ∧ Up W w') := Lib.hid (fun W hW => aliveD_any (hT.up hW) (hW.cell hG) (hC.up hW))
  have HN : Hid (∀ W, Up w W → _) := Lib.hid (fun W hW => new_for hr (hs.up hW) (hC.up hW).sys hl)
  have HOK : Hid ((Rd.rank s p q < 0 ∨ (Dt.F s p q).length ≤ 5000) → ∀ W, Up w W → _) := Lib.hid (fun hno W hW => cmp_ok hr ht (by omega) hno (hT.up hW) (hW.cell hG) (hs.up hW) (hC.up hW) hl)
  have HLIM : Hid (0 ≤ Rd.rank s p q → 5000 < (Dt.F s p q).length → ∀ W, Up w W → _) := Lib.hid (fun h0 h1 W hW => cmp_lim hr ht (by omega) h0 h1 (hT.up hW) (hW.cell hG) (hs.up hW) (hC.up hW) hl)
  have HSM := fun W => Lib.hid (small_any s ao s.es.length cap W)
  have e1 : (decide (s.n ≤ 30) && decide ((s.es.length : Int) ≤ 150)) = true := by simp [h30, h150]
  rw [e1] at HSM
  have HWI : Hid (∀ dg : Nat, (∀ q, q < s.n.toNat → (Sy.steps s q).length ≤ dg) → 0 ≤ Rd.rank s p q → Dt.bound (s.n - 1) dg ≤ 5000 → (Dt.F s p q).length ≤ Dt.bound (s.n - 1) dg) := Lib.hid (fun dg hd h0 hb => Dt.F_within hR hd (by unfold There at ht; omega) (by unfold There at ht; omega) h0 hb)
  have HDG : Hid (∀ W B, GraphAt W B s → Calls Tryz.prog 14 #[.pointer (some ⟨B, 0, none⟩)] W (DegDone s W)) := Lib.hid (fun W B hg => degree_any hg hR)
  have HBN := fun (dg : Nat) W => Lib.hid (bound_any (s.n - 1) dg W (by omega))
  have q1 : decide ((p : Int) < 0) = false := by simp
  have q2 : decide (s.n ≤ (p : Int)) = false := by unfold There at ht; simp; omega
  have q3 : decide ((q : Int) < 0) = false := by simp
  have q4 : decide (s.n ≤ (q : Int)) = false := by unfold There at ht; simp; omega
  have hwr : IntKind.i64.wrap (s.n - 1) = s.n - 1 := IntWalk.i64_in _ (by have := hR.n0; omega)
  obtain ⟨L, hL⟩ : ∃ L, L = s.es.length := ⟨_, rfl⟩
  rw [← hL] at HN HOK HLIM HSM
  unfold sysV
  rw [← hL]
  have HB1 := Lib.hid (heap_alloc_new w (.cells #[.int .i64 s.n, .int .i64 s.m, .int .i64 s.start, .slice ao L cap] 27))
  have HU1 := Lib.hid ((Up.refl w).alloc (.cells #[.int .i64 s.n, .int .i64 s.m, .int .i64 s.start, .slice ao L cap] 27))
  have HWR := Lib.hid hwr
  have GL := Lib.hid hC.lim
  have hn1 : 1 ≤ s.n := by unfold There at ht; omega
  clear hs hl hC hT hG hL h150 hr ht hR e1 hwr
  go_enter Tryz.func5, Tryz.ntmps5
  go_upto_region 6 with (first
    | (go_at_call 12; refine (HSM _).out.mono ?_; rintro r w2 ⟨rfl, hu2⟩; (obtain ⟨⟨b0, b1, b2, b3⟩, -⟩ := four_cells ((hu2.block _ (lt_of_block' HB1.out)).trans HB1.out)))
    | (go_at_call 13; refine (HN.out _ (HU1.out.trans hu2)).mono ?_; rintro r w3 ⟨hu3, B, rfl, hgr⟩; (have hbx3 := ((hu2.trans hu3).block _ (lt_of_block' HB1.out)).trans HB1.out); (obtain ⟨⟨c0, c1, c2, c3⟩, -⟩ := four_cells hbx3); (have HGR := Lib.hid hgr); (have HB3 := Lib.hid hbx3); (have HU3 := Lib.hid ((HU1.out.trans hu2).trans hu3)); clear hgr hbx3))
  refine wp_region_ord 6 [(0, true), (1, true), (2, true), (3, true), (4, false), (5, false)] (fun w' => w'.cell? ⟨w.heap.size, 0, none⟩ = some (.int .i64 s.n)) (by kernel_rfl) (by kernel_rfl) (fun _ _ _ _ _ h => h) c0 ?_
  have hud : Up w3 w3.drew := (Up.refl w3).drew
  generalize w3.drew = W3 at hud ⊢
  have HGR3 := Lib.hid (HGR.out.up hud)
  have HB3' := Lib.hid ((hud.block _ (lt_of_block' HB3.out)).trans HB3.out)
  have HU3' := Lib.hid (HU3.out.trans hud)
  clear b0 b1 b2 b3 c1 c2 c3 hu2 hu3 hud
  iterate 4
    refine WO.still rfl rfl (fun K hK => ?_)
    apply Exists.intro
    refine ⟨?_, hK _ ?_⟩
    · intro w' hS
      go_simp
      first | done | rfl | exact ⟨rfl, rfl⟩
    clear hK K
  refine WO.act rfl rfl (fun K hK => ?_)
  go_simp
  refine (HDG.out _ _ HGR3.out).mono ?_
  rintro r w4 ⟨dg, rfl, hdg, hdl, hu4⟩
  have hbx4 := (hu4.block _ (lt_of_block' HB3'.out)).trans HB3'.out
  refine hK _ _ (four_cells hbx4).1.1 ?_
  clear hK K
  have HB4 := Lib.hid hbx4
  have HU4 := Lib.hid (HU3'.out.trans hu4)
  have HDQ := Lib.hid hdg
  clear hdg hu4 hbx4
  refine WO.act rfl rfl (fun K hK => ?_)
  go_simp
  rw [HWR.out]
  refine (HBN dg w4).out.mono ?_
  rintro r w5 ⟨rfl, rfl⟩
  refine hK _ _ (four_cells HB4.out).1.1 ?_
  clear hK K
  refine WO.last rfl rfl (fun K hK => ?_)
  go_simp
  refine hK _ _ ?_
  clear hK K
  obtain ⟨mo, hmo⟩ : ∃ mo, mo = Dt.bound (s.n - 1) dg := ⟨_, rfl⟩
  have HWI2 := Lib.hid (HWI.out dg HDQ.out)
  rw [← hmo] at HWI2 ⊢
  obtain ⟨⟨d0, d1, d2, d3⟩, -⟩ := four_cells HB4.out
  have hgl := HU4.out.cell GL.out
  clear hmo c0 HSM HN HDG HBN HWI HGR HGR3 HB3 HB3' HU3 HU3' HDQ hdl
  by_cases hlim : 0 ≤ Rd.rank s p q ∧ 5000 < (Dt.F s p q).length
  · have HCL := Lib.hid (HLIM.out hlim.1 hlim.2 _ HU4.out)
    have hbig : 5000 < mo := by
      rcases Nat.lt_or_ge 5000 mo with h | h
      · exact h
      · have := HWI2.out hlim.1 h
        omega
    have q5 : decide ((5000 : Int) < (mo : Int)) = true := by simp; omega
    clear hlim hbig HLIM HOK HWI2
    go_wp2_with (first
      | (go_at_call 15; refine HCL.out.mono ?_; rintro r w6 ⟨hu6, pb, rfl, hf⟩; (have hu6' := hu6.alloc (.cells #[.bool false, .slice none 0 0, .slice none 0 0] 38)); (have HF6 := Lib.hid (hf.up ((Up.refl w6).alloc (.cells #[.bool false, .slice none 0 0, .slice none 0 0] 38)))); (have HU6 := Lib.hid (HU4.out.trans hu6')); (have hgl6 := hu6'.cell hgl); clear hu6 hu6' hf)
      | (go_at_call 9; refine (HA.out _ HU6.out).mono ?_; rintro r w7 ⟨rfl, hu7⟩; (have hgl7 := hu7.cell hgl6); (have HF7 := Lib.hid (HF6.out.up hu7)))
      | (go_at_call 16; refine (is_fault_same pb m _ (fault_cell HF7.out)).mono ?_; rintro e w8 ⟨rfl, rfl⟩))
    go_ret
    exact ⟨rfl, HU6.out.trans hu7⟩
  · have hno : Rd.rank s p q < 0 ∨ (Dt.F s p q).length ≤ 5000 := by omega
    have HCO := Lib.hid (HOK.out hno _ HU4.out)
    have HK : Hid (0 ≤ Rd.rank s p q → mo ≤ 5000 → (Dt.F s p q).length ≤ mo) := HWI2
    clear hlim hno HLIM HOK HWI2
    have HCOK : Hid (Calls Tryz.prog 15 #[.agg #[.int .i64 s.n, .int .i64 s.m, .int .i64 s.start, .slice ao L cap], .int .i64 (p : Nat), .int .i64 (q : Nat)] w4 fun r w1 => Up w4 w1 ∧
        ∃ bb a1 n1 c1 a2 c2, ∃ K : Nat, r = .returned (.tuple #[.agg #[.bool bb, .slice a1 n1 c1, .slice a2 K c2], .nilIface]) ∧ (mo ≤ 5000 → K ≤ mo)) := Lib.hid (HCO.out.mono (by
      rintro r w1 ⟨hu1, ⟨-, a1, c1, rfl, -⟩ | ⟨k0, k1, a1, c1, rfl, -⟩⟩
      · exact ⟨hu1, true, a1, _, c1, none, 0, 0, rfl, fun _ => Nat.zero_le _⟩
      · exact ⟨hu1, false, none, 0, 0, a1, c1, _, rfl, fun h => HK.out k0 h⟩))
    clear HCO HK
    by_cases hbig : 5000 < mo
    · have q5 : decide ((5000 : Int) < (mo : Int)) = true := by simp; omega
      clear hbig
      go_wp2_with (first
        | (go_at_call 15; refine HCOK.out.mono ?_; rintro r w6 ⟨hu6, bb, a1, n1, c1, a2, c2, K, rfl, -⟩; (have HU6 := Lib.hid (HU4.out.trans (hu6.alloc (.cells #[.bool bb, .slice a1 n1 c1, .slice a2 K c2] 38)))); clear hu6)
        | (go_at_call 9; refine (HA.out _ HU6.out).mono ?_; rintro r w7 ⟨rfl, hu7⟩))
      go_ret
      exact ⟨rfl, HU6.out.trans hu7⟩
    · have q5 : decide ((5000 : Int) < (mo : Int)) = false := by simp; omega
      have hmo5 : mo ≤ 5000 := by omega
      clear hbig
      go_upto_if 58 with (go_at_call 15; refine HCOK.out.mono ?_; rintro r w6 ⟨hu6, bb, a1, n1, c1, a2, c2, K, rfl, hK⟩; (have hv6 := heap_alloc_new w6 (.cells #[.bool bb, .slice a1 n1 c1, .slice a2 K c2] 38)); (have HV6 := Lib.hid hv6); (have HU6 := Lib.hid (HU4.out.trans (hu6.alloc (.cells #[.bool bb, .slice a1 n1 c1, .slice a2 K c2] 38)))); (have hKm := hK hmo5); clear hu6 hv6 hK)
      have q6 : decide ((K : Int) ≤ (mo : Int)) = true := by simp; omega
      go_wp2_with (go_at_call 9; refine (HA.out _ HU6.out).mono ?_; rintro r w7 ⟨rfl, hu7⟩; (obtain ⟨⟨v0, v1, v2⟩, -⟩ := verdict_cells ((hu7.block _ (lt_of_block' HV6.out)).trans HV6.out)))
      go_ret
      exact ⟨ret_bool (by simp), HU6.out.trans hu7⟩

theorem bounded_any {s : Sy.Lts} {se : Value} {w : World} {a b i n m : Addr} (hs : Ls3 w se s.es) (hl : s.es.length ≤ maxLen) (p q : Int) (hC : CmpSent w a b i n m) (hT : Tab w) (hG : ErrT w) :
    Calls Tryz.prog 5 #[sysV s se, .int .i64 p, .int .i64 q] w (GoodD w) := by
  by_cases h : s.n ≤ 30 ∧ (s.es.length : Int) ≤ 150 ∧ Sy.right s = true ∧ There s p q
  · obtain ⟨h1, h2, h3, h4⟩ := h
    obtain ⟨P, rfl⟩ : ∃ P : Nat, p = (P : Nat) := ⟨p.toNat, by unfold There at h4; omega⟩
    obtain ⟨Q, rfl⟩ : ∃ Q : Nat, q = (Q : Nat) := ⟨q.toNat, by unfold There at h4; omega⟩
    exact bounded_in hs hl P Q hC hT hG h1 h2 h3 h4
  · exact bounded_off hs hl p q hC hT hG h

end Go.Proofs.YtkcdkfkgjjpaaaaGreatDoor
