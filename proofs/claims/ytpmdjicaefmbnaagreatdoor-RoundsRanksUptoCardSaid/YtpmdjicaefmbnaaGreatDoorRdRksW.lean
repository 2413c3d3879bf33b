/- The document's Ranks; what an error is told to be: a system too great for pairs. The statement RoundsRanks, walked. The statement RoundsRanks, walked. -/
import Derived.Test.YtpmdjicaefmbnaaGreatDoorRdAllW

namespace Go.Proofs.YtpmdjicaefmbnaaGreatDoor
open Go.RowKit Go.Sort Go.Maps
set_option linter.unusedVariables false
set_option linter.unusedSimpArgs false

/-- What the document's Ranks leaves. -/
def RefRanksDone (s : Sy.Lts) (w : World) (r : Ending) (w' : World) : Prop :=
  ∃ ao cap vs, r = .returned (.slice ao s.n.toNat cap) ∧ w'.ownsRow w.heap.size 34 1 (.slice ao s.n.toNat cap) s.n.toNat vs ∧ RowsI w.heap.size w' vs (ranks s) ∧ Up w w'

set_option maxHeartbeats 8000000 in
set_option maxRecDepth 100000 in
theorem refRanks_any (s : Sy.Lts) (se : Value) (w : World) (hr : Sy.right s = true) (h300 : s.n ≤ 300) (hs : Ls3 w se s.es) (hcp : CapOk se) :
    Calls Tryz.prog 29 #[sysV s se] w (RefRanksDone s w) := by
  obtain ⟨ao, cap, rfl⟩ := ls3_shape hs
  have hR := (Sy.right_iff s).1 hr
  obtain ⟨n, hn⟩ : ∃ n : Nat, s.n = (n : Nat) := ⟨s.n.toNat, by have := hR.n0; omega⟩
  have hb0 := heap_alloc_new w (.cells #[.int .i64 s.n, .int .i64 s.m, .int .i64 s.start, .slice ao s.es.length cap] 24)
  have hA : ∀ W, Up w W → Calls Tryz.prog 18 #[sysV s (.slice ao s.es.length cap)] W fun r w' => ∃ v, r = .returned v ∧ Hid (RowsRd w' v (Rd.rounds s)) ∧ Up W w' := fun W hu => by
    refine (refRounds_any hR (hs.up hu) hcp).mono ?_
    rintro r w' ⟨ao2, cap2, vs, rfl, hu1, ho, hrw⟩
    exact ⟨_, rfl, Lib.hid (RowsOf.at ho hrw (Rd.rounds_len s) (by omega)), hu1⟩
  have HRR : Hid (∀ W v (p q : Nat), p < s.n.toNat → q < s.n.toNat → RowsRd W v (Rd.rounds s) → Calls Tryz.prog 25 #[v, .int .i64 (p : Nat), .int .i64 (q : Nat)] W fun r w' => r = .returned (.int .i64 (Rd.rank s p q)) ∧ Up W w') :=
    Lib.hid (fun W v p q hp hq hv => refRank_any hv (rounds_small hR) (fun c hc => by have := rounds_mem hc; have := hR.n1; omega))
  have hn3 : n ≤ 300 := by omega
  have HNN : Hid (s.n.toNat = n) := Lib.hid (by rw [hn]; rfl)
  obtain ⟨i0, hi, hz0, hz1, hz2⟩ := info_parts Tryz.sliceInfoD
  obtain ⟨j0, hj, gz0, gz1, gz2⟩ := info_parts Tryz.intsInfo
  obtain ⟨L, hL⟩ : ∃ L, L = s.es.length := ⟨_, rfl⟩
  unfold sysV at hA ⊢
  rw [← hL] at hA hb0 ⊢
  rw [hn] at hA hb0 ⊢
  have HA := Lib.hid hA
  have HB0 := Lib.hid hb0
  have HU0 : Hid (Up w (w.alloc (.cells #[.int .i64 (n : Int), .int .i64 s.m, .int .i64 s.start, .slice ao L cap] 24))) := Lib.hid ((Up.refl w).alloc _)
  clear hr h300 hn hs hA hR hL hcp hb0
  go_enter Tryz.func29, Tryz.ntmps29
  go_upto_region 2 with (go_at_call 18; refine (HA.out _ HU0.out).mono ?_; rintro r w1 ⟨v, rfl, HV, hu1⟩; (have HU1 := Lib.hid (HU0.out.trans hu1)); (obtain ⟨⟨cB, -, -, -⟩, -⟩ := four_cells ((hu1.block _ (lt_of_block' HB0.out)).trans HB0.out)); clear hu1)
  obtain ⟨K0, av, cv, hv⟩ : ∃ K av cv, v = .slice av K cv := by obtain ⟨g, c, h, -⟩ := HV.out; exact ⟨_, _, _, h⟩
  subst hv
  go_wp2_with (at_make; refine wpList_make_full _ rfl _ _ 26 rfl w1.heap.size 34 i0 (.slice none 0 0) 1 Tryz.underlying26 hi hz0 hz1 _ _ _ _ n rfl rfl rfl rfl (by rw [hz2]; omega) (by unfold maxLen; omega) (Nat.le_refl _) ?_; intro w2 hown hgrow)
  obtain ⟨hrow, -, -, -⟩ := Row.of hown
  have e : (madeCells (Value.slice none 0 0).cells (n * 1)).toList = List.replicate n (Value.slice none 0 0) := by rw [Nat.mul_one]; exact toList_madeCells_one _ _
  rw [e, Nat.mul_one] at hrow
  have hu12 : Up w1 w2 := (Up.refl w1).grown hgrow (fun k hk => by cases hk)
  obtain ⟨O, hO⟩ : ∃ O, O = w1.heap.size := ⟨_, rfl⟩
  rw [← hO] at hrow
  have H0 : Hid (([] : List Value).length = 0 ∧ RanksAt s n w1 w2 O 0 []) := Lib.hid ⟨rfl, hu12, by simpa using hrow, RowsI.nil _ _⟩
  have hOw := HU1.out.size
  clear e hrow hgrow hu12 hown
  go_wp2_with fail
  rw [← hO]
  have HOE := Lib.hid hO
  clear hO
  go_loopw [5] (fun i wo => ∃ (j : Nat) (vs : List Value), i = .int .i64 j ∧ j ≤ n ∧ Hid (vs.length = j ∧ RanksAt s n w1 wo O j vs)) (fun i _ => n - (intOf i).toNat)
  case atStart => exact ⟨0, [], rfl, Nat.zero_le _, H0⟩
  case round =>
    obtain ⟨j, vs', rfl, hjn, HR0⟩ := hrel
    rename World => wo
    have cBr := HR0.out.2.up.cell cB
    by_cases hlt : j < n
    · have hOr := HR0.out.2.row.lt
      go_wp2_with fail
      go_loopw [6] (fun i wr => ∃ (q : Nat) (vp : Value), i = .int .i64 q ∧ q ≤ n ∧ Hid (RankAt s n w1 wo wr O j q vs' vp)) (fun i _ => n - (intOf i).toNat)
      case atStart => exact ⟨0, _, rfl, Nat.zero_le _, Lib.hid (HR0.out.2.enter hlt)⟩
      case round =>
        obtain ⟨q, vp, rfl, hqn, HQ⟩ := hrel
        have cBq := HQ.out.up.cell cB
        by_cases hlt2 : q < n
        · obtain ⟨av2, cv2, hvp⟩ := owns_shape' HQ.out.own
          subst hvp
          have hS0 := HQ.out.cell HR0.out.1
          have hS1 := HQ.out.row.free j
          have hszq := HQ.out.turned.size
          have HC : Hid (∀ W, Up wr W → Calls Tryz.prog 25 #[.slice av K0 cv, .int .i64 (j : Nat), .int .i64 (q : Nat)] W fun r w' => r = .returned (.int .i64 (Rd.rank s j q)) ∧ Up W w') :=
            Lib.hid (fun W hW => HRR.out W _ j q (by rw [HNN.out]; exact hlt) (by rw [HNN.out]; exact hlt2) (HV.out.up (HQ.out.up.trans hW)))
          go_upto_region 9 with fail
          refine wp_region_ord 13 [(0, true), (1, true), (2, true), (3, true), (4, true), (5, true), (6, true), (7, true), (8, true), (9, false), (10, false), (11, false), (12, true)] (fun x => x.cell? ⟨O, j, none⟩ = some (.slice av2 q cv2)) (by kernel_rfl) (by kernel_rfl) (fun _ _ _ _ _ h => h) hS0 ?_
          iterate 9
            refine WO.still rfl rfl (fun K hK => ?_)
            apply Exists.intro
            refine ⟨?_, hK _ ?_⟩
            · intro w' hS
              have s1 : w'.cell? ⟨O, j, none⟩ = some (.slice av2 q cv2) := hS
              go_simp
              first | done | rfl | exact ⟨rfl, rfl⟩
            clear hK K
          refine WO.act rfl rfl (fun K hK => ?_)
          go_simp
          go_at_call 25
          refine (HC.out _ (Up.refl _).drew).mono ?_
          rintro r w3 ⟨rfl, hu3'⟩
          have hu3 : Up wr w3 := ((Up.refl wr).drew).trans hu3'
          clear hu3'
          refine hK _ _ (hu3.cell hS0) ?_
          clear hK K
          refine WO.act rfl rfl (fun K hK => ?_)
          go_simp
          refine hK _ _ ?_ ?_
          · exact (hu3.alloc _).cell hS0
          clear hK K
          refine WO.act rfl rfl (fun K hK => ?_)
          refine wp_append_own (.tmp 29) (.tmp 34) 34 rfl wo.heap.size 3 j0 (.int .i64 0) 1 8 Tryz.underlying34 hj gz0 gz1 gz2 rfl (by decide) (.slice av2 q cv2) q _ rfl (Up.owns (w := wr) (hu3.alloc _) HQ.out.own) _ 1 1 [.int .i64 (Rd.rank s j q)] rfl rfl (cell_one_new _ _ _) (fun u hu => by simp only [List.mem_singleton] at hu; subst hu; rfl) (by unfold maxLen; omega) (by omega) (by have := hu3.size; simp only [World.size_alloc]; omega) ?_
          intro v' w4 hown4 hgrow4 hat4
          obtain ⟨a4, c4, hv4⟩ := owns_shape' hown4
          subst hv4
          have hg4 : (w3.alloc (.cells #[.int .i64 (Rd.rank s j q)] 3)).grownBy w4 (Value.slice av2 q cv2).ownBlock := ⟨hgrow4.os, hgrow4.tape, hgrow4.output, hgrow4.size, hgrow4.block⟩
          have hne : (Value.slice av2 q cv2).ownBlock ≠ some O := fun e => by have := (HQ.out.own.lt O e).1; omega
          have hS4 := grown_cell hg4 ((hu3.alloc (.cells #[.int .i64 (Rd.rank s j q)] 3)).cell hS0) hne
          have hb4 : w4.heap[O]? = wr.heap[O]? := (hg4.block O (Nat.lt_of_lt_of_le HQ.out.row.lt ((hu3.alloc _).size)) (fun e => hne e.symm)).trans ((hu3.alloc _).block O HQ.out.row.lt)
          have hf4 : w4.frozen? ⟨O, j, none⟩ = false := (HQ.out.row.keep hb4).free j
          have HP := Lib.hid (HQ.out.push HR0.out.1 (Nat.le_of_eq HOE.out.symm) hOr hu3 hown4 hg4)
          refine hK _ _ hS4 ?_
          clear hK K hown4 hgrow4 hat4 hg4 hne hb4
          refine WO.still rfl rfl (fun K hK => ?_)
          apply Exists.intro
          refine ⟨?_, hK _ ?_⟩
          · intro w' hS
            go_simp
            first | done | rfl | exact ⟨rfl, rfl⟩
          clear hK K
          refine WO.last rfl rfl (fun K hK => ?_)
          go_simp
          refine hK _ _ ?_
          clear hK K
          go_wp2_with fail
          go_roundw
          case rel => exact ⟨q + 1, _, by go_num, by omega, HP⟩
          case measure => simp [intOf]; omega
        · obtain rfl : q = n := by omega
          go_wp2_with fail
          go_roundw
          case rel => exact ⟨j + 1, vs' ++ [vp], by go_num, by omega, Lib.hid ⟨by rw [List.length_append, HR0.out.1]; rfl, RankAt.leave HR0.out.2 HQ.out HNN.out⟩⟩
          case measure => simp [intOf]; omega
    · obtain rfl : j = n := by omega
      go_wp2_with fail
      go_ret
      have hrw := HR0.out.2.row
      rw [Nat.sub_self, List.replicate_zero, List.append_nil] at hrw
      have hOx := HOE.out
      unfold RefRanksDone ranks
      rw [HNN.out]
      refine ⟨_, _, vs', rfl, ?_, ?_, HU1.out.trans HR0.out.2.up⟩
      · exact Row.ownsAt (by rw [Nat.mul_one]; exact hrw) (by omega) (Nat.le_refl _) (by unfold maxLen; omega) (by rw [HR0.out.1, Nat.mul_one])
      · exact HR0.out.2.rows.base (show w.heap.size ≤ O + 1 by omega)

theorem code_2 {w : World} {v : Value} {a a1 : Addr} (h : Wraps w v a) (s1 : Sent w 3 a1) (s2 : Sent w 1 a) (n1 : a ≠ a1) :
    Calls Tryz.prog 28 #[v] w fun r w' => r = .returned (.int .i64 2) ∧ w = w' := by
  obtain ⟨c, tc, hc⟩ := s2.blk
  obtain ⟨c1, t1, hc1⟩ := s1.blk
  have H := Lib.hid (is_same h)
  have H1 := Lib.hid (is_other h n1 hc hc1)
  obtain ⟨t, p, rfl⟩ := wraps_ne h
  have g1 := s1.var
  have g2 := s2.var
  clear h s1 s2 hc hc1 n1
  go_enter Tryz.func28, Tryz.ntmps28
  go_wp2_with (first
    | (go_at_call 27; (with_reducible refine H1.out.mono ?_); rintro e w4 ⟨rfl, rfl⟩)
    | (go_at_call 27; (with_reducible refine H.out.mono ?_); rintro e w4 ⟨rfl, rfl⟩))
  go_ret
  exact ⟨rfl, rfl⟩

theorem code_long {w : World} {v : Value} {a : Nat → Addr} (h : Wraps w v (a 1)) (S : Sts14 w a) :
    Calls Tryz.prog 28 #[v] w fun r w' => r = .returned (.int .i64 2) ∧ w = w' :=
  code_2 h (S.sent 0 (by decide)) (S.sent 1 (by decide)) (S.ne 1 0 (by decide) (by decide) (by decide))

set_option maxHeartbeats 4000000 in
set_option maxRecDepth 100000 in
theorem told_long {w : World} {F : Nat} {a : Nat → Addr} (hF : FaultE w F layerRounds (.iface 299 (.pointer (some (a 1))))) (S : Sts14 w a) :
    Calls Tryz.prog 19 #[.iface 101 (.pointer (some ⟨F, 0, none⟩)), .agg #[.int .i64 2, .int .i64 0, .int .i64 0, .string layersRounds]] w fun r w' => r = .returned (.bool true) ∧ Up w w' := by
  obtain ⟨⟨c0, c1, c2, c3⟩, -⟩ := four_cells hF
  have HK1 : Hid (∀ w1, Up w w1 → Calls Tryz.prog 28 #[.iface 101 (.pointer (some ⟨F, 0, none⟩))] w1 fun r w' => r = .returned (.int .i64 2) ∧ w1 = w') := fun w1 hu => code_long (wraps_of (hF.up hu)) (S.up hu)
  have HK2 : Hid (∀ w1, Up w w1 → Calls Tryz.prog 28 #[.iface 299 (.pointer (some (a 1)))] w1 fun r w' => r = .returned (.int .i64 2) ∧ w1 = w') := fun w1 hu => code_long (.inl rfl) (S.up hu)
  have hFl := (Array.getElem?_eq_some_iff.1 hF).1
  unfold layerRounds at c0
  have aF := Tryz.asFault
  have aN := Tryz.asNoFault
  clear S hF
  go_enter Tryz.func19, Tryz.ntmps19
  go_wp2_with fail
  go_quiet ((go_at_call 28; exact quiet_left (HK1.out _ (by repeat (first | (with_reducible exact Up.refl _) | (with_reducible apply Up.drewN) | (with_reducible apply Up.drew) | (with_reducible apply Up.alloc))))))
  go_wp2_with fail
  refine wp_loop_rounds 2 ?_
  rw [rounds_succ]
  go_wp2_with fail
  go_quiet (fail)
  go_wp2_with fail
  rw [rounds_succ]
  go_wp2_with fail
  rw [show (({ data := #[] } : ByteArray) ++ { data := #[114, 111, 117, 110, 100, 115] } ++ { data := #[32] }) = layersRounds from by decide]
  have hq : (layersRounds == layersRounds) = true := by decide
  go_quiet ((go_at_call 28; exact quiet_add_left (HK2.out _ (by repeat (first | (with_reducible exact Up.refl _) | (with_reducible apply Up.drewN) | (with_reducible apply Up.drew) | (with_reducible apply Up.alloc))))))
  go_wp2_with fail
  go_ret
  exact ⟨rfl, by repeat (first | (with_reducible exact Up.refl _) | (with_reducible apply Up.drewN) | (with_reducible apply Up.drew) | (with_reducible apply Up.alloc))⟩


end Go.Proofs.YtpmdjicaefmbnaaGreatDoor

namespace Go.Proofs.YtpmdjicaefmbnaaGreatDoor
open Go.RowKit Go.Maps
set_option linter.unusedVariables false
set_option linter.unusedSimpArgs false

theorem rksLong {w : World} {s : Sy.Lts} {se : Value} {a : Nat → Addr} (h : Set14 w s se a) : w.cell? ⟨1, 0, none⟩ = some (.iface 299 (.pointer (some (a 1)))) := (h.sts.sent 1 (by decide)).var

set_option maxHeartbeats 8000000 in
set_option maxRecDepth 100000 in
theorem rksLaw_out (s : Sy.Lts) (se : Value) (a : Nat → Addr) (w : World) (hc : (decide (s.n ≤ 300) = true ∧ decide (40 < s.n) = true) ∨ (decide (s.n ≤ 300) = true ∧ decide (40 < s.n) = false ∧ decide (11000 < (s.es.length : Int)) = true) ∨ (decide (s.n ≤ 300) = false ∧ decide (11000 < (s.es.length : Int)) = true)) (hS : Set14 w s se a) :
    Calls Tryz.prog 8 #[sysV s se] w (Good w) := by
  obtain ⟨ao, cap, rfl⟩ := ls3_shape hS.arg
  have hA : ∀ W, Up w W → Calls Tryz.prog 10 #[] W fun r w' => r = .returned (.bool true) ∧ Up W w' := fun W hu => alive_any (hS.tab.up hu) (hu.cell hS.typ) (hu.cell hS.sys)
  obtain ⟨L, hL⟩ : ∃ L, L = s.es.length := ⟨_, rfl⟩
  unfold sysV
  rw [← hL] at hc ⊢
  have HA := Lib.hid hA
  have HU0 : Hid (Up w (w.alloc (.cells #[.int .i64 s.n, .int .i64 s.m, .int .i64 s.start, .slice ao L cap] 24))) := Lib.hid ((Up.refl w).alloc _)
  clear hA hS hL
  rcases hc with ⟨q1, q2⟩ | ⟨q1, q2, q3⟩ | ⟨q1, q3⟩
  all_goals
    go_enter Tryz.func8, Tryz.ntmps8
    go_wp2_with (go_at_call 10; refine (HA.out _ HU0.out).mono ?_; rintro r w2 ⟨rfl, hu2⟩)
    go_ret
    exact ⟨rfl, HU0.out.trans hu2⟩

set_option maxHeartbeats 8000000 in
set_option maxRecDepth 100000 in
theorem rksLaw_bad (s : Sy.Lts) (se : Value) (a : Nat → Addr) (w : World) (hc : (decide (s.n ≤ 300) = true ∧ decide (40 < s.n) = false ∧ decide (11000 < (s.es.length : Int)) = false) ∨ (decide (s.n ≤ 300) = false ∧ decide (11000 < (s.es.length : Int)) = false)) (hr : Sy.right s = false) (hS : Set14 w s se a) :
    Calls Tryz.prog 8 #[sysV s se] w (Good w) := by
  obtain ⟨ao, cap, rfl⟩ := ls3_shape hS.arg
  have hA : ∀ W, Up w W → Calls Tryz.prog 10 #[] W fun r w' => r = .returned (.bool true) ∧ Up W w' := fun W hu => alive_any (hS.tab.up hu) (hu.cell hS.typ) (hu.cell hS.sys)
  have hHA : ∀ W, Up w W → Calls Tryz.prog 17 #[.string { data := #[114, 111, 117, 110, 100, 115] }, sysV s (.slice ao s.es.length cap)] W fun r w' => r = .returned (handedV s) ∧ Up W w' := fun W hu => refHanded_any s _ W (hS.arg.up hu) hS.len
  have hh : handedV s = errV 14 layersBoth := by unfold handedV; rw [hr]; rfl
  rw [hh] at hHA
  have hRK : ∀ W, Up w W → Calls Tryz.prog 14 #[sysV s (.slice ao s.es.length cap)] W fun r w' => ∃ qb, r = .returned (.tuple #[.slice none 0 0, faultAt qb]) ∧ Hid (∃ pb, FaultE w' qb layerRounds (faultAt pb) ∧ FaultE w' pb layerSystem (.iface 299 (.pointer (some (a 13))))) ∧ Up W w' := fun W hu => by
    refine (ranks_bad s _ (a 13) .nilIface W hr (hS.tab.up hu) (hu.cell hS.typ) (hS.arg.up hu) (hu.cell hS.sys) hS.len).mono ?_
    rintro r w' ⟨hu1, ⟨h1, -⟩ | ⟨h1, -⟩ | ⟨-, qb, pb, rfl, -, -, hf1, hf2⟩⟩
    · exact absurd (hr.symm.trans h1) (by decide)
    · exact absurd (hr.symm.trans h1) (by decide)
    · exact ⟨qb, rfl, Lib.hid ⟨pb, hf1, hf2⟩, hu1⟩
  have HSR : Hid (∀ W, Calls Tryz.prog 20 #[.slice none 0 0, .slice none 0 0] W (Same W true)) := Lib.hid (fun W => Rw.sameRows_same (rows := []) (by simp) (fun i hi => absurd hi (Nat.not_lt_zero i)) (lstR_nil W) (lstR_nil W))
  have HST := Lib.hid hS
  obtain ⟨L, hL⟩ : ∃ L, L = s.es.length := ⟨_, rfl⟩
  unfold sysV at hHA hRK ⊢
  rw [← hL] at hHA hRK hc ⊢
  have HA := Lib.hid hA
  have HHA := Lib.hid hHA
  have HRK := Lib.hid hRK
  have hb0 := heap_alloc_new w (.cells #[.int .i64 s.n, .int .i64 s.m, .int .i64 s.start, .slice ao L cap] 24)
  have HB0 := Lib.hid hb0
  have HU0 : Hid (Up w (w.alloc (.cells #[.int .i64 s.n, .int .i64 s.m, .int .i64 s.start, .slice ao L cap] 24))) := Lib.hid ((Up.refl w).alloc _)
  unfold errV at HHA
  clear hA hHA hRK hS hL hb0 hh
  rcases hc with ⟨q1, q2, q3⟩ | ⟨q1, q3⟩
  all_goals
    go_enter Tryz.func8, Tryz.ntmps8
    go_upto_region 4 with (go_at_call 17; refine (HHA.out _ HU0.out).mono ?_; rintro r w1 ⟨rfl, hu1⟩; (have HUB1 := Lib.hid hu1); clear hu1)
    have HUB2 := Lib.hid (HUB1.out.alloc (.cells #[.int .i64 14, .int .i64 0, .int .i64 0, .string layersBoth] 52))
    have HBE := Lib.hid (heap_alloc_new w1 (.cells #[.int .i64 14, .int .i64 0, .int .i64 0, .string layersBoth] 52))
    obtain ⟨w2, hw2⟩ : ∃ w2, w2 = w1.alloc (.cells #[.int .i64 14, .int .i64 0, .int .i64 0, .string layersBoth] 52) := ⟨_, rfl⟩
    have hw2s : w2.heap.size = w1.heap.size + 1 := by rw [hw2, World.size_alloc]
    rw [← hw2] at HUB2 HBE ⊢
    have HW2 := Lib.hid hw2s
    obtain ⟨⟨e0, e1, e2, e3⟩, -⟩ := four_cells HBE.out
    obtain ⟨⟨k0, k1, k2, k3⟩, -⟩ := four_cells ((HUB2.out.block _ (lt_of_block' HB0.out)).trans HB0.out)
    clear hw2 hw2s
    go_upto_region 10 with fail
    clear e0 e1 e2 e3 k0 k1 k2 k3
    have HX2 : Hid (w2.heap.size ≤ w2.heap.size) := Lib.hid (Nat.le_refl _)
    have HBK := Lib.hid (LoopSt.start (w0 := w2.alloc (.cells #[.slice none 0 0, .slice none 0 0, .slice none 0 0, .slice none 0 0, .slice none 0 0, .slice none 0 0, .slice none 0 0, .slice none 0 0, .slice none 0 0, .slice none 0 0, .slice none 0 0, .slice none 0 0, .slice none 0 0, .slice none 0 0, .slice none 0 0, .slice none 0 0, .slice none 0 0, .slice none 0 0, .slice none 0 0, .slice none 0 0, .slice none 0 0, .slice none 0 0] 50)) rfl (Up.refl _))
    have HU05 := Lib.hid (HU0.out.trans (HUB2.out.alloc (.cells #[.slice none 0 0, .slice none 0 0, .slice none 0 0, .slice none 0 0, .slice none 0 0, .slice none 0 0, .slice none 0 0, .slice none 0 0, .slice none 0 0, .slice none 0 0, .slice none 0 0, .slice none 0 0, .slice none 0 0, .slice none 0 0, .slice none 0 0, .slice none 0 0, .slice none 0 0, .slice none 0 0, .slice none 0 0, .slice none 0 0, .slice none 0 0, .slice none 0 0] 50)))
    have HS5 := Lib.hid ((((Up.refl w2).alloc (.cells #[.slice none 0 0, .slice none 0 0, .slice none 0 0, .slice none 0 0, .slice none 0 0, .slice none 0 0, .slice none 0 0, .slice none 0 0, .slice none 0 0, .slice none 0 0, .slice none 0 0, .slice none 0 0, .slice none 0 0, .slice none 0 0, .slice none 0 0, .slice none 0 0, .slice none 0 0, .slice none 0 0, .slice none 0 0, .slice none 0 0, .slice none 0 0, .slice none 0 0] 50)).block _ (lt_of_block' HBE.out)).trans HBE.out)
    have HB5 := Lib.hid (((HUB2.out.alloc (.cells #[.slice none 0 0, .slice none 0 0, .slice none 0 0, .slice none 0 0, .slice none 0 0, .slice none 0 0, .slice none 0 0, .slice none 0 0, .slice none 0 0, .slice none 0 0, .slice none 0 0, .slice none 0 0, .slice none 0 0, .slice none 0 0, .slice none 0 0, .slice none 0 0, .slice none 0 0, .slice none 0 0, .slice none 0 0, .slice none 0 0, .slice none 0 0, .slice none 0 0] 50)).block _ (lt_of_block' HB0.out)).trans HB0.out)
    have HBB0 : Hid (w.heap.size < w1.heap.size ∧ w1.heap.size < w2.heap.size ∧ w2.heap.size < (w2.alloc (.cells #[.slice none 0 0, .slice none 0 0, .slice none 0 0, .slice none 0 0, .slice none 0 0, .slice none 0 0, .slice none 0 0, .slice none 0 0, .slice none 0 0, .slice none 0 0, .slice none 0 0, .slice none 0 0, .slice none 0 0, .slice none 0 0, .slice none 0 0, .slice none 0 0, .slice none 0 0, .slice none 0 0, .slice none 0 0, .slice none 0 0, .slice none 0 0, .slice none 0 0] 50)).heap.size) := Lib.hid (by
      have h1 := HUB1.out.size
      have h2 := HW2.out
      have h3 := HX2.out
      rw [World.size_alloc] at h1 ⊢
      omega)
    obtain ⟨w9, hw9⟩ : ∃ w9, w9 = w2.alloc (.cells #[.slice none 0 0, .slice none 0 0, .slice none 0 0, .slice none 0 0, .slice none 0 0, .slice none 0 0, .slice none 0 0, .slice none 0 0, .slice none 0 0, .slice none 0 0, .slice none 0 0, .slice none 0 0, .slice none 0 0, .slice none 0 0, .slice none 0 0, .slice none 0 0, .slice none 0 0, .slice none 0 0, .slice none 0 0, .slice none 0 0, .slice none 0 0, .slice none 0 0] 50) := ⟨_, rfl⟩
    rw [← hw9] at HBK HU05 HS5 HB5 HBB0 ⊢
    obtain ⟨bk, hbk⟩ : ∃ b, b = w2.heap.size := ⟨_, rfl⟩
    obtain ⟨be, hbe⟩ : ∃ b, b = w1.heap.size := ⟨_, rfl⟩
    obtain ⟨lo, hlo⟩ : ∃ b, b = w9.heap.size := ⟨_, rfl⟩
    have HLO := Lib.hid hlo
    rw [← hbk, ← hlo] at HBK
    rw [← hbk, ← hbe, ← hlo] at HBB0
    rw [← hbe] at HS5
    rw [← hbk, ← hbe]
    have HBB := HBB0
    clear hw9 hbk hbe hlo
    go_wp2_with fail
    go_loopw [6] (fun i wr => ∃ k : Nat, k ≤ 2 ∧ i = .int .i64 k ∧ LoopSt lo bk w9 wr) (fun i _ => 2 - (intOf i).toNat)
    case atStart => exact ⟨0, by omega, rfl, HBK.out⟩
    case round =>
      clear HBK
      obtain ⟨k, hk, rfl, hS⟩ := hrel
      have hUw : Up w wr := up_big HU05.out (by have := HBB.out; omega) (by have := HBB.out; omega) hS.2
      have hUS : wr.heap[w.heap.size]? = _ := (hS.2.block _ (lt_of_block' HB5.out) (by have := HBB.out; omega)).trans HB5.out
      have hUE : wr.heap[be]? = _ := (hS.2.block _ (lt_of_block' HS5.out) (by have := HBB.out; omega)).trans HS5.out
      have hsz : lo ≤ wr.heap.size := by rw [HLO.out]; exact hS.2.size
      by_cases hlt : k < 2
      · have qk : (k : Int) < 2 := by omega
        obtain ⟨⟨k0, k1, k2, k3⟩, -⟩ := four_cells hUS
        have HUE := Lib.hid hUE
        have HUw := Lib.hid hUw
        have HS := Lib.hid hS
        clear hUS hUE hUw hS
        go_wp2_with (first
          | (go_at_call 14; refine (HRK.out _ HUw.out).mono ?_; rintro r w6 ⟨qb, rfl, HFF, hu6⟩; (have HU6 := Lib.hid hu6); (obtain ⟨⟨e0, e1, e2, e3⟩, -⟩ := four_cells ((hu6.block _ (lt_of_block' HUE.out)).trans HUE.out)); clear hu6 k0 k1 k2 k3; unfold faultAt)
          | (go_at_call 19; refine Calls.mono (show Calls Tryz.prog 19 #[.iface 101 (.pointer (some ⟨qb, 0, none⟩)), .agg #[.int .i64 14, .int .i64 0, .int .i64 0, .string layersBoth]] w6 (fun r w' => r = .returned (.bool true) ∧ Up w6 w') from told_nest HFF.out.choose_spec.1 HFF.out.choose_spec.2 (HST.out.sts.up (HUw.out.trans HU6.out))) ?_; rintro r w7 ⟨rfl, hu7⟩; (have HU7 := Lib.hid (HU6.out.trans hu7)); clear hu7)
          | (go_at_call 20; refine (HSR.out _).mono ?_; rintro r w8 ⟨rfl, q8, rfl⟩)
          | (go_at_call 21; refine (HS.out.rowNil hsz (HU7.out.drewN q8)).mono ?_; rintro r w9' ⟨rfl, hS9⟩))
        go_roundw
        case rel => exact ⟨k + 1, by omega, by go_num, hS9⟩
        case measure => simp [intOf]; omega
      · obtain rfl : k = 2 := by omega
        obtain ⟨⟨P, Q, R, hB⟩, ht⟩ := hS
        have HB := Lib.hid hB
        have HUw := Lib.hid hUw
        clear hB ht hUw hUS hUE
        go_wp2_with (first
          | (go_at_call 10; refine (HA.out _ HUw.out).mono ?_; rintro r w6 ⟨rfl, hu6⟩)
          | (go_at_call 22; refine ((HB.out.up hu6).apart).mono ?_; rintro r w7 ⟨rfl, ht7⟩))
        go_ret
        exact ⟨rfl, up_big (HUw.out.trans hu6) (by have := HBB.out; omega) (by have := HBB.out; omega) ht7⟩

set_option maxHeartbeats 8000000 in
set_option maxRecDepth 100000 in
theorem rksLaw_long (s : Sy.Lts) (se : Value) (a : Nat → Addr) (w : World) (hn : 300 < s.n) (hc : (s.es.length : Int) ≤ 11000) (hr : Sy.right s = true) (hS : Set14 w s se a) :
    Calls Tryz.prog 8 #[sysV s se] w (Good w) := by
  obtain ⟨ao, cap, rfl⟩ := ls3_shape hS.arg
  have hA : ∀ W, Up w W → Calls Tryz.prog 10 #[] W fun r w' => r = .returned (.bool true) ∧ Up W w' := fun W hu => alive_any (hS.tab.up hu) (hu.cell hS.typ) (hu.cell hS.sys)
  have hHA : ∀ W, Up w W → Calls Tryz.prog 17 #[.string { data := #[114, 111, 117, 110, 100, 115] }, sysV s (.slice ao s.es.length cap)] W fun r w' => r = .returned (handedV s) ∧ Up W w' := fun W hu => refHanded_any s _ W (hS.arg.up hu) hS.len
  have hh : handedV s = errV 0 { data := #[] } := by unfold handedV noErr; rw [hr]; rfl
  rw [hh] at hHA
  have hRK : ∀ W, Up w W → Calls Tryz.prog 14 #[sysV s (.slice ao s.es.length cap)] W fun r w' => ∃ qb, r = .returned (.tuple #[.slice none 0 0, faultAt qb]) ∧ Hid (FaultE w' qb layerRounds (.iface 299 (.pointer (some (a 1))))) ∧ Up W w' := fun W hu => by
    refine (ranks_long s _ (a 13) _ _ W hr hn (hS.tab.up hu) (hu.cell hS.typ) (hS.arg.up hu) (hu.cell hS.sys) (hu.cell (rksLong hS)) hS.len).mono ?_
    rintro r w' ⟨hu1, ⟨-, h1, -⟩ | ⟨-, -, pb, rfl, -, hf⟩ | ⟨h1, -⟩⟩
    · omega
    · exact ⟨pb, rfl, Lib.hid hf, hu1⟩
    · exact absurd (hr.symm.trans h1) (by decide)
  have HBAD : Hid (∀ W, Calls Tryz.prog 24 #[.string { data := #[114, 111, 117, 110, 100, 115] }, .int .i64 2] W fun r w' => r = .returned (.agg #[.int .i64 2, .int .i64 0, .int .i64 0, .string layersRounds]) ∧ Up W w') := Lib.hid (fun W => badR_any 2 W)
  have HSR : Hid (∀ W, Calls Tryz.prog 20 #[.slice none 0 0, .slice none 0 0] W (Same W true)) := Lib.hid (fun W => Rw.sameRows_same (rows := []) (by simp) (fun i hi => absurd hi (Nat.not_lt_zero i)) (lstR_nil W) (lstR_nil W))
  have HST := Lib.hid hS
  obtain ⟨L, hL⟩ : ∃ L, L = s.es.length := ⟨_, rfl⟩
  unfold sysV at hHA hRK ⊢
  rw [← hL] at hHA hRK hc ⊢
  have HA := Lib.hid hA
  have HHA := Lib.hid hHA
  have HRK := Lib.hid hRK
  have hb0 := heap_alloc_new w (.cells #[.int .i64 s.n, .int .i64 s.m, .int .i64 s.start, .slice ao L cap] 24)
  have HB0 := Lib.hid hb0
  have HU0 : Hid (Up w (w.alloc (.cells #[.int .i64 s.n, .int .i64 s.m, .int .i64 s.start, .slice ao L cap] 24))) := Lib.hid ((Up.refl w).alloc _)
  unfold errV at HHA
  have q1 : decide (s.n ≤ 300) = false := by simp; omega
  have q3 : decide (11000 < (L : Int)) = false := by simp; omega
  have q4 : decide (300 < s.n) = true := by simp; omega
  clear hA hHA hRK hS hL hb0 hh hn hc
  go_enter Tryz.func8, Tryz.ntmps8
  go_upto_region 4 with (go_at_call 17; refine (HHA.out _ HU0.out).mono ?_; rintro r w1 ⟨rfl, hu1⟩; (have HUB1 := Lib.hid hu1); clear hu1)
  have HUB2 := Lib.hid (HUB1.out.alloc (.cells #[.int .i64 0, .int .i64 0, .int .i64 0, .string { data := #[] }] 52))
  have HBE := Lib.hid (heap_alloc_new w1 (.cells #[.int .i64 0, .int .i64 0, .int .i64 0, .string { data := #[] }] 52))
  obtain ⟨w2, hw2⟩ : ∃ w2, w2 = w1.alloc (.cells #[.int .i64 0, .int .i64 0, .int .i64 0, .string { data := #[] }] 52) := ⟨_, rfl⟩
  have hw2s : w2.heap.size = w1.heap.size + 1 := by rw [hw2, World.size_alloc]
  rw [← hw2] at HUB2 HBE ⊢
  have HW2 := Lib.hid hw2s
  obtain ⟨⟨e0, e1, e2, e3⟩, -⟩ := four_cells HBE.out
  obtain ⟨⟨k0, k1, k2, k3⟩, -⟩ := four_cells ((HUB2.out.block _ (lt_of_block' HB0.out)).trans HB0.out)
  clear hw2 hw2s
  go_upto_region 6 with (go_at_call 24; refine (HBAD.out _).mono ?_; rintro r w3 ⟨rfl, hu3⟩; (have hbe3 := (hu3.block _ (lt_of_block' HBE.out)).trans HBE.out); (obtain ⟨⟨p0, p1, p2, p3⟩, z0, z1, z2, z3⟩ := four_cells hbe3); (have HU3 := Lib.hid (HUB2.out.trans hu3)); (have HSZ := Lib.hid hu3.size); (have HBE3 := Lib.hid hbe3); clear hu3 hbe3 e0 e1 e2 e3 k0 k1 k2 k3)
  obtain ⟨⟨y0, y1, y2, y3⟩, hT, hb4⟩ := four_set HBE3.out (.int .i64 2) (.int .i64 0) (.int .i64 0) (.string layersRounds)
  have hu4 : Up (w.alloc (.cells #[.int .i64 s.n, .int .i64 s.m, .int .i64 s.start, .slice ao L cap] 24)) ((((w3.setCell ⟨w1.heap.size, 0, none⟩ (.int .i64 2)).setCell ⟨w1.heap.size, 1, none⟩ (.int .i64 0)).setCell ⟨w1.heap.size, 2, none⟩ (.int .i64 0)).setCell ⟨w1.heap.size, 3, none⟩ (.string layersRounds)) := up_turned HU3.out (by have := HUB1.out.size; omega) hT
  obtain ⟨w4, hw4⟩ : ∃ w4, w4 = (((w3.setCell ⟨w1.heap.size, 0, none⟩ (.int .i64 2)).setCell ⟨w1.heap.size, 1, none⟩ (.int .i64 0)).setCell ⟨w1.heap.size, 2, none⟩ (.int .i64 0)).setCell ⟨w1.heap.size, 3, none⟩ (.string layersRounds) := ⟨_, rfl⟩
  have hs4 : w2.heap.size ≤ w4.heap.size := by rw [hw4]; simpa using HSZ.out
  rw [← hw4] at y0 y1 y2 y3 hb4 hu4 ⊢
  have HB4 := Lib.hid hb4
  have HU4 := Lib.hid hu4
  have HX2 := Lib.hid hs4
  clear hw4 hT hb4 hu4 p0 p1 p2 p3 z0 z1 z2 z3 hs4
  go_upto_region 10 with fail
  clear y0 y1 y2 y3
  have HBK := Lib.hid (LoopSt.start (w0 := w4.alloc (.cells #[.slice none 0 0, .slice none 0 0, .slice none 0 0, .slice none 0 0, .slice none 0 0, .slice none 0 0, .slice none 0 0, .slice none 0 0, .slice none 0 0, .slice none 0 0, .slice none 0 0, .slice none 0 0, .slice none 0 0, .slice none 0 0, .slice none 0 0, .slice none 0 0, .slice none 0 0, .slice none 0 0, .slice none 0 0, .slice none 0 0, .slice none 0 0, .slice none 0 0] 50)) rfl (Up.refl _))
  have HU05 := Lib.hid (HU0.out.trans (HU4.out.alloc (.cells #[.slice none 0 0, .slice none 0 0, .slice none 0 0, .slice none 0 0, .slice none 0 0, .slice none 0 0, .slice none 0 0, .slice none 0 0, .slice none 0 0, .slice none 0 0, .slice none 0 0, .slice none 0 0, .slice none 0 0, .slice none 0 0, .slice none 0 0, .slice none 0 0, .slice none 0 0, .slice none 0 0, .slice none 0 0, .slice none 0 0, .slice none 0 0, .slice none 0 0] 50)))
  have HS5 := Lib.hid ((((Up.refl w4).alloc (.cells #[.slice none 0 0, .slice none 0 0, .slice none 0 0, .slice none 0 0, .slice none 0 0, .slice none 0 0, .slice none 0 0, .slice none 0 0, .slice none 0 0, .slice none 0 0, .slice none 0 0, .slice none 0 0, .slice none 0 0, .slice none 0 0, .slice none 0 0, .slice none 0 0, .slice none 0 0, .slice none 0 0, .slice none 0 0, .slice none 0 0, .slice none 0 0, .slice none 0 0] 50)).block _ (lt_of_block' HB4.out)).trans HB4.out)
  have HB5 := Lib.hid (((HU4.out.alloc (.cells #[.slice none 0 0, .slice none 0 0, .slice none 0 0, .slice none 0 0, .slice none 0 0, .slice none 0 0, .slice none 0 0, .slice none 0 0, .slice none 0 0, .slice none 0 0, .slice none 0 0, .slice none 0 0, .slice none 0 0, .slice none 0 0, .slice none 0 0, .slice none 0 0, .slice none 0 0, .slice none 0 0, .slice none 0 0, .slice none 0 0, .slice none 0 0, .slice none 0 0] 50)).block _ (lt_of_block' HB0.out)).trans HB0.out)
  have HBB0 : Hid (w.heap.size < w1.heap.size ∧ w1.heap.size < w4.heap.size ∧ w4.heap.size < (w4.alloc (.cells #[.slice none 0 0, .slice none 0 0, .slice none 0 0, .slice none 0 0, .slice none 0 0, .slice none 0 0, .slice none 0 0, .slice none 0 0, .slice none 0 0, .slice none 0 0, .slice none 0 0, .slice none 0 0, .slice none 0 0, .slice none 0 0, .slice none 0 0, .slice none 0 0, .slice none 0 0, .slice none 0 0, .slice none 0 0, .slice none 0 0, .slice none 0 0, .slice none 0 0] 50)).heap.size) := Lib.hid (by
    have h1 := HUB1.out.size
    have h2 := HW2.out
    have h3 := HX2.out
    rw [World.size_alloc] at h1 ⊢
    omega)
  obtain ⟨w9, hw9⟩ : ∃ w9, w9 = w4.alloc (.cells #[.slice none 0 0, .slice none 0 0, .slice none 0 0, .slice none 0 0, .slice none 0 0, .slice none 0 0, .slice none 0 0, .slice none 0 0, .slice none 0 0, .slice none 0 0, .slice none 0 0, .slice none 0 0, .slice none 0 0, .slice none 0 0, .slice none 0 0, .slice none 0 0, .slice none 0 0, .slice none 0 0, .slice none 0 0, .slice none 0 0, .slice none 0 0, .slice none 0 0] 50) := ⟨_, rfl⟩
  rw [← hw9] at HBK HU05 HS5 HB5 HBB0 ⊢
  obtain ⟨bk, hbk⟩ : ∃ b, b = w4.heap.size := ⟨_, rfl⟩
  obtain ⟨be, hbe⟩ : ∃ b, b = w1.heap.size := ⟨_, rfl⟩
  obtain ⟨lo, hlo⟩ : ∃ b, b = w9.heap.size := ⟨_, rfl⟩
  have HLO := Lib.hid hlo
  rw [← hbk, ← hlo] at HBK
  rw [← hbk, ← hbe, ← hlo] at HBB0
  rw [← hbe] at HS5
  rw [← hbk, ← hbe]
  have HBB := HBB0
  clear hw9 hbk hbe hlo
  go_wp2_with fail
  go_loopw [6] (fun i wr => ∃ k : Nat, k ≤ 2 ∧ i = .int .i64 k ∧ LoopSt lo bk w9 wr) (fun i _ => 2 - (intOf i).toNat)
  case atStart => exact ⟨0, by omega, rfl, HBK.out⟩
  case round =>
    clear HBK
    obtain ⟨k, hk, rfl, hS⟩ := hrel
    have hUw : Up w wr := up_big HU05.out (by have := HBB.out; omega) (by have := HBB.out; omega) hS.2
    have hUS : wr.heap[w.heap.size]? = _ := (hS.2.block _ (lt_of_block' HB5.out) (by have := HBB.out; omega)).trans HB5.out
    have hUE : wr.heap[be]? = _ := (hS.2.block _ (lt_of_block' HS5.out) (by have := HBB.out; omega)).trans HS5.out
    have hsz : lo ≤ wr.heap.size := by rw [HLO.out]; exact hS.2.size
    by_cases hlt : k < 2
    · have qk : (k : Int) < 2 := by omega
      obtain ⟨⟨k0, k1, k2, k3⟩, -⟩ := four_cells hUS
      have HUE := Lib.hid hUE
      have HUw := Lib.hid hUw
      have HS := Lib.hid hS
      clear hUS hUE hUw hS
      go_wp2_with (first
        | (go_at_call 14; refine (HRK.out _ HUw.out).mono ?_; rintro r w6 ⟨qb, rfl, HFF, hu6⟩; (have HU6 := Lib.hid hu6); (obtain ⟨⟨e0, e1, e2, e3⟩, -⟩ := four_cells ((hu6.block _ (lt_of_block' HUE.out)).trans HUE.out)); clear hu6 k0 k1 k2 k3; unfold faultAt)
        | (go_at_call 19; refine Calls.mono (show Calls Tryz.prog 19 #[.iface 101 (.pointer (some ⟨qb, 0, none⟩)), .agg #[.int .i64 2, .int .i64 0, .int .i64 0, .string layersRounds]] w6 (fun r w' => r = .returned (.bool true) ∧ Up w6 w') from told_long HFF.out (HST.out.sts.up (HUw.out.trans HU6.out))) ?_; rintro r w7 ⟨rfl, hu7⟩; (have HU7 := Lib.hid (HU6.out.trans hu7)); clear hu7)
        | (go_at_call 20; refine (HSR.out _).mono ?_; rintro r w8 ⟨rfl, q8, rfl⟩)
        | (go_at_call 21; refine (HS.out.rowNil hsz (HU7.out.drewN q8)).mono ?_; rintro r w9' ⟨rfl, hS9⟩))
      go_roundw
      case rel => exact ⟨k + 1, by omega, by go_num, hS9⟩
      case measure => simp [intOf]; omega
    · obtain rfl : k = 2 := by omega
      obtain ⟨⟨P, Q, R, hB⟩, ht⟩ := hS
      have HB := Lib.hid hB
      have HUw := Lib.hid hUw
      clear hB ht hUw hUS hUE
      go_wp2_with (first
        | (go_at_call 10; refine (HA.out _ HUw.out).mono ?_; rintro r w6 ⟨rfl, hu6⟩)
        | (go_at_call 22; refine ((HB.out.up hu6).apart).mono ?_; rintro r w7 ⟨rfl, ht7⟩))
      go_ret
      exact ⟨rfl, up_big (HUw.out.trans hu6) (by have := HBB.out; omega) (by have := HBB.out; omega) ht7⟩

/-- What was answered ahead of the book stands while the loop goes on. -/
theorem rks_want {lo bk b m : Nat} {w4 w0 wr : World} {v : Value} {vs : List Value} {rows : List (List Int)} (h : LoopSt lo bk w0 wr) (ho : w4.ownsRow b 34 1 v m vs) (hr : RowsI b w4 vs rows) (hu : Up w4 w0) (hb : w4.heap.size ≤ bk) (hl : w4.heap.size ≤ lo) : Rw.LstR wr v rows := by
  have hk : ∀ {e : TypeId} {n : Nat} {u : Value} {xs : List Value}, w4.ownsRow b e 1 u n xs → wr.ownsRow 0 e 1 u n xs := fun hx => owns_base (owns_keep hx (fun g hg => (h.2.block g (Nat.lt_of_lt_of_le (owns_lt hx hg) hu.size) (fun e => by
    have h2 := (hx.lt g hg).2
    rcases e with e | e <;> omega)).trans (hu.block g (owns_lt hx hg)))) (Nat.zero_le _)
  have hvl : vs.length = m := by have := ho.1; rw [Nat.mul_one] at this; exact this
  refine rows_lstR (xs := vs) (by rw [hvl]; exact hk ho) (hr.1.symm) (fun j hj => ?_)
  have := hk (hr.2.1 j hj)
  rw [nth_undef (by rw [hr.1]; exact hj)] at this
  exact this

set_option maxHeartbeats 8000000 in
set_option maxRecDepth 100000 in
theorem rksLaw_ok (s : Sy.Lts) (se : Value) (a : Nat → Addr) (w : World) (hn : s.n ≤ 40) (hc : (s.es.length : Int) ≤ 11000) (hr : Sy.right s = true) (hcp : CapOk se) (hS : Set14 w s se a) :
    Calls Tryz.prog 8 #[sysV s se] w (Good w) := by
  obtain ⟨ao, cap, rfl⟩ := ls3_shape hS.arg
  have hA : ∀ W, Up w W → Calls Tryz.prog 10 #[] W fun r w' => r = .returned (.bool true) ∧ Up W w' := fun W hu => alive_any (hS.tab.up hu) (hu.cell hS.typ) (hu.cell hS.sys)
  have hHA : ∀ W, Up w W → Calls Tryz.prog 17 #[.string { data := #[114, 111, 117, 110, 100, 115] }, sysV s (.slice ao s.es.length cap)] W fun r w' => r = .returned (handedV s) ∧ Up W w' := fun W hu => refHanded_any s _ W (hS.arg.up hu) hS.len
  have hh : handedV s = errV 0 { data := #[] } := by unfold handedV noErr; rw [hr]; rfl
  rw [hh] at hHA
  have hR := (Sy.right_iff s).1 hr
  obtain ⟨m, hm⟩ : ∃ m, m = s.n.toNat := ⟨_, rfl⟩
  obtain ⟨rows, hrows⟩ : ∃ rows, rows = ranks s := ⟨_, rfl⟩
  have hml : m ≤ 40 := by omega
  have hrl : rows.length = m := by rw [hrows, hm]; exact rankRows_len s _
  have hrn : ∀ j, j < rows.length → (rows.getD j []).length ≤ 900000 := fun j hj => by
    rw [hrl, hm] at hj
    rw [hrows, ranks_get hj, rankRow_len]; omega
  have hRK : ∀ W, Up w W → Calls Tryz.prog 14 #[sysV s (.slice ao s.es.length cap)] W (GotRows m rows W) := fun W hu => by
    refine (ranks_ok s _ (a 13) .nilIface W hr (by omega) (hS.tab.up hu) (hu.cell hS.typ) (hS.arg.up hu) (hu.cell hS.sys) hS.len).mono ?_
    rintro r w' ⟨hu1, ⟨-, -, v, vs, rfl, ho, hrw⟩ | ⟨-, h1, -⟩ | ⟨h1, -⟩⟩
    · rw [← hm] at ho
      obtain ⟨av, cv, rfl⟩ := owns_shape' ho
      exact ⟨av, cv, vs, rfl, Lib.hid ⟨ho, by rw [hrows]; exact hrw⟩, hu1⟩
    · omega
    · exact absurd (hr.symm.trans h1) (by decide)
  have hRD : ∀ W, Up w W → Calls Tryz.prog 29 #[sysV s (.slice ao s.es.length cap)] W (GotWant m rows W) := fun W hu => by
    refine (refRanks_any s _ W hr (by omega) (hS.arg.up hu) hcp).mono ?_
    rintro r w' ⟨ao2, cap2, vs, rfl, ho, hrw, hu1⟩
    rw [← hm] at ho ⊢
    exact ⟨ao2, cap2, vs, rfl, Lib.hid ⟨ho, by rw [hrows]; exact hrw⟩, hu1⟩
  have HSR : Hid (∀ W v u, Rw.LstR W v rows → Rw.LstR W u rows → Calls Tryz.prog 20 #[v, u] W (Same W true)) := Lib.hid (fun W v u hv hu => Rw.sameRows_same (by omega) (fun i hi => by have := hrn i hi; omega) hv hu)
  have HTZ := Lib.hid told_zero
  have HRN := Lib.hid (⟨hrn, hml⟩ : (∀ j, j < rows.length → (rows.getD j []).length ≤ 900000) ∧ m ≤ 40)
  obtain ⟨L, hL⟩ : ∃ L, L = s.es.length := ⟨_, rfl⟩
  unfold sysV at hHA hRK hRD ⊢
  rw [← hL] at hHA hRK hRD hc ⊢
  have HA := Lib.hid hA
  have HHA := Lib.hid hHA
  have HRK := Lib.hid hRK
  have HRD := Lib.hid hRD
  have hb0 := heap_alloc_new w (.cells #[.int .i64 s.n, .int .i64 s.m, .int .i64 s.start, .slice ao L cap] 24)
  have HB0 := Lib.hid hb0
  have HU0 : Hid (Up w (w.alloc (.cells #[.int .i64 s.n, .int .i64 s.m, .int .i64 s.start, .slice ao L cap] 24))) := Lib.hid ((Up.refl w).alloc _)
  unfold noErr errV at HTZ
  unfold errV at HHA
  have q1 : decide (s.n ≤ 300) = true := by simp; omega
  have q2 : decide (40 < s.n) = false := by simp; omega
  have q3 : decide (11000 < (L : Int)) = false := by simp; omega
  have q4 : decide (300 < s.n) = false := by simp; omega
  clear hA hHA hRK hRD hS hL hb0 hh hn hc hR hm hrows hrl hrn hml
  go_enter Tryz.func8, Tryz.ntmps8
  go_upto_region 4 with (go_at_call 17; refine (HHA.out _ HU0.out).mono ?_; rintro r w1 ⟨rfl, hu1⟩; (have HUB1 := Lib.hid hu1); clear hu1)
  have HUB2 := Lib.hid (HUB1.out.alloc (.cells #[.int .i64 0, .int .i64 0, .int .i64 0, .string { data := #[] }] 52))
  have HBE := Lib.hid (heap_alloc_new w1 (.cells #[.int .i64 0, .int .i64 0, .int .i64 0, .string { data := #[] }] 52))
  obtain ⟨w2, hw2⟩ : ∃ w2, w2 = w1.alloc (.cells #[.int .i64 0, .int .i64 0, .int .i64 0, .string { data := #[] }] 52) := ⟨_, rfl⟩
  have hw2s : w2.heap.size = w1.heap.size + 1 := by rw [hw2, World.size_alloc]
  rw [← hw2] at HUB2 HBE ⊢
  have HW2 := Lib.hid hw2s
  obtain ⟨⟨e0, e1, e2, e3⟩, -⟩ := four_cells HBE.out
  obtain ⟨⟨k0, k1, k2, k3⟩, -⟩ := four_cells ((HUB2.out.block _ (lt_of_block' HB0.out)).trans HB0.out)
  clear hw2 hw2s
  go_upto_region 9 with (go_at_call 29; refine (HRD.out _ (HU0.out.trans HUB2.out)).mono ?_; rintro r w4 ⟨av, cv, us, rfl, HWA, hu4⟩; (have HU24 := Lib.hid hu4); (have HU4 := Lib.hid (HUB2.out.trans hu4)); (have HX2 := Lib.hid hu4.size); (have HB4 := Lib.hid ((hu4.block _ (lt_of_block' HBE.out)).trans HBE.out)); clear hu4)
  clear e0 e1 e2 e3 k0 k1 k2 k3
  go_upto_region 10 with fail
  have HBK := Lib.hid (LoopSt.start (w0 := w4.alloc (.cells #[.slice none 0 0, .slice none 0 0, .slice none 0 0, .slice none 0 0, .slice none 0 0, .slice none 0 0, .slice none 0 0, .slice none 0 0, .slice none 0 0, .slice none 0 0, .slice none 0 0, .slice none 0 0, .slice none 0 0, .slice none 0 0, .slice none 0 0, .slice none 0 0, .slice none 0 0, .slice none 0 0, .slice none 0 0, .slice none 0 0, .slice none 0 0, .slice none 0 0] 50)) rfl (Up.refl _))
  have HU05 := Lib.hid (HU0.out.trans (HU4.out.alloc (.cells #[.slice none 0 0, .slice none 0 0, .slice none 0 0, .slice none 0 0, .slice none 0 0, .slice none 0 0, .slice none 0 0, .slice none 0 0, .slice none 0 0, .slice none 0 0, .slice none 0 0, .slice none 0 0, .slice none 0 0, .slice none 0 0, .slice none 0 0, .slice none 0 0, .slice none 0 0, .slice none 0 0, .slice none 0 0, .slice none 0 0, .slice none 0 0, .slice none 0 0] 50)))
  have HS5 := Lib.hid ((((Up.refl w4).alloc (.cells #[.slice none 0 0, .slice none 0 0, .slice none 0 0, .slice none 0 0, .slice none 0 0, .slice none 0 0, .slice none 0 0, .slice none 0 0, .slice none 0 0, .slice none 0 0, .slice none 0 0, .slice none 0 0, .slice none 0 0, .slice none 0 0, .slice none 0 0, .slice none 0 0, .slice none 0 0, .slice none 0 0, .slice none 0 0, .slice none 0 0, .slice none 0 0, .slice none 0 0] 50)).block _ (lt_of_block' HB4.out)).trans HB4.out)
  have HB5 := Lib.hid (((HU4.out.alloc (.cells #[.slice none 0 0, .slice none 0 0, .slice none 0 0, .slice none 0 0, .slice none 0 0, .slice none 0 0, .slice none 0 0, .slice none 0 0, .slice none 0 0, .slice none 0 0, .slice none 0 0, .slice none 0 0, .slice none 0 0, .slice none 0 0, .slice none 0 0, .slice none 0 0, .slice none 0 0, .slice none 0 0, .slice none 0 0, .slice none 0 0, .slice none 0 0, .slice none 0 0] 50)).block _ (lt_of_block' HB0.out)).trans HB0.out)
  have HBB0 : Hid (w.heap.size < w1.heap.size ∧ w1.heap.size < w4.heap.size ∧ w4.heap.size < (w4.alloc (.cells #[.slice none 0 0, .slice none 0 0, .slice none 0 0, .slice none 0 0, .slice none 0 0, .slice none 0 0, .slice none 0 0, .slice none 0 0, .slice none 0 0, .slice none 0 0, .slice none 0 0, .slice none 0 0, .slice none 0 0, .slice none 0 0, .slice none 0 0, .slice none 0 0, .slice none 0 0, .slice none 0 0, .slice none 0 0, .slice none 0 0, .slice none 0 0, .slice none 0 0] 50)).heap.size) := Lib.hid (by
    have h1 := HUB1.out.size
    have h2 := HW2.out
    have h3 := HX2.out
    rw [World.size_alloc] at h1 ⊢
    omega)
  obtain ⟨w9, hw9⟩ : ∃ w9, w9 = w4.alloc (.cells #[.slice none 0 0, .slice none 0 0, .slice none 0 0, .slice none 0 0, .slice none 0 0, .slice none 0 0, .slice none 0 0, .slice none 0 0, .slice none 0 0, .slice none 0 0, .slice none 0 0, .slice none 0 0, .slice none 0 0, .slice none 0 0, .slice none 0 0, .slice none 0 0, .slice none 0 0, .slice none 0 0, .slice none 0 0, .slice none 0 0, .slice none 0 0, .slice none 0 0] 50) := ⟨_, rfl⟩
  rw [← hw9] at HBK HU05 HS5 HB5 HBB0 ⊢
  obtain ⟨bk, hbk⟩ : ∃ b, b = w4.heap.size := ⟨_, rfl⟩
  obtain ⟨be, hbe⟩ : ∃ b, b = w1.heap.size := ⟨_, rfl⟩
  obtain ⟨lo, hlo⟩ : ∃ b, b = w9.heap.size := ⟨_, rfl⟩
  have HLO := Lib.hid hlo
  rw [← hbk, ← hlo] at HBK
  rw [← hbk, ← hbe, ← hlo] at HBB0
  rw [← hbe] at HS5
  rw [← hbk, ← hbe]
  have HBB := HBB0
  have HWL : Hid (∀ wr, LoopSt lo bk w9 wr → Rw.LstR wr (.slice av m cv) rows) := Lib.hid (fun wr h => rks_want h HWA.out.1 HWA.out.2 (by rw [hw9]; exact (Up.refl _).alloc _) (by rw [hbk]; exact Nat.le_refl _) (by rw [hlo, hw9, World.size_alloc]; omega))
  clear hw9 hbk hbe hlo
  go_wp2_with fail
  go_loopw [6] (fun i wr => ∃ k : Nat, k ≤ 2 ∧ i = .int .i64 k ∧ LoopSt lo bk w9 wr) (fun i _ => 2 - (intOf i).toNat)
  case atStart => exact ⟨0, by omega, rfl, HBK.out⟩
  case round =>
    clear HBK
    obtain ⟨k, hk, rfl, hS⟩ := hrel
    have hUw : Up w wr := up_big HU05.out (by have := HBB.out; omega) (by have := HBB.out; omega) hS.2
    have hUS : wr.heap[w.heap.size]? = _ := (hS.2.block _ (lt_of_block' HB5.out) (by have := HBB.out; omega)).trans HB5.out
    have hUE : wr.heap[be]? = _ := (hS.2.block _ (lt_of_block' HS5.out) (by have := HBB.out; omega)).trans HS5.out
    have hsz : lo ≤ wr.heap.size := by rw [HLO.out]; exact hS.2.size
    by_cases hlt : k < 2
    · have qk : (k : Int) < 2 := by omega
      obtain ⟨⟨k0, k1, k2, k3⟩, -⟩ := four_cells hUS
      have HUE := Lib.hid hUE
      have HUw := Lib.hid hUw
      have HS := Lib.hid hS
      clear hUS hUE hUw hS
      go_wp2_with (first
        | (go_at_call 14; refine (HRK.out _ HUw.out).mono ?_; rintro r w6 ⟨a2, c2, vs, rfl, HGV, hu6⟩; (have HU6 := Lib.hid hu6); (obtain ⟨⟨e0, e1, e2, e3⟩, -⟩ := four_cells ((hu6.block _ (lt_of_block' HUE.out)).trans HUE.out)); clear hu6 k0 k1 k2 k3)
        | (go_at_call 19; refine (HTZ.out _).mono ?_; rintro r w7 ⟨rfl, hu7⟩; (have HU7 := Lib.hid (HU6.out.trans hu7)); (have HV7 := Lib.hid (And.intro (hu7.owns HGV.out.1) (HGV.out.2.up hu7))); clear hu7)
        | (go_at_call 20; refine (HSR.out _ _ _ (rowsI_lst HV7.out.1 HV7.out.2) ((HWL.out _ HS.out).up HU7.out)).mono ?_; rintro r w8 ⟨rfl, q8, rfl⟩)
        | (go_at_call 21; refine (HS.out.row hsz (HU7.out.drewN q8) (((Up.refl _).drewN q8).owns HV7.out.1) (HV7.out.2.up ((Up.refl _).drewN q8)) HRN.out.1 (by have := HRN.out.2; omega)).mono ?_; rintro r w9' ⟨rfl, hS9⟩))
      go_roundw
      case rel => exact ⟨k + 1, by omega, by go_num, hS9⟩
      case measure => simp [intOf]; omega
    · obtain rfl : k = 2 := by omega
      obtain ⟨⟨P, Q, R, hB⟩, ht⟩ := hS
      have HB := Lib.hid hB
      have HUw := Lib.hid hUw
      clear hB ht hUw hUS hUE
      go_wp2_with (first
        | (go_at_call 10; refine (HA.out _ HUw.out).mono ?_; rintro r w6 ⟨rfl, hu6⟩)
        | (go_at_call 22; refine ((HB.out.up hu6).apart).mono ?_; rintro r w7 ⟨rfl, ht7⟩))
      go_ret
      exact ⟨rfl, up_big (HUw.out.trans hu6) (by have := HBB.out; omega) (by have := HBB.out; omega) ht7⟩

/-- THE STATEMENT, WALKED. -/
theorem rksLaw_any {s : Sy.Lts} {se : Value} {a : Nat → Addr} {w : World} (hs : Ls3 w se s.es) (hl : s.es.length ≤ maxLen) (hcp : CapOk se) (S : Sts14 w a) (hT : Tab w) (hG : ErrT w) :
    Calls Tryz.prog 8 #[sysV s se] w (Good w) := by
  have hS : Set14 w s se a := ⟨S, hT, hG, hs, hl⟩
  by_cases h1 : s.n ≤ 300 ∧ 40 < s.n
  · exact rksLaw_out s se a w (.inl ⟨by simpa using h1.1, by simpa using h1.2⟩) hS
  · by_cases h2 : 11000 < (s.es.length : Int)
    · by_cases h3 : s.n ≤ 300
      · exact rksLaw_out s se a w (.inr (.inl ⟨by simpa using h3, by simp; omega, decide_eq_true h2⟩)) hS
      · exact rksLaw_out s se a w (.inr (.inr ⟨by simpa using h3, decide_eq_true h2⟩)) hS
    · cases hr : Sy.right s
      · by_cases h3 : s.n ≤ 300
        · exact rksLaw_bad s se a w (.inl ⟨by simpa using h3, by simp; omega, decide_eq_false h2⟩) hr hS
        · exact rksLaw_bad s se a w (.inr ⟨by simpa using h3, decide_eq_false h2⟩) hr hS
      · by_cases h3 : s.n ≤ 300
        · exact rksLaw_ok s se a w (by omega) (by omega) hr hcp hS
        · exact rksLaw_long s se a w (by omega) (by omega) hr hS

end Go.Proofs.YtpmdjicaefmbnaaGreatDoor
