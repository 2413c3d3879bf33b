/- The document's own answer: a signature as rising numbers. The document's own answer: are two lists alike; the first round in which two states are apart. The document's own answer: the classes of the next round. The document's own answer: the classes of the next round, walked. -/
import Derived.Test.YtpmdjicaefmbnaaGreatDoorRdMet
import Derived.Test.YtpmdjicaefmbnaaGreatDoorRdRanks
import Derived.Test.YtpmdjicaefmbnaaGreatDoorRdRefM
import Derived.Test.YtpmdjicaefmbnaaGreatDoorQOrd
import Derived.Test.YtpmdjicaefmbnaaGreatDoorQuiet
import Derived.Deep.Cut
import Derived.BigCall
import Derived.OwnWalk

namespace Go.Proofs.YtpmdjicaefmbnaaGreatDoor
open Go.RowKit Go.Maps
set_option linter.unusedVariables false
set_option linter.unusedSimpArgs false

/-- A row that a call has made, a cell of it written. -/
theorem owns_set {w : World} {base n i : Nat} {v : Value} {l : List Int} (h : w.ownsRow base 3 1 v n (ivs l)) (hi : i < n) (x : Int) :
    ∃ g cap, v = .slice (some ⟨g, 0, none⟩) n cap ∧ base ≤ g ∧ w.cell? ⟨g, i, none⟩ = some (.int .i64 (l.getD i 0)) ∧ w.frozen? ⟨g, i, none⟩ = false ∧ (w.setCell ⟨g, i, none⟩ (.int .i64 x)).ownsRow base 3 1 v n (ivs (l.set i x)) := by
  have hl : l.length = n := by have := h.1; rw [ivs_len] at this; omega
  have hlt := h.lt
  rcases owns_cases h with ⟨-, h1, -⟩ | ⟨g, cap, rfl, hr, hnc, hcm, -⟩
  · omega
  · refine ⟨g, cap, rfl, (hlt g rfl).1, hr.cell (by simp [ivs, show i < l.length by omega]), hr.free i, ?_⟩
    have h2 := hr.set i (.int .i64 x)
    have e : (ivs l).set i (.int .i64 x) = ivs (l.set i x) := by simp [ivs, List.map_set]
    rw [e] at h2
    exact Row.ownsAt h2 (hlt g rfl).1 hnc hcm (by rw [ivs_len, List.length_set]; omega)

theorem owns_at {w : World} {base n i : Nat} {v : Value} {l : List Int} (h : w.ownsRow base 3 1 v n (ivs l)) (hi : i < n) :
    ∃ g cap, v = .slice (some ⟨g, 0, none⟩) n cap ∧ w.cell? ⟨g, i, none⟩ = some (.int .i64 (l.getD i 0)) := by
  obtain ⟨g, cap, h1, -, h2, -⟩ := owns_set h hi 0
  exact ⟨g, cap, h1, h2⟩

/-- Room made at a place. -/
theorem shift_step (S : List Int) (y : Int) {j : Nat} (hj : 0 < j) (hjl : j ≤ S.length) : (S.take j ++ y :: S.drop j).set j ((S.take j ++ y :: S.drop j).getD (j - 1) 0) = S.take (j - 1) ++ S.getD (j - 1) 0 :: S.drop (j - 1) := by
  have hlt : (S.take j).length = j := by rw [List.length_take]; omega
  have e1 : (S.take j ++ y :: S.drop j).getD (j - 1) 0 = S.getD (j - 1) 0 := by
    simp only [List.getD, List.getElem?_append, hlt, show j - 1 < j by omega, if_true, List.getElem?_take]
  rw [e1]
  have e2 : (S.take j ++ y :: S.drop j).set j (S.getD (j - 1) 0) = S.take j ++ S.getD (j - 1) 0 :: S.drop j := by
    rw [List.set_append_right _ _ (by omega), hlt, Nat.sub_self, List.set_cons_zero]
  rw [e2]
  obtain ⟨i, rfl⟩ : ∃ i, j = i + 1 := ⟨j - 1, by omega⟩
  rw [Nat.add_sub_cancel]
  have hi : i < S.length := by omega
  have e3 : S.getD i 0 = S[i] := by simp [List.getD, hi]
  rw [e3, List.take_succ_eq_append_getElem hi, List.append_assoc]
  congr 1
  rw [List.drop_eq_getElem_cons hi]
  rfl

theorem shift_len (S : List Int) (y : Int) (j : Nat) (hj : j ≤ S.length) : (S.take j ++ y :: S.drop j).length = S.length + 1 := by
  simp; omega

theorem put_set (S : List Int) (y v : Int) (j : Nat) (hj : j ≤ S.length) : (S.take j ++ y :: S.drop j).set j v = S.take j ++ v :: S.drop j := by
  have hlt : (S.take j).length = j := by rw [List.length_take]; omega
  rw [List.set_append_right _ _ (by omega), hlt, Nat.sub_self, List.set_cons_zero]

theorem refSig_take (c : List Nat) (l : List (Int × Int)) (i : Nat) (h : i < l.length) : Rd.refSig c (l.take (i + 1)) = Rd.putIn (Rd.refSig c (l.take i)) (Rd.num c (l.getD i (0, 0))) := by
  unfold Rd.refSig
  have e : l.getD i (0, 0) = l[i] := by simp [List.getD, h]
  rw [Rd.putIn_norm, List.take_succ_eq_append_getElem h, List.map_append, e]
  rfl

theorem refSig_len (c : List Nat) (l : List (Int × Int)) : (Rd.refSig c l).length ≤ l.length := by
  unfold Rd.refSig
  have := Sy.norm_len (lt := Rd.ltI) (l.map (Rd.num c))
  rwa [List.length_map] at this

theorem refSig_rises (c : List Nat) (l : List (Int × Int)) : (Rd.refSig c l).Pairwise (fun a b => Rd.ltI a b = true) := Sy.pairwise_norm Rd.totI _

set_option maxHeartbeats 16000000 in
set_option maxRecDepth 100000 in
theorem refSig_any {w : World} {v cv : Value} {l : List (Int × Int)} {c : List Nat} (hv : Ls2 w v l) (hc : Lst w cv (c.map Int.ofNat)) (hl : l.length ≤ 1000000) (hcl : c.length ≤ 1000)
    (hok : ∀ x ∈ l, 0 ≤ x.1 ∧ x.1 < 1000 ∧ 0 ≤ x.2 ∧ x.2 < c.length) (hsm : Rd.Small c) :
    Calls Tryz.prog 127 #[v, cv] w (GotInts w (Rd.refSig c l)) := by
  obtain ⟨i0, hi, hz0, hz1, hz2⟩ := info_parts Tryz.intsInfo
  obtain ⟨ao, cap, g, off, rfl, ha, hx⟩ := hv
  obtain ⟨bo, cap2, g2, off2, rfl, hb, hy⟩ := hc
  rw [List.length_map] at hb ⊢
  obtain ⟨n, hn⟩ : ∃ n, n = l.length := ⟨_, rfl⟩
  obtain ⟨m, hm⟩ : ∃ m, m = c.length := ⟨_, rfl⟩
  rw [← hn] at ha hl ⊢
  rw [← hm] at hb hcl ⊢
  have HA := Lib.hid ha
  have HB := Lib.hid hb
  have HX := Lib.hid hx
  have HY : Hid (∀ i, i < c.length → w.cell? ⟨g2, off2 + i, none⟩ = some (.int .i64 ((c.getD i 0 : Nat) : Int))) := Lib.hid (fun i hi => at_nat hy hi)
  have HN := Lib.hid hn
  have HM := Lib.hid hm
  have HOK := Lib.hid hok
  have HSM := Lib.hid hsm
  clear ha hb hx hy hn hm hok hsm
  go_enter Tryz.func127, Tryz.ntmps127
  go_wp2_with fail
  go_loopw [5, 6] (fun t i wr => ∃ j k : Nat, i = .int .i64 j ∧ j ≤ n ∧ k ≤ j ∧ Hid (Up w wr ∧ k = (Rd.refSig c (l.take j)).length) ∧ wr.ownsRow w.heap.size 3 1 t k (ivs (Rd.refSig c (l.take j)))) (fun _ i _ => n - (intOf i).toNat)
  case atStart => exact ⟨0, 0, rfl, Nat.zero_le _, Nat.le_refl _, Lib.hid ⟨Up.refl w, rfl⟩, World.ownsRow_nil _ _ _ _⟩
  case round =>
    obtain ⟨j, k, rfl, hj, hkj, HU, hown⟩ := hrel
    rename World => wo
    obtain ⟨av, cv5, hsh⟩ := owns_shape' hown
    subst hsh
    by_cases hlt : j < n
    · obtain rfl := HA.out (by omega)
      have hjl : j < l.length := by rw [← HN.out]; exact hlt
      obtain ⟨x, hxe⟩ : ∃ x, l.getD j (0, 0) = x := ⟨_, rfl⟩
      have hok := HOK.out x (by rw [← hxe, ← getD_of (0, 0) hjl]; exact List.getElem_mem hjl)
      have hcc := HX.out j hjl
      have HT := Lib.hid (refSig_take c l j hjl)
      rw [hxe] at hcc HT
      have HRI := Lib.hid (refSig_rises c (l.take j))
      obtain ⟨x1, x2⟩ := x
      obtain ⟨z, hz⟩ : ∃ z : Nat, x2 = (z : Int) := ⟨x2.toNat, by have := hok.2.2.1; simp only at this; omega⟩
      subst hz
      simp only at hcc hok
      have hzm : z < m := by rw [HM.out]; omega
      obtain rfl := HB.out (by omega)
      have hyz := HY.out z (by rw [← HM.out]; exact hzm)
      have hysm := HSM.out z
      have hnum : Rd.num c (x1, (z : Int)) = x1 * 1001 + ((c.getD z 0 : Nat) : Int) := by unfold Rd.num; simp only [Int.toNat_natCast]
      rw [hnum] at HT
      obtain ⟨y, hye⟩ : ∃ y, c.getD z 0 = y := ⟨_, rfl⟩
      rw [hye] at hyz hysm HT
      obtain ⟨V, hV⟩ : ∃ V : Int, x1 * 1001 + (y : Int) = V := ⟨_, rfl⟩
      rw [hV] at HT
      have qv1 : IntKind.i64.wrap (x1 * 1001) = x1 * 1001 := by simp [IntKind.wrap, IntKind.bits, IntKind.signed]; omega
      have qv2 : IntKind.i64.wrap (x1 * 1001 + (y : Int)) = V := by rw [← hV]; simp [IntKind.wrap, IntKind.bits, IntKind.signed]; omega
      have d0 := HU.out.1.cell hcc.1
      have d1 := HU.out.1.cell hcc.2
      have d2 := HU.out.1.cell hyz
      obtain ⟨S, hS⟩ : ∃ S, S = Rd.refSig c (l.take j) := ⟨_, rfl⟩
      rw [← hS] at hown HT HRI
      have HKL : Hid (k = S.length) := Lib.hid (by rw [hS]; exact HU.out.2)
      have HO := Lib.hid hown
      have HUP := Lib.hid HU.out.1
      clear hcc hok hxe hyz hysm hnum hye hV hjl hown hS HU
      go_wp2_with fail
      go_quiet (fail)
      obtain ⟨w3, hw3⟩ : ∃ w3, w3 = wo.drewN nq := ⟨_, rfl⟩
      rw [← hw3]
      have HU3 : Hid (Up wo w3) := Lib.hid (by rw [hw3]; exact (Up.refl wo).drewN _)
      have HO3 := Lib.hid (HU3.out.owns HO.out)
      clear hw3 d0 d1 d2 qv1 qv2
      go_wp2_with fail
      go_loopw [8] (fun i wr => ∃ q : Nat, i = .int .i64 q ∧ q ≤ k ∧ Up w3 wr ∧ Hid (∀ i, q ≤ i → i < S.length → V < S.getD i 0)) (fun i _ => (intOf i).toNat)
      case atStart => exact ⟨k, rfl, Nat.le_refl _, Up.refl _, Lib.hid (fun i h1 h2 => by have := HKL.out; omega)⟩
      case round =>
        obtain ⟨q, rfl, hq, hu4, HGT⟩ := hrel
        rename World => w4
        have HU4 := Lib.hid hu4
        clear hu4
        have hkl := HKL.out
        -- where the number stands or is to stand
        by_cases hmore : 0 < q ∧ V < S.getD (q - 1) 0
        · obtain ⟨hq0, hgt⟩ := hmore
          obtain ⟨go, co, he, hcell⟩ := owns_at (HU4.out.owns HO3.out) (show q - 1 < k by omega)
          simp only [Value.slice.injEq, true_and] at he
          obtain ⟨rfl, rfl⟩ := he
          have HGT2 : Hid (∀ i, q - 1 ≤ i → i < S.length → V < S.getD i 0) := Lib.hid (fun i h1 h2 => by
            by_cases h : i = q - 1
            · rw [h]; exact hgt
            · exact HGT.out i (by omega) h2)
          obtain ⟨U, hU⟩ : ∃ U, S.getD (q - 1) 0 = U := ⟨_, rfl⟩
          rw [hU] at hcell hgt
          have q1 : IntKind.i64.wrap ((q : Int) - 1) = (q : Int) - 1 := by simp [IntKind.wrap, IntKind.bits, IntKind.signed]; omega
          have q2 : ((q : Int) - 1).toNat = q - 1 := by omega
          have q3 : (0 : Int) ≤ (q : Int) - 1 := by omega
          have q4 : (q : Int) - 1 < (k : Int) := by omega
          have q5 : decide ((0 : Int) < (q : Int)) = true := by simp; omega
          have q6 : decide (V < U) = true := by simpa using hgt
          clear hU hkl hgt
          go_wp2_with fail
          go_roundw
          case rel => exact ⟨q - 1, by simp only [Value.int.injEq, true_and]; omega, by omega, HU4.out, HGT2⟩
          case measure => simp [intOf]; omega
        · have hspot : q = Rd.spot S V := Rd.spot_back HRI.out V (by omega) HGT.out (by omega)
          have HSP := Lib.hid hspot
          by_cases hin : V ∈ S
          · obtain ⟨h0, h1⟩ := (Rd.spot_mem HRI.out V).1 hin
            rw [← hspot] at h0 h1
            have HPUT : Hid (Rd.putIn S V = S) := Lib.hid (by unfold Rd.putIn; rw [if_pos hin])
            obtain ⟨go, co, he, hcell⟩ := owns_at (HU4.out.owns HO3.out) (show q - 1 < k by omega)
            simp only [Value.slice.injEq, true_and] at he
            obtain ⟨rfl, rfl⟩ := he
            rw [h1] at hcell
            have q1 : IntKind.i64.wrap ((q : Int) - 1) = (q : Int) - 1 := by simp [IntKind.wrap, IntKind.bits, IntKind.signed]; omega
            have q2 : ((q : Int) - 1).toNat = q - 1 := by omega
            have q3 : (0 : Int) ≤ (q : Int) - 1 := by omega
            have q4 : (q : Int) - 1 < (k : Int) := by omega
            have q5 : decide ((0 : Int) < (q : Int)) = true := by simp; omega
            clear h0 h1 hin hspot hmore hkl
            go_wp2_with fail
            go_roundw
            case rel => exact ⟨j + 1, k, by go_num, by omega, by omega, Lib.hid ⟨(HUP.out.trans HU3.out).trans HU4.out, by rw [HT.out, HPUT.out]; exact HKL.out⟩, by rw [HT.out, HPUT.out]; exact HU4.out.owns HO3.out⟩
            case measure => simp [intOf]; omega
          · have HNIN : Hid (¬ (0 < q ∧ S.getD (q - 1) 0 = V)) := Lib.hid (fun h => hin ((Rd.spot_mem HRI.out V).2 (by rw [← hspot]; exact h)))
            have HPUT : Hid (Rd.putIn S V = S.take q ++ V :: S.drop q) := Lib.hid (by unfold Rd.putIn; rw [if_neg hin, ← hspot])
            have HMO := Lib.hid hmore
            clear hin hspot hmore hkl
            rcases Nat.eq_zero_or_pos q with hq0 | hq0
            all_goals
              first
                | (have q5 : decide ((0 : Int) < (q : Int)) = false := (by rw [hq0]; simp)
                   have q6 : ¬ (0 < q) := (by omega)
                   clear hq0)
                | (obtain ⟨go, co, he, hcell⟩ := owns_at (HU4.out.owns HO3.out) (show q - 1 < k by omega)
                   simp only [Value.slice.injEq, true_and] at he
                   obtain ⟨rfl, rfl⟩ := he
                   obtain ⟨U, hU⟩ : ∃ U, S.getD (q - 1) 0 = U := ⟨_, rfl⟩
                   have hUV : (U == V) = false := (by
                     have h := HNIN.out
                     rw [hU] at h
                     rw [beq_eq_false_iff_ne]
                     exact fun e => h ⟨hq0, e⟩)
                   have q6 : decide (V < U) = false := (by
                     have h := HMO.out
                     rw [hU] at h
                     simp only [decide_eq_false_iff_not]
                     exact fun e => h ⟨hq0, e⟩)
                   rw [hU] at hcell
                   have q1 : IntKind.i64.wrap ((q : Int) - 1) = (q : Int) - 1 := (by simp [IntKind.wrap, IntKind.bits, IntKind.signed]; omega)
                   have q2 : ((q : Int) - 1).toNat = q - 1 := (by omega)
                   have q3 : (0 : Int) ≤ (q : Int) - 1 := (by omega)
                   have q4 : (q : Int) - 1 < (k : Int) := (by omega)
                   have q5 : decide ((0 : Int) < (q : Int)) = true := (by simp; omega)
                   clear hq0 hU)
              have hsz4 : w.heap.size ≤ w4.heap.size := Nat.le_trans HUP.out.size (Nat.le_trans HU3.out.size HU4.out.size)
              have hsz5 : w.heap.size ≤ w4.heap.size + 1 := by omega
              go_upto_region 11 with (at_builtin; (refine wpList_append_own _ rfl _ _ 34 rfl w.heap.size 3 i0 (.int .i64 0) 1 8 Tryz.underlying34 hi hz0 hz1 hz2 rfl (by decide) _ k _ rfl (Up.owns (w := w3) (HU4.out.alloc _) HO3.out) ⟨w4.heap.size, 0, none⟩ 1 1 [.int .i64 0] rfl rfl (cell_one_new _ _ _) (int_one 0) (by unfold maxLen; omega) (by omega) (by simp; omega) ?_); intro v' w5 hown5 hgrow5 hnil5; clear hnil5)
              have hu5 : Up w w5 := ((((HUP.out.trans HU3.out).trans HU4.out).alloc _).grown hgrow5 (fun g hg => (HO3.out.lt g hg).1))
              have hown6 : w5.ownsRow w.heap.size 3 1 v' (k + 1) (ivs (S.take k ++ 0 :: S.drop k)) := by
                have h := hown5
                have e : ivs S ++ [.int .i64 0] = ivs (S.take k ++ 0 :: S.drop k) := by
                  rw [HKL.out, List.take_length, List.drop_length]; simp [ivs]
                rw [e] at h; exact h
              obtain ⟨a5, c5, hv5⟩ := owns_shape' hown6
              subst hv5
              have HU5 := Lib.hid hu5
              have HO5 := Lib.hid hown6
              have r1 : IntKind.i64.wrap (((k + 1 : Nat) : Int) - 1) = (k : Int) := by simp [IntKind.wrap, IntKind.bits, IntKind.signed]; omega
              have r2 : IntKind.i64.wrap ((k : Int) + 1 - 1) = (k : Int) := by simp [IntKind.wrap, IntKind.bits, IntKind.signed]; omega
              clear hown5 hgrow5 hu5 hown6
              go_wp2_with fail
              go_loopw [9] (fun i wr => ∃ (e : Nat) (y : Int), i = .int .i64 e ∧ q ≤ e ∧ e ≤ k ∧ Up w wr ∧ wr.ownsRow w.heap.size 3 1 (.slice a5 (k + 1) c5) (k + 1) (ivs (S.take e ++ y :: S.drop e))) (fun i _ => (intOf i).toNat)
              case atStart => exact ⟨k, 0, by first | rfl | simp, hq, Nat.le_refl _, HU5.out, HO5.out⟩
              case round =>
                obtain ⟨e, y, rfl, hqe, hek, hu6, hown6⟩ := hrel
                rename World => w6
                have HU6 := Lib.hid hu6
                clear hu6
                have hkS := HKL.out
                have hbs := hown6.lt
                by_cases heq : q < e
                · obtain ⟨go2, co2, he2, hbg, c1, f1, ho7⟩ := owns_set hown6 (show e < k + 1 by omega) ((S.take e ++ y :: S.drop e).getD (e - 1) 0)
                  obtain ⟨go3, co3, he3, c2⟩ := owns_at hown6 (show e - 1 < k + 1 by omega)
                  rw [shift_step S y (by omega) (by omega)] at ho7
                  have he4 := he2.symm.trans he3
                  simp only [Value.slice.injEq, true_and, Option.some.injEq, Addr.mk.injEq, and_true] at he2 he4
                  obtain ⟨rfl, rfl⟩ := he2
                  obtain ⟨rfl, rfl⟩ := he4
                  obtain ⟨T, hT⟩ : ∃ T, (S.take e ++ y :: S.drop e).getD (e - 1) 0 = T := ⟨_, rfl⟩
                  obtain ⟨T2, hT2⟩ : ∃ T2, (S.take e ++ y :: S.drop e).getD e 0 = T2 := ⟨_, rfl⟩
                  rw [hT] at c2 ho7
                  rw [hT2] at c1
                  have HO7 := Lib.hid ho7
                  have s1 : IntKind.i64.wrap ((e : Int) - 1) = (e : Int) - 1 := by simp [IntKind.wrap, IntKind.bits, IntKind.signed]; omega
                  have s2 : ((e : Int) - 1).toNat = e - 1 := by omega
                  have s3 : (0 : Int) ≤ (e : Int) - 1 := by omega
                  have s4 : (e : Int) - 1 < (k : Int) + 1 := by omega
                  have s5 : (e : Int) - 1 < ((k + 1 : Nat) : Int) := by omega
                  clear hown6 ho7 hT hT2 hkS hbs
                  go_wp2_with fail
                  go_roundw
                  case rel => exact ⟨e - 1, _, by simp only [Value.int.injEq, true_and]; omega, by omega, by omega, HU6.out.setCell hbg _, HO7.out⟩
                  case measure => simp [intOf]; omega
                · obtain rfl : e = q := by omega
                  obtain ⟨go2, co2, he2, hbg, c1, f1, ho7⟩ := owns_set hown6 (show e < k + 1 by omega) V
                  rw [put_set S y V e (by omega), ← HPUT.out] at ho7
                  simp only [Value.slice.injEq, true_and] at he2
                  obtain ⟨rfl, rfl⟩ := he2
                  obtain ⟨T2, hT2⟩ : ∃ T2, (S.take e ++ y :: S.drop e).getD e 0 = T2 := ⟨_, rfl⟩
                  rw [hT2] at c1
                  have HO7 := Lib.hid ho7
                  clear hown6 ho7 hT2 hkS hbs
                  go_wp2_with fail
                  go_roundw
                  case rel => exact ⟨j + 1, k + 1, by go_num, by omega, by omega, Lib.hid ⟨HU6.out.setCell hbg _, by rw [HT.out, HPUT.out, shift_len S V e (by have := HKL.out; omega), HKL.out]⟩, by rw [HT.out]; exact HO7.out⟩
                  case measure => simp [intOf]; omega
    · obtain rfl : j = n := by omega
      have htk : l.take j = l := by rw [HN.out, List.take_length]
      rw [htk] at hown HU
      go_wp2_with fail
      go_ret
      have hk := HU.out.2
      subst hk
      exact ⟨av, cv5, rfl, hown, HU.out.1⟩

end Go.Proofs.YtpmdjicaefmbnaaGreatDoor

namespace Go.Proofs.YtpmdjicaefmbnaaGreatDoor
open Go.RowKit Go.Maps
set_option linter.unusedVariables false
set_option linter.unusedSimpArgs false

theorem ints_same {a b : List Int} (hl : a.length = b.length) (h : ∀ i, i < a.length → a.getD i 0 = b.getD i 0) : a = b := by
  refine List.ext_getElem hl (fun i h1 h2 => ?_)
  have := h i h1
  simpa [List.getD, h1, h2] using this

set_option maxHeartbeats 2000000 in
set_option maxRecDepth 100000 in
theorem refSame_any {w : World} {va vb : Value} {a b : List Int} (ha : Lst w va a) (hb : Lst w vb b) (hm : a.length ≤ 1000000) :
    Calls Tryz.prog 128 #[va, vb] w fun r w' => r = .returned (.bool (decide (a = b))) ∧ Up w w' := by
  obtain ⟨ao, cap, g, off, rfl, hao, hx⟩ := ha
  obtain ⟨bo, cap2, g2, off2, rfl, hbo, hy⟩ := hb
  obtain ⟨n, hn⟩ : ∃ n, n = a.length := ⟨_, rfl⟩
  obtain ⟨m, hm2⟩ : ∃ m, m = b.length := ⟨_, rfl⟩
  rw [← hn] at hao hm ⊢
  rw [← hm2] at hbo ⊢
  have HN := Lib.hid hn
  have HM := Lib.hid hm2
  have HX := Lib.hid hx
  have HY := Lib.hid hy
  have HA := Lib.hid hao
  have HB := Lib.hid hbo
  clear hn hm2 hx hy hao hbo
  by_cases hnm : n = m
  · subst hnm
    have q0 : ((n : Int) != (n : Int)) = false := by simp
    go_enter Tryz.func128, Tryz.ntmps128
    go_wp2_with fail
    go_loopw [5] (fun i wr => ∃ j q : Nat, i = .int .i64 j ∧ j ≤ n ∧ wr = w.drewN q ∧ Hid (∀ i, i < j → a.getD i 0 = b.getD i 0)) (fun i _ => n - (intOf i).toNat)
    case atStart => exact ⟨0, 0, rfl, Nat.zero_le _, rfl, Lib.hid (fun i hi => by omega)⟩
    case round =>
      obtain ⟨j, q, rfl, hj, rfl, HE⟩ := hrel
      by_cases hlt : j < n
      · obtain rfl := HA.out (by omega)
        obtain rfl := HB.out (by omega)
        have c1 := HX.out j (by rw [← HN.out]; exact hlt)
        have c2 := HY.out j (by rw [← HM.out]; exact hlt)
        obtain ⟨x, hxe⟩ : ∃ x, a.getD j 0 = x := ⟨_, rfl⟩
        obtain ⟨y, hye⟩ : ∃ y, b.getD j 0 = y := ⟨_, rfl⟩
        rw [hxe] at c1
        rw [hye] at c2
        have HXE := Lib.hid hxe
        have HYE := Lib.hid hye
        clear hxe hye
        by_cases hxy : x = y
        · have q1 : (x != y) = false := by simp [hxy]
          have HXY := Lib.hid hxy
          clear hxy
          go_wp2_with fail
          go_quiet (fail)
          go_wp2_with fail
          go_roundw
          case rel => exact ⟨j + 1, _, by go_num, by omega, rfl, Lib.hid (fun i hi => by
            by_cases h : i = j
            · rw [h, HXE.out, HYE.out, HXY.out]
            · exact HE.out i (by omega))⟩
          case measure => simp [intOf]; omega
        · have q1 : (x != y) = true := by simp [hxy]
          have HXY := Lib.hid hxy
          clear hxy
          go_wp2_with fail
          go_quiet (fail)
          go_wp2_with fail
          go_ret
          refine ⟨ret_bool ?_, ((Up.refl w).drewN _).drewN _⟩
          symm
          rw [decide_eq_false_iff_not]
          intro e
          have h1 := HXE.out
          rw [e, HYE.out] at h1
          exact HXY.out h1.symm
      · obtain rfl : j = n := by omega
        go_wp2_with fail
        go_ret
        refine ⟨ret_bool ?_, (Up.refl w).drewN _⟩
        symm
        rw [decide_eq_true_eq]
        exact ints_same (by rw [← HN.out, ← HM.out]) (fun i hi => HE.out i (by rw [HN.out]; exact hi))
  · have q0 : ((n : Int) != (m : Int)) = true := by simp; omega
    have HNM : Hid (decide (a = b) = false) := Lib.hid (by
      rw [decide_eq_false_iff_not]
      intro e
      exact hnm (by rw [HN.out, HM.out, e]))
    rw [HNM.out]
    clear hnm
    go_enter Tryz.func128, Tryz.ntmps128
    go_wp2_with fail
    go_ret
    exact ⟨rfl, Up.refl w⟩

set_option maxHeartbeats 2000000 in
set_option maxRecDepth 100000 in
theorem refRank_any {w : World} {p q : Nat} {rows : List (List Nat)} {v : Value} (hv : RowsRd w v rows) (hm : rows.length ≤ 1001) (hl : ∀ c ∈ rows, p < c.length ∧ q < c.length ∧ c.length ≤ 1000) :
    Calls Tryz.prog 25 #[v, .int .i64 (p : Nat), .int .i64 (q : Nat)] w fun r w' => r = .returned (.int .i64 (firstApart rows p q)) ∧ Up w w' := by
  obtain ⟨g, cap, rfl, hr⟩ := hv
  obtain ⟨m, hmm⟩ : ∃ m, m = rows.length := ⟨_, rfl⟩
  rw [← hmm] at hm ⊢
  have HM := Lib.hid hmm
  have HR := Lib.hid hr
  have HL := Lib.hid hl
  clear hmm hr hl
  go_enter Tryz.func25, Tryz.ntmps25
  go_wp2_with fail
  go_loopw [7] (fun i wr => ∃ j e : Nat, j ≤ m ∧ i = .int .i64 j ∧ wr = w.drewN e ∧ Hid (∀ k, k < j → ((rows.getD k []).getD p 0 != (rows.getD k []).getD q 0) = false)) (fun i _ => m - (intOf i).toNat)
  case atStart => exact ⟨0, 0, Nat.zero_le _, rfl, rfl, Lib.hid (fun k hk => by omega)⟩
  case round =>
    obtain ⟨j, e, hj, rfl, rfl, HE⟩ := hrel
    by_cases hlt : j < m
    · obtain ⟨u, hc, hlst⟩ := HR.out j (by rw [← HM.out]; exact hlt)
      have hmem : rows.getD j [] ∈ rows := by rw [← getD_of [] (by rw [← HM.out]; exact hlt)]; exact List.getElem_mem _
      obtain ⟨hp1, hq1, hm1⟩ := HL.out _ hmem
      obtain ⟨ao, ucap, ug, uoff, hue, ha, hx⟩ := hlst
      have c1 := at_nat hx hp1
      have c2 := at_nat hx hq1
      rw [List.length_map] at ha hue
      obtain rfl := ha (by omega)
      obtain ⟨L, hLL⟩ : ∃ L, L = (rows.getD j []).length := ⟨_, rfl⟩
      rw [← hLL] at hue hp1 hq1 hm1
      subst hue
      obtain ⟨x, hxe⟩ : ∃ x, (rows.getD j []).getD p 0 = x := ⟨_, rfl⟩
      obtain ⟨y, hye⟩ : ∃ y, (rows.getD j []).getD q 0 = y := ⟨_, rfl⟩
      rw [hxe] at c1
      rw [hye] at c2
      have HXE := Lib.hid hxe
      have HYE := Lib.hid hye
      clear hxe hye hx ha hmem hLL
      by_cases hxy : x = y
      · have q1 : ((x : Int) != (y : Int)) = false := by simp [hxy]
        have HXY := Lib.hid hxy
        clear hxy
        go_wp2_with fail
        go_quiet (fail)
        go_wp2_with fail
        go_roundw
        case rel => exact ⟨j + 1, _, by omega, by go_num, rfl, Lib.hid (fun k hk => by
          by_cases h : k = j
          · rw [h, HXE.out, HYE.out, HXY.out]; simp
          · exact HE.out k (by omega))⟩
        case measure => simp [intOf]; omega
      · have q1 : ((x : Int) != (y : Int)) = true := by simp; omega
        have HXY := Lib.hid hxy
        clear hxy
        go_wp2_with fail
        go_quiet (fail)
        go_wp2_with fail
        go_ret
        refine ⟨ret_int (apart_hit (by rw [← HM.out]; exact hlt) HE.out ?_).symm, ((Up.refl w).drewN _).drewN _⟩
        rw [HXE.out, HYE.out]
        simpa using HXY.out
    · obtain rfl : j = m := by omega
      go_wp2_with fail
      go_ret
      exact ⟨ret_int (apart_none (fun k hk => HE.out k (by rw [HM.out]; exact hk))).symm, (Up.refl w).drewN _⟩

end Go.Proofs.YtpmdjicaefmbnaaGreatDoor

namespace Go.Proofs.YtpmdjicaefmbnaaGreatDoor
open Go.RowKit Go.Maps
set_option linter.unusedVariables false
set_option linter.unusedSimpArgs false

/-- A state's class and signature. -/
def sgOf (s : Sy.Lts) (c : List Nat) (p : Nat) : Nat × List Int := (c.getD p 0, Rd.refSig c (Sy.steps s p))

theorem refSigs_at (s : Sy.Lts) (c : List Nat) {p : Nat} (h : p < c.length) : (Rd.refSigs s c)[p]'(by simp [Rd.refSigs]; exact h) = sgOf s c p := by simp [Rd.refSigs, sgOf]
theorem refSigs_length (s : Sy.Lts) (c : List Nat) : (Rd.refSigs s c).length = c.length := by simp [Rd.refSigs]

theorem ints_ivs (l : List Nat) : ints l = ivs (l.map Int.ofNat) := by simp [ints, ivs]

/-- How far the next classes are: the states below j are done; of the state j the signature, where m is one more. -/
structure NxAt (s : Sy.Lts) (c : List Nat) (n : Nat) (w w2 wr : World) (Ba Bs j m : Nat) (vs : List Value) (t : Value) (fs : List Nat) : Prop where
  up : Up w wr
  cl : Row wr Ba 3 n (ints ((Rd.canon (Rd.refSigs s c)).take j ++ List.replicate (n - j) 0))
  len : vs.length = n
  sg : Row wr Bs 34 n vs
  own : ∀ p, p < m → wr.ownsRow w2.heap.size 3 1 (vs.getD p undef) (Rd.refSig c (Sy.steps s p)).length (ivs (Rd.refSig c (Sy.steps s p)))
  fst : wr.ownsRow w2.heap.size 3 1 t fs.length (ints fs)
  rep : fs.map (sgOf s c) = Rd.seen ((Rd.refSigs s c).take j)
  low : ∀ r ∈ fs, r < j
  apart : ∀ p g, p < m → (vs.getD p undef).ownBlock = some g → t.ownBlock ≠ some g
  big : w2.heap.size ≤ wr.heap.size

theorem NxAt.upTo {s : Sy.Lts} {c : List Nat} {n : Nat} {w w2 wr wq : World} {Ba Bs j m : Nat} {vs : List Value} {t : Value} {fs : List Nat} (h : NxAt s c n w w2 wr Ba Bs j m vs t fs) (hu : Up wr wq) : NxAt s c n w w2 wq Ba Bs j m vs t fs :=
  ⟨h.up.trans hu, h.cl.keep (hu.block _ h.cl.lt), h.len, h.sg.keep (hu.block _ h.sg.lt), fun p hp => hu.owns (h.own p hp), hu.owns h.fst, h.rep, h.low, h.apart, Nat.le_trans h.big hu.size⟩

/-- The signature of the state j, put down. -/
theorem NxAt.sig {s : Sy.Lts} {c : List Nat} {n : Nat} {w w2 wr w4 : World} {Ba Bs j : Nat} {vs : List Value} {t v : Value} {fs : List Nat} (h : NxAt s c n w w2 wr Ba Bs j j vs t fs) (hj : j < n) (hu : Up wr w4) (hab : Ba ≠ Bs) (hBs : Bs < w2.heap.size) (hws : w.heap.size ≤ Bs)
    (hv : w4.ownsRow wr.heap.size 3 1 v (Rd.refSig c (Sy.steps s j)).length (ivs (Rd.refSig c (Sy.steps s j)))) : NxAt s c n w w2 (w4.setCell ⟨Bs, j, none⟩ v) Ba Bs j (j + 1) (vs.set j v) t fs := by
  have h4 := h.upTo hu
  have hget : ∀ p, p ≠ j → (vs.set j v).getD p undef = vs.getD p undef := fun p hp => by simp [List.getD, List.getElem?_set, Ne.symm hp]
  have hgetj : (vs.set j v).getD j undef = v := by simp [List.getD, h.len, hj]
  have hkeep : ∀ {e : TypeId} {k : Nat} {x : Value} {xs : List Value}, w4.ownsRow w2.heap.size e 1 x k xs → (w4.setCell ⟨Bs, j, none⟩ v).ownsRow w2.heap.size e 1 x k xs := fun hx =>
    owns_keep hx (fun g hg => Below.heap_setCell w4 ⟨Bs, j, none⟩ v g (by have := (hx.lt g hg).1; simp only; omega))
  refine ⟨h4.up.setCell hws _, h4.cl.other hab _, by rw [List.length_set, h.len], h4.sg.set j v, fun p hp => ?_, hkeep h4.fst, h.rep, h.low, fun p g hp hg => ?_, by have := h4.big; simpa using this⟩
  · by_cases he : p = j
    · subst he; rw [hgetj]; exact hkeep (owns_base hv h.big)
    · rw [hget p he]; exact hkeep (h4.own p (by omega))
  · by_cases he : p = j
    · subst he
      rw [hgetj] at hg
      intro e
      have h1 := (hv.lt g hg).1
      have h2 := (h.fst.lt g e).2
      omega
    · rw [hget p he] at hg; exact h.apart p g (by omega) hg

theorem idx_hit {β : Type} [DecidableEq β] : ∀ (l : List β) (k : Nat) (x : β), (∀ q, q < k → l[q]? ≠ some x) → l[k]? = some x → l.idxOf x = k
  | [], k, x, _, h => by simp at h
  | y :: l, 0, x, _, h => by
    simp only [List.getElem?_cons_zero, Option.some.injEq] at h
    subst h
    simp
  | y :: l, k + 1, x, h0, h => by
    have h1 := h0 0 (by omega)
    simp only [List.getElem?_cons_zero, ne_eq, Option.some.injEq] at h1
    rw [List.idxOf_cons, show (y == x) = false by simpa using h1]
    simp only [cond_false]
    rw [idx_hit l k x (fun q hq => by have := h0 (q + 1) (by omega); simpa using this) (by simpa using h)]

theorem fs_get (s : Sy.Lts) (c : List Nat) {fs : List Nat} {k : Nat} (hk : k < fs.length) : (fs.map (sgOf s c))[k]? = some (sgOf s c (fs.getD k 0)) := by
  simp [List.getD, hk]

theorem fs_idx {s : Sy.Lts} {c : List Nat} {fs : List Nat} {k : Nat} {x : Nat × List Int} (hk : k < fs.length) (hx : sgOf s c (fs.getD k 0) = x) (h : ∀ q, q < k → sgOf s c (fs.getD q 0) ≠ x) : Rd.place (fs.map (sgOf s c)) x = k :=
  idx_hit _ k x (fun q hq e => by rw [fs_get s c (show q < fs.length by omega), Option.some.injEq] at e; exact h q hq e) (by rw [fs_get s c hk, hx])

theorem fs_out {s : Sy.Lts} {c : List Nat} {fs : List Nat} {x : Nat × List Int} (h : ∀ q, q < fs.length → sgOf s c (fs.getD q 0) ≠ x) : x ∉ fs.map (sgOf s c) := by
  intro hm
  obtain ⟨i, hi, e⟩ := List.mem_iff_getElem?.1 hm |>.elim (fun i hi => (⟨i, by
    rw [List.getElem?_eq_some_iff] at hi
    obtain ⟨h1, h2⟩ := hi
    exact ⟨by simpa using h1, h2⟩⟩ : ∃ i, ∃ h : i < fs.length, (fs.map (sgOf s c))[i]'(by simpa using h) = x))
  exact h i hi (by rw [← e]; simp [List.getD, hi])

/-- The state j has its class, an old one: that of the k-th state that stands for one. -/
theorem NxAt.old {s : Sy.Lts} {c : List Nat} {n : Nat} {w w2 wr : World} {Ba Bs j k : Nat} {vs : List Value} {t : Value} {fs : List Nat} (h : NxAt s c n w w2 wr Ba Bs j (j + 1) vs t fs) (hj : j < n) (hc : c.length = n) (hab : Ba ≠ Bs) (hBa : Ba < w2.heap.size) (hwa : w.heap.size ≤ Ba)
    (hk : k < fs.length) (hx : sgOf s c (fs.getD k 0) = sgOf s c j) (hne : ∀ q, q < k → sgOf s c (fs.getD q 0) ≠ sgOf s c j) :
    NxAt s c n w w2 (wr.setCell ⟨Ba, j, none⟩ (.int .i64 (k : Nat))) Ba Bs (j + 1) (j + 1) vs t fs := by
  have hjl : j < (Rd.refSigs s c).length := by rw [refSigs_length, hc]; exact hj
  have hL : (Rd.refSigs s c)[j] = sgOf s c j := refSigs_at s c (by rw [hc]; exact hj)
  have hidx := fs_idx hk hx hne
  rw [h.rep] at hidx
  have hmem : sgOf s c j ∈ Rd.seen ((Rd.refSigs s c).take j) := by
    rw [← h.rep, List.mem_map]
    exact ⟨fs.getD k 0, by rw [← getD_of 0 hk]; exact List.getElem_mem _, hx⟩
  have hkeep : ∀ {e : TypeId} {k' : Nat} {x : Value} {xs : List Value}, wr.ownsRow w2.heap.size e 1 x k' xs → (wr.setCell ⟨Ba, j, none⟩ (.int .i64 (k : Nat))).ownsRow w2.heap.size e 1 x k' xs := fun hx =>
    owns_keep hx (fun g hg => Below.heap_setCell wr ⟨Ba, j, none⟩ _ g (by have := (hx.lt g hg).1; simp only; omega))
  have has := h.cl.set j (.int .i64 ((k : Nat) : Int))
  rw [← ints_set, fill_set hj (by rw [List.length_take, Rd.canon_len]; omega), show (Rd.canon (Rd.refSigs s c)).take j ++ [k] = (Rd.canon (Rd.refSigs s c)).take (j + 1) by rw [Rd.canon_place _ j hjl, hL, hidx]] at has
  refine ⟨h.up.setCell hwa _, has, h.len, h.sg.other (Ne.symm hab) _, fun p hp => hkeep (h.own p hp), hkeep h.fst, ?_, fun r hr => by have := h.low r hr; omega, h.apart, by have := h.big; simpa using this⟩
  rw [h.rep, Rd.seen_old hjl (by rw [hL]; exact hmem)]

/-- The state j has its class, a new one. -/
theorem NxAt.fresh {s : Sy.Lts} {c : List Nat} {n : Nat} {w w2 wr wq w4 : World} {Ba Bs j : Nat} {vs : List Value} {t t' : Value} {fs : List Nat} {o : Obj} (h : NxAt s c n w w2 wr Ba Bs j (j + 1) vs t fs) (hj : j < n) (hc : c.length = n) (hab : Ba ≠ Bs) (hBa : Ba < w2.heap.size) (hBs : Bs < w2.heap.size) (hwa : w.heap.size ≤ Ba) (hww : w.heap.size ≤ w2.heap.size)
    (hne : ∀ q, q < fs.length → sgOf s c (fs.getD q 0) ≠ sgOf s c j) (hu : Up wr wq) (hown : w4.ownsRow w2.heap.size 3 1 t' (fs.length + 1) (ints fs ++ [.int .i64 (j : Nat)])) (hg : (wq.alloc o).grownBy w4 t.ownBlock)
    (hat : t'.ownBlock = t.ownBlock ∨ t'.ownBlock = some (wq.alloc o).heap.size) :
    NxAt s c n w w2 (w4.setCell ⟨Ba, j, none⟩ (.int .i64 (fs.length : Nat))) Ba Bs (j + 1) (j + 1) vs t' (fs ++ [j]) := by
  have hjl : j < (Rd.refSigs s c).length := by rw [refSigs_length, hc]; exact hj
  have hL : (Rd.refSigs s c)[j] = sgOf s c j := refSigs_at s c (by rw [hc]; exact hj)
  have hout := fs_out hne
  rw [h.rep] at hout
  have hlen : (Rd.seen ((Rd.refSigs s c).take j)).length = fs.length := by rw [← h.rep]; simp
  have hua : Up wr (wq.alloc o) := hu.alloc o
  have hva : ∀ k, t.ownBlock = some k → w2.heap.size ≤ k := fun k hk => (h.fst.lt k hk).1
  have hblk : ∀ b, b < w2.heap.size → w4.heap[b]? = wr.heap[b]? := fun b hb => (hg.block b (Nat.lt_of_lt_of_le hb (Nat.le_trans h.big hua.size)) (fun e => by have := hva b e.symm; omega)).trans (hua.block b (Nat.lt_of_lt_of_le hb h.big))
  have hup4 : Up w w4 := (h.up.trans hua).grown hg (fun k hk => by have := hva k hk; omega)
  have hkeep : ∀ {e : TypeId} {k' : Nat} {x : Value} {xs : List Value}, w4.ownsRow w2.heap.size e 1 x k' xs → (w4.setCell ⟨Ba, j, none⟩ (.int .i64 (fs.length : Nat))).ownsRow w2.heap.size e 1 x k' xs := fun hx =>
    owns_keep hx (fun g hg => Below.heap_setCell w4 ⟨Ba, j, none⟩ _ g (by have := (hx.lt g hg).1; simp only; omega))
  have has := (h.cl.keep (hblk Ba hBa)).set j (.int .i64 ((fs.length : Nat) : Int))
  rw [← ints_set, fill_set hj (by rw [List.length_take, Rd.canon_len]; omega), show (Rd.canon (Rd.refSigs s c)).take j ++ [fs.length] = (Rd.canon (Rd.refSigs s c)).take (j + 1) by rw [Rd.canon_place _ j hjl, hL, Rd.place_new hout, hlen]] at has
  refine ⟨hup4.setCell hwa _, has, h.len, (h.sg.keep (hblk Bs hBs)).other (Ne.symm hab) _, fun p hp => hkeep (owns_keep (h.own p hp) (fun g hg' => ?_)), hkeep ?_, ?_, fun r hr => ?_, fun p g hp hg' e => ?_, ?_⟩
  · have h1 := (h.own p hp).lt g hg'
    exact (hg.block g (Nat.lt_of_lt_of_le h1.2 hua.size) (fun e => h.apart p g hp hg' e.symm)).trans (hua.block g h1.2)
  · have e1 : (fs ++ [j]).length = fs.length + 1 := by simp
    rw [e1, ints_append]; exact hown
  · rw [List.map_append, h.rep, Rd.seen_new hjl (by rw [hL]; exact hout), hL]; rfl
  · rcases List.mem_append.1 hr with hr | hr
    · have := h.low r hr; omega
    · rw [List.mem_singleton.1 hr]; omega
  · rcases hat with h1 | h1
    · rw [h1] at e; exact h.apart p g hp hg' e
    · rw [h1, Option.some.injEq] at e
      have h2 := ((h.own p hp).lt g hg').2
      have h3 := hua.size
      omega
  · have h1 := hg.size
    have h2 := hua.size
    have h3 := h.big
    simp only [World.size_setCell] at *
    omega

end Go.Proofs.YtpmdjicaefmbnaaGreatDoor

namespace Go.Proofs.YtpmdjicaefmbnaaGreatDoor
open Go.RowKit Go.Maps
set_option linter.unusedVariables false
set_option linter.unusedSimpArgs false

/-- Rows of steps, as they read. -/
def StepsRd (s : Sy.Lts) (w : World) (O n : Nat) : Prop := ∀ p, p < n → ∃ u, w.cell? ⟨O, p, none⟩ = some u ∧ Ls2 w u (Sy.steps s p)

theorem StepsRd.up {s : Sy.Lts} {w w1 : World} {O n : Nat} (h : StepsRd s w O n) (hu : Up w w1) : StepsRd s w1 O n := fun p hp => by
  obtain ⟨u, h1, h2⟩ := h p hp
  exact ⟨u, hu.cell h1, h2.up hu⟩

theorem sgOf_eq {s : Sy.Lts} {c : List Nat} {p q : Nat} : sgOf s c p = sgOf s c q ↔ c.getD p 0 = c.getD q 0 ∧ Rd.refSig c (Sy.steps s p) = Rd.refSig c (Sy.steps s q) := by
  unfold sgOf; rw [Prod.mk.injEq]

set_option maxHeartbeats 16000000 in
set_option maxRecDepth 100000 in
theorem refNext_any {s : Sy.Lts} {c : List Nat} {n O : Nat} {cv : Value} {w : World} (hR : Sy.Right s) (hn : s.n.toNat = n) (hO : StepsRd s w O n) (hc : Lst w cv (c.map Int.ofNat)) (hcl : c.length = n) (hsm : Rd.Small c) :
    Calls Tryz.prog 57 #[.slice (some ⟨O, 0, none⟩) n n, cv] w (GotInts w ((Rd.next s c).map Int.ofNat)) := by
  obtain ⟨i0, hi, hz0, hz1, hz2⟩ := info_parts Tryz.intsInfo
  obtain ⟨j0, hj, gz0, gz1, gz2⟩ := info_parts Tryz.sliceInfoD
  have hn1 : n ≤ 1000 := by have := hR.n1; omega
  have HRES : Hid (Rd.canon (Rd.refSigs s c) = Rd.next s c) := Lib.hid (Rd.refNext_eq s c hsm)
  have HSIG : Hid (∀ W p u, Up w W → p < n → Ls2 W u (Sy.steps s p) → Calls Tryz.prog 127 #[u, cv] W fun r w' => ∃ ao ln cap, r = .returned (.slice ao ln cap) ∧ Hid (ln = (Rd.refSig c (Sy.steps s p)).length) ∧ w'.ownsRow W.heap.size 3 1 (.slice ao ln cap) (Rd.refSig c (Sy.steps s p)).length (ivs (Rd.refSig c (Sy.steps s p))) ∧ Up W w') := Lib.hid (fun W p u hu hp hl =>
    (refSig_any hl (hc.up hu) (steps_len hR p) (by omega) (fun x hx => by rw [hcl, ← hn]; exact steps_ok hR p x hx) hsm).mono (fun r w' ⟨ao, cap, h1, h2, h3⟩ => ⟨ao, _, cap, h1, Lib.hid rfl, h2, h3⟩))
  have HOO := Lib.hid hO
  have HCL := Lib.hid hcl
  have HSL : Hid (∀ p, (Rd.refSig c (Sy.steps s p)).length ≤ 1000000) := Lib.hid (fun p => Nat.le_trans (refSig_len c _) (steps_len hR p))
  obtain ⟨bo, cap2, g2, off2, rfl, hb, hy⟩ := hc
  rw [List.length_map, hcl] at hb
  have HY : Hid (∀ i, i < n → w.cell? ⟨g2, off2 + i, none⟩ = some (.int .i64 ((c.getD i 0 : Nat) : Int))) := Lib.hid (fun i hi => at_nat hy (by rw [hcl]; exact hi))
  have HB := Lib.hid hb
  have hlm : (c.map Int.ofNat).length = n := by rw [List.length_map, hcl]
  rw [hlm] at HSIG ⊢
  clear hR hn hO hcl hsm hb hy hlm
  go_enter Tryz.func57, Tryz.ntmps57
  go_upto_region 3 with (at_make; refine wpList_make_full _ rfl _ _ 34 rfl w.heap.size 3 i0 (.int .i64 0) 1 Tryz.underlying34 hi hz0 hz1 _ _ _ _ n rfl rfl rfl rfl (by rw [hz2]; omega) (by unfold maxLen; omega) (Nat.le_refl _) ?_; intro w1 hown1 hgrow1)
  obtain ⟨hrow1, -, -, -⟩ := Row.of hown1
  have e1 : (madeCells (Value.int .i64 0).cells (n * 1)).toList = ints (List.replicate n 0) := by rw [Nat.mul_one, ints_zero]; exact toList_madeCells_one _ _
  rw [e1, Nat.mul_one] at hrow1
  have hu1 : Up w w1 := (Up.refl w).grown hgrow1 (fun k hk => by cases hk)
  have hl1 := hrow1.lt
  have HROW1 := Lib.hid hrow1
  have HU1 := Lib.hid hu1
  clear e1 hown1 hgrow1 hrow1 hu1
  go_upto_region 4 with (at_make; refine wpList_make_full _ rfl _ _ 26 rfl w1.heap.size 34 j0 (.slice none 0 0) 1 Tryz.underlying26 hj gz0 gz1 _ _ _ _ n rfl rfl rfl rfl (by rw [gz2]; omega) (by unfold maxLen; omega) (Nat.le_refl _) ?_; intro w2 hown2 hgrow2)
  obtain ⟨hrow2, -, -, -⟩ := Row.of hown2
  have e2 : (madeCells (Value.slice none 0 0).cells (n * 1)).toList = List.replicate n (Value.slice none 0 0) := by rw [Nat.mul_one]; exact toList_madeCells_one _ _
  rw [e2, Nat.mul_one] at hrow2
  have hu2 : Up w1 w2 := (Up.refl w1).grown hgrow2 (fun k hk => by cases hk)
  have hl2 := hrow2.lt
  obtain ⟨Ba, hBa⟩ : ∃ Ba, Ba = w.heap.size := ⟨_, rfl⟩
  obtain ⟨Bs, hBs⟩ : ∃ Bs, Bs = w1.heap.size := ⟨_, rfl⟩
  have HF : Hid (Ba ≠ Bs ∧ Ba < w2.heap.size ∧ Bs < w2.heap.size ∧ w.heap.size ≤ Ba ∧ w.heap.size ≤ Bs ∧ w.heap.size ≤ w2.heap.size) := Lib.hid (by have := hu2.size; have := HU1.out.size; omega)
  have hN0 : NxAt s c n w w2 w2 Ba Bs 0 0 (List.replicate n (.slice none 0 0)) (.slice none 0 0) [] := by
    refine ⟨HU1.out.trans hu2, ?_, by simp, by rw [hBs]; exact hrow2, fun p hp => by omega, World.ownsRow_nil _ _ _ _, rfl, fun r hr => by simp at hr, fun p g hp => by omega, Nat.le_refl _⟩
    have := HROW1.out.keep (hu2.block _ hl1)
    rw [hBa]; simpa using this
  have HN0 := Lib.hid hN0
  have HBA := Lib.hid hBa
  have HBS := Lib.hid hBs
  clear e2 hown2 hgrow2 hrow2 hu2 hl1 hl2 hN0
  go_wp2_with fail
  rw [← hBa, ← hBs]
  clear hBa hBs
  go_loopw [5, 8] (fun t i wr => ∃ (j : Nat) (vs : List Value) (fs : List Nat), i = .int .i64 j ∧ j ≤ n ∧ Hid (NxAt s c n w w2 wr Ba Bs j j vs t fs)) (fun _ i _ => n - (intOf i).toNat)
  case atStart => exact ⟨0, _, _, rfl, Nat.zero_le _, HN0⟩
  case round =>
    obtain ⟨j, vs, fs, rfl, hjn, HN⟩ := hrel
    rename World => wo
    by_cases hlt : j < n
    · obtain rfl := HB.out (by omega)
      obtain ⟨u, hcu, hlu⟩ := HOO.out j hlt
      have c1 := HN.out.up.cell hcu
      have HCALL := Lib.hid (HSIG.out wo j u HN.out.up hlt (hlu.up HN.out.up))
      have f1 := HN.out.sg.free j
      obtain ⟨x0, hx0⟩ : ∃ x0, wo.cell? ⟨Bs, j, none⟩ = some x0 := ⟨vs.getD j undef, HN.out.sg.cell (by simp [List.getD, show j < vs.length by rw [HN.out.len]; exact hlt])⟩
      have HX0 := Lib.hid (And.intro f1 hx0)
      clear hcu hlu f1 hx0
      go_upto_region 8 with (go_at_call 127; refine HCALL.out.mono ?_; rintro r w4 ⟨a4, ln, c4, rfl, HLN, ho4, hu4⟩; (have f4 : w4.frozen? ⟨Bs, j, none⟩ = false := (HN.out.upTo hu4).sg.free j); (have k4 := hu4.cell HX0.out.2); (have HO4 := Lib.hid ho4); (have HU4 := Lib.hid hu4); clear ho4 hu4)
      have hHM := HN.out.sig (v := .slice a4 ln c4) hlt HU4.out HF.out.1 HF.out.2.2.1 HF.out.2.2.2.2.1 HO4.out
      obtain ⟨w5, hw5⟩ : ∃ w5, w5 = w4.setCell ⟨Bs, j, none⟩ (.slice a4 ln c4) := ⟨_, rfl⟩
      rw [← hw5] at hHM ⊢
      obtain ⟨vs', hvs'⟩ : ∃ vs', vs' = vs.set j (.slice a4 ln c4) := ⟨_, rfl⟩
      rw [← hvs'] at hHM
      have HM := Lib.hid hHM
      clear hw5 hHM hvs' f4 k4 c1
      obtain ⟨m, hm⟩ : ∃ m, m = fs.length := ⟨_, rfl⟩
      obtain ⟨ta, tc, hta⟩ := owns_shape' HM.out.fst
      subst hta
      rw [← hm]
      have HMM := Lib.hid hm
      have hmn : m ≤ 1000 := by
        have h1 := HM.out.rep
        have h2 := Rd.seen_len ((Rd.refSigs s c).take j)
        rw [← h1, List.length_map, List.length_take] at h2
        omega
      clear hm
      have dj : w ≠ w → False := fun h => h rfl
      have hcj := HM.out.up.cell (HY.out j hlt)
      have HJ5 : Hid (w5.frozen? ⟨Ba, j, none⟩ = false ∧ ∃ x0, w5.cell? ⟨Ba, j, none⟩ = some x0) := Lib.hid ⟨HM.out.cl.free j, _, HM.out.cl.cell (by rw [ints_get (by rw [List.length_append, List.length_take, Rd.canon_len, refSigs_length, HCL.out, List.length_replicate]; omega)])⟩
      obtain ⟨cj, hcje⟩ : ∃ cj, c.getD j 0 = cj := ⟨_, rfl⟩
      rw [hcje] at hcj
      have HCJ := Lib.hid hcje
      clear hcje dj
      go_wp2_with fail
      go_loopw [9] (fun i wr => ∃ k : Nat, i = .int .i64 k ∧ k ≤ m ∧ Up w5 wr ∧ Hid (∀ q, q < k → sgOf s c (fs.getD q 0) ≠ sgOf s c j)) (fun i _ => m - (intOf i).toNat)
      case atStart => exact ⟨0, rfl, Nat.zero_le _, Up.refl _, Lib.hid (fun q hq => by omega)⟩
      case round =>
        obtain ⟨k, rfl, hk, hu, HNE⟩ := hrel
        rename World => w7
        have HU7 := Lib.hid hu
        clear hu
        by_cases hkm : k < m
        · have hkl : k < fs.length := by rw [← HMM.out]; exact hkm
          have hrj := HM.out.low (fs.getD k 0) (by rw [← getD_of 0 hkl]; exact List.getElem_mem _)
          have hfst := HM.out.fst
          rcases owns_cases hfst with ⟨-, h0, -⟩ | ⟨gt, ct, he, hrt, -⟩
          · omega
          · simp only [Value.slice.injEq] at he
            obtain ⟨rfl, -, rfl⟩ := he
            have d1 := hrt.cell (ints_get (l := fs) hkl)
            obtain ⟨r, hr⟩ : ∃ r, fs.getD k 0 = r := ⟨_, rfl⟩
            rw [hr] at hrj d1
            have d2 := HM.out.up.cell (HY.out r (by omega))
            have d4 := HM.out.sg.cell (show vs'[r]? = some (vs'.getD r undef) by simp [List.getD, show r < vs'.length by rw [HM.out.len]; omega])
            have d5 := HM.out.sg.cell (show vs'[j]? = some (vs'.getD j undef) by simp [List.getD, show j < vs'.length by rw [HM.out.len]; omega])
            have HSAME : Hid (∀ W, Up w5 W → Calls Tryz.prog 128 #[vs'.getD r undef, vs'.getD j undef] W fun x w' => x = .returned (.bool (decide (Rd.refSig c (Sy.steps s r) = Rd.refSig c (Sy.steps s j)))) ∧ Up W w') := Lib.hid (fun W hW =>
              refSame_any ((gotInts_lst (HM.out.own r (by omega))).up hW) ((gotInts_lst (HM.out.own j (by omega))).up hW) (HSL.out r))
            obtain ⟨vr, hvr⟩ : ∃ vr, vs'.getD r undef = vr := ⟨_, rfl⟩
            obtain ⟨vj, hvj⟩ : ∃ vj, vs'.getD j undef = vj := ⟨_, rfl⟩
            rw [hvr] at d4 HSAME
            rw [hvj] at d5 HSAME
            obtain ⟨cr, hcr⟩ : ∃ cr, c.getD r 0 = cr := ⟨_, rfl⟩
            rw [hcr] at d2
            have d3 := hcj
            have HEQ : Hid (sgOf s c (fs.getD k 0) = sgOf s c j ↔ cr = cj ∧ Rd.refSig c (Sy.steps s r) = Rd.refSig c (Sy.steps s j)) := Lib.hid (by rw [hr, sgOf_eq, hcr, HCJ.out])
            obtain ⟨sm, hsm⟩ : ∃ sm, decide (Rd.refSig c (Sy.steps s r) = Rd.refSig c (Sy.steps s j)) = sm := ⟨_, rfl⟩
            rw [hsm] at HSAME
            have HSM := Lib.hid hsm
            have q0 : decide ((k : Int) < (m : Int)) = true := by simp; omega
            have hu7 := HU7.out
            have d1' := hu7.cell d1
            have d2' := hu7.cell d2
            have d3' := hu7.cell d3
            have d4' := hu7.cell d4
            have d5' := hu7.cell d5
            clear hfst hrt hvr hvj hcr hsm hkl hr hu7 d1 d2 d3 d4 d5
            have hrn : r < n := by omega
            by_cases hcc : cr = cj
            · have q1 : ((cr : Int) != (cj : Int)) = false := by simp [hcc]
              have HCC := Lib.hid hcc
              clear hcc
              cases sm
              · have HNE2 : Hid (∀ q, q < k + 1 → sgOf s c (fs.getD q 0) ≠ sgOf s c j) := Lib.hid (fun q hq => by
                  by_cases h : q = k
                  · rw [h]
                    intro e
                    exact absurd (HEQ.out.1 e).2 (of_decide_eq_false HSM.out)
                  · exact HNE.out q (by omega))
                go_upto_region 9 with fail
                refine wp_region_quiet_in (fun w' => Up w7 w') (by kernel_rfl) (by kernel_rfl) (Up.refl _).drew ?_
                iterate 33
                  refine WQ.step (fun K hK => ?_)
                  go_simp
                  first
                    | (refine hK _ ?_
                       clear hK K)
                    | (apply Exists.intro
                       refine ⟨?_, hK _ ?_⟩
                       · intro w' hw'
                         have s1 := hw'.cell d1'
                         have s2 := hw'.cell d2'
                         have s3 := hw'.cell d3'
                         have s4 := hw'.cell d4'
                         have s5 := hw'.cell d5'
                         first
                           | (go_at_call 128; (with_reducible refine (HSAME.out _ (HU7.out.trans hw')).mono ?_); rintro r w9 ⟨rfl, hu9⟩; exact ⟨rfl, hw'.trans hu9⟩)
                           | (go_simp
                              first | done | rfl | exact ⟨rfl, rfl⟩)
                       clear hK K)
                refine WQ.nil ?_
                intro w6 hu6
                go_wp2_with fail
                go_roundw
                case rel => exact ⟨k + 1, by go_num, by omega, HU7.out.trans hu6, HNE2⟩
                case measure => simp [intOf]; omega
              · have HX : Hid (sgOf s c (fs.getD k 0) = sgOf s c j) := Lib.hid (HEQ.out.2 ⟨HCC.out, of_decide_eq_true HSM.out⟩)
                have q2 : ((k : Int) == (m : Int)) = false := by simp; omega
                go_upto_region 9 with fail
                refine wp_region_quiet_in (fun w' => Up w7 w') (by kernel_rfl) (by kernel_rfl) (Up.refl _).drew ?_
                iterate 33
                  refine WQ.step (fun K hK => ?_)
                  go_simp
                  first
                    | (refine hK _ ?_
                       clear hK K)
                    | (apply Exists.intro
                       refine ⟨?_, hK _ ?_⟩
                       · intro w' hw'
                         have s1 := hw'.cell d1'
                         have s2 := hw'.cell d2'
                         have s3 := hw'.cell d3'
                         have s4 := hw'.cell d4'
                         have s5 := hw'.cell d5'
                         first
                           | (go_at_call 128; (with_reducible refine (HSAME.out _ (HU7.out.trans hw')).mono ?_); rintro r w9 ⟨rfl, hu9⟩; exact ⟨rfl, hw'.trans hu9⟩)
                           | (go_simp
                              first | done | rfl | exact ⟨rfl, rfl⟩)
                       clear hK K)
                refine WQ.nil ?_
                intro w6 hu6
                have hN6 := HM.out.upTo (HU7.out.trans hu6)
                have HOLD := Lib.hid (hN6.old hlt HCL.out HF.out.1 HF.out.2.1 HF.out.2.2.2.1 (by rw [← HMM.out]; exact hkm) HX.out HNE.out)
                have z1 := hN6.cl.free j
                obtain ⟨x1, z2⟩ : ∃ x1, w6.cell? ⟨Ba, j, none⟩ = some x1 := ⟨_, (HU7.out.trans hu6).cell HJ5.out.2.choose_spec⟩
                clear hN6
                go_wp2_with fail
                go_roundw
                case rel => exact ⟨j + 1, vs', fs, by go_num, by omega, by rw [HMM.out]; exact HOLD⟩
                case measure => simp [intOf]; omega
            · have q1 : ((cr : Int) != (cj : Int)) = true := by simp; omega
              have HNE2 : Hid (∀ q, q < k + 1 → sgOf s c (fs.getD q 0) ≠ sgOf s c j) := Lib.hid (fun q hq => by
                by_cases h : q = k
                · rw [h]
                  intro e
                  exact hcc (HEQ.out.1 e).1
                · exact HNE.out q (by omega))
              clear hcc
              go_upto_region 9 with fail
              refine wp_region_quiet_in (fun w' => Up w7 w') (by kernel_rfl) (by kernel_rfl) (Up.refl _).drew ?_
              iterate 33
                refine WQ.step (fun K hK => ?_)
                go_simp
                first
                  | (refine hK _ ?_
                     clear hK K)
                  | (apply Exists.intro
                     refine ⟨?_, hK _ ?_⟩
                     · intro w' hw'
                       have s1 := hw'.cell d1'
                       have s2 := hw'.cell d2'
                       have s3 := hw'.cell d3'
                       have s4 := hw'.cell d4'
                       have s5 := hw'.cell d5'
                       first
                         | (go_simp
                            first | done | rfl | exact ⟨rfl, rfl⟩)
                     clear hK K)
              refine WQ.nil ?_
              intro w6 hu6
              go_wp2_with fail
              go_roundw
              case rel => exact ⟨k + 1, by go_num, by omega, HU7.out.trans hu6, HNE2⟩
              case measure => simp [intOf]; omega
        · obtain rfl : k = m := by omega
          have q2 : ((k : Int) == (k : Int)) = true := by simp
          go_upto_region 9 with fail
          refine wp_region_quiet_in (fun w' => Up w7 w') (by kernel_rfl) (by kernel_rfl) (Up.refl _).drew ?_
          iterate 33
            refine WQ.step (fun K hK => ?_)
            go_simp
            first
              | (refine hK _ ?_
                 clear hK K)
              | (apply Exists.intro
                 refine ⟨?_, hK _ ?_⟩
                 · intro w' hw'
                   first
                     | (go_simp
                        first | done | rfl | exact ⟨rfl, rfl⟩)
                 clear hK K)
          refine WQ.nil ?_
          intro w6 hu6
          have hN6 := HM.out.upTo (HU7.out.trans hu6)
          have HN6 := Lib.hid hN6
          have hfst6 := hN6.fst
          rw [← HMM.out] at hfst6
          have HFS := Lib.hid hfst6
          have hbig := hN6.big
          clear hN6 hfst6
          go_upto_region 13 with (at_builtin; (refine wpList_append_own_at _ rfl _ _ 34 rfl w2.heap.size 3 i0 (.int .i64 0) 1 8 Tryz.underlying34 hi hz0 hz1 hz2 rfl (by decide) _ k _ rfl (Up.owns (w := w6) ((Up.refl w6).alloc _) HFS.out) ⟨w6.heap.size, 0, none⟩ 1 1 [.int .i64 (j : Nat)] rfl rfl (cell_one_new _ _ _) (int_one _) (by unfold maxLen; omega) (by omega) (by simp; omega) ?_); intro t8 w8 hown8 hgrow8 hnil8 hat8; clear hnil8)
          obtain ⟨a8, c8, ht8⟩ := owns_shape' hown8
          subst ht8
          have hfr := HN6.out.fresh (wq := w6) (w4 := w8) (t' := .slice a8 (k + 1) c8) hlt HCL.out HF.out.1 HF.out.2.1 HF.out.2.2.1 HF.out.2.2.2.1 HF.out.2.2.2.2.2 (by rw [← HMM.out]; exact HNE.out) (Up.refl _) (by rw [← HMM.out]; exact hown8) (by rw [← HMM.out]; exact hgrow8) (by rw [← HMM.out]; exact hat8)
          have HFR := Lib.hid hfr
          have hb8 : w8.heap[Ba]? = w6.heap[Ba]? := (hgrow8.block Ba (Nat.lt_of_lt_of_le HF.out.2.1 (Nat.le_trans hbig (by simp))) (fun e => by have := (HFS.out.lt Ba e.symm).1; have := HF.out.2.1; omega)).trans (((Up.refl w6).alloc _).block Ba (Nat.lt_of_lt_of_le HF.out.2.1 hbig))
          have z1 : w8.frozen? ⟨Ba, j, none⟩ = false := (HN6.out.cl.keep hb8).free j
          obtain ⟨x1, z2⟩ : ∃ x1, w8.cell? ⟨Ba, j, none⟩ = some x1 := ⟨_, (World.cell?_of_block (w := w6) (a := ⟨Ba, j, none⟩) hb8).trans ((HU7.out.trans hu6).cell HJ5.out.2.choose_spec)⟩
          clear hfr hown8 hgrow8 hat8 hb8
          go_wp2_with fail
          go_roundw
          case rel => exact ⟨j + 1, vs', fs ++ [j], by go_num, by omega, by rw [HMM.out] at *; exact HFR⟩
          case measure => simp [intOf]; omega
    · obtain rfl : j = n := by omega
      obtain ⟨av, cv5, hav⟩ := owns_shape' HN.out.fst
      subst hav
      have hrow := HN.out.cl
      rw [Nat.sub_self, List.replicate_zero, List.append_nil, List.take_of_length_le (by rw [Rd.canon_len, refSigs_length, HCL.out]; exact Nat.le_refl _), HRES.out, ints_ivs] at hrow
      go_wp2_with fail
      go_ret
      have hl : ((Rd.next s c).map Int.ofNat).length = j := by rw [List.length_map, Rd.next_len, HCL.out]
      unfold GotInts
      rw [hl]
      exact ⟨_, _, rfl, Row.ownsAt (by rw [Nat.mul_one]; exact hrow) HF.out.2.2.2.1 (Nat.le_refl _) (by unfold maxLen; omega) (by rw [ivs_len, hl, Nat.mul_one]), HN.out.up⟩

end Go.Proofs.YtpmdjicaefmbnaaGreatDoor
