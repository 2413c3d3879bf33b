/- The document's own answer: a signature as rising numbers. The plain side of system.Canon and system.Together: the different numbers of a list in the order in which they come, eac. -/
import Derived.Test.YtoaoajfjcfcmhaaGreatDoorP13
import Derived.Test.YtoaoajfjcfcmhaaGreatDoorP11
import Derived.Test.YtoaoajfjcfcmhaaGreatDoorP08
import Derived.Test.YtoaoajfjcfcmhaaGreatDoorP06
import Derived.Test.YtoaoajfjcfcmhaaGreatDoorP03
import Derived.Deep.Cut
import Derived.BigCall
import Derived.OwnWalk
import Derived.Maps.OwnSet
import Derived.Test.YtoaoajfjcfcmhaaGreatDoorP01
set_option linter.unusedVariables false
set_option linter.unusedSimpArgs false
set_option maxHeartbeats 16000000
set_option maxRecDepth 100000
open Go.Proofs.Tryz
namespace Go.Proofs.YtoaoajfjcfcmhaaGreatDoor
open Go.RowKit Go.Maps
theorem zhc {w : World} {base n i : Nat} {v : Value} {l : List Int} (h : w.ownsRow base 3 1 v n (ivs l)) (hi : i < n) (x : Int) :
  ∃ g cap, v = .slice (some ⟨g, 0, none⟩) n cap /\ base <= g /\ w.cell? ⟨g, i, none⟩ = some (.int .i64 (l.getD i 0)) /\ w.frozen? ⟨g, i, none⟩ = false /\ (w.setCell ⟨g, i, none⟩ (.int .i64 x)).ownsRow base 3 1 v n (ivs (l.set i x)) := by
 have hl : l.length = n := by have := h.1; rw [zde] at this; omega
 have aa := h.lt
 rcases za4 h with ⟨-, h1, -⟩ | ⟨g, cap, rfl, hr, ab, ac, -⟩
 ·omega
 ·refine ⟨g, cap, rfl, (aa g rfl).1, hr.cell (by simp [ivs, show i < l.length by omega]), hr.free i, ?_⟩
  have h2 := hr.set i (.int .i64 x)
  have e : (ivs l).set i (.int .i64 x) = ivs (l.set i x) := by simp [ivs, List.map_set]
  rw [e] at h2
  exact Row.zFc h2 (aa g rfl).1 ab ac (by rw [zde, List.length_set]; omega)
theorem zlk {w : World} {base n i : Nat} {v : Value} {l : List Int} (h : w.ownsRow base 3 1 v n (ivs l)) (hi : i < n) :
  ∃ g cap, v = .slice (some ⟨g, 0, none⟩) n cap /\ w.cell? ⟨g, i, none⟩ = some (.int .i64 (l.getD i 0)) := by
 obtain ⟨g, cap, h1, -, h2, -⟩ := zhc h hi 0
 exact ⟨g, cap, h1, h2⟩
theorem zqv (S : List Int) (y : Int) {j : Nat} (hj : 0 < j) (ab : j <= S.length) : (S.take j ++ y :: S.drop j).set j ((S.take j ++ y :: S.drop j).getD (j - 1) 0) = S.take (j - 1) ++ S.getD (j - 1) 0 :: S.drop (j - 1) := by
 have aa : (S.take j).length = j := by rw [List.length_take]; omega
 have e1 : (S.take j ++ y :: S.drop j).getD (j - 1) 0 = S.getD (j - 1) 0 := by
  simp only [List.getD, List.getElem?_append, aa, show j - 1 < j by omega, if_true, List.getElem?_take]
 rw [e1]
 have e2 : (S.take j ++ y :: S.drop j).set j (S.getD (j - 1) 0) = S.take j ++ S.getD (j - 1) 0 :: S.drop j := by
  rw [List.set_append_right _ _ (by omega), aa, Nat.sub_self, List.set_cons_zero]
 rw [e2]
 obtain ⟨i, rfl⟩ : ∃ i, j = i + 1 := ⟨j - 1, by omega⟩
 rw [Nat.add_sub_cancel]
 have hi : i < S.length := by omega
 have e3 : S.getD i 0 = S[i] := by simp [List.getD, hi]
 rw [e3, List.take_succ_eq_append_getElem hi, List.append_assoc]
 congr 1
 rw [List.drop_eq_getElem_cons hi]
 rfl
theorem zuu (S : List Int) (y : Int) (j : Nat) (hj : j <= S.length) : (S.take j ++ y :: S.drop j).length = S.length + 1 := by
 simp; omega
theorem zyt (S : List Int) (y v : Int) (j : Nat) (hj : j <= S.length) : (S.take j ++ y :: S.drop j).set j v = S.take j ++ v :: S.drop j := by
 have aa : (S.take j).length = j := by rw [List.length_take]; omega
 rw [List.set_append_right _ _ (by omega), aa, Nat.sub_self, List.set_cons_zero]
theorem zoe (c : List Nat) (l : List (Int × Int)) (i : Nat) (h : i < l.length) : Rd.zCf c (l.take (i + 1)) = Rd.zGl (Rd.zCf c (l.take i)) (Rd.num c (l.getD i (0, 0))) := by
 unfold Rd.zCf
 have e : l.getD i (0, 0) = l[i] := by simp [List.getD, h]
 rw [Rd.zHu, List.take_succ_eq_append_getElem h, List.map_append, e]
 rfl
theorem zqt (c : List Nat) (l : List (Int × Int)) : (Rd.zCf c l).length <= l.length := by
 unfold Rd.zCf
 have := Sy.zCo (lt := Rd.ltI) (l.map (Rd.num c))
 rwa [List.length_map] at this
theorem zlu (c : List Nat) (l : List (Int × Int)) : (Rd.zCf c l).Pairwise (fun a b => Rd.ltI a b = true) := Sy.zC5 Rd.zK7 _
theorem zs2 {w : World} {v cv : Value} {l : List (Int × Int)} {c : List Nat} (hv : Ls2 w v l) (hc : Lst w cv (c.map Int.ofNat)) (hl : l.length <= 1000000) (aW : c.length <= 1000)
    (ak : ∀ x ∈ l, 0 <= x.1 /\ x.1 < 1000 /\ 0 <= x.2 /\ x.2 < c.length) (aM : Rd.Small c) :
    Calls prog 147 #[v, cv] w (zcc w (Rd.zCf c l)) := by
  obtain ⟨i0, hi, aX, aY, aZ⟩ := info_parts Tryz.zCp
  obtain ⟨ao, cap, g, off, rfl, ha, hx⟩ := hv
  obtain ⟨bo, cap2, g2, off2, rfl, hb, hy⟩ := hc
  rw [List.length_map] at hb ⊢
  obtain ⟨n, hn⟩ := nm (l.length)
  obtain ⟨m, hm⟩ := nm (c.length)
  rw [<- hn] at ha hl ⊢
  rw [<- hm] at hb aW ⊢
  have HA := zh ha
  have HB := zh hb
  have HX := zh hx
  have HY : Hid (∀ i, i < c.length -> w.cell? ⟨g2, off2 + i, none⟩ = some (.int .i64 ((c.getD i 0 : Nat) : Int))) := zh (fun i hi => zjg hy hi)
  have HN := zh hn
  have HM := zh hm
  have a0 := zh ak
  have a1 := zh aM
  clear ha hb hx hy hn hm ak aM
  go_enter func147, ntmps147
  go_wp2_with fail
  go_loopw [5, 6] (fun t i wr => ∃ j k : Nat, i = .int .i64 j /\ j <= n /\ k <= j /\ Hid (Up w wr /\ k = (Rd.zCf c (l.take j)).length) /\ wr.ownsRow w.heap.size 3 1 t k (ivs (Rd.zCf c (l.take j)))) (fun _ i _ => n - (intOf i).toNat)
  case atStart => exact ⟨0, 0, rfl, Nat.zero_le _, Nat.le_refl _, zh ⟨Up.refl w, rfl⟩, World.ownsRow_nil _ _ _ _⟩
  case round =>
    obtain ⟨j, k, rfl, hj, bd, HU, ad⟩ := hrel
    rename World => wo
    obtain ⟨av, cv5, a2⟩ := za1 ad
    subst a2
    by_cases hlt : j < n
    · obtain rfl := HA.out (by omega)
      have an : j < l.length := by rw [<- HN.out]; exact hlt
      obtain ⟨x, aD⟩ : ∃ x, l.getD j (0, 0) = x := ⟨_, rfl⟩
      have ak := a0.out x (by rw [<- aD, <- zaa (0, 0) an]; exact List.getElem_mem an)
      have aq := HX.out j an
      have HT := zh (zoe c l j an)
      rw [aD] at aq HT
      have aA := zh (zlu c (l.take j))
      obtain ⟨x1, x2⟩ := x
      obtain ⟨z, hz⟩ : ∃ z : Nat, x2 = (z : Int) := ⟨x2.toNat, by have := ak.2.2.1; simp only at this; omega⟩
      subst hz
      simp only at aq ak
      have a3 : z < m := by rw [HM.out]; omega
      obtain rfl := HB.out (by omega)
      have aE := HY.out z (by rw [<- HM.out]; exact a3)
      have au := a1.out z
      have aw : Rd.num c (x1, (z : Int)) = x1 * 1001 + ((c.getD z 0 : Nat) : Int) := by unfold Rd.num; simp only [Int.toNat_natCast]
      rw [aw] at HT
      obtain ⟨y, aN⟩ : ∃ y, c.getD z 0 = y := ⟨_, rfl⟩
      rw [aN] at aE au HT
      obtain ⟨V, hV⟩ : ∃ V : Int, x1 * 1001 + (y : Int) = V := ⟨_, rfl⟩
      rw [hV] at HT
      have qv1 : IntKind.i64.wrap (x1 * 1001) = x1 * 1001 := by simp [IntKind.wrap, IntKind.bits, IntKind.signed]; omega
      have qv2 : IntKind.i64.wrap (x1 * 1001 + (y : Int)) = V := by rw [<- hV]; simp [IntKind.wrap, IntKind.bits, IntKind.signed]; omega
      have d0 := HU.out.1.cell aq.1
      have d1 := HU.out.1.cell aq.2
      have d2 := HU.out.1.cell aE
      obtain ⟨S, hS⟩ := nm (Rd.zCf c (l.take j))
      rw [<- hS] at ad HT aA
      have aj : Hid (k = S.length) := zh (by rw [hS]; exact HU.out.2)
      have HO := zh ad
      have aF := zh HU.out.1
      clear aq ak aD aE au aw aN hV an ad hS HU
      go_wp2_with fail
      go_quiet (fail)
      obtain ⟨w3, aG⟩ := nm (wo.drewN nq)
      rw [<- aG]
      have aB : Hid (Up wo w3) := zh (by rw [aG]; exact (Up.refl wo).drewN _)
      have al := zh (aB.out.owns HO.out)
      clear aG d0 d1 d2 qv1 qv2
      go_wp2_with fail
      go_loopw [8] (fun i wr => ∃ q : Nat, i = .int .i64 q /\ q <= k /\ Up w3 wr /\ Hid (∀ i, q <= i -> i < S.length -> V < S.getD i 0)) (fun i _ => (intOf i).toNat)
      case atStart => exact ⟨k, rfl, Nat.le_refl _, Up.refl _, zh (fun i h1 h2 => by have := aj.out; omega)⟩
      case round =>
        obtain ⟨q, rfl, hq, aO, aP⟩ := hrel
        rename World => w4
        have ag := zh aO
        clear aO
        have aH := aj.out
        -- where the number stands or is to stand
        by_cases hmore : 0 < q /\ V < S.getD (q - 1) 0
        · obtain ⟨hq0, aC⟩ := hmore
          obtain ⟨go, co, he, ac⟩ := zlk (ag.out.owns al.out) (show q - 1 < k by omega)
          simp only [Value.slice.injEq, true_and] at he
          obtain ⟨rfl, rfl⟩ := he
          have aI : Hid (∀ i, q - 1 <= i -> i < S.length -> V < S.getD i 0) := zh (fun i h1 h2 => by
            by_cases h : i = q - 1
            · rw [h]; exact aC
            · exact aP.out i (by omega) h2)
          obtain ⟨U, hU⟩ : ∃ U, S.getD (q - 1) 0 = U := ⟨_, rfl⟩
          rw [hU] at ac aC
          have q1 : IntKind.i64.wrap ((q : Int) - 1) = (q : Int) - 1 := by simp [IntKind.wrap, IntKind.bits, IntKind.signed]; omega
          have q2 : ((q : Int) - 1).toNat = q - 1 := by omega
          have q3 : (0 : Int) <= (q : Int) - 1 := by omega
          have q4 : (q : Int) - 1 < (k : Int) := by omega
          have q5 : decide ((0 : Int) < (q : Int)) = true := by simp; omega
          have q6 : decide (V < U) = true := by simpa using aC
          clear hU aH aC
          go_wp2_with fail
          go_roundw
          case rel => exact ⟨q - 1, by simp only [Value.int.injEq, true_and]; omega, by omega, ag.out, aI⟩
          case measure => simp [intOf]; omega
        · have ab : q = Rd.spot S V := Rd.zIh aA.out V (by omega) aP.out (by omega)
          have be := zh ab
          by_cases hin : V ∈ S
          · obtain ⟨h0, h1⟩ := (Rd.zH5 aA.out V).1 hin
            rw [<- ab] at h0 h1
            have ae : Hid (Rd.zGl S V = S) := zh (by unfold Rd.zGl; rw [if_pos hin])
            obtain ⟨go, co, he, ac⟩ := zlk (ag.out.owns al.out) (show q - 1 < k by omega)
            simp only [Value.slice.injEq, true_and] at he
            obtain ⟨rfl, rfl⟩ := he
            rw [h1] at ac
            have q1 : IntKind.i64.wrap ((q : Int) - 1) = (q : Int) - 1 := by simp [IntKind.wrap, IntKind.bits, IntKind.signed]; omega
            have q2 : ((q : Int) - 1).toNat = q - 1 := by omega
            have q3 : (0 : Int) <= (q : Int) - 1 := by omega
            have q4 : (q : Int) - 1 < (k : Int) := by omega
            have q5 : decide ((0 : Int) < (q : Int)) = true := by simp; omega
            clear h0 h1 hin ab hmore aH
            go_wp2_with fail
            go_roundw
            case rel => exact ⟨j + 1, k, by go_num, by omega, by omega, zh ⟨(aF.out.trans aB.out).trans ag.out, by rw [HT.out, ae.out]; exact aj.out⟩, by rw [HT.out, ae.out]; exact ag.out.owns al.out⟩
            case measure => simp [intOf]; omega
          · have aJ : Hid (¬ (0 < q /\ S.getD (q - 1) 0 = V)) := zh (fun h => hin ((Rd.zH5 aA.out V).2 (by rw [<- ab]; exact h)))
            have ae : Hid (Rd.zGl S V = S.take q ++ V :: S.drop q) := zh (by unfold Rd.zGl; rw [if_neg hin, <- ab])
            have a4 := zh hmore
            clear hin ab hmore aH
            rcases Nat.eq_zero_or_pos q with hq0 | hq0
            all_goals
              first
                | (have q5 : decide ((0 : Int) < (q : Int)) = false := (by rw [hq0]; simp)
                   have q6 : ¬ (0 < q) := (by omega)
                   clear hq0)
                | (obtain ⟨go, co, he, ac⟩ := zlk (ag.out.owns al.out) (show q - 1 < k by omega)
                   simp only [Value.slice.injEq, true_and] at he
                   obtain ⟨rfl, rfl⟩ := he
                   obtain ⟨U, hU⟩ : ∃ U, S.getD (q - 1) 0 = U := ⟨_, rfl⟩
                   have bf : (U == V) = false := (by
                     have h := aJ.out
                     rw [hU] at h
                     rw [beq_eq_false_iff_ne]
                     exact fun e => h ⟨hq0, e⟩)
                   have q6 : decide (V < U) = false := (by
                     have h := a4.out
                     rw [hU] at h
                     simp only [decide_eq_false_iff_not]
                     exact fun e => h ⟨hq0, e⟩)
                   rw [hU] at ac
                   have q1 : IntKind.i64.wrap ((q : Int) - 1) = (q : Int) - 1 := (by simp [IntKind.wrap, IntKind.bits, IntKind.signed]; omega)
                   have q2 : ((q : Int) - 1).toNat = q - 1 := (by omega)
                   have q3 : (0 : Int) <= (q : Int) - 1 := (by omega)
                   have q4 : (q : Int) - 1 < (k : Int) := (by omega)
                   have q5 : decide ((0 : Int) < (q : Int)) = true := (by simp; omega)
                   clear hq0 hU)
              have a6 : w.heap.size <= w4.heap.size := Nat.le_trans aF.out.size (Nat.le_trans aB.out.size ag.out.size)
              have a7 : w.heap.size <= w4.heap.size + 1 := by omega
              go_upto_region 11 with (at_builtin; (refine wpList_append_own _ rfl _ _ 27 rfl w.heap.size 3 i0 (.int .i64 0) 1 8 underlying27 hi aX aY aZ rfl (by decide) _ k _ rfl (Up.owns (w := w3) (ag.out.alloc _) al.out) ⟨w4.heap.size, 0, none⟩ 1 1 [.int .i64 0] rfl rfl (cell_one_new _ _ _) (zi3 0) (by unfold maxLen; omega) (by omega) (by simp; omega) ?_); intro v' w5 ah af ax; clear ax)
              have aQ : Up w w5 := ((((aF.out.trans aB.out).trans ag.out).alloc _).grown af (fun g hg => (al.out.lt g hg).1))
              have aa : w5.ownsRow w.heap.size 3 1 v' (k + 1) (ivs (S.take k ++ 0 :: S.drop k)) := by
                have h := ah
                have e : ivs S ++ [.int .i64 0] = ivs (S.take k ++ 0 :: S.drop k) := by
                  rw [aj.out, List.take_length, List.drop_length]; simp [ivs]
                rw [e] at h; exact h
              obtain ⟨a5, c5, a8⟩ := za1 aa
              subst a8
              have a9 := zh aQ
              have ba := zh aa
              have r1 : IntKind.i64.wrap (((k + 1 : Nat) : Int) - 1) = (k : Int) := by simp [IntKind.wrap, IntKind.bits, IntKind.signed]; omega
              have r2 : IntKind.i64.wrap ((k : Int) + 1 - 1) = (k : Int) := by simp [IntKind.wrap, IntKind.bits, IntKind.signed]; omega
              clear ah af aQ aa
              go_wp2_with fail
              go_loopw [9] (fun i wr => ∃ (e : Nat) (y : Int), i = .int .i64 e /\ q <= e /\ e <= k /\ Up w wr /\ wr.ownsRow w.heap.size 3 1 (.slice a5 (k + 1) c5) (k + 1) (ivs (S.take e ++ y :: S.drop e))) (fun i _ => (intOf i).toNat)
              case atStart => exact ⟨k, 0, by first | rfl | simp, hq, Nat.le_refl _, a9.out, ba.out⟩
              case round =>
                obtain ⟨e, y, rfl, bh, bi, aR, aa⟩ := hrel
                rename World => w6
                have aS := zh aR
                clear aR
                have aT := aj.out
                have aU := aa.lt
                by_cases heq : q < e
                · obtain ⟨go2, co2, am, aK, c1, f1, ai⟩ := zhc aa (show e < k + 1 by omega) ((S.take e ++ y :: S.drop e).getD (e - 1) 0)
                  obtain ⟨go3, co3, bb, c2⟩ := zlk aa (show e - 1 < k + 1 by omega)
                  rw [zqv S y (by omega) (by omega)] at ai
                  have aV := am.symm.trans bb
                  simp only [Value.slice.injEq, true_and, Option.some.injEq, Addr.mk.injEq, and_true] at am aV
                  obtain ⟨rfl, rfl⟩ := am
                  obtain ⟨rfl, rfl⟩ := aV
                  obtain ⟨T, hT⟩ : ∃ T, (S.take e ++ y :: S.drop e).getD (e - 1) 0 = T := ⟨_, rfl⟩
                  obtain ⟨T2, ay⟩ : ∃ T2, (S.take e ++ y :: S.drop e).getD e 0 = T2 := ⟨_, rfl⟩
                  rw [hT] at c2 ai
                  rw [ay] at c1
                  have aL := zh ai
                  have s1 : IntKind.i64.wrap ((e : Int) - 1) = (e : Int) - 1 := by simp [IntKind.wrap, IntKind.bits, IntKind.signed]; omega
                  have s2 : ((e : Int) - 1).toNat = e - 1 := by omega
                  have s3 : (0 : Int) <= (e : Int) - 1 := by omega
                  have s4 : (e : Int) - 1 < (k : Int) + 1 := by omega
                  have s5 : (e : Int) - 1 < ((k + 1 : Nat) : Int) := by omega
                  clear aa ai hT ay aT aU
                  go_wp2_with fail
                  go_roundw
                  case rel => exact ⟨e - 1, _, by simp only [Value.int.injEq, true_and]; omega, by omega, by omega, aS.out.setCell aK _, aL.out⟩
                  case measure => simp [intOf]; omega
                · obtain rfl : e = q := by omega
                  obtain ⟨go2, co2, am, aK, c1, f1, ai⟩ := zhc aa (show e < k + 1 by omega) V
                  rw [zyt S y V e (by omega), <- ae.out] at ai
                  simp only [Value.slice.injEq, true_and] at am
                  obtain ⟨rfl, rfl⟩ := am
                  obtain ⟨T2, ay⟩ : ∃ T2, (S.take e ++ y :: S.drop e).getD e 0 = T2 := ⟨_, rfl⟩
                  rw [ay] at c1
                  have aL := zh ai
                  clear aa ai ay aT aU
                  go_wp2_with fail
                  go_roundw
                  case rel => exact ⟨j + 1, k + 1, by go_num, by omega, by omega, zh ⟨aS.out.setCell aK _, by rw [HT.out, ae.out, zuu S V e (by have := aj.out; omega), aj.out]⟩, by rw [HT.out]; exact aL.out⟩
                  case measure => simp [intOf]; omega
    · obtain rfl : j = n := by omega
      have bc : l.take j = l := by rw [HN.out, List.take_length]
      rw [bc] at ad HU
      go_wp2_with fail
      go_ret
      have hk := HU.out.2
      subst hk
      exact ⟨av, cv5, rfl, ad, HU.out.1⟩
theorem zvl {a b : List Int} (hl : a.length = b.length) (h : ∀ i, i < a.length -> a.getD i 0 = b.getD i 0) : a = b := by
 refine List.ext_getElem hl (fun i h1 h2 => ?_)
 have := h i h1
 simpa [List.getD, h1, h2] using this
theorem zox {w : World} {va vb : Value} {a b : List Int} (ha : Lst w va a) (hb : Lst w vb b) (hm : a.length <= 1000000) :
  Calls prog 148 #[va, vb] w fun r w' => r = .returned (.bool (decide (a = b))) /\ Up w w' := by
 obtain ⟨ao, cap, g, off, rfl, aa, hx⟩ := ha
 obtain ⟨bo, cap2, g2, off2, rfl, ab, hy⟩ := hb
 obtain ⟨n, hn⟩ := nm (a.length)
 obtain ⟨m, ac⟩ := nm (b.length)
 rw [<- hn] at aa hm ⊢
 rw [<- ac] at ab ⊢
 have HN := zh hn
 have HM := zh ac
 have HX := zh hx
 have HY := zh hy
 have HA := zh aa
 have HB := zh ab
 clear hn ac hx hy aa ab
 by_cases hnm : n = m
 ·subst hnm
  have q0 : ((n : Int) != (n : Int)) = false := by simp
  go_enter func148, ntmps148
  go_wp2_with fail
  go_loopw [5] (fun i wr => ∃ j q : Nat, i = .int .i64 j /\ j <= n /\ wr = w.drewN q /\ Hid (∀ i, i < j -> a.getD i 0 = b.getD i 0)) (fun i _ => n - (intOf i).toNat)
  case atStart => exact ⟨0, 0, rfl, Nat.zero_le _, rfl, zh (fun i hi => by omega)⟩
  case round =>
   obtain ⟨j, q, rfl, hj, rfl, HE⟩ := hrel
   by_cases hlt : j < n
   ·obtain rfl := HA.out (by omega)
    obtain rfl := HB.out (by omega)
    have c1 := HX.out j (by rw [<- HN.out]; exact hlt)
    have c2 := HY.out j (by rw [<- HM.out]; exact hlt)
    obtain ⟨x, ad⟩ : ∃ x, a.getD j 0 = x := ⟨_, rfl⟩
    obtain ⟨y, ae⟩ : ∃ y, b.getD j 0 = y := ⟨_, rfl⟩
    rw [ad] at c1
    rw [ae] at c2
    have ag := zh ad
    have ah := zh ae
    clear ad ae
    by_cases hxy : x = y
    ·have q1 : (x != y) = false := by simp [hxy]
     have af := zh hxy
     clear hxy
     go_wp2_with fail
     go_quiet (fail)
     go_wp2_with fail
     go_roundw
     case rel => exact ⟨j + 1, _, by go_num, by omega, rfl, zh (fun i hi => by
      by_cases h : i = j
      ·rw [h, ag.out, ah.out, af.out]
      ·exact HE.out i (by omega))⟩
     case measure => simp [intOf]; omega
    ·have q1 : (x != y) = true := by simp [hxy]
     have af := zh hxy
     clear hxy
     go_wp2_with fail
     go_quiet (fail)
     go_wp2_with fail
     go_ret
     refine ⟨zao ?_, ((Up.refl w).drewN _).drewN _⟩
     symm
     rw [decide_eq_false_iff_not]
     intro e
     have h1 := ag.out
     rw [e, ah.out] at h1
     exact af.out h1.symm
   ·obtain rfl : j = n := by omega
    go_wp2_with fail
    go_ret
    refine ⟨zao ?_, (Up.refl w).drewN _⟩
    symm
    rw [decide_eq_true_eq]
    exact zvl (by rw [<- HN.out, <- HM.out]) (fun i hi => HE.out i (by rw [HN.out]; exact hi))
 ·have q0 : ((n : Int) != (m : Int)) = true := by simp; omega
  have ai : Hid (decide (a = b) = false) := zh (by
   rw [decide_eq_false_iff_not]
   intro e
   exact hnm (by rw [HN.out, HM.out, e]))
  rw [ai.out]
  clear hnm
  go_enter func148, ntmps148
  go_wp2_with fail
  go_ret
  exact ⟨rfl, Up.refl w⟩
theorem zon {w : World} {p q : Nat} {rows : List (List Nat)} {v : Value} (hv : zfh w v rows) (hm : rows.length <= 1001) (hl : ∀ c ∈ rows, p < c.length /\ q < c.length /\ c.length <= 1000) :
  Calls prog 143 #[v, .int .i64 (p : Nat), .int .i64 (q : Nat)] w fun r w' => r = .returned (.int .i64 (zbm rows p q)) /\ Up w w' := by
 obtain ⟨g, cap, rfl, hr⟩ := hv
 obtain ⟨m, ab⟩ := nm (rows.length)
 rw [<- ab] at hm ⊢
 have HM := zh ab
 have HR := zh hr
 have HL := zh hl
 clear ab hr hl
 go_enter func143, ntmps143
 go_wp2_with fail
 go_loopw [7] (fun i wr => ∃ j e : Nat, j <= m /\ i = .int .i64 j /\ wr = w.drewN e /\ Hid (∀ k, k < j -> ((rows.getD k []).getD p 0 != (rows.getD k []).getD q 0) = false)) (fun i _ => m - (intOf i).toNat)
 case atStart => exact ⟨0, 0, Nat.zero_le _, rfl, rfl, zh (fun k hk => by omega)⟩
 case round =>
  obtain ⟨j, e, hj, rfl, rfl, HE⟩ := hrel
  by_cases hlt : j < m
  ·obtain ⟨u, hc, ac⟩ := HR.out j (by rw [<- HM.out]; exact hlt)
   have aa : rows.getD j [] ∈ rows := by rw [<- zaa [] (by rw [<- HM.out]; exact hlt)]; exact List.getElem_mem _
   obtain ⟨ah, ai, am⟩ := HL.out _ aa
   obtain ⟨ao, ucap, ug, uoff, ad, ha, hx⟩ := ac
   have c1 := zjg hx ah
   have c2 := zjg hx ai
   rw [List.length_map] at ha ad
   obtain rfl := ha (by omega)
   obtain ⟨L, aj⟩ := nm ((rows.getD j []).length)
   rw [<- aj] at ad ah ai am
   subst ad
   obtain ⟨x, ae⟩ : ∃ x, (rows.getD j []).getD p 0 = x := ⟨_, rfl⟩
   obtain ⟨y, af⟩ : ∃ y, (rows.getD j []).getD q 0 = y := ⟨_, rfl⟩
   rw [ae] at c1
   rw [af] at c2
   have ak := zh ae
   have al := zh af
   clear ae af hx ha aa aj
   by_cases hxy : x = y
   ·have q1 : ((x : Int) != (y : Int)) = false := by simp [hxy]
    have ag := zh hxy
    clear hxy
    go_wp2_with fail
    go_quiet (fail)
    go_wp2_with fail
    go_roundw
    case rel => exact ⟨j + 1, _, by omega, by go_num, rfl, zh (fun k hk => by
     by_cases h : k = j
     ·rw [h, ak.out, al.out, ag.out]; simp
     ·exact HE.out k (by omega))⟩
    case measure => simp [intOf]; omega
   ·have q1 : ((x : Int) != (y : Int)) = true := by simp; omega
    have ag := zh hxy
    clear hxy
    go_wp2_with fail
    go_quiet (fail)
    go_wp2_with fail
    go_ret
    refine ⟨ze0 (zmy (by rw [<- HM.out]; exact hlt) HE.out ?_).symm, ((Up.refl w).drewN _).drewN _⟩
    rw [ak.out, al.out]
    simpa using ag.out
  ·obtain rfl : j = m := by omega
   go_wp2_with fail
   go_ret
   exact ⟨ze0 (zj6 (fun k hk => HE.out k (by rw [HM.out]; exact hk))).symm, (Up.refl w).drewN _⟩
def zEn (s : Sy.Lts) (c : List Nat) (p : Nat) : Nat × List Int := (c.getD p 0, Rd.zCf c (Sy.steps s p))
theorem zjz (s : Sy.Lts) (c : List Nat) {p : Nat} (h : p < c.length) : (Rd.zCh s c)[p]'(by simp [Rd.zCh]; exact h) = zEn s c p := by simp [Rd.zCh, zEn]
theorem zc5 (s : Sy.Lts) (c : List Nat) : (Rd.zCh s c).length = c.length := by simp [Rd.zCh]
theorem zq3 (l : List Nat) : ints l = ivs (l.map Int.ofNat) := by simp [ints, ivs]
structure zHg (s : Sy.Lts) (c : List Nat) (n : Nat) (w w2 wr : World) (Ba Bs j m : Nat) (vs : List Value) (t : Value) (fs : List Nat) : Prop where
 up : Up w wr
 cl : Row wr Ba 3 n (ints ((Rd.canon (Rd.zCh s c)).take j ++ List.replicate (n - j) 0))
 len : vs.length = n
 sg : Row wr Bs 27 n vs
 own : ∀ p, p < m -> wr.ownsRow w2.heap.size 3 1 (vs.getD p undef) (Rd.zCf c (Sy.steps s p)).length (ivs (Rd.zCf c (Sy.steps s p)))
 fst : wr.ownsRow w2.heap.size 3 1 t fs.length (ints fs)
 rep : fs.map (zEn s c) = Rd.seen ((Rd.zCh s c).take j)
 low : ∀ r ∈ fs, r < j
 apart : ∀ p g, p < m -> (vs.getD p undef).ownBlock = some g -> t.ownBlock ≠ some g
 big : w2.heap.size <= wr.heap.size
theorem zHg.upTo {s : Sy.Lts} {c : List Nat} {n : Nat} {w w2 wr wq : World} {Ba Bs j m : Nat} {vs : List Value} {t : Value} {fs : List Nat} (h : zHg s c n w w2 wr Ba Bs j m vs t fs) (hu : Up wr wq) : zHg s c n w w2 wq Ba Bs j m vs t fs :=
 ⟨h.up.trans hu, h.cl.keep (hu.block _ h.cl.lt), h.len, h.sg.keep (hu.block _ h.sg.lt), fun p hp => hu.owns (h.own p hp), hu.owns h.fst, h.rep, h.low, h.apart, Nat.le_trans h.big hu.size⟩
theorem zHg.sig {s : Sy.Lts} {c : List Nat} {n : Nat} {w w2 wr w4 : World} {Ba Bs j : Nat} {vs : List Value} {t v : Value} {fs : List Nat} (h : zHg s c n w w2 wr Ba Bs j j vs t fs) (hj : j < n) (hu : Up wr w4) (ad : Ba ≠ Bs) (af : Bs < w2.heap.size) (ae : w.heap.size <= Bs)
  (hv : w4.ownsRow wr.heap.size 3 1 v (Rd.zCf c (Sy.steps s j)).length (ivs (Rd.zCf c (Sy.steps s j)))) : zHg s c n w w2 (w4.setCell ⟨Bs, j, none⟩ v) Ba Bs j (j + 1) (vs.set j v) t fs := by
 have h4 := h.upTo hu
 have ac : ∀ p, p ≠ j -> (vs.set j v).getD p undef = vs.getD p undef := fun p hp => by simp [List.getD, List.getElem?_set, Ne.symm hp]
 have ab : (vs.set j v).getD j undef = v := by simp [List.getD, h.len, hj]
 have aa : ∀ {e : TypeId} {k : Nat} {x : Value} {xs : List Value}, w4.ownsRow w2.heap.size e 1 x k xs -> (w4.setCell ⟨Bs, j, none⟩ v).ownsRow w2.heap.size e 1 x k xs := fun hx =>
  za2 hx (fun g hg => Below.heap_setCell w4 ⟨Bs, j, none⟩ v g (by have := (hx.lt g hg).1; simp only; omega))
 refine ⟨h4.up.setCell ae _, h4.cl.other ad _, by rw [List.length_set, h.len], h4.sg.set j v, fun p hp => ?_, aa h4.fst, h.rep, h.low, fun p g hp hg => ?_, by have := h4.big; simpa using this⟩
 ·by_cases he : p = j
  ·subst he; rw [ab]; exact aa (za8 hv h.big)
  ·rw [ac p he]; exact aa (h4.own p (by omega))
 ·by_cases he : p = j
  ·subst he
   rw [ab] at hg
   intro e
   have h1 := (hv.lt g hg).1
   have h2 := (h.fst.lt g e).2
   omega
  ·rw [ac p he] at hg; exact h.apart p g (by omega) hg
theorem zve {β : Type} [DecidableEq β] : ∀ (l : List β) (k : Nat) (x : β), (∀ q, q < k -> l[q]? ≠ some x) -> l[k]? = some x -> l.idxOf x = k
 | [], k, x, _, h => by simp at h
 | y :: l, 0, x, _, h => by
  simp only [List.getElem?_cons_zero, Option.some.injEq] at h
  subst h
  simp
 | y :: l, k + 1, x, h0, h => by
  have h1 := h0 0 (by omega)
  simp only [List.getElem?_cons_zero, ne_eq, Option.some.injEq] at h1
  rw [List.idxOf_cons, show (y == x) = false by simpa using h1]
  simp only [cond_false]
  rw [zve l k x (fun q hq => by have := h0 (q + 1) (by omega); simpa using this) (by simpa using h)]
theorem zy1 (s : Sy.Lts) (c : List Nat) {fs : List Nat} {k : Nat} (hk : k < fs.length) : (fs.map (zEn s c))[k]? = some (zEn s c (fs.getD k 0)) := by
 simp [List.getD, hk]
theorem zAu {s : Sy.Lts} {c : List Nat} {fs : List Nat} {k : Nat} {x : Nat × List Int} (hk : k < fs.length) (hx : zEn s c (fs.getD k 0) = x) (h : ∀ q, q < k -> zEn s c (fs.getD q 0) ≠ x) : Rd.place (fs.map (zEn s c)) x = k :=
 zve _ k x (fun q hq e => by rw [zy1 s c (show q < fs.length by omega), Option.some.injEq] at e; exact h q hq e) (by rw [zy1 s c hk, hx])
theorem zAy {s : Sy.Lts} {c : List Nat} {fs : List Nat} {x : Nat × List Int} (h : ∀ q, q < fs.length -> zEn s c (fs.getD q 0) ≠ x) : x ∉ fs.map (zEn s c) := by
 intro hm
 obtain ⟨i, hi, e⟩ := List.mem_iff_getElem?.1 hm |>.elim (fun i hi => (⟨i, by
  rw [List.getElem?_eq_some_iff] at hi
  obtain ⟨h1, h2⟩ := hi
  exact ⟨by simpa using h1, h2⟩⟩ : ∃ i, ∃ h : i < fs.length, (fs.map (zEn s c))[i]'(by simpa using h) = x))
 exact h i hi (by rw [<- e]; simp [List.getD, hi])
theorem zHg.old {s : Sy.Lts} {c : List Nat} {n : Nat} {w w2 wr : World} {Ba Bs j k : Nat} {vs : List Value} {t : Value} {fs : List Nat} (h : zHg s c n w w2 wr Ba Bs j (j + 1) vs t fs) (hj : j < n) (hc : c.length = n) (ae : Ba ≠ Bs) (ah : Ba < w2.heap.size) (af : w.heap.size <= Ba)
  (hk : k < fs.length) (hx : zEn s c (fs.getD k 0) = zEn s c j) (ag : ∀ q, q < k -> zEn s c (fs.getD q 0) ≠ zEn s c j) :
  zHg s c n w w2 (wr.setCell ⟨Ba, j, none⟩ (.int .i64 (k : Nat))) Ba Bs (j + 1) (j + 1) vs t fs := by
 have ad : j < (Rd.zCh s c).length := by rw [zc5, hc]; exact hj
 have hL : (Rd.zCh s c)[j] = zEn s c j := zjz s c (by rw [hc]; exact hj)
 have ab := zAu hk hx ag
 rw [h.rep] at ab
 have ac : zEn s c j ∈ Rd.seen ((Rd.zCh s c).take j) := by
  rw [<- h.rep, List.mem_map]
  exact ⟨fs.getD k 0, by rw [<- zaa 0 hk]; exact List.getElem_mem _, hx⟩
 have aa : ∀ {e : TypeId} {k' : Nat} {x : Value} {xs : List Value}, wr.ownsRow w2.heap.size e 1 x k' xs -> (wr.setCell ⟨Ba, j, none⟩ (.int .i64 (k : Nat))).ownsRow w2.heap.size e 1 x k' xs := fun hx =>
  za2 hx (fun g hg => Below.heap_setCell wr ⟨Ba, j, none⟩ _ g (by have := (hx.lt g hg).1; simp only; omega))
 have has := h.cl.set j (.int .i64 ((k : Nat) : Int))
 rw [<- ints_set, zgv hj (by rw [List.length_take, Rd.zC8]; omega), show (Rd.canon (Rd.zCh s c)).take j ++ [k] = (Rd.canon (Rd.zCh s c)).take (j + 1) by rw [Rd.zEr _ j ad, hL, ab]] at has
 refine ⟨h.up.setCell af _, has, h.len, h.sg.other (Ne.symm ae) _, fun p hp => aa (h.own p hp), aa h.fst, ?_, fun r hr => by have := h.low r hr; omega, h.apart, by have := h.big; simpa using this⟩
 rw [h.rep, Rd.zEu ad (by rw [hL]; exact ac)]
theorem zHg.fresh {s : Sy.Lts} {c : List Nat} {n : Nat} {w w2 wr wq w4 : World} {Ba Bs j : Nat} {vs : List Value} {t t' : Value} {fs : List Nat} {o : Obj} (h : zHg s c n w w2 wr Ba Bs j (j + 1) vs t fs) (hj : j < n) (hc : c.length = n) (ak : Ba ≠ Bs) (al : Ba < w2.heap.size) (am : Bs < w2.heap.size) (an : w.heap.size <= Ba) (au : w.heap.size <= w2.heap.size)
  (ao : ∀ q, q < fs.length -> zEn s c (fs.getD q 0) ≠ zEn s c j) (hu : Up wr wq) (af : w4.ownsRow w2.heap.size 3 1 t' (fs.length + 1) (ints fs ++ [.int .i64 (j : Nat)])) (hg : (wq.alloc o).grownBy w4 t.ownBlock)
  (aq : t'.ownBlock = t.ownBlock \/ t'.ownBlock = some (wq.alloc o).heap.size) :
  zHg s c n w w2 (w4.setCell ⟨Ba, j, none⟩ (.int .i64 (fs.length : Nat))) Ba Bs (j + 1) (j + 1) vs t' (fs ++ [j]) := by
 have ai : j < (Rd.zCh s c).length := by rw [zc5, hc]; exact hj
 have hL : (Rd.zCh s c)[j] = zEn s c j := zjz s c (by rw [hc]; exact hj)
 have ab := zAy ao
 rw [h.rep] at ab
 have ag : (Rd.seen ((Rd.zCh s c).take j)).length = fs.length := by rw [<- h.rep]; simp
 have ac : Up wr (wq.alloc o) := hu.alloc o
 have aj : ∀ k, t.ownBlock = some k -> w2.heap.size <= k := fun k hk => (h.fst.lt k hk).1
 have ad : ∀ b, b < w2.heap.size -> w4.heap[b]? = wr.heap[b]? := fun b hb => (hg.block b (Nat.lt_of_lt_of_le hb (Nat.le_trans h.big ac.size)) (fun e => by have := aj b e.symm; omega)).trans (ac.block b (Nat.lt_of_lt_of_le hb h.big))
 have ah : Up w w4 := (h.up.trans ac).grown hg (fun k hk => by have := aj k hk; omega)
 have aa : ∀ {e : TypeId} {k' : Nat} {x : Value} {xs : List Value}, w4.ownsRow w2.heap.size e 1 x k' xs -> (w4.setCell ⟨Ba, j, none⟩ (.int .i64 (fs.length : Nat))).ownsRow w2.heap.size e 1 x k' xs := fun hx =>
  za2 hx (fun g hg => Below.heap_setCell w4 ⟨Ba, j, none⟩ _ g (by have := (hx.lt g hg).1; simp only; omega))
 have has := (h.cl.keep (ad Ba al)).set j (.int .i64 ((fs.length : Nat) : Int))
 rw [<- ints_set, zgv hj (by rw [List.length_take, Rd.zC8]; omega), show (Rd.canon (Rd.zCh s c)).take j ++ [fs.length] = (Rd.canon (Rd.zCh s c)).take (j + 1) by rw [Rd.zEr _ j ai, hL, Rd.zGa ab, ag]] at has
 refine ⟨ah.setCell an _, has, h.len, (h.sg.keep (ad Bs am)).other (Ne.symm ak) _, fun p hp => aa (za2 (h.own p hp) (fun g ae => ?_)), aa ?_, ?_, fun r hr => ?_, fun p g hp ae e => ?_, ?_⟩
 ·have h1 := (h.own p hp).lt g ae
  exact (hg.block g (Nat.lt_of_lt_of_le h1.2 ac.size) (fun e => h.apart p g hp ae e.symm)).trans (ac.block g h1.2)
 ·have e1 : (fs ++ [j]).length = fs.length + 1 := by simp
  rw [e1, zhm]; exact af
 ·rw [List.map_append, h.rep, Rd.zEz ai (by rw [hL]; exact ab), hL]; rfl
 ·rcases List.mem_append.1 hr with hr | hr
  ·have := h.low r hr; omega
  ·rw [List.mem_singleton.1 hr]; omega
 ·rcases aq with h1 | h1
  ·rw [h1] at e; exact h.apart p g hp ae e
  ·rw [h1, Option.some.injEq] at e
   have h2 := ((h.own p hp).lt g ae).2
   have h3 := ac.size
   omega
 ·have h1 := hg.size
  have h2 := ac.size
  have h3 := h.big
  simp only [World.size_setCell] at *
  omega
def zd9 (s : Sy.Lts) (w : World) (O n : Nat) : Prop := ∀ p, p < n -> ∃ u, w.cell? ⟨O, p, none⟩ = some u /\ Ls2 w u (Sy.steps s p)
theorem zd9.up {s : Sy.Lts} {w w1 : World} {O n : Nat} (h : zd9 s w O n) (hu : Up w w1) : zd9 s w1 O n := fun p hp => by
 obtain ⟨u, h1, h2⟩ := h p hp
 exact ⟨u, hu.cell h1, h2.up hu⟩
theorem zA9 {s : Sy.Lts} {c : List Nat} {p q : Nat} : zEn s c p = zEn s c q ↔ c.getD p 0 = c.getD q 0 /\ Rd.zCf c (Sy.steps s p) = Rd.zCf c (Sy.steps s q) := by
 unfold zEn; rw [Prod.mk.injEq]
theorem zoo {s : Sy.Lts} {c : List Nat} {n O : Nat} {cv : Value} {w : World} (hR : Sy.Right s) (hn : s.n.toNat = n) (hO : zd9 s w O n) (hc : Lst w cv (c.map Int.ofNat)) (ay : c.length = n) (au : Rd.Small c) :
    Calls prog 112 #[.slice (some ⟨O, 0, none⟩) n n, cv] w (zcc w ((Rd.next s c).map Int.ofNat)) := by
  obtain ⟨i0, hi, aY, aZ, a0⟩ := info_parts Tryz.zCp
  obtain ⟨j0, hj, gz0, gz1, gz2⟩ := info_parts Tryz.zD6
  have bI : n <= 1000 := by have := hR.n1; omega
  have aR : Hid (Rd.canon (Rd.zCh s c) = Rd.next s c) := zh (Rd.zHn s c au)
  have aB : Hid (∀ W p u, Up w W -> p < n -> Ls2 W u (Sy.steps s p) -> Calls prog 147 #[u, cv] W fun r w' => ∃ ao ln cap, r = .returned (.slice ao ln cap) /\ Hid (ln = (Rd.zCf c (Sy.steps s p)).length) /\ w'.ownsRow W.heap.size 3 1 (.slice ao ln cap) (Rd.zCf c (Sy.steps s p)).length (ivs (Rd.zCf c (Sy.steps s p))) /\ Up W w') := zh (fun W p u hu hp hl =>
    (zs2 hl (hc.up hu) (zbt hR p) (by omega) (fun x hx => by rw [ay, <- hn]; exact zcz hR p x hx) au).mono (fun r w' ⟨ao, cap, h1, h2, h3⟩ => ⟨ao, _, cap, h1, zh rfl, h2, h3⟩))
  have bt := zh hO
  have aC := zh ay
  have bu : Hid (∀ p, (Rd.zCf c (Sy.steps s p)).length <= 1000000) := zh (fun p => Nat.le_trans (zqt c _) (zbt hR p))
  obtain ⟨bo, cap2, g2, off2, rfl, hb, hy⟩ := hc
  rw [List.length_map, ay] at hb
  have HY : Hid (∀ i, i < n -> w.cell? ⟨g2, off2 + i, none⟩ = some (.int .i64 ((c.getD i 0 : Nat) : Int))) := zh (fun i hi => zjg hy (by rw [ay]; exact hi))
  have HB := zh hb
  have a1 : (c.map Int.ofNat).length = n := by rw [List.length_map, ay]
  rw [a1] at aB ⊢
  clear hR hn hO ay au hb hy a1
  go_enter func112, ntmps112
  go_upto_region 3 with (at_make; refine wpList_make_full _ rfl _ _ 27 rfl w.heap.size 3 i0 (.int .i64 0) 1 underlying27 hi aY aZ _ _ _ _ n rfl rfl rfl rfl (by rw [a0]; omega) (by unfold maxLen; omega) (Nat.le_refl _) ?_; intro w1 am af)
  obtain ⟨ad, -, -, -⟩ := Row.of am
  have e1 : (madeCells (Value.int .i64 0).cells (n * 1)).toList = ints (List.replicate n 0) := by rw [Nat.mul_one, zcm]; exact toList_madeCells_one _ _
  rw [e1, Nat.mul_one] at ad
  have a2 : Up w w1 := (Up.refl w).grown af (fun k hk => by cases hk)
  have a3 := ad.lt
  have aD := zh ad
  have a5 := zh a2
  clear e1 am af ad a2
  go_upto_region 4 with (at_make; refine wpList_make_full _ rfl _ _ 36 rfl w1.heap.size 27 j0 (.slice none 0 0) 1 underlying36 hj gz0 gz1 _ _ _ _ n rfl rfl rfl rfl (by rw [gz2]; omega) (by unfold maxLen; omega) (Nat.le_refl _) ?_; intro w2 an ag)
  obtain ⟨ae, -, -, -⟩ := Row.of an
  have e2 : (madeCells (Value.slice none 0 0).cells (n * 1)).toList = List.replicate n (Value.slice none 0 0) := by rw [Nat.mul_one]; exact toList_madeCells_one _ _
  rw [e2, Nat.mul_one] at ae
  have aL : Up w1 w2 := (Up.refl w1).grown ag (fun k hk => by cases hk)
  have bv := ae.lt
  obtain ⟨Ba, aM⟩ := nm (w.heap.size)
  obtain ⟨Bs, aN⟩ := nm (w1.heap.size)
  have HF : Hid (Ba ≠ Bs /\ Ba < w2.heap.size /\ Bs < w2.heap.size /\ w.heap.size <= Ba /\ w.heap.size <= Bs /\ w.heap.size <= w2.heap.size) := zh (by have := aL.size; have := a5.out.size; omega)
  have a6 : zHg s c n w w2 w2 Ba Bs 0 0 (List.replicate n (.slice none 0 0)) (.slice none 0 0) [] := by
    refine ⟨a5.out.trans aL, ?_, by simp, by rw [aN]; exact ae, fun p hp => by omega, World.ownsRow_nil _ _ _ _, rfl, fun r hr => by simp at hr, fun p g hp => by omega, Nat.le_refl _⟩
    have := aD.out.keep (aL.block _ a3)
    rw [aM]; simpa using this
  have bw := zh a6
  have bJ := zh aM
  have bK := zh aN
  clear e2 an ag ae aL a3 bv a6
  go_wp2_with fail
  rw [<- aM, <- aN]
  clear aM aN
  go_loopw [5, 8] (fun t i wr => ∃ (j : Nat) (vs : List Value) (fs : List Nat), i = .int .i64 j /\ j <= n /\ Hid (zHg s c n w w2 wr Ba Bs j j vs t fs)) (fun _ i _ => n - (intOf i).toNat)
  case atStart => exact ⟨0, _, _, rfl, Nat.zero_le _, bw⟩
  case round =>
    obtain ⟨j, vs, fs, rfl, bL, HN⟩ := hrel
    rename World => wo
    by_cases hlt : j < n
    · obtain rfl := HB.out (by omega)
      obtain ⟨u, a7, a9⟩ := bt.out j hlt
      have c1 := HN.out.up.cell a7
      have aE := zh (aB.out wo j u HN.out.up hlt (a9.up HN.out.up))
      have f1 := HN.out.sg.free j
      obtain ⟨x0, ba⟩ : ∃ x0, wo.cell? ⟨Bs, j, none⟩ = some x0 := ⟨vs.getD j undef, HN.out.sg.cell (by simp [List.getD, show j < vs.length by rw [HN.out.len]; exact hlt])⟩
      have bx := zh (And.intro f1 ba)
      clear a7 a9 f1 ba
      go_upto_region 8 with (go_at_call 147; refine aE.out.mono ?_; rintro r w4 ⟨a4, ln, c4, rfl, bM, bb, aO⟩; (have f4 : w4.frozen? ⟨Bs, j, none⟩ = false := (HN.out.upTo aO).sg.free j); (have k4 := aO.cell bx.out.2); (have bz := zh bb); (have bA := zh aO); clear bb aO)
      have aP := HN.out.sig (v := .slice a4 ln c4) hlt bA.out HF.out.1 HF.out.2.2.1 HF.out.2.2.2.2.1 bz.out
      obtain ⟨w5, bc⟩ := nm (w4.setCell ⟨Bs, j, none⟩ (.slice a4 ln c4))
      rw [<- bc] at aP ⊢
      obtain ⟨vs', aF⟩ := nm (vs.set j (.slice a4 ln c4))
      rw [<- aF] at aP
      have HM := zh aP
      clear bc aP aF f4 k4 c1
      obtain ⟨m, hm⟩ := nm (fs.length)
      obtain ⟨ta, tc, bB⟩ := za1 HM.out.fst
      subst bB
      rw [<- hm]
      have aj := zh hm
      have bN : m <= 1000 := by
        have h1 := HM.out.rep
        have h2 := Rd.zCq ((Rd.zCh s c).take j)
        rw [<- h1, List.length_map, List.length_take] at h2
        omega
      clear hm
      have dj : w ≠ w -> False := fun h => h rfl
      have bd := HM.out.up.cell (HY.out j hlt)
      have be : Hid (w5.frozen? ⟨Ba, j, none⟩ = false /\ ∃ x0, w5.cell? ⟨Ba, j, none⟩ = some x0) := zh ⟨HM.out.cl.free j, _, HM.out.cl.cell (by rw [zai (by rw [List.length_append, List.length_take, Rd.zC8, zc5, aC.out, List.length_replicate]; omega)])⟩
      obtain ⟨cj, aw⟩ : ∃ cj, c.getD j 0 = cj := ⟨_, rfl⟩
      rw [aw] at bd
      have bC := zh aw
      clear aw dj
      go_wp2_with fail
      go_loopw [9] (fun i wr => ∃ k : Nat, i = .int .i64 k /\ k <= m /\ Up w5 wr /\ Hid (∀ q, q < k -> zEn s c (fs.getD q 0) ≠ zEn s c j)) (fun i _ => m - (intOf i).toNat)
      case atStart => exact ⟨0, rfl, Nat.zero_le _, Up.refl _, zh (fun q hq => by omega)⟩
      case round =>
        obtain ⟨k, rfl, hk, hu, aQ⟩ := hrel
        rename World => w7
        have ak := zh hu
        clear hu
        by_cases hkm : k < m
        · have aS : k < fs.length := by rw [<- aj.out]; exact hkm
          have bD := HM.out.low (fs.getD k 0) (by rw [<- zaa 0 aS]; exact List.getElem_mem _)
          have aG := HM.out.fst
          rcases za4 aG with ⟨-, h0, -⟩ | ⟨gt, ct, he, bf, -⟩
          · omega
          · simp only [Value.slice.injEq] at he
            obtain ⟨rfl, -, rfl⟩ := he
            have d1 := bf.cell (zai (l := fs) aS)
            obtain ⟨r, hr⟩ : ∃ r, fs.getD k 0 = r := ⟨_, rfl⟩
            rw [hr] at bD d1
            have d2 := HM.out.up.cell (HY.out r (by omega))
            have d4 := HM.out.sg.cell (show vs'[r]? = some (vs'.getD r undef) by simp [List.getD, show r < vs'.length by rw [HM.out.len]; omega])
            have d5 := HM.out.sg.cell (show vs'[j]? = some (vs'.getD j undef) by simp [List.getD, show j < vs'.length by rw [HM.out.len]; omega])
            have ab : Hid (∀ W, Up w5 W -> Calls prog 148 #[vs'.getD r undef, vs'.getD j undef] W fun x w' => x = .returned (.bool (decide (Rd.zCf c (Sy.steps s r) = Rd.zCf c (Sy.steps s j)))) /\ Up W w') := zh (fun W hW =>
              zox ((zbv (HM.out.own r (by omega))).up hW) ((zbv (HM.out.own j (by omega))).up hW) (bu.out r))
            obtain ⟨vr, bh⟩ : ∃ vr, vs'.getD r undef = vr := ⟨_, rfl⟩
            obtain ⟨vj, bi⟩ : ∃ vj, vs'.getD j undef = vj := ⟨_, rfl⟩
            rw [bh] at d4 ab
            rw [bi] at d5 ab
            obtain ⟨cr, aT⟩ : ∃ cr, c.getD r 0 = cr := ⟨_, rfl⟩
            rw [aT] at d2
            have d3 := bd
            have aU : Hid (zEn s c (fs.getD k 0) = zEn s c j ↔ cr = cj /\ Rd.zCf c (Sy.steps s r) = Rd.zCf c (Sy.steps s j)) := zh (by rw [hr, zA9, aT, bC.out])
            obtain ⟨sm, au⟩ : ∃ sm, decide (Rd.zCf c (Sy.steps s r) = Rd.zCf c (Sy.steps s j)) = sm := ⟨_, rfl⟩
            rw [au] at ab
            have bj := zh au
            have q0 : decide ((k : Int) < (m : Int)) = true := by simp; omega
            have aA := ak.out
            have d1' := aA.cell d1
            have d2' := aA.cell d2
            have d3' := aA.cell d3
            have d4' := aA.cell d4
            have d5' := aA.cell d5
            clear aG bf bh bi aT au aS hr aA d1 d2 d3 d4 d5
            have bO : r < n := by omega
            by_cases hcc : cr = cj
            · have q1 : ((cr : Int) != (cj : Int)) = false := by simp [hcc]
              have bE := zh hcc
              clear hcc
              cases sm
              · have ax : Hid (∀ q, q < k + 1 -> zEn s c (fs.getD q 0) ≠ zEn s c j) := zh (fun q hq => by
                  by_cases h : q = k
                  · rw [h]
                    intro e
                    exact absurd (aU.out.1 e).2 (of_decide_eq_false bj.out)
                  · exact aQ.out q (by omega))
                go_upto_region 9 with fail
                refine zak (fun w' => Up w7 w') (by kernel_rfl) (by kernel_rfl) (Up.refl _).drew ?_
                iterate 33
                  refine WQ.step (fun K hK => ?_)
                  go_simp
                  first
                    | (refine hK _ ?_
                       clear hK K)
                    | (apply Exists.intro
                       refine ⟨?_, hK _ ?_⟩
                       · intro w' aa
                         have s1 := aa.cell d1'
                         have s2 := aa.cell d2'
                         have s3 := aa.cell d3'
                         have s4 := aa.cell d4'
                         have s5 := aa.cell d5'
                         first
                           | (go_at_call 148; (with_reducible refine (ab.out _ (ak.out.trans aa)).mono ?_); rintro r w9 ⟨rfl, aV⟩; exact ⟨rfl, aa.trans aV⟩)
                           | (go_simp
                              first | done | rfl | exact ⟨rfl, rfl⟩)
                       clear hK K)
                refine WQ.nil ?_
                intro w6 al
                go_wp2_with fail
                go_roundw
                case rel => exact ⟨k + 1, by go_num, by omega, ak.out.trans al, ax⟩
                case measure => simp [intOf]; omega
              · have HX : Hid (zEn s c (fs.getD k 0) = zEn s c j) := zh (aU.out.2 ⟨bE.out, of_decide_eq_true bj.out⟩)
                have q2 : ((k : Int) == (m : Int)) = false := by simp; omega
                go_upto_region 9 with fail
                refine zak (fun w' => Up w7 w') (by kernel_rfl) (by kernel_rfl) (Up.refl _).drew ?_
                iterate 33
                  refine WQ.step (fun K hK => ?_)
                  go_simp
                  first
                    | (refine hK _ ?_
                       clear hK K)
                    | (apply Exists.intro
                       refine ⟨?_, hK _ ?_⟩
                       · intro w' aa
                         have s1 := aa.cell d1'
                         have s2 := aa.cell d2'
                         have s3 := aa.cell d3'
                         have s4 := aa.cell d4'
                         have s5 := aa.cell d5'
                         first
                           | (go_at_call 148; (with_reducible refine (ab.out _ (ak.out.trans aa)).mono ?_); rintro r w9 ⟨rfl, aV⟩; exact ⟨rfl, aa.trans aV⟩)
                           | (go_simp
                              first | done | rfl | exact ⟨rfl, rfl⟩)
                       clear hK K)
                refine WQ.nil ?_
                intro w6 al
                have aq := HM.out.upTo (ak.out.trans al)
                have aW := zh (aq.old hlt aC.out HF.out.1 HF.out.2.1 HF.out.2.2.2.1 (by rw [<- aj.out]; exact hkm) HX.out aQ.out)
                have z1 := aq.cl.free j
                obtain ⟨x1, z2⟩ : ∃ x1, w6.cell? ⟨Ba, j, none⟩ = some x1 := ⟨_, (ak.out.trans al).cell be.out.2.choose_spec⟩
                clear aq
                go_wp2_with fail
                go_roundw
                case rel => exact ⟨j + 1, vs', fs, by go_num, by omega, by rw [aj.out]; exact aW⟩
                case measure => simp [intOf]; omega
            · have q1 : ((cr : Int) != (cj : Int)) = true := by simp; omega
              have ax : Hid (∀ q, q < k + 1 -> zEn s c (fs.getD q 0) ≠ zEn s c j) := zh (fun q hq => by
                by_cases h : q = k
                · rw [h]
                  intro e
                  exact hcc (aU.out.1 e).1
                · exact aQ.out q (by omega))
              clear hcc
              go_upto_region 9 with fail
              refine zak (fun w' => Up w7 w') (by kernel_rfl) (by kernel_rfl) (Up.refl _).drew ?_
              iterate 33
                refine WQ.step (fun K hK => ?_)
                go_simp
                first
                  | (refine hK _ ?_
                     clear hK K)
                  | (apply Exists.intro
                     refine ⟨?_, hK _ ?_⟩
                     · intro w' aa
                       have s1 := aa.cell d1'
                       have s2 := aa.cell d2'
                       have s3 := aa.cell d3'
                       have s4 := aa.cell d4'
                       have s5 := aa.cell d5'
                       first
                         | (go_simp
                            first | done | rfl | exact ⟨rfl, rfl⟩)
                     clear hK K)
              refine WQ.nil ?_
              intro w6 al
              go_wp2_with fail
              go_roundw
              case rel => exact ⟨k + 1, by go_num, by omega, ak.out.trans al, ax⟩
              case measure => simp [intOf]; omega
        · obtain rfl : k = m := by omega
          have q2 : ((k : Int) == (k : Int)) = true := by simp
          go_upto_region 9 with fail
          refine zak (fun w' => Up w7 w') (by kernel_rfl) (by kernel_rfl) (Up.refl _).drew ?_
          iterate 33
            refine WQ.step (fun K hK => ?_)
            go_simp
            first
              | (refine hK _ ?_
                 clear hK K)
              | (apply Exists.intro
                 refine ⟨?_, hK _ ?_⟩
                 · intro w' aa
                   first
                     | (go_simp
                        first | done | rfl | exact ⟨rfl, rfl⟩)
                 clear hK K)
          refine WQ.nil ?_
          intro w6 al
          have aq := HM.out.upTo (ak.out.trans al)
          have bp := zh aq
          have ah := aq.fst
          rw [<- aj.out] at ah
          have bq := zh ah
          have aH := aq.big
          clear aq ah
          go_upto_region 13 with (at_builtin; (refine wpList_append_own_at _ rfl _ _ 27 rfl w2.heap.size 3 i0 (.int .i64 0) 1 8 underlying27 hi aY aZ a0 rfl (by decide) _ k _ rfl (Up.owns (w := w6) ((Up.refl w6).alloc _) bq.out) ⟨w6.heap.size, 0, none⟩ 1 1 [.int .i64 (j : Nat)] rfl rfl (cell_one_new _ _ _) (zi3 _) (by unfold maxLen; omega) (by omega) (by simp; omega) ?_); intro t8 w8 ai ac aI aJ; clear aI)
          obtain ⟨a8, c8, bF⟩ := za1 ai
          subst bF
          have br := bp.out.fresh (wq := w6) (w4 := w8) (t' := .slice a8 (k + 1) c8) hlt aC.out HF.out.1 HF.out.2.1 HF.out.2.2.1 HF.out.2.2.2.1 HF.out.2.2.2.2.2 (by rw [<- aj.out]; exact aQ.out) (Up.refl _) (by rw [<- aj.out]; exact ai) (by rw [<- aj.out]; exact ac) (by rw [<- aj.out]; exact aJ)
          have bG := zh br
          have aX : w8.heap[Ba]? = w6.heap[Ba]? := (ac.block Ba (Nat.lt_of_lt_of_le HF.out.2.1 (Nat.le_trans aH (by simp))) (fun e => by have := (bq.out.lt Ba e.symm).1; have := HF.out.2.1; omega)).trans (((Up.refl w6).alloc _).block Ba (Nat.lt_of_lt_of_le HF.out.2.1 aH))
          have z1 : w8.frozen? ⟨Ba, j, none⟩ = false := (bp.out.cl.keep aX).free j
          obtain ⟨x1, z2⟩ : ∃ x1, w8.cell? ⟨Ba, j, none⟩ = some x1 := ⟨_, (World.cell?_of_block (w := w6) (a := ⟨Ba, j, none⟩) aX).trans ((ak.out.trans al).cell be.out.2.choose_spec)⟩
          clear br ai ac aJ aX
          go_wp2_with fail
          go_roundw
          case rel => exact ⟨j + 1, vs', fs ++ [j], by go_num, by omega, by rw [aj.out] at *; exact bG⟩
          case measure => simp [intOf]; omega
    · obtain rfl : j = n := by omega
      obtain ⟨av, cv5, bH⟩ := za1 HN.out.fst
      subst bH
      have aK := HN.out.cl
      rw [Nat.sub_self, List.replicate_zero, List.append_nil, List.take_of_length_le (by rw [Rd.zC8, zc5, aC.out]; exact Nat.le_refl _), aR.out, zq3] at aK
      go_wp2_with fail
      go_ret
      have hl : ((Rd.next s c).map Int.ofNat).length = j := by rw [List.length_map, Rd.zDh, aC.out]
      unfold zcc
      rw [hl]
      exact ⟨_, _, rfl, Row.zFc (by rw [Nat.mul_one]; exact aK) HF.out.2.2.2.1 (Nat.le_refl _) (by unfold maxLen; omega) (by rw [zde, hl, Nat.mul_one]), HN.out.up⟩
end Go.Proofs.YtoaoajfjcfcmhaaGreatDoor
namespace Go.Proofs.YtoaoajfjcfcmhaaGreatDoor.Cn
open Go.Maps
def zc1 (s : List Int) (c : Int) : List Int := if c ∈ s then s else s ++ [c]
def seen (l : List Int) : List Int := l.foldl zc1 []
theorem zhk {p : List Int -> Prop} (h0 : p []) (h1 : ∀ s c, p s -> p (s ++ [c])) (s : List Int) : p s := by
 have h : ∀ r : List Int, p r.reverse := by
  intro r
  induction r with
  | nil => exact h0
  | cons c r ih => rw [List.reverse_cons]; exact h1 _ _ ih
 have := h s.reverse
 rwa [List.reverse_reverse] at this
def canon (l : List Int) : List Nat := l.map fun c => (seen l).idxOf c
theorem zC9 (l : List Int) (c : Int) : seen (l ++ [c]) = if c ∈ seen l then seen l else seen l ++ [c] := by
 simp only [seen, List.foldl_append, List.foldl_cons, List.foldl_nil]
 rfl
theorem zDp (l : List Int) (k : Nat) (h : k < l.length) : seen (l.take (k + 1)) = if l.getD k 0 ∈ seen (l.take k) then seen (l.take k) else seen (l.take k) ++ [l.getD k 0] := by
 rw [List.take_succ_eq_append_getElem h, zC9]
 simp [List.getD, h]
theorem zkp (l : List Int) : ∀ s : List Int, ∃ t, l.foldl zc1 s = s ++ t := by
 induction l with
 | nil => intro s; exact ⟨[], by simp⟩
 | cons c l ih =>
  intro s
  simp only [List.foldl_cons, zc1]
  split
  ·exact ih s
  ·obtain ⟨t, ht⟩ := ih (s ++ [c])
   exact ⟨c :: t, by rw [ht]; simp⟩
theorem zdi (l : List Int) (k : Nat) : ∃ t, seen l = seen (l.take k) ++ t := by
 have h := zkp (l.drop k) (seen (l.take k))
 obtain ⟨t, ht⟩ := h
 refine ⟨t, ?_⟩
 rw [<- ht]
 conv => lhs; rw [<- List.take_append_drop k l]
 simp only [seen, List.foldl_append]
theorem mem_seen (l : List Int) : ∀ c, c ∈ seen l ↔ c ∈ l := by
 suffices h : ∀ (l s : List Int) (c : Int), c ∈ l.foldl zc1 s ↔ c ∈ s \/ c ∈ l by
  intro c; have := h l [] c; simp only [List.not_mem_nil, false_or] at this; exact this
 intro l
 induction l with
 | nil => intro s c; simp
 | cons d l ih =>
  intro s c
  simp only [List.foldl_cons, ih, List.mem_cons, zc1]
  split
  ·rename_i hd
   constructor
   ·rintro (h | h); exact .inl h; exact .inr (.inr h)
   ·rintro (h | h | h)
    ·exact .inl h
    ·subst h; exact .inl hd
    ·exact .inr h
  ·simp only [List.mem_append, List.mem_singleton]
   constructor
   ·rintro ((h | h) | h); exact .inl h; exact .inr (.inl h); exact .inr (.inr h)
   ·rintro (h | h | h); exact .inl (.inl h); exact .inl (.inr h); exact .inr h
theorem zEm (l : List Int) : (seen l).Nodup := by
 suffices h : ∀ (l s : List Int), s.Nodup -> (l.foldl zc1 s).Nodup from h l [] List.nodup_nil
 intro l
 induction l with
 | nil => intro s h; exact h
 | cons d l ih =>
  intro s hs
  simp only [List.foldl_cons, zc1]
  split
  ·exact ih s hs
  ·rename_i hd
   exact ih _ (List.nodup_append.2 ⟨hs, by simp, by intro a ha b hb; simp at hb; subst hb; intro e; subst e; exact hd ha⟩)
theorem zCq (l : List Int) : (seen l).length <= l.length := by
 suffices h : ∀ (l s : List Int), (l.foldl zc1 s).length <= s.length + l.length by
  have := h l []
  simp only [List.length_nil, Nat.zero_add] at this
  exact this
 intro l
 induction l with
 | nil => intro s; simp
 | cons d l ih =>
  intro s
  simp only [List.foldl_cons, List.length_cons, zc1]
  split
  ·have := ih s; omega
  ·have := ih (s ++ [d]); simp at this; omega
theorem zC8 (l : List Int) : (canon l).length = l.length := by simp [canon]
theorem zDa {s t : List Int} {c : Int} (h : c ∈ s) : (s ++ t).idxOf c = s.idxOf c := by
 rw [List.idxOf_append, if_pos h]
theorem zFa (l : List Int) (k : Nat) (h : k < l.length) : (canon l).getD k 0 = (seen (l.take k)).idxOf (l.getD k 0) := by
 obtain ⟨t, ht⟩ := zdi l (k + 1)
 have hs := zDp l k h
 have hc : (canon l).getD k 0 = (seen l).idxOf (l.getD k 0) := by simp [canon, List.getD, h]
 rw [hc, ht, hs]
 split
 ·rename_i hin; exact zDa hin
 ·rename_i hin
  rw [zDa (by simp)]
  rw [List.idxOf_append, if_neg hin]
  rw [List.idxOf_eq_length hin]; simp
theorem zEh (l : List Int) (k : Nat) (h : k < l.length) : ((canon l).take k ++ List.replicate (l.length - k) 0).set k ((canon l).getD k 0) = (canon l).take (k + 1) ++ List.replicate (l.length - (k + 1)) 0 := by
 have hl := zC8 l
 have h1 : ((canon l).take k).length = k := by rw [List.length_take]; omega
 rw [List.set_append_right _ _ (by omega), h1, Nat.sub_self, show l.length - k = (l.length - (k + 1)) + 1 by omega, List.replicate_succ, List.set_cons_zero,
  List.take_succ_eq_append_getElem (by omega), List.append_assoc]
 simp [List.getD, hl, h]
theorem zEj (l : List Int) (k : Nat) (h : k < l.length) : (canon l).getD k 0 < (seen l).length := by
 have hc : (canon l).getD k 0 = (seen l).idxOf (l.getD k 0) := by simp [canon, List.getD, h]
 rw [hc]
 exact List.idxOf_lt_length_of_mem ((mem_seen l _).2 (by simp [List.getD, h]))
theorem zFr (l : List Int) (b : Nat) (h : b < (seen l).length) : ∃ k, k < l.length /\ (canon l).getD k 0 = b := by
 have hm : (seen l)[b] ∈ l := (mem_seen l _).1 (List.getElem_mem h)
 obtain ⟨k, hk, he⟩ := List.mem_iff_getElem.1 hm
 refine ⟨k, hk, ?_⟩
 have hc : (canon l).getD k 0 = (seen l).idxOf (l.getD k 0) := by simp [canon, List.getD, hk]
 rw [hc]
 have : l.getD k 0 = (seen l)[b] := by simp [List.getD, hk, he]
 rw [this]
 exact List.Nodup.idxOf_getElem (zEm l) b h
def zCr (s : List Int) : DataW Unit := s.zipIdx.foldl (fun m p => m.put (.int .i64 p.1) (.lit (.int .i64 (p.2 : Nat)))) (.map [])
theorem zD8 (s : List Int) (c : Int) : zCr (s ++ [c]) = (zCr s).put (.int .i64 c) (.lit (.int .i64 (s.length : Nat))) := by
 simp [zCr, List.zipIdx_append, List.foldl_append]
theorem isKey (c : Int) : WideAt.IsKeyLit (.int .i64 c) := trivial
theorem zdh : ∀ s : List Int, Tidy (zCr s) := by
 refine zhk tidy_empty ?_
 intro s c ih
 rw [zD8]; exact ih.put (isKey c) _
theorem zEd (s : List Int) (c : Int) : Maps.has (zCr s) (.int .i64 c) = decide (c ∈ s) := by
 revert s
 refine zhk (by simp [zCr, Maps.has]) ?_
 intro s d ih
 rw [zD8]
 by_cases h : c = d
 ·subst h; rw [has_put_same (zdh s).isMap (isKey c)]; simp
 ·rw [has_put_other (by intro e; cases e; exact h rfl), ih]; simp [h]
theorem zGz (s : List Int) (hs : s.Nodup) (c : Int) (hc : c ∈ s) (z : DataW Unit) : (zCr s).atKey (.int .i64 c) z = .lit (.int .i64 (s.idxOf c : Nat)) := by
 revert s
 refine zhk (fun _ h => by cases h) ?_
 intro s d ih hs hc
 have aa := List.nodup_append.1 hs
 rw [zD8]
 by_cases h : c = d
 ·subst h
  have hn : c ∉ s := fun hm => aa.2.2 c hm c (by simp) rfl
  rw [atKey_put_same (zdh s).isMap (isKey c), List.idxOf_append, if_neg hn]
  simp
 ·have hm : c ∈ s := by simpa [h] using hc
  rw [atKey_put_other (by intro e; cases e; exact h rfl), ih aa.1 hm, zDa hm]
theorem zFw (s : List Int) (hs : s.Nodup) : Maps.size (zCr s) = s.length := by
 revert s
 refine zhk (fun _ => rfl) ?_
 intro s d ih hs
 have aa := List.nodup_append.1 hs
 have hn : d ∉ s := fun hm => aa.2.2 d hm d (by simp) rfl
 rw [zD8, size_put (zdh s), zEd, ih aa.1]
 simp [hn]
def zEx (l : List Int) : DataW Unit := setOf (.agg []) (l.map (Lit.int .i64))
theorem zGv (l : List Int) (c : Int) : zEx (l ++ [c]) = (zEx l).put (.int .i64 c) (.agg []) := by
 simp only [zEx, List.map_append, List.map_cons, List.map_nil, setOf_snoc]
theorem zph : ∀ l : List Int, (l.map (Lit.int .i64)).foldl addKey [] = (seen l).map (Lit.int .i64) := by
 refine zhk rfl ?_
 intro l c ih
 rw [List.map_append, List.foldl_append, ih, zC9]
 simp only [List.map_cons, List.map_nil, List.foldl_cons, List.foldl_nil, addKey]
 have h : ((seen l).map (Lit.int .i64)).any (fun y => y.sameKey (.int .i64 c)) = decide (c ∈ seen l) := by
  rw [Bool.eq_iff_iff, List.any_eq_true]
  simp only [decide_eq_true_eq, List.mem_map]
  constructor
  ·rintro ⟨y, ⟨d, hd, rfl⟩, hs⟩
   have := (WideAt.sameKey_iff (isKey c)).1 hs
   cases this; exact hd
  ·intro hc; exact ⟨_, ⟨c, hc, rfl⟩, (WideAt.sameKey_iff (isKey c)).2 rfl⟩
 rw [h]
 by_cases hc : c ∈ seen l <;> simp [hc]
theorem zGn (l : List Int) : Maps.size (zEx l) = (seen l).length := by
 rw [zEx, size_setOf _ _ (by intro x hx; obtain ⟨c, _, rfl⟩ := List.mem_map.1 hx; exact isKey c), zph]
 simp
end Go.Proofs.YtoaoajfjcfcmhaaGreatDoor.Cn
