/- Walk: (*teller).tells. -/
import Derived.Test.YtoaoajfjcfcmhaaGreatDoorP17
import Derived.Maps.OwnOps
import Derived.StillTailTactics
import Derived.Deep.CutBlock
import Derived.Test.YtoaoajfjcfcmhaaGreatDoorP01
set_option linter.unusedVariables false
set_option linter.unusedSimpArgs false
set_option maxHeartbeats 16000000
set_option maxRecDepth 100000
open Go.Proofs.Tryz
namespace Go.Proofs.YtoaoajfjcfcmhaaGreatDoor
open Go.RowKit Go.Maps
theorem zfn {s : Sy.Lts} (hR : Sy.Right s) (q : Nat) (l : Int) : ∀ z ∈ Rd.byL (Sy.steps s q) l, 0 <= z /\ z < (s.n.toNat : Int) := fun z hz => by
 have := zcz hR q _ (Rd.zJy hz)
 exact ⟨this.2.2.1, this.2.2.2⟩
theorem ze1 {s : Sy.Lts} (hR : Sy.Right s) (q : Nat) (l : Int) : (Rd.byL (Sy.steps s q) l).length <= 10000 := by
 have h1 := Rd.zH0 (Sy.steps s q) l
 have h2 := Sy.zCo (lt := Sy.lt3) s.es
 have h3 := hR.len
 have h4 : (Sy.steps s q).length <= (Sy.norm Sy.lt3 s.es).length := by
  unfold Sy.steps Sy.sorted
  rw [List.length_map]
  exact List.length_filter_le (fun e : Sy.Edge => e.1 == (q : Int)) (Sy.norm Sy.lt3 s.es)
 omega
theorem ztt {w : World} {tb B p q : Nat} {k : Int} {x : Int × Int} {rv : Value} {s : Sy.Lts} (h0 : w.cell? ⟨tb, 0, none⟩ = some (.pointer (some ⟨B, 0, none⟩))) (h1 : w.cell? ⟨tb, 1, none⟩ = some rv) (hg : zCg w B s) (hr : zda w rv s) (hR : Sy.Right s)
  (hx : x ∈ Sy.steps s p) (hq : q < s.n.toNat) :
  Calls prog 129 #[.pointer (some ⟨tb, 0, none⟩), .agg #[.int .i64 x.1, .int .i64 x.2], .int .i64 (q : Nat), .int .i64 k] w fun r w' => r = .returned (.bool (Dt.tells s x q k)) /\ Up w w' := by
 have aj := zcz hR p x hx
 rw [zmu]
 obtain ⟨l, t⟩ := x
 obtain ⟨tn, rfl⟩ : ∃ tn : Nat, t = (tn : Int) := ⟨t.toNat, by simp only at aj; omega⟩
 simp only [Int.toNat_natCast] at aj ⊢
 have aq : tn < s.n.toNat := by omega
 obtain ⟨K, hK⟩ := nm (Rd.byL (Sy.steps s q) l)
 have af := zfn hR q l
 have au := ze1 hR q l
 rw [<- hK] at af au ⊢
 obtain ⟨m, hm⟩ := nm (K.length)
 obtain ⟨N, hN⟩ := nm (s.n.toNat)
 obtain ⟨wb, ag⟩ := nm (w.alloc (.cells #[.int .i64 l, .int .i64 (tn : Nat)] 169))
 have ab : Up w wb := by rw [ag]; exact (Up.refl w).alloc _
 have av : wb.heap[w.heap.size]? = some (.cells #[.int .i64 l, .int .i64 (tn : Nat)] 169 (0, 0)) := by rw [ag]; exact heap_alloc_new w _
 obtain ⟨b0, b1⟩ := zam av
 obtain ⟨ao, cap, g, off, ak, ha, aw⟩ := hr.up ab
 obtain rfl := ha (by omega)
 obtain ⟨h, ro, rc, c1, ac⟩ := aw tn aq
 have al : Hid (∀ z, z < N -> wb.cell? ⟨h, ro + z, none⟩ = some (.int .i64 (Rd.rank s tn z))) := zh (by rw [hN]; exact ac)
 rw [<- hN] at ak c1 aq af
 have aC : Hid (∀ W, Up wb W -> Calls prog 160 #[.pointer (some ⟨B, 0, none⟩), .int .i64 (q : Nat), .int .i64 l] W (zcc W K)) := zh (fun W hW => by rw [hK]; exact zBn l ((hg.up ab).up hW) hR hq)
 have d0 := ab.cell h0
 have d1 := ab.cell h1
 rw [ak] at d1
 have aL : N <= 1000 := by have := hR.n1; omega
 have aD := zh ag
 have aE := zh ab
 have HM := zh hm
 have aF := zh af
 have aM : m <= 10000 := by omega
 obtain ⟨F, hF⟩ : ∃ F : Int -> Bool, F = fun z => decide (0 <= Rd.rank s tn z.toNat) && decide (Rd.rank s tn z.toNat < k) := ⟨_, rfl⟩
 have HF := zh hF
 have aG : Hid (∀ z : Nat, F (z : Int) = (decide (0 <= Rd.rank s tn z) && decide (Rd.rank s tn z < k))) := zh (fun z => by rw [hF]; simp)
 rw [<- hF]
 clear h0 h1 hg hr hR ab av aw ac hx aj hq hK af au hm hN ag ak hF ha
 go_enter func129, ntmps129
 go_upto_region 1 with fail
 rw [<- aD.out]
 go_region_held3 (fun y => y.cell? ⟨tb, 0, none⟩ = some (.pointer (some ⟨B, 0, none⟩)) /\ y.cell? ⟨w.heap.size, 0, none⟩ = some (.int .i64 l) /\ Up wb y)
  ((refine zoh d0 b0 ?_; first
   | exact (Up.refl _).drew
   | exact Up.trans (zbh (by assumption)) (by assumption)
   | exact Up.drew (zbh (by assumption))
   | assumption))
  (first | (go_at_call 160; refine (aC.out _ (zbh (by assumption))).mono ?_; rintro r y1 ⟨ao, cap, rfl, ax, ay⟩; (have k1 : Up wb y1 := Up.trans (zbh (by assumption)) ay)))
 rw [<- HM.out]
 have aA : ∀ i, i < m -> ∃ z : Nat, K.getD i 0 = (z : Int) /\ z < N := fun i hi => by
  have ah : i < K.length := by rw [<- HM.out]; exact hi
  have h1 := aF.out (K.getD i 0) (by simp only [List.getD, List.getElem?_eq_getElem ah, Option.getD_some]; exact List.getElem_mem ah)
  exact ⟨(K.getD i 0).toNat, by omega, by omega⟩
 have aa : ∀ i, i < m -> ∃ g2, ao = some ⟨g2, 0, none⟩ /\ y1.cell? ⟨g2, i, none⟩ = some (.int .i64 (K.getD i 0)) := fun i hi => by
  have ah : i < K.length := by rw [<- HM.out]; exact hi
  rcases za4 ax with ⟨_, h0, _⟩ | ⟨g2, cap2, e, aH, _⟩
  ·omega
  ·simp only [Value.slice.injEq] at e
   exact ⟨g2, e.1, aH.cell (by simp [ivs, List.getD, ah])⟩
 have aI := zh aA
 have ad := zh aa
 have d1y := k1.cell d1
 have b1y := k1.cell b1
 have c1y := k1.cell c1
 have ae : Hid (∀ z, z < N -> y1.cell? ⟨h, ro + z, none⟩ = some (.int .i64 (Rd.rank s tn z))) := zh (fun z hz => k1.cell (al.out z hz))
 have am := zh (aE.out.trans k1)
 clear aA aa ax ay k1 d0 b0 b1 c1 d1
 go_wp2_with fail
 go_loopw [21] (fun i wr => ∃ j : Nat, i = .int .i64 j /\ j <= m /\ Up y1 wr /\ Hid (∀ i, i < j -> F (K.getD i 0) = true)) (fun i _ => m - (intOf i).toNat)
 case atStart => exact ⟨0, rfl, Nat.zero_le _, Up.refl _, zh (fun i hi => by omega)⟩
 case round =>
  obtain ⟨j, rfl, hj, hu, HJ⟩ := hrel
  by_cases hlt : j < m
  ·obtain ⟨z, hz, aJ⟩ := aI.out j hlt
   obtain ⟨g2, rfl, cz⟩ := ad.out j hlt
   rw [hz] at cz
   have e1 := hu.cell cz
   have e2 := hu.cell d1y
   have e3 := hu.cell b1y
   have e4 := hu.cell c1y
   have e5 := hu.cell (ae.out z aJ)
   have ai := aG.out z
   rw [<- hz] at ai
   obtain ⟨rk, aB⟩ := nm (Rd.rank s tn z)
   rw [<- aB] at e5 ai
   have an := zh ai
   have HZ := zh hz
   clear hz cz ai aB d1y b1y c1y
   go_upto_region 4 with fail
   refine za9 11 [(0, true), (1, true), (2, true), (3, true), (4, true), (5, true), (6, true), (7, true), (8, true), (9, true), (10, true)] (fun w' => w' = wr.drew) (by kernel_rfl) (by kernel_rfl) (fun _ _ _ _ _ h => h) rfl ?_
   iterate 11
    refine WO.still rfl rfl (fun KK hK => ?_)
    apply Exists.intro
    refine ⟨?_, hK _ ?_⟩
    ·rintro w' rfl
     go_simp
     first | done | rfl | exact ⟨rfl, rfl⟩
    clear hK KK
   refine WO.last rfl rfl (fun KK hK => ?_)
   go_simp
   refine hK _ _ ?_
   clear hK KK
   by_cases hneg : rk < 0
   ·have q1 : decide (rk < 0) = true := by simpa using hneg
    have HE : Hid (K.all F = false) := zh (by
     rw [Bool.eq_false_iff]
     intro h
     have h2 := List.all_eq_true.1 h (K.getD j 0) (by have := HM.out; simp only [List.getD, List.getElem?_eq_getElem (show j < K.length by omega), Option.getD_some]; exact List.getElem_mem _)
     rw [an.out] at h2
     simp at h2
     omega)
    clear hneg
    go_wp2_with fail
    go_ret
    exact ⟨zao HE.out.symm, (am.out.trans hu).drew⟩
   ·have q1 : decide (rk < 0) = false := by simpa using hneg
    by_cases hge : k <= rk
    ·have q2 : decide (k <= rk) = true := by simpa using hge
     have HE : Hid (K.all F = false) := zh (by
      rw [Bool.eq_false_iff]
      intro h
      have h2 := List.all_eq_true.1 h (K.getD j 0) (by have := HM.out; simp only [List.getD, List.getElem?_eq_getElem (show j < K.length by omega), Option.getD_some]; exact List.getElem_mem _)
      rw [an.out] at h2
      simp at h2
      omega)
     clear hneg hge
     go_wp2_with fail
     go_ret
     exact ⟨zao HE.out.symm, (am.out.trans hu).drew⟩
    ·have q2 : decide (k <= rk) = false := by simpa using hge
     have aK : Hid (∀ i, i < j + 1 -> F (K.getD i 0) = true) := zh (fun i hi => by
      rcases Nat.lt_succ_iff_lt_or_eq.1 hi with h1 | rfl
      ·exact HJ.out i h1
      ·rw [an.out]; simp; omega)
     clear hneg hge
     go_wp2_with fail
     go_roundw
     case rel => exact ⟨j + 1, by go_num, by omega, hu.drew, aK⟩
     case measure => simp [intOf]; omega
  ·obtain rfl : j = m := by omega
   have HE : Hid (K.all F = true) := zh (by
    rw [List.all_eq_true]
    intro x hx
    obtain ⟨i, hi, rfl⟩ := List.getElem_of_mem hx
    have := HJ.out i (by rw [HM.out]; exact hi)
    simpa [List.getD, hi] using this)
   clear d1y b1y c1y
   go_wp2_with fail
   go_ret
   exact ⟨zao HE.out.symm, am.out.trans hu⟩
def zGs (ts : List (List Dt.Nd)) (l : List Nat) : Nat := l.foldl (fun a k => min (a + Dt.size (ts.getD k [])) 5001) 1
theorem zmh (ts : List (List Dt.Nd)) (l : List Nat) (k : Nat) : zGs ts (l ++ [k]) = min (zGs ts l + Dt.size (ts.getD k [])) 5001 := by simp [zGs]
theorem zn6 (ts : List (List Dt.Nd)) (x : Dt.Nd) (l : List Nat) : zGs ts l = Dt.size (Dt.made ts x l) := by
 refine Sy.zCd (p := fun l => zGs ts l = Dt.size (Dt.made ts x l)) ?_ ?_ l
 ·simp [zGs, Dt.made, Dt.size]
 ·intro l k ih
  rw [zmh, ih]
  simp only [Dt.made, Dt.size, List.map_append, List.flatten_append, List.length_append, List.map_cons, List.map_nil, List.flatten_cons, List.flatten_nil, List.append_nil, List.length_cons, List.length_nil]
  omega
theorem zzs (ts : List (List Dt.Nd)) (l : List Nat) : zGs ts l <= 5001 := by
 rw [zn6 ts (1, 0)]; unfold Dt.size; omega
theorem zsn {l : List Nat} {k : Nat} (h : k < l.length) : l.take (k + 1) = l.take k ++ [l.getD k 0] := by
 rw [List.take_succ_eq_append_getElem h]; simp [List.getD, h]
theorem zCc.int {w0 w : World} {l : List UInt8} {v : Value} (h : zCc w0 w l v) (hT : Tab w0) (i : Int) (h0 : -9223372036854775808 <= i) (h1 : i <= 9223372036854775807) (hl : l.length <= 1000000) :
  Calls prog 162 #[v, .int .i64 i, .int .i64 10] w fun r w' => ∃ v', r = .returned v' /\ zCc w0 w' (l ++ Lib.itoa i) v' := by
 refine (zdk w0.heap.size l.length i h0 h1 v (Lib.byteCells l) w h.own h.up.size (by omega) (hT.below h.up (Nat.le_refl _))).mono fun r w' ⟨v', he, ho, hb, _⟩ => ⟨v', he, Below.trans h.up hb, ?_⟩
 rw [List.length_append, Lib.byteCells_append]; exact ho
theorem zCc.blank {w0 w w2 : World} {l : List UInt8} {v v2 : Value} {o : Obj} (h : zCc w0 w l v) (h2 : w2.ownsRow w0.heap.size 5 1 v2 (l.length + 1) (Lib.byteCells l ++ [Value.int .u8 32])) (hg : (w.alloc o).grownBy w2 v.ownBlock) :
  zCc w0 w2 (l ++ [32]) v2 := by
 refine ⟨Up.grown (h.up.alloc o) hg (fun g hk => (h.own.lt g hk).1), ?_⟩
 rw [List.length_append, Lib.byteCells_append]; exact h2
def zdt (w0 : World) (tb B : Nat) (rv : Value) (ma mk : Nat) (s : Sy.Lts) (d e : Nat) (w : World) (vp : Value) (rs : List DRow) (T : Dt.Tl) (f : List Dt.Nd) (r : Ending) (w' : World) : Prop :=
 ∃ (n : Nat) (vp' : Value) (rs' : List DRow) (T' : Dt.Tl), r = .returned (.int .i64 (n : Nat)) /\ zD9 w0 tb B rv ma mk s d e w vp rs T w' vp' rs' T' /\ n < T'.ps.length /\ T'.ts.getD n [] = f
theorem Tryz.zJr : Keyed prog 9 := string_keyed underlying9
theorem Tryz.zHf (w : World) : (zeroValue 3).run prog w = .ok (.int .i64 0) w := by kernel_rfl
theorem Tryz.zIu : (prog.info? 127).map (fun i => (i.zero, i.size, i.bytes)) = some (some (.agg #[.int .i64 0, .int .i64 0, .slice none 0 0, .int .i64 0]), 4, 48) := by kernel_rfl
theorem zp4 (w : World) (x : Value) (e : TypeId) : ∀ j u, [x][j]? = some u -> (w.alloc (.cells #[x] e)).cell? ((⟨w.heap.size, 0, none⟩ : Addr).add j) = some u := by
 intro j u hj
 have h := heap_alloc_new w (.cells #[x] e)
 match j, hj with
 | 0, hj =>
  simp only [List.getElem?_cons_zero, Option.some.injEq] at hj
  subst hj
  have e : ((⟨w.heap.size, 0, none⟩ : Addr).add 0) = ⟨w.heap.size, 0, none⟩ := by simp [Addr.add]
  rw [e]
  unfold World.cell?
  simp only [h]
  rfl
theorem zo2 (w : World) (a b c d : Value) (e : TypeId) : ∀ j u, [a, b, c, d][j]? = some u -> (w.alloc (.cells #[a, b, c, d] e)).cell? ((⟨w.heap.size, 0, none⟩ : Addr).add j) = some u := by
 intro j u hj
 have h := heap_alloc_new w (.cells #[a, b, c, d] e)
 have e : ∀ i : Nat, ((⟨w.heap.size, 0, none⟩ : Addr).add i) = ⟨w.heap.size, i, none⟩ := fun i => by unfold Addr.add; split <;> simp_all
 rw [e]
 unfold World.cell?
 simp only [h]
 match j, hj with
 | 0, hj => exact hj
 | 1, hj => exact hj
 | 2, hj => exact hj
 | 3, hj => exact hj
theorem zuq (a b : Int) (ao : Option Addr) (n c : Nat) (d : Int) : ∀ u ∈ [Value.int .i64 a, .int .i64 b, .slice ao n c, .int .i64 d], u.oneCell' = true := by
 intro u hu
 simp only [List.mem_cons, List.not_mem_nil, or_false] at hu
 rcases hu with rfl | rfl | rfl | rfl <;> rfl
theorem one_byte : ∀ u ∈ [Value.int .u8 32], u.oneCell' = true := by
 intro u hu
 simp only [List.mem_singleton] at hu
 subst hu; rfl
theorem zk0 (y : Dt.Part) (h : (Dt.zEs y).length <= 1000000) : keyOf prog 9 (.string ⟨(Dt.zEs y).toArray⟩) = some (.string (Dt.zEs y)) := by
 rw [Go.WideMaps.keyOf_string_mk underlying9 (by show (Dt.zEs y).toArray.size <= _; unfold maxLen; simp; omega)]
theorem zEp.look {w : World} {tb ma mk : Nat} {gv rv vp : Value} {rs : List DRow} {T : Dt.Tl} (h : zEp w tb gv rv vp ma mk rs T) (hn : T.ps.Nodup) {y : Dt.Part} (hy : (Dt.zEs y).length <= 1000000) :
  (y ∈ T.ps -> ∃ i : Nat, i < T.ps.length /\ T.ps.getD i ((0, 0), []) = y /\ (Instr.lookup 120 (.map (some ma)) (.string ⟨(Dt.zEs y).toArray⟩) true).run prog w = .ok (.tuple #[.int .i64 (i : Nat), .bool true]) w) /\
  (y ∉ T.ps -> ∃ c : Int, (Instr.lookup 120 (.map (some ma)) (.string ⟨(Dt.zEs y).toArray⟩) true).run prog w = .ok (.tuple #[.int .i64 c, .bool false]) w) := by
 obtain ⟨v, ps, aa, hv⟩ := h.ats.look_ok Tryz.zJr underlying120 (Tryz.zHf w) (plainElem_int underlying3 (by decide)) (zk0 y hy)
 obtain ⟨c, rfl, hc, ae⟩ := plainElem_int_inv underlying3 hv
 have ab := congrArg Prod.fst hc
 rw [Dt.zJ6 hn] at aa
 constructor
 ·intro ad
  obtain ⟨i, hi, he, hz⟩ := Dt.zJk hn ad
  refine ⟨i, hi, he, ?_⟩
  rw [hz] at ab
  simp only [DataW.lit.injEq, Lit.int.injEq, true_and] at ab
  rw [decide_eq_true ad] at aa
  rw [ab]; exact aa
 ·intro ac
  exact ⟨c, by rw [decide_eq_false ac] at aa; exact aa⟩
theorem zAl {w0 w w' : World} {tb B ma mk : Nat} {rv vp : Value} {rs : List DRow} {s : Sy.Lts} {T : Dt.Tl} {x : Dt.Nd} {l : List Nat} {i : Nat} (h : Tel w0 tb B rv ma mk s w vp rs T) (hu : Up w w') (hi : i < T.ps.length) (he : T.ps.getD i ((0, 0), []) = (x, l)) :
  zdt w0 tb B rv ma mk s 0 1 w vp rs T (Dt.made T.ts x l) (.returned (.int .i64 (i : Nat))) w' := by
 refine ⟨i, vp, rs, T, rfl, (h.same hu).mono (Nat.le_refl _) (by omega), hi, ?_⟩
 rw [h.ok.tab.eq i hi, he]
theorem zAk {w0 w W W2 w3 w4 : World} {tb B ma mk : Nat} {rv vp v' lv : Value} {rs : List DRow} {s : Sy.Lts} {T : Dt.Tl} {x : Dt.Nd} {l : List Nat} {o : Obj} (h : Tel w0 tb B rv ma mk s w vp rs T) (hW : Up w W)
  (ab : W.ownsRow w.heap.size 3 1 lv l.length (ints l)) (hx : Dt.Is x) (hl : l.length = Dt.ar x) (hk : ∀ k ∈ l, k < T.ps.length) (hn : (x, l) ∉ T.ps)
  (hm : W2.ownsMap (H := Unit) prog 9 (plainElem prog 3) ma (rs.length + 1) ((Dt.mp (Dt.zGu T.ps)).put (.string (Dt.zEs (x, l))) (.lit (.int .i64 (rs.length : Nat))))) (hg : W.grownBy W2 (some ma))
  (hu : Up W2 w3) (aa : w4.ownsRow 0 127 4 v' (rs.length + 1) (cellsD rs ++ [.int .i64 x.1, .int .i64 x.2, lv, .int .i64 ((zGs T.ts l : Nat) : Int)]))
  (ad : (w3.alloc o).grownBy w4 vp.ownBlock) (ac : v'.ownBlock = vp.ownBlock \/ v'.ownBlock = some (w3.alloc o).heap.size) :
  zdt w0 tb B rv ma mk s 0 1 w vp rs T (Dt.made T.ts x l) (.returned (.int .i64 (rs.length : Nat))) (w4.setCell ⟨tb, 2, none⟩ v') := by
 have hs := hW.size
 have ae : ∀ k, lv.ownBlock = some k -> ¬ zdn tb ma mk vp k := fun k hk ht => by
  have h1 := (ab.lt k hk).1
  have h2 := h.tl.lt (.inl ht)
  omega
 rw [zn6 T.ts x] at aa
 obtain ⟨p1, p2, p3⟩ := (h.tl.up hW).pushed (y := (x, l)) (f := Dt.made T.ts x l) hm hg hu (za8 ab (Nat.zero_le _)) ae aa ad ac
 obtain ⟨q1, q2⟩ := Dt.Tl.push (C := 10003) h.ok hx hl hk hn
 have ht : Turned (zdn tb ma mk vp) w (w4.setCell ⟨tb, 2, none⟩ v') := hW.zHv.trans p2 (fun _ _ hh => hh)
 refine ⟨rs.length, v', _, _, rfl, ⟨⟨p1, q1, h.turned ht, fun k hk => ?_⟩, q2, ht, fun k hk => ?_, fun k hk => ?_⟩, ?_, ?_⟩
 ·have af := h.up.size
  rcases hk with rfl | hk | rfl | rfl
  ·exact h.lo _ (.inl rfl)
  ·rcases p3 k hk with h1 | h1
   ·exact h.lo k (.inr (.inl h1))
   ·omega
  ·exact h.lo _ (.inr (.inr (.inl rfl)))
  ·exact h.lo _ (.inr (.inr (.inr rfl)))
 ·rcases p3 k hk with h1 | h1
  ·exact .inl h1
  ·right; omega
 ·rcases hk with (rfl | hk | rfl | rfl) | ⟨y, hy, hk⟩
  ·exact .inl (.inl (.inl rfl))
  ·rcases p3 k hk with h1 | h1
   ·exact .inl (.inl (.inr (.inl h1)))
   ·right; omega
  ·exact .inl (.inl (.inr (.inr (.inl rfl))))
  ·exact .inl (.inl (.inr (.inr (.inr rfl))))
  ·rcases List.mem_append.1 hy with hy | hy
   ·exact .inl (.inr ⟨y, hy, hk⟩)
   ·rw [List.mem_singleton] at hy
    subst hy
    exact .inr (ab.lt k hk).1
 ·show rs.length < (T.ps ++ [(x, l)]).length
  rw [List.length_append, <- h.tl.len]; simp
 ·show (T.ts ++ [Dt.made T.ts x l]).getD rs.length [] = _
  rw [h.tl.len, <- h.ok.tab.len]; exact Dt.zCi _ _ _
theorem zx9 {l : List Nat} (h : ∀ k ∈ l, k <= 1000000000000) : (Dt.zDu l).length <= 22 * l.length := by
 induction l with
 | nil => simp [Dt.zDu]
 | cons x l ih =>
  have h1 := Lib.itoa_length_le (x : Int) (by omega) (by have := h x List.mem_cons_self; omega)
  have h2 := ih (fun y hy => h y (List.mem_cons_of_mem _ hy))
  have e : Dt.zDu (x :: l) = 32 :: Lib.itoa (x : Int) ++ Dt.zDu l := by simp [Dt.zDu]
  rw [e]
  simp only [List.length_append, List.length_cons]
  omega
theorem zl8 {w0 w w1 : World} {tb B ma mk : Nat} {rv vp lv : Value} {rs : List DRow} {s : Sy.Lts} {T : Dt.Tl} {op lb : Int} {l : List Nat} (h : Tel w0 tb B rv ma mk s w vp rs T) (hT : Tab w0) (hu : Up w w1)
  (aU : w1.ownsRow w.heap.size 3 1 lv l.length (ints l)) (hx : Dt.Is (op, lb)) (hl : l.length = Dt.ar (op, lb)) (hk : ∀ k ∈ l, k < T.ps.length) (ck : T.ps.length <= 1000000000000) (cn : 0 <= lb /\ lb <= 1000) :
  Calls prog 131 #[.pointer (some ⟨tb, 0, none⟩), .agg #[.int .i64 op, .int .i64 lb], lv] w1 (zdt w0 tb B rv ma mk s 0 1 w vp rs T (Dt.made T.ts (op, lb) l)) := by
 obtain ⟨i0, hi, bu, bv, bw⟩ := info_parts Tryz.zH3
 obtain ⟨j0, bU, gz0, gz1, gz2⟩ := info_parts Tryz.zIu
 have co : 1 <= op /\ op <= 4 := by unfold Dt.Is at hx; simp only at hx; omega
 have bV : l.length <= 2 := by rw [hl]; unfold Dt.ar; split <;> (try split) <;> omega
 have ai := h.tl.len
 obtain ⟨wb, aV⟩ := nm (w1.alloc (.cells #[.int .i64 op, .int .i64 lb] 81))
 have a1 : Up w1 wb := by rw [aV]; exact (Up.refl w1).alloc _
 have a2 : wb.heap[w1.heap.size]? = some (.cells #[.int .i64 op, .int .i64 lb] 81 (0, 0)) := by rw [aV]; exact heap_alloc_new w1 _
 have aj := hu.trans a1
 have a3 : Tab wb := hT.up (h.up.trans aj)
 have ak := h.tl.up aj
 have g0 : zCc wb wb [] (.slice none 0 0) := ⟨Up.refl _, World.ownsRow_nil _ _ _ _⟩
 have h1 := g0.int a3 op (by omega) (by omega) (by simp)
 rw [List.nil_append] at h1
 obtain ⟨ao, cp, bx⟩ := za1 h.tl.row
 obtain ⟨N, hN⟩ := nm (rs.length)
 rw [<- hN] at bx ai
 subst bx
 have HP : Hid (∀ k, k < N -> ∃ g, ao = some ⟨g, 0, none⟩ /\ wb.cell? ⟨g, k * 4 + 3, none⟩ = some (.int .i64 ((Dt.size (T.ts.getD k []) : Nat) : Int))) := zh (fun k bW => by
  obtain ⟨g, cap, plv, e1, _, _, _, _, e2, _⟩ := ak.part (i := k) (by rw [<- ai]; exact bW)
  simp only [Value.slice.injEq] at e1
  exact ⟨g, e1.1, e2⟩)
 obtain ⟨b0, b1⟩ := zam a2
 have t2 : wb.cell? ⟨tb, 2, none⟩ = some (.slice ao N cp) := by simp [World.cell?, ak.box]
 have t3 : wb.cell? ⟨tb, 3, none⟩ = some (.map (some ma)) := by simp [World.cell?, ak.box]
 have bz := zh (zh1 aU rfl)
 obtain ⟨lo, lc, aE⟩ := za1 aU
 obtain ⟨m, hm⟩ := nm (l.length)
 rw [<- hm] at aE bV
 subst aE
 have H1 := zh h1
 have bA := zh a3
 have bX := zh aV
 have H := zh h
 have bY := zh aj
 have bB := zh a1
 have a4 := zh aU
 have HX := zh hx
 have HL := zh hl
 have HK := zh hk
 have HM := zh hm
 have HN := zh hN
 have a5 := zh a2
 have HU := zh hu
 have av := zh ai
 clear h1 g0 a3 aV ak h aj a1 aU hx hl hk hm hN a2 hT hu ai
 go_enter func131, ntmps131
 go_wp2_with fail
 rw [<- bX.out]
 (with_reducible refine H1.out.mono ?_)
 rintro r w2 ⟨v2, rfl, g2⟩
 have bZ := Lib.itoa_length_le op (by omega) (by omega)
 have a6 := Lib.itoa_length_le lb (by omega) (by omega)
 have bC := fun j => zx9 (l := l.take j) (fun k hk => by have := HK.out k (List.mem_of_mem_take hk); omega)
 have aF : ∀ j, (Dt.zDu (l.take j)).length <= 44 := fun j => by
  have h1 := bC j
  have h2 : (l.take j).length <= 2 := by rw [List.length_take, <- HM.out]; omega
  omega
 have aW : Hid ((Lib.itoa op).length <= 40) := zh (by omega)
 have b2 : Hid ((Lib.itoa lb).length <= 40) := zh (by omega)
 have bD := zh aF
 have bE := g2.up.cell b1
 have g2d : zCc wb w2.drew (Lib.itoa op) v2 := ⟨g2.up.drew, g2.own⟩
 clear bZ a6 bC aF
 go_upto_region 2 with fail
 refine za9 6 [(0, true), (3, true), (4, true), (1, false), (2, false), (5, false)] (fun w' => w'.cell? ⟨w1.heap.size, 1, none⟩ = some (.int .i64 lb)) (by kernel_rfl) (by kernel_rfl) (fun _ _ _ _ _ h => h) bE ?_
 generalize w2.drew = W2 at g2d ⊢
 iterate 3
  refine WO.still rfl rfl (fun K hK => ?_)
  apply Exists.intro
  refine ⟨?_, hK _ ?_⟩
  ·intro w' hS
   go_simp
   first | done | rfl | exact ⟨rfl, rfl⟩
  clear hK K
 refine WO.act rfl rfl (fun K hK => ?_)
 go_simp
 refine hK _ _ ?_ ?_
 ·exact (g2d.up.alloc _).cell b1
 clear hK K
 refine WO.act rfl rfl (fun K hK => ?_)
 refine wp_append_own (.tmp 16) (.tmp 17) 230 rfl wb.heap.size 5 i0 (.int .u8 0) 1 1 underlying230 hi bu bv bw rfl (by decide) v2 _ _ rfl (g2d.own.alloc _) _ 1 1 [.int .u8 32] rfl rfl (zp4 _ _ _) one_byte (by have := aW.out; unfold maxLen; omega) (by have := aW.out; omega) (by have := g2d.up.size; simp only [World.size_alloc]; omega) ?_
 intro v3 x3 am af a7
 have g3 : zCc wb x3 (Lib.itoa op ++ [32]) v3 := g2d.blank am af
 refine hK _ _ (g3.up.cell b1) ?_
 clear hK K am af a7
 refine WO.act rfl rfl (fun K hK => ?_)
 go_simp
 refine (g3.int bA.out lb (by omega) (by omega) (by have := aW.out; rw [List.length_append, List.length_singleton]; omega)).mono ?_
 rintro r x4 ⟨v4, rfl, g4⟩
 refine hK _ _ (g4.up.cell b1) ?_
 clear hK K g3 g2d g2 bE
 refine WO.last rfl rfl (fun K hK => ?_)
 go_simp
 refine hK _ _ ?_
 clear hK K
 have a8 : Hid ((Lib.itoa op ++ [32] ++ Lib.itoa lb).length <= 90) := zh (by
  have h1 := aW.out
  have h2 := b2.out
  simp only [List.length_append, List.length_singleton]; omega)
 have aw : Hid ((Lib.itoa op ++ [32] ++ Lib.itoa lb) ++ Dt.zDu l = Dt.zEs ((op, lb), l)) := zh (by simp [Dt.zEs])
 obtain ⟨hd, bF⟩ := nm (Lib.itoa op ++ [32] ++ Lib.itoa lb)
 rw [<- bF] at g4 a8 aw
 clear bF
 have ba := zh g4
 clear g4
 go_wp2_with fail
 go_loopw [24, 7, 8] (fun i b z wr => ∃ j : Nat, i = .int .i64 j /\ j <= m /\ z = .int .i64 ((zGs T.ts (l.take j) : Nat) : Int) /\ Hid (zCc wb wr (hd ++ Dt.zDu (l.take j)) b)) (fun i _ _ _ => m - (intOf i).toNat)
 case atStart => exact ⟨0, rfl, Nat.zero_le _, rfl, by simpa [Dt.zDu] using ba⟩
 case round =>
  obtain ⟨j, rfl, hj, rfl, HR⟩ := hrel
  by_cases hlt : j < m
  ·have aG : j < l.length := by rw [<- HM.out]; exact hlt
   obtain ⟨lg, loff, rfl⟩ : ∃ lg loff, lo = some ⟨lg, loff, none⟩ := by
    obtain ⟨_, _, lg, loff, e, ha, _⟩ := bz.out
    simp only [Value.slice.injEq] at e
    exact ⟨lg, loff, by rw [e.1]; exact ha (by omega)⟩
   obtain ⟨q, hq⟩ := nm (l.getD j 0)
   have cq := bz.out.cell aG
   rw [<- hq] at cq
   have b3 : q < N := by
    rw [av.out, hq]
    refine HK.out _ ?_
    simp only [List.getD, List.getElem?_eq_getElem aG, Option.getD_some]; exact List.getElem_mem aG
   have cr : (q : Int) <= 1000000000000 := by have := av.out; omega
   obtain ⟨gq, rfl, dq⟩ := HP.out q b3
   have hR := HR.out
   have e1 := hR.up.cell (bB.out.cell cq)
   have aX := zsn aG
   rw [<- hq] at aX
   have bb : Hid (zGs T.ts (l.take (j + 1)) = min (zGs T.ts (l.take j) + Dt.size (T.ts.getD q [])) 5001) := zh (by rw [aX, zmh])
   have bG : Hid (hd ++ Dt.zDu (l.take (j + 1)) = hd ++ Dt.zDu (l.take j) ++ [32] ++ Lib.itoa (q : Int)) := zh (by rw [aX, Dt.zHy]; simp)
   have bc := zzs T.ts (l.take j)
   have bd : Dt.size (T.ts.getD q []) <= 5001 := by unfold Dt.size; omega
   obtain ⟨z1, aH⟩ := nm (zGs T.ts (l.take j))
   obtain ⟨z2, aI⟩ := nm (Dt.size (T.ts.getD q []))
   rw [<- aH] at bc bb ⊢
   rw [<- aI] at bd bb dq
   obtain ⟨L, be⟩ := nm (hd ++ Dt.zDu (l.take j))
   have bH : L.length <= 200 := by
    have h1 := a8.out
    have h2 := bD.out j
    rw [be, List.length_append]; omega
   rw [<- be] at hR bG
   have bf := zh bH
   have bI := zh hR
   have b4 : Hid (wb.heap.size <= wr.heap.size) := zh hR.up.size
   clear cq hq aG hR aX aH aI be bH HR ba
   go_wp2_with (first
    | (at_builtin; refine wpList_append_own _ rfl _ _ 230 rfl wb.heap.size 5 i0 (.int .u8 0) 1 1 underlying230 hi bu bv bw rfl (by decide) _ _ _ rfl (bI.out.own.alloc _) ⟨wr.heap.size, 0, none⟩ 1 1 [.int .u8 32] rfl rfl (zp4 _ _ _) one_byte (by have := bf.out; unfold maxLen; omega) (by have := bf.out; omega) (by have := b4.out; simp only [World.size_alloc]; omega) ?_; intro v5 w5 ac aa aJ; (have G5 := zh (bI.out.blank ac aa)); clear ac aa aJ)
    | (go_at_call 162; refine (G5.out.int bA.out (q : Int) (by omega) (by omega) (by have := bf.out; rw [List.length_append, List.length_singleton]; omega)).mono ?_; rintro r w6 ⟨v6, rfl, g6⟩; (have f2 := g6.up.cell t2); (have f3 := g6.up.cell dq); (have G6 := zh g6); clear g6))
   go_roundw
   case rel => exact ⟨j + 1, by go_num, by omega, by rw [bb.out]; congr 1; omega, by rw [bG.out]; exact G6⟩
   case measure => simp [intOf]; omega
  ·obtain rfl : j = m := by omega
   have aY : l.take j = l := by rw [HM.out, List.take_length]
   have hG := HR.out
   rw [aY, aw.out] at hG
   have bh : (Dt.zEs ((op, lb), l)).length <= 1000000 := by
    have h1 := a8.out
    have h2 := bD.out j
    rw [aY] at h2
    rw [<- aw.out, List.length_append]; omega
   have bJ : Hid (zGs T.ts (l.take j) = zGs T.ts l) := zh (by rw [aY])
   obtain ⟨z, hz⟩ := nm (zGs T.ts (l.take j))
   rw [<- hz] at bJ ⊢
   have bK : T.ps.Nodup := H.out.ok.tab.once
   have ax : zCc wb wr.drew (Dt.zEs ((op, lb), l)) _ := ⟨hG.up.drew, hG.own⟩
   obtain ⟨ka, kn, kc, bL, bi⟩ := ax.string
   obtain ⟨W, hW⟩ : ∃ W, wr.drew = W := ⟨_, rfl⟩
   rw [hW] at bi ax
   have bj : Up w W := bY.out.trans ax.up
   have ay := H.out.tl.up bj
   have ad := ay.look bK bh
   have t2W := ax.up.cell t2
   have t3W := ax.up.cell t3
   obtain ⟨ks, bo⟩ : ∃ ks : ByteArray, ks = ⟨(Dt.zEs ((op, lb), l)).toArray⟩ := ⟨_, rfl⟩
   rw [<- bo] at bi ad
   have bM := zh bo
   have b5 := zh bh
   have bN := zh bj
   have b6 := zh ay
   have aK := zh ax
   clear aY hG HR ba hz bK ax bj ay bo bh
   by_cases hin : ((op, lb), l) ∈ T.ps
   ·obtain ⟨i, bO, bP, bQ⟩ := ad.1 hin
    have b7 := zh bO
    have b8 := zh bP
    clear ad hin bO bP
    subst bL
    go_upto_region 10 with fail
    refine za9 11 [(0, true), (1, true), (2, true), (3, true), (4, true), (5, true), (6, true), (7, true), (8, true), (9, true), (10, true)] (fun w' => w' = wr.drew) (by kernel_rfl) (by kernel_rfl) (fun _ _ _ _ _ h => h) rfl ?_
    rw [hW]
    iterate 11
     refine WO.still rfl rfl (fun KK hK => ?_)
     apply Exists.intro
     refine ⟨?_, hK _ ?_⟩
     ·rintro w' rfl
      go_simp
      first | done | rfl | exact ⟨rfl, rfl⟩
     clear hK KK
    refine WO.last rfl rfl (fun KK hK => ?_)
    go_simp
    refine hK _ _ ?_
    clear hK KK
    go_wp2_with fail
    go_ret
    exact zAl H.out bN.out b7.out b8.out
   ·obtain ⟨c, bQ⟩ := ad.2 hin
    have b9 := zh hin
    clear ad hin
    subst bL
    go_upto_region 10 with fail
    refine za9 11 [(0, true), (1, true), (2, true), (3, true), (4, true), (5, true), (6, true), (7, true), (8, true), (9, true), (10, true)] (fun w' => w' = wr.drew) (by kernel_rfl) (by kernel_rfl) (fun _ _ _ _ _ h => h) rfl ?_
    rw [hW]
    iterate 11
     refine WO.still rfl rfl (fun KK hK => ?_)
     apply Exists.intro
     refine ⟨?_, hK _ ?_⟩
     ·rintro w' rfl
      go_simp
      first | done | rfl | exact ⟨rfl, rfl⟩
     clear hK KK
    refine WO.last rfl rfl (fun KK hK => ?_)
    go_simp
    refine hK _ _ ?_
    clear hK KK bQ bi hW
    go_upto_region 13 with fail
    have aL : (convert 230 9 (.slice ka kn kc)).run prog W.drew = .ok (.string ks) W.drew := by
     obtain ⟨_, _, _, e, hc⟩ := (show zCc wb W.drew _ _ from ⟨aK.out.up.drew, aK.out.own⟩).string
     rw [e, bM.out]; exact hc
    have t2' : W.drew.cell? ⟨tb, 2, none⟩ = some (.slice ao N cp) := t2W
    have t3' : W.drew.cell? ⟨tb, 3, none⟩ = some (.map (some ma)) := t3W
    have al : W.drew.ownsMap (H := Unit) prog 9 (plainElem prog 3) ma N (Dt.mp (Dt.zGu T.ps)) := by rw [HN.out]; exact b6.out.ats.drew
    have ct : N <= 1000000000000 := by have := av.out; omega
    have aM : keyOf prog 9 (.string ks) = some (.string (Dt.zEs ((op, lb), l))) := by rw [bM.out]; exact zk0 _ b5.out
    have aN := zh aM
    clear aM
    obtain ⟨X, hX⟩ := nm (W.drew)
    have aZ : Up W X := by rw [hX]; exact (Up.refl W).drew
    go_still_tail 7, (by kernel_rfl)
    change wpList _ _ _ _ _ W.drew
    rw [<- hX] at aL t2' t3' al ⊢
    go_wp2_with (at_mapUpdate; refine wpList_mapUpdate_own _ rfl _ _ _ 120 rfl 9 3 Tryz.zJr underlying120 _ ma N _ rfl al (by unfold maxLen; omega) _ _ _ rfl rfl aN.out _ [] (plainElem_int underlying3 (WalkArith.wf_i64 (by omega))) ?_; intro x5 ac aa)
    have bp : Up w X := bN.out.trans aZ
    have ag := H.out.tl.up bp
    obtain ⟨n1, n2, n3, n4, n5⟩ := ag.heads
    have ae : X.heap[w1.heap.size]? = some (.cells #[.int .i64 op, .int .i64 lb] 81 (0, 0)) := (aZ.block _ (Nat.lt_of_lt_of_le (za0 a5.out) aK.out.up.size)).trans ((aK.out.up.block _ (za0 a5.out)).trans a5.out)
    have bR : ma ≠ w1.heap.size := zev al ae
    have bS : ∀ g, (Value.slice ao N cp).ownBlock = some g -> g < w.heap.size := fun g hg => H.out.tl.lt (.inl (.inr (.inl hg)))
    have ca : w.heap.size <= w1.heap.size := HU.out.size
    have bT : (Value.slice ao N cp).ownBlock ≠ some w1.heap.size := fun e => by have := bS _ e; omega
    have aA := (aa.block tb (za0 ag.box) (fun e => n1 (by simpa using e.symm))).trans ag.box
    have aO := (aa.block w1.heap.size (za0 ae) (fun e => bR (by simpa using e.symm))).trans ae
    have an : x5.ownsRow 0 127 4 (.slice ao N cp) N (cellsD rs) := by
     have h1 := ag.row
     rw [<- HN.out] at h1
     exact za2 h1 (fun g hg => aa.block g (za3 h1 hg) (fun e => n4 (by rw [hg, e])))
    obtain ⟨c0, c1⟩ := zam aO
    have c2 : x5.cell? ⟨tb, 2, none⟩ = some (.slice ao N cp) := by simp [World.cell?, aA]
    have aP := zh aA
    have aQ := zh an
    have aR := zh ac
    have bq := zh aa
    have a0 : Hid ((Value.slice ao N cp).ownBlock ≠ some tb /\ (Value.slice ao N cp).ownBlock ≠ some w1.heap.size) := zh ⟨n3, bT⟩
    have cc := zh bp
    have cd := zh aZ
    clear bp ag n1 n2 n3 n4 n5 ae bR bS bT aA aO an ac aa aZ aL t2' t3' al hX t2W t3W
    go_upto_region 14 with fail
    have aB := And.intro c2 (And.intro c0 c1)
    refine za9 13 [(0, true), (1, true), (2, true), (3, true), (4, true), (5, true), (6, true), (7, true), (8, true), (9, false), (10, false), (11, true), (12, true)] (fun w' => w'.cell? ⟨tb, 2, none⟩ = some (.slice ao N cp) /\ w'.cell? ⟨w1.heap.size, 0, none⟩ = some (.int .i64 op) /\ w'.cell? ⟨w1.heap.size, 1, none⟩ = some (.int .i64 lb)) (by kernel_rfl) (by kernel_rfl) (fun _ _ _ _ _ h => h) aB ?_
    iterate 9
     refine WO.still rfl rfl (fun KK hK => ?_)
     apply Exists.intro
     refine ⟨?_, hK _ ?_⟩
     ·rintro w' ⟨s1, s2, s3⟩
      go_simp
      first | done | rfl | exact ⟨rfl, rfl⟩
     clear hK KK
    refine WO.act rfl rfl (fun K hK => ?_)
    go_simp
    have aq := (Up.refl x5.drew).alloc (.cells #[.int .i64 op, .int .i64 lb, .slice lo j lc, .int .i64 (z : Int)] 127)
    refine hK _ _ ?_ ?_
    ·exact ⟨aq.cell aB.1, aq.cell aB.2.1, aq.cell aB.2.2⟩
    clear hK K
    refine WO.act rfl rfl (fun K hK => ?_)
    refine wp_append_own (.tmp 73) (.tmp 78) 122 rfl 0 127 j0 (.agg #[.int .i64 0, .int .i64 0, .slice none 0 0, .int .i64 0]) 4 48 underlying122 bU gz0 gz1 gz2 rfl (by decide) (.slice ao N cp) N _ rfl (Up.owns (w := x5.drew) ((Up.refl _).alloc _) aQ.out) _ 1 1 [.int .i64 op, .int .i64 lb, .slice lo j lc, .int .i64 (z : Int)] rfl rfl (zo2 _ _ _ _ _ _) (zuq _ _ _ _ _ _) (by unfold maxLen; omega) (by omega) (Nat.zero_le _) ?_
    intro v' x9 ah ab aS
    obtain ⟨a9, c9, rfl⟩ := za1 ah
    have aD : (x5.drew.alloc (.cells #[.int .i64 op, .int .i64 lb, .slice lo j lc, .int .i64 (z : Int)] 127)).grownBy x9 (Value.slice ao N cp).ownBlock := ⟨ab.os, ab.tape, ab.output, ab.size, ab.block⟩
    have br := And.intro (zaw aD (aq.cell aB.1) a0.out.1) (And.intro (zaw aD (aq.cell aB.2.1) a0.out.2) (zaw aD (aq.cell aB.2.2) a0.out.2))
    refine hK _ _ br ?_
    clear hK K
    have aC := za0 aP.out
    have aT := (aD.block tb (by show tb < (x5.drew.alloc _).heap.size; rw [World.size_alloc]; exact Nat.lt_succ_of_lt aC) (fun e => a0.out.1 e.symm)).trans ((aq.block tb aC).trans aP.out)
    have k2 := br.1
    have kf : x9.frozen? ⟨tb, 2, none⟩ = false := by simp [World.frozen?, aT]
    have cf := zh ah
    have cg := zh aD
    have ch := zh aS
    clear ah aD aS ab aq br aT aC
    iterate 2
     refine WO.still rfl rfl (fun KK hK => ?_)
     apply Exists.intro
     refine ⟨?_, hK _ ?_⟩
     ·rintro w' ⟨s1, s2, s3⟩
      go_simp
      first | done | rfl | exact ⟨rfl, rfl⟩
     clear hK KK
    refine WO.last rfl rfl (fun K hK => ?_)
    go_simp
    refine hK _ _ ?_
    clear hK K
    go_wp2_with fail
    go_ret
    have bt := Up.owns (bB.out.trans (aK.out.up.trans cd.out)) a4.out
    have e := HN.out
    subst e
    have au := cf.out
    rw [bJ.out] at au
    have cj := aR.out
    exact zAk H.out cc.out bt HX.out HL.out HK.out b9.out cj bq.out ((Up.refl x5).drew) au cg.out ch.out
def zae : ByteArray := { data := #[100, 105, 115, 116, 105, 110, 103, 117, 105, 115, 104] }
structure zIy (w0 : World) (B : Nat) (rv : Value) (s : Sy.Lts) : Prop where
 g : zCg w0 B s
 r : zda w0 rv s
 tab : Tab w0
 right : Sy.Right s
 n : s.n.toNat <= 300
def Root (s : Sy.Lts) (e : Nat) (T : Dt.Tl) : Prop := ∃ d, (Dt.Tl.mk [] [] []).To s 10003 d e T
theorem Root.go {s : Sy.Lts} {e d e' : Nat} {T U : Dt.Tl} (h : Root s e T) (k : T.To s 10003 d e' U) : Root s (e + e') U := by
 obtain ⟨d0, h⟩ := h
 exact ⟨_, h.trans k⟩
theorem Root.small {s : Sy.Lts} {e : Nat} {T : Dt.Tl} (h : Root s e T) (hT : T.Ok s) (hn : s.n.toNat <= 300) (he : e <= 20000) : T.ps.length <= 1000000000 := by
 obtain ⟨d, h⟩ := h
 have h1 := h.zKq hT
 have h2 : s.n.toNat * s.n.toNat <= 300 * 300 := Nat.mul_le_mul hn hn
 have h3 := Nat.mul_le_mul_right 10003 h2
 omega
def zKl (w0 : World) (tb B : Nat) (rv : Value) (ma mk : Nat) (s : Sy.Lts) (p q : Nat) : Prop :=
 ∀ (w : World) (vp : Value) (rs : List DRow) (T : Dt.Tl), Tel w0 tb B rv ma mk s w vp rs T -> Root s 0 T ->
  Calls prog 78 #[.pointer (some ⟨tb, 0, none⟩), .int .i64 (p : Nat), .int .i64 (q : Nat)] w (zdt w0 tb B rv ma mk s (Dt.fuel s p q + 1) 0 w vp rs T (Dt.F s p q))
theorem zD9.grown {w0 w wr w4 : World} {tb B ma mk d e : Nat} {rv vp vp' v : Value} {rs rs' : List DRow} {s : Sy.Lts} {T T' : Dt.Tl} {o : Obj} (h : zD9 w0 tb B rv ma mk s d e w vp rs T wr vp' rs' T') (h0 : Tel w0 tb B rv ma mk s w vp rs T)
  (hg : (wr.alloc o).grownBy w4 v.ownBlock) (hv : ∀ b, v.ownBlock = some b -> w.heap.size <= b /\ ¬ zgr tb ma mk vp' rs' b) : zD9 w0 tb B rv ma mk s d e w vp rs T w4 vp' rs' T' := by
 have ht : Turned (zdn tb ma mk vp) w w4 := (h.turn.alloc o).grown hg (fun k hk => .inr (hv k hk).1)
 refine ⟨⟨h.tel.tl.keep (fun k hk => ?_), h.tel.ok, h0.turned ht, h.tel.lo⟩, h.go, ht, h.blk, h.foot⟩
 have hl := h.tel.tl.lt hk
 exact (hg.block k (by simp; omega) (fun e => (hv k e.symm).2 hk)).trans (Below.heap_alloc wr o k hl)
theorem zD9.own {w0 w w' : World} {tb B ma mk d e base n size : Nat} {rv vp vp' v : Value} {rs rs' : List DRow} {s : Sy.Lts} {T T' : Dt.Tl} {xs : List Value} {et : TypeId} (h : zD9 w0 tb B rv ma mk s d e w vp rs T w' vp' rs' T') (ho : w.ownsRow base et size v n xs)
  (hv : ∀ b, v.ownBlock = some b -> ¬ zgr tb ma mk vp rs b) : w'.ownsRow base et size v n xs /\ ∀ b, v.ownBlock = some b -> ¬ zgr tb ma mk vp' rs' b := by
 refine ⟨za2 ho (fun g hg => h.turn.block g (za3 ho hg) (fun ht => hv g hg (.inl ht))), fun b hb hf => ?_⟩
 rcases h.foot b hf with h1 | h1
 ·exact hv b hb h1
 ·have := za3 ho hb
  omega
section
variable {w0 : World} {tb B ma mk : Nat} {rv : Value} {s : Sy.Lts}
def zkl (w0 : World) (tb B : Nat) (rv : Value) (ma mk : Nat) (s : Sy.Lts) (f : Nat) (y : World) (vp : Value) (rs : List DRow) (T : Dt.Tl) (wr : World) (v : Value) (l : List Nat) (fs : List (List Dt.Nd)) : Prop :=
 ∃ vp' rs' T', zD9 w0 tb B rv ma mk s f 0 y vp rs T wr vp' rs' T' /\ wr.ownsRow y.heap.size 3 1 v l.length (ints l) /\ (∀ b, v.ownBlock = some b -> ¬ zgr tb ma mk vp' rs' b) /\ Dt.zI1 T' l fs
def zt0 (w0 : World) (tb B : Nat) (rv : Value) (ma mk : Nat) (s : Sy.Lts) (f M : Nat) (y : World) (vp : Value) (rs : List DRow) (T : Dt.Tl) (c : List Dt.Nd) (wr : World) (v : Value) : Prop :=
 ∃ vp' rs' T' l fs, zD9 w0 tb B rv ma mk s f 1 y vp rs T wr vp' rs' T' /\ wr.ownsRow y.heap.size 3 1 v l.length (ints l) /\ (∀ b, v.ownBlock = some b -> ¬ zgr tb ma mk vp' rs' b) /\ Dt.zI1 T' l fs /\ l ≠ [] /\ Dt.conj fs = c /\ l.length <= M + 1
theorem zxj {T : Dt.Tl} {l : List Nat} {fs : List (List Dt.Nd)} (h : Dt.zI1 T l fs) : l.length = fs.length := by rw [<- h.eq, List.length_map]
theorem zkl.one {f M : Nat} {y wr : World} {vp v : Value} {rs : List DRow} {T : Dt.Tl} {l : List Nat} {fs : List (List Dt.Nd)} (h : zkl w0 tb B rv ma mk s f y vp rs T wr v l fs) (hl : l ≠ []) (hM : l.length <= M) : zt0 w0 tb B rv ma mk s f M y vp rs T (Dt.conj fs) wr v := by
 obtain ⟨vp', rs', T', h1, h2, h3, h4⟩ := h
 exact ⟨vp', rs', T', l, fs, h1.mono (Nat.le_refl _) (by omega), h2, h3, h4, hl, rfl, by omega⟩
theorem zkl.push {f : Nat} {y wr w4 : World} {vp v v' : Value} {rs : List DRow} {T : Dt.Tl} {l : List Nat} {fs' : List (List Dt.Nd)} {n : Nat} {o : Obj} {vp' : Value} {rs' : List DRow} {T' : Dt.Tl} (hy : Tel w0 tb B rv ma mk s y vp rs T)
  (h1 : zD9 w0 tb B rv ma mk s f 0 y vp rs T wr vp' rs' T') (h2 : wr.ownsRow y.heap.size 3 1 v l.length (ints l)) (h3 : ∀ b, v.ownBlock = some b -> ¬ zgr tb ma mk vp' rs' b) (h4 : Dt.zI1 T' (l ++ [n]) fs')
  (ho : w4.ownsRow y.heap.size 3 1 v' (l.length + 1) (ints l ++ [.int .i64 (n : Nat)])) (hg : (wr.alloc o).grownBy w4 v.ownBlock) (ab : v'.ownBlock = v.ownBlock \/ v'.ownBlock = some (wr.alloc o).heap.size) :
  zkl w0 tb B rv ma mk s f y vp rs T w4 v' (l ++ [n]) fs' := by
 refine ⟨vp', rs', T', h1.grown hy hg (fun b hb => ⟨(h2.lt b hb).1, h3 b hb⟩), ?_, fun b hb => ?_, h4⟩
 ·rw [List.length_append, zhm]; exact ho
 ·rcases ab with e | e
  ·exact h3 b (by rw [<- e]; exact hb)
  ·intro hf
   have aa := h1.tel.tl.lt hf
   rw [hb, Option.some.injEq] at e
   rw [e] at aa
   simp at aa
   omega
end
theorem ztk {fs : List (List Dt.Nd)} {j : Nat} (h : j + 1 < fs.length) : Dt.conj (fs.take (j + 2)) = Dt.conj (fs.take (j + 1)) ++ fs.getD (j + 1) [] ++ [(3, 0)] := by
 obtain ⟨f, r, rfl⟩ : ∃ f r, fs = f :: r := by
  cases fs with
  | nil => simp at h
  | cons f r => exact ⟨f, r, rfl⟩
 have hr : j < r.length := by simpa using h
 rw [show j + 2 = (j + 1) + 1 by omega, List.take_succ_cons, List.take_succ_cons, List.take_succ_eq_append_getElem hr, Dt.zE1]
 simp [List.getD, hr]
theorem zh0 {W : World} {l : List Nat} (h : l.length <= 1000) : (W.alloc (.cells (ints l).toArray 3)).ownsRow W.heap.size 3 1 (.slice (some ⟨W.heap.size, 0, none⟩) l.length l.length) l.length (ints l) := by
 have h1 := Row.new W 3 (ints l)
 rw [zaz] at h1
 have h2 : Row (W.alloc (.cells (ints l).toArray 3)) W.heap.size 3 (l.length * 1) (ints l) := by rw [Nat.mul_one]; exact h1
 exact h2.zFc (Nat.le_refl _) (Nat.le_refl _) (by unfold maxLen; omega) (by rw [zaz, Nat.mul_one])
theorem zek {w : World} {base n g cap k : Nat} {l : List Nat} (h : w.ownsRow base 3 1 (.slice (some ⟨g, 0, none⟩) k cap) n (ints l)) {i : Nat} (hi : i < l.length) : w.cell? ⟨g, i, none⟩ = some (.int .i64 ((l.getD i 0 : Nat) : Int)) := by
 rcases za4 h with ⟨e, _⟩ | ⟨g', c', e, hr, _⟩
 ·cases e
 ·simp only [Value.slice.injEq, Option.some.injEq, Addr.mk.injEq, and_true] at e
  rw [e.1]
  exact hr.cell (zai hi)
theorem zAf {w0 w : World} {tb B ma mk : Nat} {rv vp : Value} {rs : List DRow} {s : Sy.Lts} {T : Dt.Tl} {l : Int} {tn q f : Nat} (hL : zIy w0 B rv s) (h : Tel w0 tb B rv ma mk s w vp rs T) (hr : Root s 0 T) (hl : 0 <= l /\ l <= 1000)
  (a4 : tn < s.n.toNat) (hq : q < s.n.toNat) (ho : ∀ z ∈ Dt.zD3 s q l, zKl w0 tb B rv ma mk s tn z /\ Dt.fuel s tn z < f) :
  Calls prog 130 #[.pointer (some ⟨tb, 0, none⟩), .agg #[.int .i64 l, .int .i64 (tn : Nat)], .int .i64 (q : Nat)] w
   (zdt w0 tb B rv ma mk s f ((Dt.zD3 s q l).length + 2) w vp rs T (Dt.conj (Rd.seen ((Dt.zD3 s q l).map fun t => Dt.F s tn t)) ++ [(4, l)])) := by
 obtain ⟨j0, bK, gz0, gz1, gz2⟩ := info_parts Tryz.zCp
 rw [zeh] at ho ⊢
 have a5 := zfn hL.right q l
 have bp := ze1 hL.right q l
 obtain ⟨K, hK⟩ := nm (Rd.byL (Sy.steps s q) l)
 rw [<- hK] at a5 bp ho ⊢
 rw [List.length_map]
 obtain ⟨m, hm⟩ := nm (K.length)
 obtain ⟨N, hN⟩ := nm (s.n.toNat)
 obtain ⟨g, hg⟩ := nm ((K.map Int.toNat).map fun t => Dt.F s tn t)
 have aI : g.length = m := by rw [hg, hm]; simp
 rw [<- hg, <- hm]
 obtain ⟨wb, a1⟩ := nm (w.alloc (.cells #[.int .i64 l, .int .i64 (tn : Nat)] 169))
 have a6 : Up w wb := by rw [a1]; exact (Up.refl w).alloc _
 have a7 : wb.heap[w.heap.size]? = some (.cells #[.int .i64 l, .int .i64 (tn : Nat)] 169 (0, 0)) := by rw [a1]; exact heap_alloc_new w _
 obtain ⟨b0, b1⟩ := zam a7
 have a2 := h.upto a6
 have d0 : wb.cell? ⟨tb, 0, none⟩ = some (.pointer (some ⟨B, 0, none⟩)) := by simp [World.cell?, a2.tl.box]
 have bL : Hid (∀ W, Up wb W -> Calls prog 160 #[.pointer (some ⟨B, 0, none⟩), .int .i64 (q : Nat), .int .i64 l] W (zcc W K)) := zh (fun W hW => by rw [hK]; exact zBn l (hL.g.up (a2.up.trans hW)) hL.right hq)
 have bM : Hid (∀ i, i < m -> ∃ z : Nat, K.getD i 0 = (z : Int) /\ z < N /\ zKl w0 tb B rv ma mk s tn z /\ Dt.fuel s tn z < f /\ g.getD i [] = Dt.F s tn z) := zh (fun i hi => by
  have aJ : i < K.length := by rw [<- hm]; exact hi
  have e0 : K.getD i 0 = K[i] := by simp [List.getD, aJ]
  have aD : K[i] ∈ K := List.getElem_mem aJ
  have h1 := a5 _ aD
  refine ⟨K[i].toNat, by rw [e0]; omega, by rw [hN]; omega, (ho _ (List.mem_map.2 ⟨_, aD, rfl⟩)).1, (ho _ (List.mem_map.2 ⟨_, aD, rfl⟩)).2, ?_⟩
  rw [hg]
  simp [List.getD, aJ])
 have ch : N <= 1000 := by have := hL.right.n1; omega
 have bN : tn < N := by rw [hN]; exact a4
 have bO := zh a1
 have bq := zh a6
 have HM := zh hm
 have cj : m <= 10000 := by omega
 have HL := zh hL
 have bP := zh a2
 have HH := zh h
 have a8 := zh hr
 have br := zh aI
 have bQ := zh hl
 have bt := zh a7
 clear hL h hr a6 a7 a2 a1 hK a5 bp hm hN hg aI ho a4 hq
 go_enter func130, ntmps130
 go_upto_region 2 with fail
 rw [<- bO.out]
 go_region_held3 (fun y => y.cell? ⟨tb, 0, none⟩ = some (.pointer (some ⟨B, 0, none⟩)) /\ y.cell? ⟨w.heap.size, 0, none⟩ = some (.int .i64 l) /\ Up wb y)
  ((refine zoh d0 b0 ?_; first
   | exact (Up.refl _).drew
   | exact Up.trans (zbh (by assumption)) (by assumption)
   | exact Up.drew (zbh (by assumption))
   | assumption))
  (first | (go_at_call 160; refine (bL.out _ (zbh (by assumption))).mono ?_; rintro r y1 ⟨ao, cap, rfl, bu, bv⟩; (have k1 : Up wb y1 := Up.trans (zbh (by assumption)) bv); (have a9 := za8 bu (Nat.le_trans bq.out.size (zbh (by assumption) : Up wb _).size))))
 rw [<- HM.out]
 have au : ∀ i, i < m -> ∃ g2, ao = some ⟨g2, 0, none⟩ /\ w.heap.size <= g2 /\ g2 < y1.heap.size /\ y1.cell? ⟨g2, i, none⟩ = some (.int .i64 (K.getD i 0)) := fun i hi => by
  have aJ : i < K.length := by rw [<- HM.out]; exact hi
  rcases za4 a9 with ⟨_, h0, _⟩ | ⟨g2, cap2, e, bR, _⟩
  ·omega
  ·simp only [Value.slice.injEq] at e
   have h3 := a9.lt g2 (by rw [e.1]; rfl)
   exact ⟨g2, e.1, h3.1, h3.2, bR.cell (by simp [ivs, List.getD, aJ])⟩
 have ba := bP.out.upto k1
 have aK := k1.block _ (za0 bt.out)
 rw [bt.out] at aK
 obtain ⟨e0, e1⟩ := zam aK
 have ck : w.heap.size < y1.heap.size := za0 aK
 have A0 : zkl w0 tb B rv ma mk s f y1 vp rs T y1 (.slice none 0 0) [] (Rd.seen (g.take 0)) := ⟨vp, rs, T, (ba.same (Up.refl _)).mono (Nat.zero_le _) (Nat.le_refl _), World.ownsRow_nil _ _ _ _, (fun b hb => by simp [Value.ownBlock] at hb), ⟨(fun k hk => by cases hk), rfl⟩⟩
 have aL := zh au
 have bS := zh ba
 have aE := zh A0
 have bT := zh k1
 have co := zh aK
 clear au ba aK A0 k1 bu a9 bv d0 b0 b1
 go_wp2_with fail
 go_loopw [23, 7] (fun i v wr => ∃ (j : Nat) (L : List Nat), i = .int .i64 j /\ j <= m /\ L.length <= j /\ Hid (zkl w0 tb B rv ma mk s f y1 vp rs T wr v L (Rd.seen (g.take j)))) (fun i _ _ => m - (intOf i).toNat)
 case atStart => exact ⟨0, [], rfl, Nat.zero_le _, Nat.zero_le _, aE⟩
 case round =>
  obtain ⟨j, L, rfl, hj, bU, HR⟩ := hrel
  by_cases aM : j < m
  ·obtain ⟨z, hz, cq, hof, bw, bx⟩ := bM.out j aM
   obtain ⟨g2, rfl, cr, ct, cz⟩ := aL.out j aM
   rw [hz] at cz
   obtain ⟨vp1, rs1, T1, af, ac, av, aa⟩ := HR.out
   have aN : ∀ k, zdn tb ma mk vp k -> k < w.heap.size := fun k hk => HH.out.tl.lt (.inl hk)
   have e1' := af.turn.cell e1 (fun ht => by have := aN _ ht; simp only at this; omega)
   have cz' := af.turn.cell cz (fun ht => by have := aN _ ht; simp only at this; omega)
   have ah : Root s 0 T1 := a8.out.go af.go
   have HI := zh (hof wr vp1 rs1 T1 af.tel ah)
   have aI : j < g.length := by rw [br.out]; exact aM
   obtain ⟨lo, lc, bb⟩ := za1 ac
   subst bb
   have an := zh af
   have aF := zh ac
   have bc := zh av
   have ai := zh aa
   have HZ := zh hz
   have bV := zh bx
   have bW := zh bw
   have aO := zh aI
   have bX : L.length <= 10000 := by omega
   clear hz hof bx bw cz af ac av aa aN ah aI aE HR
   go_wp2_with fail
   (with_reducible refine HI.out.mono ?_)
   rintro r w2 ⟨n, vp2, rs2, T2, rfl, ag, hn, hf⟩
   have ab := (an.out.trans ag).mono (d' := f) (e' := 0) (by have := bW.out; omega) (by omega)
   obtain ⟨ae, aq⟩ := ag.own aF.out bc.out
   have ad := ai.out.later an.out.tel.ok ag.go
   have aw := ad.step ag.tel.ok aO.out hn (by rw [hf, <- bV.out]; simp [List.getD, aO.out])
   have bz := zh1 ae rfl
   have HC := zh (zlr n bz (by omega))
   have aG := zh ab
   have aj := zh ae
   have aP := zh aq
   have ak := zh aw
   clear ag hn hf ab ae aq ad aw bz
   by_cases hin : n ∈ L
   ·have aQ : Hid (zkl w0 tb B rv ma mk s f y1 vp rs T w2 (.slice lo L.length lc) L (Rd.seen (g.take (j + 1)))) := zh ⟨vp2, rs2, T2, aG.out, aj.out, aP.out, ak.out.1 hin⟩
    have q1 : decide (n ∈ L) = true := by simpa using hin
    rw [q1] at HC
    clear hin q1
    go_wp2_with (go_at_call 161; refine HC.out.mono ?_; rintro r w3 ⟨rfl, rfl⟩)
    go_roundw
    case rel => exact ⟨j + 1, L, by go_num, by omega, by omega, aQ⟩
    case measure => simp [intOf]; omega
   ·have q1 : decide (n ∈ L) = false := by simpa using hin
    rw [q1] at HC
    have bd := zh (ak.out.2 hin)
    clear hin q1 ak
    go_wp2_with (first
     | (go_at_call 161; refine HC.out.mono ?_; rintro r w3 ⟨rfl, rfl⟩)
     | (at_builtin; refine wpList_append_lies _ rfl _ _ 27 rfl y1.heap.size 3 j0 (.int .i64 0) 1 8 underlying27 bK gz0 gz1 gz2 rfl (by decide) (.slice lo L.length lc) L.length _ rfl (aj.out.alloc _) ⟨w2.heap.size, 0, none⟩ 1 1 [.int .i64 (n : Nat)] rfl rfl (zp4 _ _ _) (zi3 (n : Nat)) (by omega) (by unfold maxLen; omega) (by omega) (by have := aG.out.turn.size; simp only [World.size_alloc]; omega) _ rfl ?_; intro g9 c9 w9 ax al aR be; (have bY := zh ax); (have bZ := zh al); (have b2 := zh aR); clear ax al aR be))
    have aQ : Hid (zkl w0 tb B rv ma mk s f y1 vp rs T w9 (.slice (some ⟨g9, 0, none⟩) (L.length + 1) c9) (L ++ [n]) (Rd.seen (g.take (j + 1)))) := zh (zkl.push bS.out aG.out aj.out aP.out bd.out bY.out bZ.out (by
     rcases b2.out with e | e
     ·left; rw [e]; rfl
     ·right; rw [e]; rfl))
    go_roundw
    case rel => exact ⟨j + 1, L ++ [n], by go_num, by omega, by rw [List.length_append, List.length_singleton]; omega, aQ⟩
    case measure => simp [intOf]; omega
  ·obtain rfl : j = m := by omega
   have bA : g.take j = g := by rw [<- br.out, List.take_length]
   rw [bA] at HR
   clear aE bA
   have b3 := Rd.zCq g
   have b4 : ∃ lo lc, u7 = Value.slice lo L.length lc := by
    obtain ⟨_, _, _, _, ac, _, _⟩ := HR.out
    exact za1 ac
   obtain ⟨lo, lc, bb⟩ := b4
   subst bb
   have bX : L.length <= 10000 := by omega
   go_upto_if 43 with fail
   go_cut [7] (fun v wc => zt0 w0 tb B rv ma mk s f j y1 vp rs T (Dt.conj (Rd.seen g)) wc v)
   case first =>
    obtain ⟨vp1, rs1, T1, af, ac, av, aa⟩ := HR.out
    by_cases hnil : L = []
    ·subst hnil
     have a3 := (a8.out.go af.go).small af.tel.ok HL.out.n (by omega)
     have HP := zh (zl8 (l := []) (op := 1) (lb := 0) af.tel HL.out.tab (Up.refl wr) (World.ownsRow_nil _ _ _ _) (.inl rfl) rfl (fun k hk => by cases hk) (by omega) (by omega))
     have bB : Rd.seen g = [] := by
      have := aa.eq
      simpa using this.symm
     have b5 := zh bB
     have an := zh af
     clear af ac av aa a3 bB HR
     go_wp2_with (go_at_call 131; refine HP.out.mono ?_; rintro r w2 ⟨n, vp2, rs2, T2, rfl, ag, hn, hf⟩)
     have ab := (an.out.trans ag).mono (d' := f) (e' := 1) (by omega) (by omega)
     go_meet
     refine ⟨vp2, rs2, T2, [n], [[((1 : Int), (0 : Int))]], ab.upto ((Up.refl _).alloc _), ?_, ?_, ⟨?_, ?_⟩, by simp, ?_, by simp⟩
     ·have h1 := zh0 (W := w2) (l := [n]) (by simp)
      exact za8 h1 ab.turn.size
     ·intro b hb aS
      have aM := ab.tel.tl.lt aS
      have cu : w2.heap.size = b := by simpa [Value.ownBlock] using hb
      omega
     ·intro k hk
      rw [List.mem_singleton] at hk
      rw [hk]; exact hn
     ·simp only [List.map_cons, List.map_nil, hf, Dt.zJ4]
     ·rw [b5.out]; rfl
    ·have b6 : 0 < L.length := List.length_pos_iff.2 hnil
     have HN := zh hnil
     have HD : Hid (zt0 w0 tb B rv ma mk s f j y1 vp rs T (Dt.conj (Rd.seen g)) wr (.slice lo L.length lc)) := zh (HR.out.one hnil bU)
     clear af ac av aa hnil
     go_wp2_with fail
     go_meet
     exact HD.out
   case rest =>
    obtain ⟨vp1, rs1, T1, L2, fs, af, ac, av, aa, bC, ay, aT⟩ := hcut
    have aU : L2.length <= 10001 := by omega
    have a3 := fun e (he : e <= 20000) T2 (h : Root s e T2) (hk : T2.Ok s) => h.small hk HL.out.n he
    have aA := a8.out.go af.go
    obtain ⟨a0, r0, rfl⟩ : ∃ a0 r0, L2 = a0 :: r0 := by
     cases L2 with
     | nil => exact absurd rfl bC
     | cons a0 r0 => exact ⟨a0, r0, rfl⟩
    have aV := zxj aa
    obtain ⟨gl, cl, b7, bf⟩ : ∃ gl cl, u7 = Value.slice (some ⟨gl, 0, none⟩) (r0.length + 1) cl /\ r0.length + 1 <= cl := by
     rcases za4 ac with ⟨_, h0, _⟩ | ⟨gl, cl, e, _, bf, _⟩
     ·simp at h0
     ·exact ⟨gl, cl, e, bf⟩
    subst b7
    have bD := fun (i : Nat) (hi : i < (a0 :: r0).length) => zek ac hi
    have c0 := bD 0 (by simp)
    have bE := aa.lt a0 (by simp)
    have bF : T1.ts.getD a0 [] = Dt.conj (fs.take 1) := by
     have h1 := aa.eq
     rw [<- h1]
     simp [Dt.conj]
    simp only [List.length_cons] at aT aU aV
    obtain ⟨nr, bh⟩ := nm (r0.length)
    rw [<- bh] at aT aU aV bf ⊢
    have am : Dt.conj (fs.take (nr + 1)) = Dt.conj (Rd.seen g) := by rw [aV, List.take_length, ay]
    have an := zh af
    have aF := zh ac
    have bc := zh av
    have ai := zh aa
    have aB := zh aA
    have b8 := zh bh
    have b9 := zh aV
    have bG := zh am
    have aE := zh (And.intro bE bF)
    have bH := zh a3
    clear af ac av aa aA bh aV ay am bE bF a3 bD bC HR
    have aW : Hid (∀ wr vp' rs' T' (a : Nat), zD9 w0 tb B rv ma mk s 0 nr wc vp1 rs1 T1 wr vp' rs' T' -> a < T'.ps.length -> T'.ts.getD a [] = Dt.conj (Rd.seen g) ->
      wr.cell? ⟨w.heap.size, 0, none⟩ = some (.int .i64 l) /\ Calls prog 131 #[.pointer (some ⟨tb, 0, none⟩), .agg #[.int .i64 4, .int .i64 l], .slice (some ⟨wr.heap.size, 0, none⟩) 1 1] (wr.alloc (.cells #[.int .i64 (a : Nat)] 3))
       (zdt w0 tb B rv ma mk s f (j + 2) w vp rs T (Dt.conj (Rd.seen g) ++ [(4, l)]))) := zh (fun wr vp' rs' T' a aX ha ca => by
     have aN : ∀ k, zdn tb ma mk vp k -> k < w.heap.size := fun k hk => HH.out.tl.lt (.inl hk)
     have bi := ((HH.out.same (bq.out.trans bT.out)).trans an.out).trans aX
     refine ⟨((an.out.trans aX).turn).cell e0 (fun ht => by have := aN _ ht; simp only at this; omega), ?_⟩
     have aY := bH.out _ (by omega) T' (aB.out.go aX.go) aX.tel.ok
     have h1 := zh0 (W := wr) (l := [a]) (by simp)
     refine (zl8 (l := [a]) (op := 4) (lb := l) aX.tel HL.out.tab ((Up.refl wr).alloc _) h1 (.inr (.inr (.inr rfl))) rfl (fun k hk => by rw [List.mem_singleton] at hk; rw [hk]; exact ha) (by omega) bQ.out).mono ?_
     rintro r w3 ⟨n, vp3, rs3, T3, rfl, ab, hn, aC⟩
     exact ⟨n, vp3, rs3, T3, rfl, (bi.trans ab).mono (by omega) (by omega), hn, by rw [aC, Dt.zH7, ca]⟩)
    by_cases hz : nr = 0
    ·have hA := aE.out
     have hE := aW.out wc vp1 rs1 T1 a0 ((an.out.tel.same (Up.refl _)).mono (Nat.le_refl _) (Nat.zero_le _)) hA.1 (by rw [hA.2, <- bG.out, hz])
     have k0 := hE.1
     have HC := zh hE.2
     subst hz
     clear hE hA
     go_wp2_with fail
     all_goals
      refine wp_loop_rounds 1 ?_
      rw [rounds_succ]
      go_wp2_with fail
      (with_reducible refine HC.out.mono ?_)
      rintro r w3 ⟨n, vp3, rs3, T3, rfl, ab, hn, aC⟩
      go_wp2_with fail
      go_ret
      exact ⟨n, vp3, rs3, T3, rfl, ab, hn, aC⟩
    ·have cc : 2 <= cl := by omega
     go_wp2_with fail
     go_loopw [54, 11] (fun i a wr => ∃ (t b : Nat) (vp' : Value) (rs' : List DRow) (T' : Dt.Tl), i = .int .i64 t /\ t <= nr /\ a = .int .i64 (b : Nat) /\ Hid (zD9 w0 tb B rv ma mk s 0 t wc vp1 rs1 T1 wr vp' rs' T') /\ b < T'.ps.length /\ Hid (T'.ts.getD b [] = Dt.conj (fs.take (t + 1)))) (fun i _ _ => nr - (intOf i).toNat)
     case atStart => exact ⟨0, a0, vp1, rs1, T1, rfl, Nat.zero_le _, rfl, zh ((an.out.tel.same (Up.refl _)).mono (Nat.le_refl _) (Nat.le_refl _)), aE.out.1, zh aE.out.2⟩
     case round =>
      obtain ⟨t, b, vp', rs', T', rfl, a4, rfl, aH, hb, bj⟩ := hrel
      by_cases aM : t < nr
      ·have aZ : t + 1 < (a0 :: r0).length := by have := b8.out; simp only [List.length_cons]; omega
       obtain ⟨n, hn⟩ := nm ((a0 :: r0).getD (t + 1) 0)
       obtain ⟨ae, aq⟩ := aH.out.own aF.out bc.out
       have cn := zek ae aZ
       rw [<- hn, Nat.add_comm] at cn
       have ad := ai.out.later an.out.tel.ok aH.out.go
       have bI : n ∈ a0 :: r0 := by rw [hn]; simp only [List.getD, List.getElem?_eq_getElem aZ, Option.getD_some]; exact List.getElem_mem aZ
       have bo := ad.lt n bI
       have bJ : T'.ts.getD n [] = fs.getD (t + 1) [] := by
        rw [<- ad.eq, hn]
        simp only [List.getD, List.getElem?_map, List.getElem?_eq_getElem aZ, Option.map_some, Option.getD_some]
       have aY := bH.out _ (by omega) T' (aB.out.go aH.out.go) aH.out.tel.ok
       have h1 := zh0 (W := wr) (l := [b, n]) (by simp)
       have HC : Hid (Calls prog 131 #[.pointer (some ⟨tb, 0, none⟩), .agg #[.int .i64 3, .int .i64 0], .slice (some ⟨wr.heap.size, 0, none⟩) 2 2] (wr.alloc (.cells #[.int .i64 (b : Nat), .int .i64 (n : Nat)] 3))
         (zdt w0 tb B rv ma mk s 0 1 wr vp' rs' T' (Dt.made T'.ts (3, 0) [b, n]))) := zh (zl8 (l := [b, n]) (op := 3) (lb := 0) aH.out.tel HL.out.tab ((Up.refl wr).alloc _) h1 (.inr (.inr (.inl rfl))) rfl (fun k hk => by simp only [List.mem_cons, List.not_mem_nil, or_false] at hk; rcases hk with rfl | rfl <;> assumption) (by omega) (by omega))
       have aQ : Hid (Dt.made T'.ts (3, 0) [b, n] = Dt.conj (fs.take (t + 1 + 1))) := zh (by
        rw [Dt.zJe, bj.out, bJ, ztk (by have := b9.out; omega)])
       clear ae aq ad bI bo bJ aY h1 hn hb aZ bj
       go_wp2_with fail
       (with_reducible refine HC.out.mono ?_)
       rintro r w3 ⟨n3, vp3, rs3, T3, rfl, ab, cd, aC⟩
       have cf := zh ((aH.out.trans ab).mono (d' := 0) (e' := t + 1) (by omega) (by omega))
       have cg : Hid (T3.ts.getD n3 [] = Dt.conj (fs.take (t + 1 + 1))) := zh (by rw [aC, aQ.out])
       clear ab aC HC
       go_wp2_with fail
       go_roundw
       case rel => exact ⟨t + 1, n3, vp3, rs3, T3, by go_num, by omega, rfl, cf, cd, cg⟩
       case measure => simp [intOf]; omega
      ·obtain rfl : t = nr := by omega
       have hE := aW.out wr vp' rs' T' b aH.out hb (by rw [bj.out, bG.out])
       have k0 := hE.1
       have HC := zh hE.2
       clear hE
       go_wp2_with fail
       (with_reducible refine HC.out.mono ?_)
       rintro r w3 ⟨n, vp3, rs3, T3, rfl, ab, hn, aC⟩
       go_wp2_with fail
       go_ret
       exact ⟨n, vp3, rs3, T3, rfl, ab, hn, aC⟩
theorem zsi {s : Sy.Lts} {p q j : Nat} (hj : j < (Sy.steps s p).length) (hb : ∀ i, i < j -> Dt.tells s ((Sy.steps s p).getD i (0, 0)) q (Rd.rank s p q) = false) (ht : Dt.tells s ((Sy.steps s p).getD j (0, 0)) q (Rd.rank s p q) = true) :
  Dt.telling s p q = some ((Sy.steps s p).getD j (0, 0)) := by
 unfold Dt.telling
 rw [List.find?_eq_some_iff_getElem]
 have e : (Sy.steps s p).getD j (0, 0) = (Sy.steps s p)[j] := by simp [List.getD, hj]
 refine ⟨ht, j, hj, e.symm, fun i hi => ?_⟩
 have h1 := hb i hi
 have e2 : (Sy.steps s p).getD i (0, 0) = (Sy.steps s p)[i]'(by omega) := by simp [List.getD, show i < (Sy.steps s p).length by omega]
 rw [e2] at h1
 simp [h1]
theorem zpo {s : Sy.Lts} {p q : Nat} (hb : ∀ i, i < (Sy.steps s p).length -> Dt.tells s ((Sy.steps s p).getD i (0, 0)) q (Rd.rank s p q) = false) : Dt.telling s p q = none := by
 unfold Dt.telling
 rw [List.find?_eq_none]
 intro x hx
 obtain ⟨i, hi, rfl⟩ := List.getElem_of_mem hx
 have h1 := hb i hi
 rw [show (Sy.steps s p).getD i (0, 0) = (Sy.steps s p)[i] by simp [List.getD, hi]] at h1
 simp [h1]
def zBr (w0 : World) (tb B : Nat) (rv : Value) (ma mk : Nat) (s : Sy.Lts) (d : Nat) (w : World) (vp : Value) (rs : List DRow) (T : Dt.Tl) (f : List Dt.Nd) (v : Value) (wr : World) : Prop :=
 ∃ (n e : Nat) (vp' : Value) (rs' : List DRow) (T' : Dt.Tl), v = .int .i64 (n : Nat) /\ e <= 10003 /\ zD9 w0 tb B rv ma mk s d e w vp rs T wr vp' rs' T' /\ n < T'.ps.length /\ T'.ts.getD n [] = f
def zBz (w0 : World) (tb B : Nat) (rv : Value) (ma mk : Nat) (s : Sy.Lts) (p q : Nat) (w : World) (vp : Value) (rs : List DRow) (T : Dt.Tl) (v : Value) (wr : World) : Prop :=
 (Dt.telling s p q = none /\ v = .int .i64 (-1) /\ Up w wr) \/ zBr w0 tb B rv ma mk s (Dt.fuel s p q) w vp rs T (Dt.F s p q) v wr
theorem zyi {w0 w wr w4 : World} {tb B ma mk e n p q : Nat} {rv vp vp' : Value} {rs rs' : List DRow} {s : Sy.Lts} {T T' : Dt.Tl} (h0 : Tel w0 tb B rv ma mk s w vp rs T) (h : zD9 w0 tb B rv ma mk s (Dt.fuel s p q) e w vp rs T wr vp' rs' T') (he : e <= 10003)
  (hn : n < T'.ps.length) (hf : T'.ts.getD n [] = Dt.F s p q) (hp : p < s.n.toNat) (hq : q < s.n.toNat) (aa : (p, q) ∉ T.kn.map Prod.fst)
  (hm : w4.ownsMap (H := Unit) prog 201 (plainElem prog 3) mk (T'.kn.length + 1) ((Dt.mp (Dt.zGi pkD T'.kn)).put (pkD p q) (.lit (.int .i64 (n : Nat))))) (hg : wr.grownBy w4 (some mk)) :
  zdt w0 tb B rv ma mk s (Dt.fuel s p q + 1) 0 w vp rs T (Dt.F s p q) (.returned (.int .i64 (n : Nat))) w4 := by
 obtain ⟨k1, k2⟩ := h.tel.tl.known hm hg
 obtain ⟨o1, o2⟩ := Dt.Tl.know h.tel.ok h.go he hp hq hn hf aa
 have ht : Turned (zdn tb ma mk vp) w w4 := h.turn.trans k2 (fun i hi hk => by
  rcases h.zKi hk with h1 | h1
  ·exact h1
  ·omega)
 exact ⟨n, vp', rs', _, rfl, ⟨⟨k1, o1, h0.turned ht, h.tel.lo⟩, o2, ht, h.blk, h.foot⟩, hn, hf⟩
theorem zEp.knows {w : World} {tb ma mk p q : Nat} {gv rv vp : Value} {rs : List DRow} {s : Sy.Lts} {T : Dt.Tl} (h : zEp w tb gv rv vp ma mk rs T) (hT : T.Ok s) (hn : s.n.toNat <= 1000) (hp : p < s.n.toNat) (hq : q < s.n.toNat) :
  ((p, q) ∈ T.kn.map Prod.fst -> ∃ m : Nat, m < T.ps.length /\ T.ts.getD m [] = Dt.F s p q /\ (Instr.lookup 121 (.map (some mk)) (.agg #[.int .i64 (p : Nat), .int .i64 (q : Nat)]) true).run prog w = .ok (.tuple #[.int .i64 (m : Nat), .bool true]) w) /\
  ((p, q) ∉ T.kn.map Prod.fst -> ∃ c : Int, (Instr.lookup 121 (.map (some mk)) (.agg #[.int .i64 (p : Nat), .int .i64 (q : Nat)]) true).run prog w = .ok (.tuple #[.int .i64 c, .bool false]) w) := by
 obtain ⟨v, ps, aa, hv⟩ := h.kns.look_ok zto underlying121 (Tryz.zHf w) (plainElem_int underlying3 (by decide)) (ze7 (a := p) (b := q) (by omega) (by omega))
 obtain ⟨c, rfl, hc, ae⟩ := plainElem_int_inv underlying3 hv
 have ab := congrArg Prod.fst hc
 obtain ⟨k1, k2⟩ := Dt.zK9 zzw (kn := T.kn) (fun e he => by have := hT.kn e he; omega) hT.keys (p := p) (q := q) (by omega) (by omega)
 rw [k1] at aa
 constructor
 ·intro ad
  obtain ⟨⟨pq, m⟩, hm, e⟩ := List.mem_map.1 ad
  simp only at e
  subst e
  have hz := k2 m (.lit (.int .i64 0)) hm
  have hk := hT.kn _ hm
  refine ⟨m, hk.2.2.1, hk.2.2.2, ?_⟩
  rw [hz] at ab
  simp only [DataW.lit.injEq, Lit.int.injEq, true_and] at ab
  rw [decide_eq_true ad] at aa
  rw [ab]; exact aa
 ·intro ac
  exact ⟨c, by rw [decide_eq_false ac] at aa; exact aa⟩
theorem zza {w0 : World} {tb B ma mk : Nat} {rv : Value} {s : Sy.Lts} (hL : zIy w0 B rv s) : ∀ (f p q : Nat), Dt.fuel s p q < f -> p < s.n.toNat -> q < s.n.toNat -> 0 <= Rd.rank s p q -> zKl w0 tb B rv ma mk s p q := by
 intro f
 induction f with
 | zero => intro p q h; omega
 | succ f ih =>
 intro p q a0 hp hq h0r w vp rs T h hr
 have ag : w.heap[tb]? = some (.cells #[.pointer (some ⟨B, 0, none⟩), rv, vp, .map (some ma), .map (some mk)] 124 (0, 0)) := h.tl.box
 have t0 : w.cell? ⟨tb, 0, none⟩ = some (.pointer (some ⟨B, 0, none⟩)) := by simp [World.cell?, ag]
 have t1 : w.cell? ⟨tb, 1, none⟩ = some rv := by simp [World.cell?, ag]
 have t4 : w.cell? ⟨tb, 4, none⟩ = some (.map (some mk)) := by simp [World.cell?, ag]
 have aj := hL.n
 have ad := h.tl.knows h.ok (by omega) hp hq
 have HL := zh hL
 have HH := zh h
 have av := zh hr
 have HP := zh hp
 have HQ := zh hq
 have H0R := zh h0r
 have a1 := zh a0
 have IH := zh ih
 clear ag hL h hr hp hq h0r a0 ih
 by_cases hin : (p, q) ∈ T.kn.map Prod.fst
 ·obtain ⟨m, a2, a3, aN⟩ := ad.1 hin
  have HM := zh (And.intro a2 a3)
  clear ad hin a2 a3
  go_enter func78, ntmps78
  go_wp2_with fail
  go_ret
  exact ⟨m, vp, rs, T, rfl, (HH.out.same (Up.refl _)).mono (Nat.zero_le _) (Nat.le_refl _), HM.out.1, HM.out.2⟩
 ·obtain ⟨c, aN⟩ := ad.2 hin
  have a4 := zh hin
  obtain ⟨k, hk⟩ := nm ((Sy.steps s p).length)
  have HK := zh hk
  have bv := zbt HL.out.right p
  rw [<- hk] at bv
  have bw : Hid (∀ W, Up w W -> Calls prog 128 #[.pointer (some ⟨B, 0, none⟩), .int .i64 (p : Nat)] W (zAx W (Sy.steps s p))) := zh (fun W hW => zp7 (HL.out.g.up (HH.out.up.trans hW)) HL.out.right HP.out)
  clear ad hin hk
  go_enter func78, ntmps78
  go_upto_block 0 with (go_at_call 128; refine (bw.out _ (Up.refl _)).mono ?_; rintro r y1 ⟨v1, rfl, a5, ao, cap, g, off, rfl, ha, hx⟩; (have a6 := HK.out); (rw [<- a6] at ha ⊢); clear a6; (have HA := zh ha); (have HX := zh hx); (have a7 := zh a5); clear ha hx a5)
  have aI := a7.out
  go_cut [9] (zBz w0 tb B rv ma mk s p q w vp rs T)
  case first =>
   have d1 := aI.cell t1
   have d0 := aI.cell t0
   have bx : zda y1 rv s := HL.out.r.up (HH.out.up.trans aI)
   obtain ⟨rao, rcap, rg, roff, aO, a8, a9⟩ := bx
   obtain rfl := a8 (by have := HP.out; omega)
   obtain ⟨rh, rro, rrc, c1, aw⟩ := a9 p HP.out
   have c2 := aw q HQ.out
   rw [aO] at d1
   obtain ⟨N, hN⟩ := nm (s.n.toNat)
   obtain ⟨rk, aP⟩ := nm (Rd.rank s p q)
   rw [<- hN] at d1 c1
   rw [<- aP] at c2
   have bS : p < N := by rw [hN]; exact HP.out
   have bT : q < N := by rw [hN]; exact HQ.out
   have bU : N <= 300 := by omega
   have bV := zh aO
   have ba := zh aP
   have HN := zh hN
   clear aO aP hN aw a9 a8
   go_wp2_with fail
   go_loopw [32, 9] (fun i v wr => ∃ j : Nat, i = .int .i64 j /\ j <= k /\ v = .int .i64 (-1) /\ Up y1 wr /\ Hid (∀ i, i < j -> Dt.tells s ((Sy.steps s p).getD i (0, 0)) q (Rd.rank s p q) = false)) (fun i _ _ => k - (intOf i).toNat)
   case atStart => exact ⟨0, rfl, Nat.zero_le _, rfl, Up.refl _, zh (fun i hi => by omega)⟩
   case round =>
    obtain ⟨j, rfl, hj, rfl, hu, HJ⟩ := hrel
    by_cases hlt : j < k
    ·obtain rfl := HA.out (by omega)
     have aJ : j < (Sy.steps s p).length := by rw [<- HK.out]; exact hlt
     have ax := HX.out j aJ
     obtain ⟨x, hx⟩ := nm ((Sy.steps s p).getD j (0, 0))
     have aK : x ∈ Sy.steps s p := by rw [hx]; simp only [List.getD, List.getElem?_eq_getElem aJ, Option.getD_some]; exact List.getElem_mem aJ
     rw [<- hx] at ax
     obtain ⟨x1, x2⟩ := x
     have ay := zcz HL.out.right p _ aK
     simp only at ax ay
     obtain ⟨tn, rfl⟩ : ∃ tn : Nat, x2 = (tn : Int) := ⟨x2.toNat, by omega⟩
     have bz := zh ay
     clear ay
     have e0 := hu.cell ax.1
     have e1 := hu.cell ax.2
     have ak : Up wr (wr.alloc (.cells #[.int .i64 x1, .int .i64 (tn : Int)] 169)) := (Up.refl wr).alloc _
     have aA := heap_alloc_new wr (.cells #[.int .i64 x1, .int .i64 (tn : Int)] 169)
     go_upto_region 8 with fail
     obtain ⟨X, hX⟩ := nm (wr.alloc (.cells #[.int .i64 x1, .int .i64 (tn : Int)] 169))
     rw [<- hX] at ak aA ⊢
     obtain ⟨f0, f1⟩ := zam aA
     have f2 := ak.cell (hu.cell d1)
     have f3 := ak.cell (hu.cell c1)
     have f4 := ak.cell (hu.cell c2)
     have aq : Up w X := aI.trans (hu.trans ak)
     have bb : Hid (∀ W, Up X W -> Calls prog 129 #[.pointer (some ⟨tb, 0, none⟩), .agg #[.int .i64 x1, .int .i64 (tn : Int)], .int .i64 (q : Nat), .int .i64 rk] W fun r w' => r = .returned (.bool (Dt.tells s (x1, (tn : Int)) q rk)) /\ Up W w') :=
      zh (fun W hW => ztt (hW.cell (aq.cell t0)) (hW.cell (aq.cell t1)) (HL.out.g.up (HH.out.up.trans (aq.trans hW))) (HL.out.r.up (HH.out.up.trans (aq.trans hW))) HL.out.right aK HQ.out)
     have bW := zh aK
     have aQ := zh hx
     have bA := zh aq
     have bX := zh aA
     have bB := zh (hu.trans ak)
     have hB : wr.heap.size < X.heap.size := za0 aA
     clear e0 e1 ax aK hx ak aA hX aq aJ
     refine za9 13 [(0, true), (1, true), (2, true), (3, true), (4, true), (5, true), (6, true), (7, true), (8, true), (9, true), (10, true), (11, true), (12, true)] (fun w' => w' = X.drew) (by kernel_rfl) (by kernel_rfl) (fun _ _ _ _ _ h => h) rfl ?_
     iterate 13
      refine WO.still rfl rfl (fun KK hK => ?_)
      apply Exists.intro
      refine ⟨?_, hK _ ?_⟩
      ·rintro w' rfl
       go_simp
       first | done | rfl | exact ⟨rfl, rfl⟩
      clear hK KK
     refine WO.last rfl rfl (fun KK hK => ?_)
     go_simp
     refine (bb.out _ ((Up.refl X).drew)).mono ?_
     rintro r w5 ⟨rfl, bc⟩
     refine hK _ _ ?_
     clear hK KK
     obtain ⟨tv, aR⟩ := nm (Dt.tells s (x1, (tn : Int)) q rk)
     rw [<- aR]
     have bd := zh aR
     have ah : Up X w5 := ((Up.refl X).drew).trans bc
     have g0 := ah.cell f0
     have g1 := ah.cell f1
     have be := zh ah
     clear aR bc ah f0 f1 f2 f3 f4 bb
     cases tv
     ·have bC : Hid (∀ i, i < j + 1 -> Dt.tells s ((Sy.steps s p).getD i (0, 0)) q (Rd.rank s p q) = false) := zh (fun i hi => by
       rcases Nat.lt_succ_iff_lt_or_eq.1 hi with h1 | rfl
       ·exact HJ.out i h1
       ·rw [<- aQ.out, <- ba.out]; exact bd.out.symm)
      clear g0 g1
      go_wp2_with fail
      go_roundw
      case rel => exact ⟨j + 1, by go_num, by omega, rfl, bB.out.trans be.out, bC⟩
      case measure => simp [intOf]; omega
     ·have bf : j < (Sy.steps s p).length := by rw [<- HK.out]; exact hlt
      have ae : Dt.telling s p q = some (x1, (tn : Int)) := by
       rw [aQ.out]
       exact zsi bf HJ.out (by rw [<- aQ.out, <- ba.out]; exact bd.out.symm)
      obtain ⟨bD, aS⟩ := Dt.zDb ae
      simp only [Int.toNat_natCast] at aS
      have aB : Dt.fuel s p q = 2 * (Rd.rank s p q).toNat := by simp [Dt.fuel, ae]
      have ay := bz.out
      have aT : tn < s.n.toNat := by omega
      have al : Up w w5 := bA.out.trans be.out
      have au := Dt.zIx HL.out.right HP.out HQ.out H0R.out ae
      simp only [Int.toNat_natCast] at au
      have aC := zh (zAf (f := Dt.fuel s p q) HL.out (HH.out.upto al) av.out (l := x1) (tn := tn) (q := q) (by omega) aT HQ.out (fun z hz => by
       have h1 := aS z hz
       have h2 : Dt.fuel s tn z <= 2 * (Rd.rank s tn z).toNat + 1 := by unfold Dt.fuel; split <;> omega
       have h3 := a1.out
       have h4 : Dt.fuel s tn z < Dt.fuel s p q := by omega
       exact ⟨IH.out tn z (by omega) aT (Dt.zEc HL.out.right hz) h1.1, h4⟩))
      rw [<- au] at aC
      have bh : (Dt.zD3 s q x1).length <= 10000 := by rw [zeh, List.length_map]; exact ze1 HL.out.right q x1
      have bE := zh bh
      have aU := zh al
      clear bf ae bD aS aB ay aT al au bh d0 d1 c1 c2
      go_wp2_with (go_at_call 130; refine aC.out.mono ?_; rintro r w6 ⟨n, vp2, rs2, T2, rfl, aD, bi, aL⟩; (have bF := zh aD); (have bG := zh aL); (have bH := zh bi); clear aD aL bi)
      go_meet
      exact .inr ⟨n, _, vp2, rs2, T2, rfl, by have := bE.out; omega, ((HH.out.same aU.out).trans bF.out).mono (by omega) (Nat.le_of_eq (Nat.zero_add _)), bH.out, bG.out⟩
    ·obtain rfl : j = k := by omega
     have bI := zh (zpo (q := q) (fun i hi => HJ.out i (by rw [HK.out]; exact hi)))
     clear d0 d1 c1 c2
     go_wp2_with fail
     go_meet
     exact .inl ⟨bI.out, rfl, a7.out.trans hu⟩
  case rest =>
   rcases hcut with ⟨af, rfl, aV⟩ | ⟨nQ, eQ, vpQ, rsQ, TQ, rfl, bY, bj, bo, bp⟩
   ·have ai := Dt.zDw HL.out.right HP.out HQ.out H0R.out af
    have bJ : Dt.fuel s p q = 2 * (Rd.rank s p q).toNat + 1 := by simp [Dt.fuel, af]
    have aL : Dt.fuel s q p = 2 * (Rd.rank s p q).toNat := by simp [Dt.fuel, ai, Rd.zCu s q p]
    have au := Dt.zIw HL.out.right HP.out HQ.out H0R.out af
    have h0r2 : 0 <= Rd.rank s q p := by rw [Rd.zCu]; exact H0R.out
    have bK := zh (IH.out q p (by have := a1.out; omega) HQ.out HP.out h0r2 wc vp rs T (HH.out.upto aV) av.out)
    have bL := zh au
    have bM : Hid (Dt.fuel s q p + 1 <= Dt.fuel s p q) := zh (by omega)
    have bN := zh aV
    clear ai bJ aL au h0r2 aV af aN
    go_wp2_with (go_at_call 78; refine bK.out.mono ?_; rintro r w5 ⟨n5, vp5, rs5, T5, rfl, aE, bq, br⟩; (have aM := zh aE); (have bO := zh bq); (have bP := zh br); clear aE bq br)
    have aW := (av.out.go aM.out.go).small aM.out.tel.ok aj (by omega)
    have h1 := zh0 (W := w5) (l := [n5]) (by simp)
    refine (zl8 (l := [n5]) (op := 2) (lb := 0) aM.out.tel HL.out.tab ((Up.refl w5).alloc _) h1 (.inr (.inl rfl)) rfl (fun k hk => by rw [List.mem_singleton] at hk; rw [hk]; exact bO.out) (by omega) (by omega)).mono ?_
    rintro r WQ ⟨nQ, vpQ, rsQ, TQ, rfl, aF, bt, bu⟩
    have aG : Hid (zD9 w0 tb B rv ma mk s (Dt.fuel s p q) 1 w vp rs T WQ vpQ rsQ TQ) := zh (((HH.out.same bN.out).trans (aM.out.trans aF)).mono (by have := bM.out; omega) (by omega))
    have aH := zh bt
    have aX : Hid (TQ.ts.getD nQ [] = Dt.F s p q) := zh (by rw [bu, Dt.zH7, bP.out, bL.out])
    clear aW h1 aF bt bu
    have aa := aG.out
    have t4' : WQ.cell? ⟨tb, 4, none⟩ = some (.map (some mk)) := by simp [World.cell?, aa.tel.tl.box]
    have am := aa.tel.tl.kns
    have an := ze7 (a := p) (b := q) (by have := HP.out; omega) (by have := HQ.out; omega)
    have bQ : TQ.kn.length <= 90000 := by
     have h1 := aa.tel.ok.many
     have h2 := Nat.mul_le_mul aj aj
     omega
    have bR : (nQ : Int) <= 100000000000 := by
     have h1 := (av.out.go aa.go).small aa.tel.ok aj (by omega)
     have h2 := aH.out
     omega
    clear aa
    go_wp2_with (at_mapUpdate; refine wpList_mapUpdate_own _ rfl _ _ _ 121 rfl 201 3 zto underlying121 _ mk TQ.kn.length _ rfl am (by unfold maxLen; omega) _ _ _ rfl rfl an _ [] (plainElem_int underlying3 (WalkArith.wf_i64 (by omega))) ?_; intro w7 ac ab; (have aY := zh ac); (have aZ := zh ab); clear ac ab)
    go_ret
    exact zyi HH.out aG.out (by omega) aH.out aX.out HP.out HQ.out a4.out aY.out aZ.out
   ·have aG := zh bj
    have aH := zh bo
    have aX := zh bp
    have q1 : decide ((nQ : Int) < 0) = false := by simp
    clear bj bo bp aN
    have aa := aG.out
    have t4' : wc.cell? ⟨tb, 4, none⟩ = some (.map (some mk)) := by simp [World.cell?, aa.tel.tl.box]
    have am := aa.tel.tl.kns
    have an := ze7 (a := p) (b := q) (by have := HP.out; omega) (by have := HQ.out; omega)
    have bQ : TQ.kn.length <= 90000 := by
     have h1 := aa.tel.ok.many
     have h2 := Nat.mul_le_mul aj aj
     omega
    have bR : (nQ : Int) <= 100000000000 := by
     have h1 := (av.out.go aa.go).small aa.tel.ok aj (by omega)
     have h2 := aH.out
     omega
    clear aa
    go_wp2_with (at_mapUpdate; refine wpList_mapUpdate_own _ rfl _ _ _ 121 rfl 201 3 zto underlying121 _ mk TQ.kn.length _ rfl am (by unfold maxLen; omega) _ _ _ rfl rfl an _ [] (plainElem_int underlying3 (WalkArith.wf_i64 (by omega))) ?_; intro w7 ac ab; (have aY := zh ac); (have aZ := zh ab); clear ac ab)
    go_ret
    exact zyi HH.out aG.out (by omega) aH.out aX.out HP.out HQ.out a4.out aY.out aZ.out
def zeb (w0 : World) (s : Sy.Lts) (p q : Nat) (xn xm : Value) (r : Ending) (w' : World) : Prop :=
 Up w0 w' /\ ((Rd.rank s p q < 0 /\ ∃ pb, r = .returned (.tuple #[.slice none 0 0, zac pb]) /\ w0.heap.size <= pb /\ zas w' pb zae xn) \/
  (0 <= Rd.rank s p q /\ 5000 < (Dt.F s p q).length /\ ∃ pb, r = .returned (.tuple #[.slice none 0 0, zac pb]) /\ w0.heap.size <= pb /\ zas w' pb zae xm) \/
  (0 <= Rd.rank s p q /\ (Dt.F s p q).length <= 5000 /\ ∃ ao cap, r = .returned (.tuple #[.slice ao (Dt.F s p q).length cap, .nilIface]) /\ w'.ownsRow w0.heap.size 81 2 (.slice ao (Dt.F s p q).length cap) (Dt.F s p q).length (za7 (Dt.F s p q))))
theorem zpg {w0 w : World} {tb B ma mk p q : Nat} {rv : Value} {s : Sy.Lts} {nt mt : TypeId} {nv mv : Value} (hL : zIy w0 B rv s) (h : Tel w0 tb B rv ma mk s w (.slice none 0 0) [] ⟨[], [], []⟩) (hr : Root s 0 ⟨[], [], []⟩) (hp : p < s.n.toNat) (hq : q < s.n.toNat)
  (hN : w0.cell? ⟨0, 0, none⟩ = some (.iface nt nv)) (hM : w0.cell? ⟨3, 0, none⟩ = some (.iface mt mv)) :
  Calls prog 19 #[.pointer (some ⟨tb, 0, none⟩), .int .i64 (p : Nat), .int .i64 (q : Nat)] w (zeb w0 s p q (.iface nt nv) (.iface mt mv)) := by
 have au := hL.n
 have t1 : w.cell? ⟨tb, 1, none⟩ = some rv := by simp [World.cell?, h.tl.box]
 have HS := zh (zvp t1 (hL.r.up h.up) hp hq (by omega))
 have g1 := h.up.cell hN
 obtain ⟨rk, ah⟩ := nm (Rd.rank s p q)
 rw [<- ah] at HS
 have aD := zh ah
 have HH := zh h
 by_cases h0 : rk < 0
 ·have q1 : decide (rk < 0) = true := by simpa using h0
  rw [q1] at HS
  have H0 : Hid (Rd.rank s p q < 0) := zh (by rw [<- ah]; exact h0)
  clear hL h hr hp hq hN hM t1 ah h0 q1
  go_enter func19, ntmps19
  go_wp2_with (first
   | (go_at_call 77; refine HS.out.mono ?_; rintro r w1 ⟨rfl, rfl⟩)
   | (go_at_call 75; refine (zci zae _ _ _).mono ?_; rintro e w3 ⟨rfl, af⟩; (have aj := zh (zed af)); (have ai := zh (show Up w w3 by rw [af]; exact (Up.refl w).alloc _)); clear af))
  go_ret2
  exact ⟨HH.out.up.trans ai.out, .inl ⟨H0.out, _, rfl, HH.out.up.size, aj.out⟩⟩
 ·have q1 : decide (rk < 0) = false := by simpa using h0
  rw [q1] at HS
  have h0r : 0 <= Rd.rank s p q := by rw [<- ah]; omega
  have H0 := zh h0r
  have ak := zh (zza (tb := tb) (ma := ma) (mk := mk) hL _ p q (Nat.lt_succ_self _) hp hq h0r w _ _ _ h hr)
  have aE := zh hL
  have av := zh hr
  have aF := zh hN
  have aw := zh hM
  have aA := zh (Dt.zHe hL.right p q hp hq h0r)
  obtain ⟨F, hF⟩ := nm (Dt.F s p q)
  unfold zeb
  rw [<- hF] at ak aA ⊢
  have ax : Dt.size F = min F.length 5001 := rfl
  obtain ⟨sz, ad⟩ := nm (Dt.size F)
  clear hL h hr hp hq hN hM t1 ah h0 q1 h0r g1 hF
  by_cases hlong : 5000 < F.length
  ·have q2 : decide ((5000 : Int) < (sz : Int)) = true := by simp; omega
   have ab := zh hlong
   have ag := zh ad
   clear hlong ax ad
   go_enter func19, ntmps19
   go_wp2_with (first
    | (go_at_call 77; refine HS.out.mono ?_; rintro r w1 ⟨rfl, rfl⟩)
    | (go_at_call 78; refine ak.out.mono ?_; rintro r w2 ⟨n, vp2, rs2, T2, rfl, aa, hn, hf⟩; (obtain ⟨g, cap, lv, rfl, c0, c1, c2, al, c3, -⟩ := aa.tel.tl.part hn); (rw [hf, <- ag.out] at c3); (have t2 : w2.cell? ⟨tb, 2, none⟩ = some (.slice (some ⟨g, 0, none⟩) rs2.length cap) := by simp [World.cell?, aa.tel.tl.box]); (have aB : n < rs2.length := by rw [aa.tel.tl.len]; exact hn); (have am := (av.out.go aa.go).small aa.tel.ok au (by omega)); (have an : rs2.length <= 1000000000 := by rw [aa.tel.tl.len]; exact am); (have gm := aa.tel.up.cell aw.out); (have ae := zh aa); (have HF := zh hf); (have HN := zh hn); clear aa hf hn al c0 c1 c2)
    | (go_at_call 75; refine (zci zae _ _ _).mono ?_; rintro e w3 ⟨rfl, af⟩; (have aj := zh (zed af)); (have ai := zh (show Up w2 w3 by rw [af]; exact (Up.refl w2).alloc _)); clear af))
   go_ret2
   exact ⟨ae.out.tel.up.trans ai.out, .inr (.inl ⟨H0.out, ab.out, _, rfl, ae.out.tel.up.size, aj.out⟩)⟩
  ·have q2 : decide ((5000 : Int) < (sz : Int)) = false := by simp; omega
   have ab : Hid (F.length <= 5000) := zh (by omega)
   have ag := zh ad
   clear hlong ax ad
   go_enter func19, ntmps19
   go_wp2_with (first
    | (go_at_call 77; refine HS.out.mono ?_; rintro r w1 ⟨rfl, rfl⟩)
    | (go_at_call 78; refine ak.out.mono ?_; rintro r w2 ⟨n, vp2, rs2, T2, rfl, aa, hn, hf⟩; (obtain ⟨g, cap, lv, rfl, c0, c1, c2, al, c3, -⟩ := aa.tel.tl.part hn); (rw [hf, <- ag.out] at c3); (have t2 : w2.cell? ⟨tb, 2, none⟩ = some (.slice (some ⟨g, 0, none⟩) rs2.length cap) := by simp [World.cell?, aa.tel.tl.box]); (have aB : n < rs2.length := by rw [aa.tel.tl.len]; exact hn); (have am := (av.out.go aa.go).small aa.tel.ok au (by omega)); (have an : rs2.length <= 1000000000 := by rw [aa.tel.tl.len]; exact am); (have gm := aa.tel.up.cell aw.out); (have ae := zh aa); (have HF := zh hf); (have HN := zh hn); clear aa hf hn al c0 c1 c2)
    | fail)
   have aq := zuo (base := w2.heap.size) ae.out.tel.ok.tab (by omega) (fun b hb => ae.out.tel.tl.lt hb) n w2 (.slice none 0 0) [] HN.out ae.out.tel.tl (World.ownsRow_nil _ _ _ _) (Nat.le_refl _) (by rw [HF.out]; have := ab.out; simp; omega)
   rw [HF.out, List.nil_append] at aq
   refine aq.mono ?_
   rintro r w3 ⟨v3, rfl, ac, ay, -⟩
   obtain ⟨ao, c3', rfl⟩ := za1 ac
   have aC := zh ac
   have ai : Hid (Up w2 w3) := zh (ay.toBelow (fun k hk => by simp [Value.ownBlock] at hk))
   clear ac ay aq
   go_wp2_with fail
   go_ret2
   exact ⟨ae.out.tel.up.trans ai.out, .inr (.inr ⟨H0.out, ab.out, ao, c3', rfl, za8 aC.out ae.out.tel.up.size⟩)⟩
end Go.Proofs.YtoaoajfjcfcmhaaGreatDoor
