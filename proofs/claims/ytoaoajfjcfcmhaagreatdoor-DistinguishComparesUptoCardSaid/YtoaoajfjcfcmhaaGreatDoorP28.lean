/- The document's Ranks; what an error is told to be: a system too great for pairs. Walks: the document's Guard and Classes. Walks of the document's chapter 16: SameForm, stands, meets, telling. The document's desk in memory: its box, the rows of its answers; an answer put. -/
import Derived.Test.YtoaoajfjcfcmhaaGreatDoorP15
import Derived.Test.YtoaoajfjcfcmhaaGreatDoorP27
import Derived.Test.YtoaoajfjcfcmhaaGreatDoorP03
import Derived.Test.YtoaoajfjcfcmhaaGreatDoorP14
import Derived.Test.YtoaoajfjcfcmhaaGreatDoorP01
set_option linter.unusedVariables false
set_option linter.unusedSimpArgs false
set_option maxHeartbeats 16000000
set_option maxRecDepth 100000
open Go.Proofs.Tryz
namespace Go.Proofs.YtoaoajfjcfcmhaaGreatDoor
open Go.RowKit Go.Sort Go.Maps
def zgj (s : Sy.Lts) (w : World) (r : Ending) (w' : World) : Prop :=
 ∃ ao cap vs, r = .returned (.slice ao s.n.toNat cap) /\ w'.ownsRow w.heap.size 27 1 (.slice ao s.n.toNat cap) s.n.toNat vs /\ zdu w.heap.size w' vs (ranks s) /\ Up w w'
theorem zml (s : Sy.Lts) (se : Value) (w : World) (hr : Sy.right s = true) (au : s.n <= 300) (hs : Ls3 w se s.es) (ay : zfg se) :
  Calls prog 110 #[zCb s se] w (zgj s w) := by
 obtain ⟨ao, cap, rfl⟩ := zaf hs
 have hR := (Sy.zCj s).1 hr
 obtain ⟨n, hn⟩ : ∃ n : Nat, s.n = (n : Nat) := ⟨s.n.toNat, by have := hR.n0; omega⟩
 have ak := heap_alloc_new w (.cells #[.int .i64 s.n, .int .i64 s.m, .int .i64 s.start, .slice ao s.es.length cap] 24)
 have hA : ∀ W, Up w W -> Calls prog 72 #[zCb s (.slice ao s.es.length cap)] W fun r w' => ∃ v, r = .returned v /\ Hid (zfh w' v (Rd.rounds s)) /\ Up W w' := fun W hu => by
  refine (zf7 hR (hs.up hu) ay).mono ?_
  rintro r w' ⟨ao2, cap2, vs, rfl, ag, ho, al⟩
  exact ⟨_, rfl, zh (zb4.at ho al (Rd.zD4 s) (by omega)), ag⟩
 have aF : Hid (∀ W v (p q : Nat), p < s.n.toNat -> q < s.n.toNat -> zfh W v (Rd.rounds s) -> Calls prog 143 #[v, .int .i64 (p : Nat), .int .i64 (q : Nat)] W fun r w' => r = .returned (.int .i64 (Rd.rank s p q)) /\ Up W w') :=
  zh (fun W v p q hp hq hv => zon hv (zd2 hR) (fun c hc => by have := zjc hc; have := hR.n1; omega))
 have aO : n <= 300 := by omega
 have am : Hid (s.n.toNat = n) := zh (by rw [hn]; rfl)
 obtain ⟨i0, hi, aG, aH, aI⟩ := info_parts Tryz.zD6
 obtain ⟨j0, hj, gz0, gz1, gz2⟩ := info_parts Tryz.zCp
 obtain ⟨L, hL⟩ := nm (s.es.length)
 unfold zCb at hA ⊢
 rw [<- hL] at hA ak ⊢
 rw [hn] at hA ak ⊢
 have HA := zh hA
 have aA := zh ak
 have aB : Hid (Up w (w.alloc (.cells #[.int .i64 (n : Int), .int .i64 s.m, .int .i64 s.start, .slice ao L cap] 24))) := zh ((Up.refl w).alloc _)
 clear hr au hn hs hA hR hL ay ak
 go_enter func110, ntmps110
 go_upto_region 2 with (go_at_call 72; refine (HA.out _ aB.out).mono ?_; rintro r w1 ⟨v, rfl, HV, ag⟩; (have aC := zh (aB.out.trans ag)); (obtain ⟨⟨cB, -, -, -⟩, -⟩ := za6 ((ag.block _ (za0 aA.out)).trans aA.out)); clear ag)
 obtain ⟨K0, av, cv, hv⟩ : ∃ K av cv, v = .slice av K cv := by obtain ⟨g, c, h, -⟩ := HV.out; exact ⟨_, _, _, h⟩
 subst hv
 go_wp2_with (at_make; refine wpList_make_full _ rfl _ _ 36 rfl w1.heap.size 27 i0 (.slice none 0 0) 1 underlying36 hi aG aH _ _ _ _ n rfl rfl rfl rfl (by rw [aI]; omega) (by unfold maxLen; omega) (Nat.le_refl _) ?_; intro w2 ah ae)
 obtain ⟨ad, -, -, -⟩ := Row.of ah
 have e : (madeCells (Value.slice none 0 0).cells (n * 1)).toList = List.replicate n (Value.slice none 0 0) := by rw [Nat.mul_one]; exact toList_madeCells_one _ _
 rw [e, Nat.mul_one] at ad
 have ai : Up w1 w2 := (Up.refl w1).grown ae (fun k hk => by cases hk)
 obtain ⟨O, hO⟩ := nm (w1.heap.size)
 rw [<- hO] at ad
 have H0 : Hid (([] : List Value).length = 0 /\ zEa s n w1 w2 O 0 []) := zh ⟨rfl, ai, by simpa using ad, zdu.nil _ _⟩
 have aP := aC.out.size
 clear e ad ae ai ah
 go_wp2_with fail
 rw [<- hO]
 have aD := zh hO
 clear hO
 go_loopw [5] (fun i wo => ∃ (j : Nat) (vs : List Value), i = .int .i64 j /\ j <= n /\ Hid (vs.length = j /\ zEa s n w1 wo O j vs)) (fun i _ => n - (intOf i).toNat)
 case atStart => exact ⟨0, [], rfl, Nat.zero_le _, H0⟩
 case round =>
  obtain ⟨j, vs', rfl, aQ, ab⟩ := hrel
  rename World => wo
  have cBr := ab.out.2.up.cell cB
  by_cases hlt : j < n
  ·have aJ := ab.out.2.row.lt
   go_wp2_with fail
   go_loopw [6] (fun i wr => ∃ (q : Nat) (vp : Value), i = .int .i64 q /\ q <= n /\ Hid (zE7 s n w1 wo wr O j q vs' vp)) (fun i _ => n - (intOf i).toNat)
   case atStart => exact ⟨0, _, rfl, Nat.zero_le _, zh (ab.out.2.enter hlt)⟩
   case round =>
    obtain ⟨q, vp, rfl, aR, HQ⟩ := hrel
    have cBq := HQ.out.up.cell cB
    by_cases hlt2 : q < n
    ·obtain ⟨av2, cv2, aK⟩ := za1 HQ.out.own
     subst aK
     have an := HQ.out.cell ab.out.1
     have aS := HQ.out.row.free j
     have aL := HQ.out.turned.size
     have HC : Hid (∀ W, Up wr W -> Calls prog 143 #[.slice av K0 cv, .int .i64 (j : Nat), .int .i64 (q : Nat)] W fun r w' => r = .returned (.int .i64 (Rd.rank s j q)) /\ Up W w') :=
      zh (fun W hW => aF.out W _ j q (by rw [am.out]; exact hlt) (by rw [am.out]; exact hlt2) (HV.out.up (HQ.out.up.trans hW)))
     go_upto_region 9 with fail
     refine za9 13 [(0, true), (1, true), (2, true), (3, true), (4, true), (5, true), (6, true), (7, true), (8, true), (9, false), (10, false), (11, false), (12, true)] (fun x => x.cell? ⟨O, j, none⟩ = some (.slice av2 q cv2)) (by kernel_rfl) (by kernel_rfl) (fun _ _ _ _ _ h => h) an ?_
     iterate 9
      refine WO.still rfl rfl (fun K hK => ?_)
      apply Exists.intro
      refine ⟨?_, hK _ ?_⟩
      ·intro w' hS
       have s1 : w'.cell? ⟨O, j, none⟩ = some (.slice av2 q cv2) := hS
       go_simp
       first | done | rfl | exact ⟨rfl, rfl⟩
      clear hK K
     refine WO.act rfl rfl (fun K hK => ?_)
     go_simp
     go_at_call 143
     refine (HC.out _ (Up.refl _).drew).mono ?_
     rintro r w3 ⟨rfl, aj⟩
     have af : Up wr w3 := ((Up.refl wr).drew).trans aj
     clear aj
     refine hK _ _ (af.cell an) ?_
     clear hK K
     refine WO.act rfl rfl (fun K hK => ?_)
     go_simp
     refine hK _ _ ?_ ?_
     ·exact (af.alloc _).cell an
     clear hK K
     refine WO.act rfl rfl (fun K hK => ?_)
     refine wp_append_own (.tmp 29) (.tmp 34) 27 rfl wo.heap.size 3 j0 (.int .i64 0) 1 8 underlying27 hj gz0 gz1 gz2 rfl (by decide) (.slice av2 q cv2) q _ rfl (Up.owns (w := wr) (af.alloc _) HQ.out.own) _ 1 1 [.int .i64 (Rd.rank s j q)] rfl rfl (cell_one_new _ _ _) (fun u hu => by simp only [List.mem_singleton] at hu; subst hu; rfl) (by unfold maxLen; omega) (by omega) (by have := af.size; simp only [World.size_alloc]; omega) ?_
     intro v' w4 ac aa aw
     obtain ⟨a4, c4, aM⟩ := za1 ac
     subst aM
     have aq : (w3.alloc (.cells #[.int .i64 (Rd.rank s j q)] 3)).grownBy w4 (Value.slice av2 q cv2).ownBlock := ⟨aa.os, aa.tape, aa.output, aa.size, aa.block⟩
     have ax : (Value.slice av2 q cv2).ownBlock ≠ some O := fun e => by have := (HQ.out.own.lt O e).1; omega
     have aN := zaw aq ((af.alloc (.cells #[.int .i64 (Rd.rank s j q)] 3)).cell an) ax
     have aE : w4.heap[O]? = wr.heap[O]? := (aq.block O (Nat.lt_of_lt_of_le HQ.out.row.lt ((af.alloc _).size)) (fun e => ax e.symm)).trans ((af.alloc _).block O HQ.out.row.lt)
     have aT : w4.frozen? ⟨O, j, none⟩ = false := (HQ.out.row.keep aE).free j
     have HP := zh (HQ.out.push ab.out.1 (Nat.le_of_eq aD.out.symm) aJ af ac aq)
     refine hK _ _ aN ?_
     clear hK K ac aa aw aq ax aE
     refine WO.still rfl rfl (fun K hK => ?_)
     apply Exists.intro
     refine ⟨?_, hK _ ?_⟩
     ·intro w' hS
      go_simp
      first | done | rfl | exact ⟨rfl, rfl⟩
     clear hK K
     refine WO.last rfl rfl (fun K hK => ?_)
     go_simp
     refine hK _ _ ?_
     clear hK K
     go_wp2_with fail
     go_roundw
     case rel => exact ⟨q + 1, _, by go_num, by omega, HP⟩
     case measure => simp [intOf]; omega
    ·obtain rfl : q = n := by omega
     go_wp2_with fail
     go_roundw
     case rel => exact ⟨j + 1, vs' ++ [vp], by go_num, by omega, zh ⟨by rw [List.length_append, ab.out.1]; rfl, zE7.leave ab.out.2 HQ.out am.out⟩⟩
     case measure => simp [intOf]; omega
  ·obtain rfl : j = n := by omega
   go_wp2_with fail
   go_ret
   have al := ab.out.2.row
   rw [Nat.sub_self, List.replicate_zero, List.append_nil] at al
   have aU := aD.out
   unfold zgj ranks
   rw [am.out]
   refine ⟨_, _, vs', rfl, ?_, ?_, aC.out.trans ab.out.2.up⟩
   ·exact Row.zFc (by rw [Nat.mul_one]; exact al) (by omega) (Nat.le_refl _) (by unfold maxLen; omega) (by rw [ab.out.1, Nat.mul_one])
   ·exact ab.out.2.rows.base (show w.heap.size <= O + 1 by omega)
end Go.Proofs.YtoaoajfjcfcmhaaGreatDoor
namespace Go.Proofs.YtoaoajfjcfcmhaaGreatDoor
open Go.RowKit Go.Maps
section
variable {s : Sy.Lts} {se : Value} {w : World}
def Says (w : World) (f : FuncId) (args : Array Value) (v : Value) : Prop := ∀ W, Up w W -> Calls prog f args W fun r w' => r = .returned v /\ Up W w'
theorem ze9 {b : Bool} (hr : Sy.right s = b) (hs : Ls3 w se s.es) (hl : s.es.length <= maxLen) : Says w 14 #[zCb s se] (.bool b) := fun W hu => by
 have h := zgk s se W (hs.up hu) hl
 rwa [hr] at h
theorem zux (p q : Int) (hr : Sy.right s = false) (hs : Ls3 w se s.es) (hl : s.es.length <= maxLen) : Calls prog 68 #[zCb s se, .int .i64 p, .int .i64 q] w fun r w' => r = .returned (zDt 14 zan) /\ Up w w' := by
 have HR := zh (ze9 hr hs hl)
 have HH : Hid (Says w 108 #[.string zae, zCb s se] (zDt 14 zan)) := zh (fun W hu => zop hr (hs.up hu) hl)
 obtain ⟨ao, cap, rfl⟩ := zaf hs
 obtain ⟨L, hL⟩ := nm (s.es.length)
 unfold zCb at HR HH ⊢
 rw [<- hL] at HR HH ⊢
 have ac := zh (zex w (.cells #[.int .i64 s.n, .int .i64 s.m, .int .i64 s.start, .slice ao L cap] 24))
 have ab : Hid (Up w ((w.alloc (.cells #[.int .i64 s.n, .int .i64 s.m, .int .i64 s.start, .slice ao L cap] 24)).alloc (.cells #[.int .i64 0, .int .i64 0, .int .i64 0, .string { data := #[] }] 32))) := zh (((Up.refl w).alloc _).alloc _)
 have ad := ((Up.refl (w.alloc (.cells #[.int .i64 s.n, .int .i64 s.m, .int .i64 s.start, .slice ao L cap] 24))).alloc (.cells #[.int .i64 0, .int .i64 0, .int .i64 0, .string { data := #[] }] 32)).block w.heap.size (by simp)
 have ae := zh (ad.trans (heap_alloc_new w _))
 clear hr hs hl hL ad
 unfold zDt zae at HH
 unfold zDt
 go_enter func68, ntmps68
 go_wp2_with (first
  | (go_at_call 14; refine (HR.out _ ab.out).mono ?_; rintro r w1 ⟨rfl, aa⟩; (obtain ⟨⟨k0, k1, k2, k3⟩, -⟩ := za6 ((aa.block _ (za0 ae.out)).trans ae.out)))
  | (go_at_call 108; refine (HH.out _ (ab.out.trans aa)).mono ?_; rintro r w2 ⟨rfl, af⟩; (have ag := ((aa.trans af).block _ (za0 ac.out)).trans ac.out); (obtain ⟨⟨e0, e1, e2, e3⟩, z0, z1, z2, z3⟩ := za6 ag)))
 obtain ⟨⟨y0, y1, y2, y3⟩, hT, -⟩ := zbf ag (.int .i64 14) (.int .i64 0) (.int .i64 0) (.string zan)
 refine bodyPost_ret (v := .agg #[.int .i64 14, .int .i64 0, .int .i64 0, .string zan]) (by simp [results, results68, go_sem, y0, y1, y2, y3]) rfl ⟨rfl, zaj ((ab.out.trans aa).trans af) (by omega) hT⟩
theorem zoq {s : Sy.Lts} {p q : Int} (ht : ¬ There s p q) : (decide (p < 0) = true) \/ (decide (p < 0) = false /\ decide (s.n <= p) = true) \/ (decide (p < 0) = false /\ decide (s.n <= p) = false /\ decide (q < 0) = true) \/ (decide (p < 0) = false /\ decide (s.n <= p) = false /\ decide (q < 0) = false /\ decide (s.n <= q) = true) := by
 unfold There at ht
 simp only [decide_eq_true_eq, decide_eq_false_iff_not]
 omega
theorem zqj (p q k : Int) (hr : Sy.right s = true) (hs : Ls3 w se s.es) (hl : s.es.length <= maxLen) (hk : (¬ There s p q /\ k = 3) \/ (There s p q /\ 300 < s.n /\ k = 2)) : Calls prog 68 #[zCb s se, .int .i64 p, .int .i64 q] w fun r w' => r = .returned (zDt k zad) /\ Up w w' := by
 have HR := zh (ze9 hr hs hl)
 have HH : Hid (∀ k W, Calls prog 70 #[.string zae, .int .i64 k] W fun r w' => r = .returned (zDt k zad) /\ Up W w') := zh zqi
 obtain ⟨ao, cap, rfl⟩ := zaf hs
 obtain ⟨L, hL⟩ := nm (s.es.length)
 unfold zCb at HR ⊢
 rw [<- hL] at HR ⊢
 have ab := zh (zex w (.cells #[.int .i64 s.n, .int .i64 s.m, .int .i64 s.start, .slice ao L cap] 24))
 have ac : Hid (Up w ((w.alloc (.cells #[.int .i64 s.n, .int .i64 s.m, .int .i64 s.start, .slice ao L cap] 24)).alloc (.cells #[.int .i64 0, .int .i64 0, .int .i64 0, .string { data := #[] }] 32))) := zh (((Up.refl w).alloc _).alloc _)
 have ad := ((Up.refl (w.alloc (.cells #[.int .i64 s.n, .int .i64 s.m, .int .i64 s.start, .slice ao L cap] 24))).alloc (.cells #[.int .i64 0, .int .i64 0, .int .i64 0, .string { data := #[] }] 32)).block w.heap.size (by simp)
 have ae := zh (ad.trans (heap_alloc_new w _))
 have ah : (((decide (p < 0) = true) \/ (decide (p < 0) = false /\ decide (s.n <= p) = true) \/ (decide (p < 0) = false /\ decide (s.n <= p) = false /\ decide (q < 0) = true) \/ (decide (p < 0) = false /\ decide (s.n <= p) = false /\ decide (q < 0) = false /\ decide (s.n <= q) = true)) /\ k = 3) \/ (decide (p < 0) = false /\ decide (s.n <= p) = false /\ decide (q < 0) = false /\ decide (s.n <= q) = false /\ decide (300 < s.n) = true /\ k = 2) := by
  rcases hk with ⟨h1, h2⟩ | ⟨h1, h2, h3⟩
  ·exact .inl ⟨zoq h1, h2⟩
  ·unfold There at h1
   refine .inr ⟨?_, ?_, ?_, ?_, ?_, h3⟩ <;> simp <;> omega
 clear hr hs hl hL ad hk
 unfold zDt zae at HH
 unfold zDt
 rcases ah with ⟨q1 | ⟨q1, q2⟩ | ⟨q1, q2, q3⟩ | ⟨q1, q2, q3, q4⟩, rfl⟩ | ⟨q1, q2, q3, q4, q5, rfl⟩
 all_goals
  go_enter func68, ntmps68
  go_wp2_with (first
   | (go_at_call 14; refine (HR.out _ ac.out).mono ?_; rintro r w1 ⟨rfl, aa⟩; (obtain ⟨⟨k0, k1, k2, k3⟩, -⟩ := za6 ((aa.block _ (za0 ae.out)).trans ae.out)))
   | (go_at_call 70; refine (HH.out _ _).mono ?_; rintro r w2 ⟨rfl, af⟩; (have ag := ((aa.trans af).block _ (za0 ab.out)).trans ab.out); (obtain ⟨⟨e0, e1, e2, e3⟩, z0, z1, z2, z3⟩ := za6 ag)))
  obtain ⟨⟨y0, y1, y2, y3⟩, hT, -⟩ := zbf ag (.int .i64 _) (.int .i64 0) (.int .i64 0) (.string zad)
  refine bodyPost_ret (v := .agg #[.int .i64 _, .int .i64 0, .int .i64 0, .string zad]) (by simp [results, results68, go_sem, y0, y1, y2, y3]) rfl ⟨rfl, zaj ((ac.out.trans aa).trans af) (by omega) hT⟩
theorem zwc (p q : Int) (hr : Sy.right s = true) (hs : Ls3 w se s.es) (hl : s.es.length <= maxLen) (ht : There s p q) (h3 : s.n <= 300) : Calls prog 68 #[zCb s se, .int .i64 p, .int .i64 q] w fun r w' => r = .returned zhd /\ Up w w' := by
 have HR := zh (ze9 hr hs hl)
 obtain ⟨ao, cap, rfl⟩ := zaf hs
 obtain ⟨L, hL⟩ := nm (s.es.length)
 unfold zCb at HR ⊢
 rw [<- hL] at HR ⊢
 have ab := zh (zex w (.cells #[.int .i64 s.n, .int .i64 s.m, .int .i64 s.start, .slice ao L cap] 24))
 have ac : Hid (Up w ((w.alloc (.cells #[.int .i64 s.n, .int .i64 s.m, .int .i64 s.start, .slice ao L cap] 24)).alloc (.cells #[.int .i64 0, .int .i64 0, .int .i64 0, .string { data := #[] }] 32))) := zh (((Up.refl w).alloc _).alloc _)
 have ad := ((Up.refl (w.alloc (.cells #[.int .i64 s.n, .int .i64 s.m, .int .i64 s.start, .slice ao L cap] 24))).alloc (.cells #[.int .i64 0, .int .i64 0, .int .i64 0, .string { data := #[] }] 32)).block w.heap.size (by simp)
 have ae := zh (ad.trans (heap_alloc_new w _))
 unfold There at ht
 have q1 : decide (p < 0) = false := by simp; omega
 have q2 : decide (s.n <= p) = false := by simp; omega
 have q3 : decide (q < 0) = false := by simp; omega
 have q4 : decide (s.n <= q) = false := by simp; omega
 have q5 : decide (300 < s.n) = false := by simp; omega
 clear hr hs hl hL ad ht h3
 unfold zhd zDt
 go_enter func68, ntmps68
 go_wp2_with (go_at_call 14; refine (HR.out _ ac.out).mono ?_; rintro r w1 ⟨rfl, aa⟩; (obtain ⟨⟨k0, k1, k2, k3⟩, -⟩ := za6 ((aa.block _ (za0 ae.out)).trans ae.out)); (have af := (aa.block _ (za0 ab.out)).trans ab.out); (obtain ⟨⟨e0, e1, e2, e3⟩, z0, z1, z2, z3⟩ := za6 af))
 obtain ⟨⟨y0, y1, y2, y3⟩, hT, -⟩ := zbf af (.int .i64 0) (.int .i64 0) (.int .i64 0) (.string { data := #[] })
 refine bodyPost_ret (v := .agg #[.int .i64 0, .int .i64 0, .int .i64 0, .string { data := #[] }]) (by simp [results, results68, go_sem, y0, y1, y2, y3]) rfl ⟨rfl, zaj (ac.out.trans aa) (by omega) hT⟩
theorem zoz (s : Sy.Lts) : (Rd.rounds s).getD (Rd.last s) [] = Rd.R s (Rd.last s) := by simp [Rd.rounds, List.getD]
theorem zj1 {xs : List Int} (hx : xs = (Rd.R s (Rd.last s)).map Int.ofNat) (hr : Sy.right s = true) (hs : Ls3 w se s.es) (ac : zfg se) : Calls prog 17 #[zCb s se] w (zcc w xs) := by
 have hR := (Sy.zCj s).1 hr
 obtain ⟨k, ad⟩ := nm (Rd.last s)
 have HA : Hid (∀ W, Up w W -> Calls prog 72 #[zCb s se] W fun r w' => ∃ g cap ca cc, r = .returned (.slice (some ⟨g, 0, none⟩) (k + 1) cap) /\ w'.cell? ⟨g, k, none⟩ = some (.slice ca xs.length cc) /\ Hid (w'.ownsRow W.heap.size 3 1 (.slice ca xs.length cc) xs.length (ivs xs)) /\ Up W w') := zh (fun W hu => by
  refine (zf7 hR (hs.up hu) ac).mono ?_
  rintro r w' ⟨ao2, cap2, vs, rfl, aa, ho, ae⟩
  have h1 := ae.2.1 (Rd.last s) (by rw [Rd.zD4]; omega)
  rw [zoz, <- hx, show (Rd.R s (Rd.last s)).length = xs.length by rw [hx, List.length_map]] at h1
  obtain ⟨ca, cc, hv⟩ := za1 h1
  rcases za4 ho with ⟨-, h2, -⟩ | ⟨g, cap, e, af, -⟩
  ·omega
  ·have hl : Rd.last s < vs.length := by rw [ae.1, Rd.zD4]; omega
   have hc := af.cell (i := Rd.last s) (u := vs.getD (Rd.last s) undef) (by simp [List.getD, hl])
   rw [hv] at h1 hc
   rw [ad]
   exact ⟨g, cap, ca, cc, by rw [e], hc, zh h1, aa⟩)
 have hk : k + 1 <= 1001 := by have := zd2 hR; rw [Rd.zD4] at this; omega
 obtain ⟨ao, cap, rfl⟩ := zaf hs
 obtain ⟨L, hL⟩ := nm (s.es.length)
 unfold zCb at HA ⊢
 rw [<- hL] at HA ⊢
 have ab : Hid (Up w (w.alloc (.cells #[.int .i64 s.n, .int .i64 s.m, .int .i64 s.start, .slice ao L cap] 24))) := zh ((Up.refl w).alloc _)
 have x1 : ((k : Int) + 1) - 1 = (k : Int) := by omega
 clear hr hs ac hR ad hL hx
 go_enter func17, ntmps17
 go_wp2_with (go_at_call 72; refine (HA.out _ ab.out).mono ?_; rintro r w1 ⟨g, c, ca, cc, rfl, hc, ag, aa⟩)
 go_ret
 exact ⟨ca, cc, rfl, za8 ag.out ab.out.size, ab.out.trans aa⟩
def znr (sm : Bool) (xs : List Int) (ns : List Dt.Nd) (k : Int) (l : ByteArray) (w : World) (r : Ending) (w' : World) : Prop :=
 ∃ ca cc fa fc, r = .returned (.tuple #[.agg #[.bool sm, .slice ca xs.length cc, .slice fa ns.length fc], zDt k l]) /\
  Hid (w'.ownsRow w.heap.size 3 1 (.slice ca xs.length cc) xs.length (ivs xs) /\ w'.ownsRow w.heap.size 81 2 (.slice fa ns.length fc) ns.length (za7 ns)) /\ Up w w'
end
end Go.Proofs.YtoaoajfjcfcmhaaGreatDoor
namespace Go.Proofs.YtoaoajfjcfcmhaaGreatDoor
open Go.RowKit Go.Maps Nd2
theorem zlt {v u : Value} {xs ys : List (Int × Int)} {w : World} (hv : Ls2 w v xs) (hu : Ls2 w u ys) (hm : xs.length <= 1000000) (aj : ys.length <= 1000000) :
  Calls prog 175 #[v, u] w (Eql w (decide (xs = ys))) := by
 obtain ⟨ao, c, g, off, rfl, ha, hx⟩ := hv
 obtain ⟨bo, d, h, off2, rfl, hb, hy⟩ := hu
 unfold zJj at hx hy
 obtain ⟨n, hn⟩ := nm (xs.length)
 obtain ⟨m, aa⟩ := nm (ys.length)
 rw [<- hn] at ha hx hm ⊢
 rw [<- aa] at hb hy aj ⊢
 have HX := zh hx
 have HY := zh hy
 have HA := zh ha
 have HB := zh hb
 have HN := zh hn
 have HM := zh aa
 clear hn aa hx hy ha hb
 by_cases hnm : n = m
 ·subst hnm
  have qn : ((n : Int) != (n : Int)) = false := by simp
  go_enter func175, ntmps175
  go_wp2_with fail
  go_loopw [5] (fun i wr => ∃ j : Nat, j <= n /\ i = .int .i64 j /\ Up w wr /\ Hid (∀ k, k < j -> xs.getD k (0, 0) = ys.getD k (0, 0))) (fun i _ => n - (intOf i).toNat)
  case atStart => exact ⟨0, Nat.zero_le _, rfl, Up.refl _, fun k hk => by omega⟩
  case round =>
   obtain ⟨j, hj, rfl, hU, HE⟩ := hrel
   by_cases hlt : j < n
   ·obtain rfl := HA.out (by omega)
    obtain rfl := HB.out (by omega)
    have cx := HX.out j hlt
    have cy := HY.out j hlt
    have cx0 := hU.cell cx.1
    have cx1 := hU.cell cx.2
    have cy0 := hU.cell cy.1
    have cy1 := hU.cell cy.2
    obtain ⟨x0, ab⟩ := nm ((xs.getD j (0, 0)).1)
    obtain ⟨x1, ac⟩ := nm ((xs.getD j (0, 0)).2)
    obtain ⟨y0, ad⟩ := nm ((ys.getD j (0, 0)).1)
    obtain ⟨y1, ae⟩ := nm ((ys.getD j (0, 0)).2)
    rw [<- ab] at cx0
    rw [<- ac] at cx1
    rw [<- ad] at cy0
    rw [<- ae] at cy1
    have af := zh ab
    have ag := zh ac
    have ah := zh ad
    have ai := zh ae
    have he := zu7 x0 x1 y0 y1
    clear ab ac ad ae cx cy
    by_cases hxy : (x0, x1) = (y0, y1)
    ·have HQ : Hid (xs.getD j (0, 0) = ys.getD j (0, 0)) := zh (by have h1 := Prod.mk.inj hxy; exact Prod.ext (by rw [<- af.out, <- ah.out]; exact h1.1) (by rw [<- ag.out, <- ai.out]; exact h1.2))
     obtain ⟨rfl, rfl⟩ := Prod.mk.inj hxy
     simp only [beq_self_eq_true, Bool.and_self] at he
     clear hxy
     go_wp2_with fail
     go_quiet (fail)
     go_wp2_with fail
     go_roundw
     case rel => exact ⟨j + 1, by omega, by go_num, hU.drewN _, fun k hk => by
      by_cases hkj : k = j
      ·rw [hkj]; exact HQ.out
      ·exact HE.out k (by omega)⟩
     case measure => simp [intOf] <;> omega
    ·have HQ : Hid (false = decide (xs = ys)) := zh (by rw [decide_eq_false (zh5 (0, 0) (j := j) (fun e => hxy (by rw [af.out, ag.out, ah.out, ai.out, e])))])
     have hb : (x0 == y0 && x1 == y1) = false := by
      cases hq : (x0 == y0 && x1 == y1)
      ·rfl
      ·simp only [Bool.and_eq_true, beq_iff_eq] at hq
       exact absurd (by rw [hq.1, hq.2]) hxy
     rw [hb] at he
     clear hb hxy
     go_wp2_with fail
     go_quiet (fail)
     go_wp2_with fail
     go_ret
     exact ⟨zao HQ.out, hU.drewN _⟩
   ·obtain rfl : j = n := by omega
    have HQ : Hid (true = decide (xs = ys)) := zh (by rw [decide_eq_true (zgw (0, 0) HN.out.symm HM.out.symm HE.out)])
    go_wp2_with fail
    go_ret
    exact ⟨zao HQ.out, hU⟩
 ·have HQ : Hid (false = decide (xs = ys)) := zh (by rw [decide_eq_false (fun e => hnm (by rw [HN.out, HM.out, e]))])
  have qn : ((n : Int) != (m : Int)) = true := by simp; omega
  clear hnm
  go_enter func175, ntmps175
  go_wp2_with fail
  go_ret
  exact ⟨zao HQ.out, Up.refl _⟩
def zyd (w : World) (v : Value) (fs : List (List Dt.Nd)) : Prop :=
 ∃ ao cap g, v = .slice ao fs.length cap /\ (0 < fs.length -> ao = some ⟨g, 0, none⟩) /\ ∀ i, i < fs.length -> ∃ u, w.cell? ⟨g, i, none⟩ = some u /\ Ls2 w u (fs.getD i [])
theorem zz0 {α : Type} [DecidableEq α] {l : List α} {x d : α} (h : ∀ i, i < l.length -> l.getD i d ≠ x) : ¬ x ∈ l := fun hx => by
 obtain ⟨i, hi, rfl⟩ := List.mem_iff_getElem.1 hx
 exact h i hi (by simp [List.getD, hi])
theorem zrh {v u : Value} {fs : List (List Dt.Nd)} {f : List Dt.Nd} {w : World} (hv : zyd w v fs) (hu : Ls2 w u f) (hm : fs.length <= 1000000) (ac : f.length <= 1000000) (ad : ∀ g ∈ fs, g.length <= 1000000) :
  Calls prog 146 #[v, u] w (Eql w (decide (f ∈ fs))) := by
 obtain ⟨ao, c, g, rfl, ha, hx⟩ := hv
 obtain ⟨n, hn⟩ := nm (fs.length)
 have HX : Hid (∀ i, i < n -> ∃ z, w.cell? ⟨g, i, none⟩ = some z /\ ∀ W, Up w W -> Calls prog 175 #[z, u] W (Eql W (decide (fs.getD i [] = f)))) := zh (fun i hi => by
  obtain ⟨z, h1, h2⟩ := hx i (by omega)
  exact ⟨z, h1, fun W hW => zlt (h2.up hW) (hu.up hW) (ad _ (by rw [<- zaa [] (show i < fs.length by omega)]; exact List.getElem_mem _)) ac⟩)
 rw [<- hn] at ha hm ⊢
 have HA := zh ha
 have HN := zh hn
 clear hn hx ha hu ac ad
 go_enter func146, ntmps146
 go_wp2_with fail
 go_loopw [5] (fun i wr => ∃ j : Nat, j <= n /\ i = .int .i64 j /\ Up w wr /\ Hid (∀ k, k < j -> fs.getD k [] ≠ f)) (fun i _ => n - (intOf i).toNat)
 case atStart => exact ⟨0, Nat.zero_le _, rfl, Up.refl _, fun k hk => by omega⟩
 case round =>
  obtain ⟨j, hj, rfl, hU, HE⟩ := hrel
  rename World => wr
  by_cases hlt : j < n
  ·obtain rfl := HA.out (by omega)
   obtain ⟨z, hz, hC⟩ := HX.out j hlt
   have ae := hU.cell hz
   obtain ⟨e, he⟩ := nm (decide (fs.getD j [] = f))
   have HC := zh (hC wr hU)
   rw [<- he] at HC
   have HU := zh hU
   have aa := zh he
   clear hz hC hU he
   cases e
   ·have hq : fs.getD j [] ≠ f := fun h => by have := aa.out; rw [decide_eq_true h] at this; cases this
    have HQ := zh hq
    clear hq aa
    go_wp2_with (go_at_call 175; refine HC.out.mono ?_; rintro r w2 ⟨rfl, ab⟩)
    go_roundw
    case rel => exact ⟨j + 1, by omega, by go_num, HU.out.trans ab, fun k hk => by
      by_cases hkj : k = j
      ·rw [hkj]; exact HQ.out
      ·exact HE.out k (by omega)⟩
    case measure => simp [intOf] <;> omega
   ·have hq : fs.getD j [] = f := of_decide_eq_true aa.out.symm
    have HQ : Hid (true = decide (f ∈ fs)) := zh (by rw [decide_eq_true]; rw [<- hq, <- zaa [] (show j < fs.length by rw [<- HN.out]; exact hlt)]; exact List.getElem_mem _)
    clear hq aa
    go_wp2_with (go_at_call 175; refine HC.out.mono ?_; rintro r w2 ⟨rfl, ab⟩)
    go_ret
    exact ⟨zao HQ.out, HU.out.trans ab⟩
  ·obtain rfl : j = n := by omega
   have HQ : Hid (false = decide (f ∈ fs)) := zh (by rw [decide_eq_false]; exact zz0 (d := []) (by rw [<- HN.out]; exact HE.out))
   go_wp2_with fail
   go_ret
   exact ⟨zao HQ.out, hU⟩
theorem zgb {w : World} {D O n q : Nat} {s : Sy.Lts} (x : Int) (hb : w.cell? ⟨D, 0, none⟩ = some (.slice (some ⟨O, 0, none⟩) n n)) (ho : zd9 s w O n) (hq : q < n) (hn : n <= 1000) (hl : (Sy.steps s q).length <= 1000000) :
  Calls prog 145 #[.pointer (some ⟨D, 0, none⟩), .int .i64 (q : Nat), .int .i64 x] w (zcc w (Rd.byL (Sy.steps s q) x)) := by
 obtain ⟨i0, hi, ak, al, am⟩ := info_parts Tryz.zCp
 obtain ⟨u, ag, ao, cap, g, off, rfl, ha, hx⟩ := ho q hq
 obtain ⟨l, ai⟩ := nm (Sy.steps s q)
 rw [<- ai] at ag ha hx hl ⊢
 obtain ⟨m, hm⟩ := nm (l.length)
 rw [<- hm] at ha hl ag
 have HA := zh ha
 have HX := zh hx
 have HM := zh hm
 clear ha hx hm ho ai
 go_enter func145, ntmps145
 go_wp2_with fail
 go_loopw [7, 8] (fun t i wr => ∃ j k : Nat, i = .int .i64 j /\ j <= m /\ Up w wr /\ Hid (k = (Rd.byL (l.take j) x).length) /\ wr.ownsRow w.heap.size 3 1 t k (ivs (Rd.byL (l.take j) x))) (fun _ i _ => m - (intOf i).toNat)
 case atStart => exact ⟨0, 0, rfl, Nat.zero_le _, Up.refl w, zh rfl, World.ownsRow_nil _ _ _ _⟩
 case round =>
  obtain ⟨j, k, rfl, hj, hu, HK, aa⟩ := hrel
  rename World => wr
  have aw := hu.cell hb
  have ax := hu.cell ag
  by_cases hlt : j < m
  ·obtain rfl := HA.out (by omega)
   have ah : j < l.length := by rw [<- HM.out]; exact hlt
   have HB := zh (Rd.zHd l x j ah)
   have an : Hid (k <= 1000000) := zh (by
    have h1 := Rd.zH0 (l.take j) x
    rw [<- HK.out, List.length_take] at h1; omega)
   obtain ⟨y, hy⟩ : ∃ y, l.getD j (0, 0) = y := ⟨_, rfl⟩
   have ae := HX.out j ah
   rw [hy] at ae HB
   obtain ⟨y1, y2⟩ := y
   simp only at ae HB
   have d0 := hu.cell ae.1
   have d1 := hu.cell ae.2
   have ay := an.out
   have aA := hu.size
   obtain ⟨av, q5, rfl⟩ := za1 aa
   have HO := zh aa
   have HU := zh hu
   clear ae hy aa hu ah
   by_cases hxy : y1 = x
   ·subst hxy
    rw [if_pos rfl] at HB
    go_wp2_with (at_builtin; (refine wpList_append_own _ rfl _ _ 27 rfl w.heap.size 3 i0 (.int .i64 0) 1 8 underlying27 hi ak al am rfl (by decide) _ k _ rfl (HO.out.alloc _) _ 1 1 [.int .i64 y2] rfl rfl (cell_one_new _ _ _) (zi3 y2) (by unfold maxLen; omega) (by omega) (by simp; omega) ?_); intro v' w2 ac ab af; clear af)
    have ad : w2.ownsRow w.heap.size 3 1 v' (k + 1) (ivs (Rd.byL (l.take (j + 1)) y1)) := by
     rw [HB.out]
     have h := ac
     unfold ivs at h ⊢
     rw [List.map_append]; exact h
    have aq := zh ad
    have au := zh ((HU.out.alloc _).grown ab (fun g hg => (HO.out.lt g hg).1))
    clear ad ac ab
    go_roundw
    case rel => exact ⟨j + 1, k + 1, by go_num, by omega, au.out, zh (by rw [HB.out, List.length_append, <- HK.out]; rfl), aq.out⟩
    case measure => simp [intOf]; omega
   ·rw [if_neg hxy] at HB
    have q1 : (y1 == x) = false := by simpa using hxy
    go_wp2_with fail
    go_roundw
    case rel => exact ⟨j + 1, k, by go_num, by omega, HU.out, zh (by rw [HB.out]; exact HK.out), by rw [HB.out]; exact HO.out⟩
    case measure => simp [intOf]; omega
  ·obtain rfl : j = m := by omega
   have aj : l.take j = l := by rw [HM.out, List.take_length]
   rw [aj] at aa HK
   obtain ⟨av, q5, rfl⟩ := za1 aa
   have HO := zh aa
   have HU := zh hu
   clear aa hu aj
   go_wp2_with fail
   go_ret
   have hk := HK.out
   subst hk
   exact ⟨av, q5, rfl, HO.out, HU.out⟩
def zzn : Option (Int × Int) -> Value
 | some x => .agg #[.int .i64 x.1, .int .i64 x.2]
 | none => .agg #[.int .i64 0, .int .i64 0]
theorem zqn {w : World} {b : Nat} {a1 a2 : Value} {e : TypeId} (h : w.heap[b]? = some (.cells #[a1, a2] e (0, 0))) (v1 v2 : Value) :
  ((w.setCell ⟨b, 0, none⟩ v1).setCell ⟨b, 1, none⟩ v2).cell? ⟨b, 0, none⟩ = some v1 /\ ((w.setCell ⟨b, 0, none⟩ v1).setCell ⟨b, 1, none⟩ v2).cell? ⟨b, 1, none⟩ = some v2 /\
  Turned (fun k => k = b) w ((w.setCell ⟨b, 0, none⟩ v1).setCell ⟨b, 1, none⟩ v2) := by
 have h1 := zat h 0 v1
 have h2 := zat h1 1 v2
 obtain ⟨c0, c1⟩ := zam h2
 exact ⟨c0, c1, ((Turned.refl (fun k => k = b) w).setCell (p := ⟨b, 0, none⟩) (.inl rfl) v1).setCell (p := ⟨b, 1, none⟩) (.inl rfl) v2⟩
theorem zq9 {w : World} {b : Nat} {a1 a2 : Value} {e : TypeId} (h : w.heap[b]? = some (.cells #[a1, a2] e (0, 0))) : w.frozen? ⟨b, 0, none⟩ = false /\ w.frozen? ⟨b, 1, none⟩ = false := by
 refine ⟨?_, ?_⟩ <;> simp [World.frozen?, h]
theorem zs4 {l : List (Int × Int)} {f : Int × Int -> Bool} {j : Nat} {x : Int × Int} (hj : j < l.length) (hx : f (l.getD j (0, 0)) = true) (he : l.getD j (0, 0) = x) (hn : ∀ i, i < j -> f (l.getD i (0, 0)) = false) : l.find? f = some x := by
 rw [List.find?_eq_some_iff_getElem]
 rw [<- zaa (0, 0) hj] at hx he
 refine ⟨by rw [<- he]; exact hx, j, hj, he, fun i hi => ?_⟩
 have := hn i hi
 rw [<- zaa (0, 0) (show i < l.length by omega)] at this
 rw [this]; rfl
theorem zBp (K : List Int) (F : Int -> Bool) (j : Nat) (h : j < K.length) : (K.take (j + 1)).all F = ((K.take j).all F && F (K.getD j 0)) := by
 have e : K.getD j 0 = K[j] := by simp [List.getD, h]
 rw [List.take_succ_eq_append_getElem h, List.all_append, e]
 simp
theorem zes {w : World} {D O n p q : Nat} {s : Sy.Lts} {rv : Value} (hb : w.cell? ⟨D, 0, none⟩ = some (.slice (some ⟨O, 0, none⟩) n n)) (am : w.cell? ⟨D, 1, none⟩ = some rv) (ho : zd9 s w O n) (hr : zda w rv s) (hR : Sy.Right s) (aM : s.n.toNat = n) (hp : p < n) (hq : q < n) :
  Calls prog 144 #[.pointer (some ⟨D, 0, none⟩), .int .i64 (p : Nat), .int .i64 (q : Nat)] w fun r w' => r = .returned (.tuple #[zzn (Dt.telling s p q), .bool (Dt.telling s p q).isSome]) /\ Up w w' := by
 have a9 : n <= 1000 := by have := hR.n1; omega
 have HM : Hid (∀ W x, Up w W -> Calls prog 145 #[.pointer (some ⟨D, 0, none⟩), .int .i64 (q : Nat), .int .i64 x] W (zcc W (Rd.byL (Sy.steps s q) x))) :=
  zh (fun W x hW => zgb x (hW.cell hb) (ho.up hW) hq a9 (zbt hR q))
 have ba : Hid (∀ x, ∀ z ∈ Rd.byL (Sy.steps s q) x, 0 <= z /\ z < (n : Int)) := zh (fun x z hz => by have := zfn hR q x z hz; omega)
 have bb : Hid (∀ x, (Rd.byL (Sy.steps s q) x).length <= 10000) := zh (fun x => ze1 hR q x)
 have aN : Hid (∀ x ∈ Sy.steps s p, 0 <= x.2 /\ x.2 < (n : Int)) := zh (fun x hx => by have := zcz hR p x hx; omega)
 have aO := zbt hR p
 obtain ⟨k, hk⟩ := nm (Rd.rank s p q)
 have HT : Hid (∀ x : Int × Int, Dt.tells s x q k = (Rd.byL (Sy.steps s q) x.1).all fun t => decide (0 <= Rd.rank s x.2.toNat t.toNat) && decide (Rd.rank s x.2.toNat t.toNat < k)) := zh (fun x => zmu s x q k)
 have an : Dt.telling s p q = (Sy.steps s p).find? fun x => Dt.tells s x q k := by rw [hk]; rfl
 obtain ⟨u, aC, ao, cap, g, off, rfl, ha, hx⟩ := ho p hp
 obtain ⟨l, aP⟩ := nm (Sy.steps s p)
 rw [<- aP] at aC ha hx aO aN an
 obtain ⟨m, hm⟩ := nm (l.length)
 rw [<- hm] at ha aO aC
 obtain ⟨ro, rcap, rg, roff, rfl, aD, aq⟩ := hr
 rw [aM] at am aD aq
 obtain rfl := aD (by omega)
 have bc : Hid (∀ p, p < n -> ∃ h ro rc, w.cell? ⟨rg, roff + p, none⟩ = some (.slice (some ⟨h, ro, none⟩) n rc) /\ ∀ q, q < n -> w.cell? ⟨h, ro + q, none⟩ = some (.int .i64 (Rd.rank s p q))) := zh aq
 obtain ⟨h0, ro0, rc0, e1, e2⟩ := aq p hp
 have e2 := e2 q hq
 rw [<- hk] at e2
 obtain ⟨T, hT⟩ := nm (Dt.telling s p q)
 rw [<- hT] at an ⊢
 have HA := zh ha
 have HX := zh hx
 have aE := zh hm
 have aQ := zh an
 clear ha hx hm ho aP aq aD hR aM hk hT an
 go_enter func144, ntmps144
 go_upto_region 1 with fail
 obtain ⟨w0, au⟩ := nm (w.alloc (.cells #[.int .i64 0, .int .i64 0] 169))
 rw [<- au]
 have af : Up w w0 := by rw [au]; exact (Up.refl w).alloc _
 have aR : w0.heap[w.heap.size]? = some (.cells #[.int .i64 0, .int .i64 0] 169 (0, 0)) := by rw [au]; exact heap_alloc_new w _
 have aF := zh af
 have aS := zh aR
 have z1 := af.cell am
 have z2 := af.cell e1
 have z3 := af.cell e2
 clear au af aR e1 e2
 go_wp2_with fail
 clear z1 z2 z3
 go_loopw [9] (fun i wr => ∃ j : Nat, i = .int .i64 j /\ j <= m /\ Up w0 wr /\ Hid (∀ i, i < j -> Dt.tells s (l.getD i (0, 0)) q k = false)) (fun i _ => m - (intOf i).toNat)
 case atStart => exact ⟨0, rfl, Nat.zero_le _, Up.refl _, zh (fun i hi => by omega)⟩
 case round =>
  obtain ⟨j, rfl, hj, hu, HE⟩ := hrel
  rename World => wr
  have ad := zh (aF.out.trans hu)
  have ag := zh ((hu.block _ (za0 aS.out)).trans aS.out)
  have f0 := ad.out.cell hb
  have f1 := ad.out.cell am
  have f2 := ad.out.cell aC
  by_cases hlt : j < m
  ·obtain rfl := HA.out (by omega)
   have ae : j < l.length := by rw [<- aE.out]; exact hlt
   obtain ⟨x, av⟩ : ∃ x, l.getD j (0, 0) = x := ⟨_, rfl⟩
   have aG := aN.out x (by rw [<- av, <- zaa (0, 0) ae]; exact List.getElem_mem ae)
   have ah := HX.out j ae
   rw [av] at ah
   have aH := zh av
   obtain ⟨x1, x2⟩ := x
   obtain ⟨z, hz⟩ : ∃ z : Nat, x2 = (z : Int) := ⟨x2.toNat, by simp only at aG; omega⟩
   subst hz
   simp only at ah aG
   have bd : z < n := by omega
   have d0 := ad.out.cell ah.1
   have d1 := ad.out.cell ah.2
   obtain ⟨rh, ro2, rc2, g1, g2⟩ := bc.out z bd
   have aT := zh g2
   obtain ⟨K, hK⟩ := nm (Rd.byL (Sy.steps s q) x1)
   have aU := zh (ba.out x1)
   have aV := bb.out x1
   have aI := zh (HT.out (x1, (z : Int)))
   have aW := zh (fun W hW => HM.out W x1 hW)
   rw [<- hK] at aU aV aI aW
   obtain ⟨F, hF⟩ : ∃ F : Int -> Bool, F = fun t : Int => decide (0 <= Rd.rank s z t.toNat) && decide (Rd.rank s z t.toNat < k) := ⟨_, rfl⟩
   have aX : Hid (Dt.tells s (x1, (z : Int)) q k = K.all F) := zh (by rw [aI.out, hF]; rfl)
   have HF : Hid (∀ t : Nat, F (t : Int) = (decide (0 <= Rd.rank s z t) && decide (Rd.rank s z t < k))) := zh (fun t => by rw [hF]; simp)
   clear ah av aG ae g2 hK hF aI
   go_upto_region 6 with fail
   obtain ⟨w1, aw⟩ := nm (wr.alloc (.cells #[.int .i64 x1, .int .i64 (z : Nat)] 169))
   rw [<- aw]
   have aJ : Up wr w1 := by rw [aw]; exact (Up.refl wr).alloc _
   have aK : w1.heap[wr.heap.size]? = some (.cells #[.int .i64 x1, .int .i64 (z : Nat)] 169 (0, 0)) := by rw [aw]; exact heap_alloc_new wr _
   have aY := zh aK
   have aZ := zh aJ
   obtain ⟨i0, i1⟩ := zam aK
   have a2 := zh (ad.out.trans aJ)
   clear aw aJ aK d0 d1 f0 f1 f2
   go_wp2_with (go_at_call 145; refine (aW.out _ a2.out).mono ?_; rintro r w2 ⟨ao2, cap2, rfl, ax, ai⟩)
   obtain ⟨m2, aj⟩ := nm (K.length)
   rw [<- aj] at ax aV ⊢
   have a3 := zh aj
   have ak : Hid (∀ i, i < m2 -> ∃ g2, ∃ t : Nat, ao2 = some ⟨g2, 0, none⟩ /\ K.getD i 0 = (t : Int) /\ t < n /\ w2.cell? ⟨g2, i, none⟩ = some (.int .i64 (t : Nat))) := zh (fun i hi => by
    have aL : i < K.length := by rw [<- aj]; exact hi
    have hb := aU.out (K.getD i 0) (by rw [<- zaa 0 aL]; exact List.getElem_mem aL)
    obtain ⟨t, ht⟩ : ∃ t : Nat, K.getD i 0 = (t : Int) := ⟨(K.getD i 0).toNat, by omega⟩
    rw [aj] at ax
    rcases za4 ax with ⟨_, h0, _⟩ | ⟨g2, cap2, e, be, _⟩
    ·omega
    ·simp only [Value.slice.injEq] at e
     exact ⟨g2, t, e.1, ht, by omega, by rw [<- ht]; exact be.cell (by simp [ivs, List.getD, aL])⟩)
   have HY := zh (a2.out.trans ai)
   have ay := zh ((ai.block _ (za0 aY.out)).trans aY.out)
   have a4 := zh (((aZ.out.trans ai).block _ (za0 ag.out)).trans ag.out)
   have bf := zh (hu.trans (aZ.out.trans ai))
   have bh : Hid (∀ t, t < n -> w2.cell? ⟨rh, ro2 + t, none⟩ = some (.int .i64 (Rd.rank s z t))) := zh (fun t ht => HY.out.cell (aT.out t ht))
   have j1 := HY.out.cell am
   have j2 := HY.out.cell g1
   clear aj ax ai i0 i1 g1 aT
   go_loopw [12, 13] (fun b i wi => ∃ (t : Bool) (e : Nat), b = .bool t /\ i = .int .i64 e /\ e <= m2 /\ Up w2 wi /\ Hid (t = (K.take e).all F)) (fun _ i _ => m2 - (intOf i).toNat)
   case atStart => exact ⟨true, 0, rfl, rfl, Nat.zero_le _, Up.refl _, zh rfl⟩
   case round =>
    obtain ⟨t, e, rfl, rfl, he, aa, aA⟩ := hrel
    rename World => wi
    by_cases hlt2 : e < m2
    ·obtain ⟨g2, y, rfl, hy, bi, cy⟩ := ak.out e hlt2
     have a5 : e < K.length := by rw [<- a3.out]; exact hlt2
     have ab := zh (zBp K F e a5)
     rw [hy, HF.out y, <- aA.out] at ab
     have k0 := aa.cell j1
     have k1 := aa.cell j2
     obtain ⟨k2, k3⟩ := zam ((aa.block _ (za0 ay.out)).trans ay.out)
     have k4 := aa.cell cy
     have k5 := aa.cell (bh.out y bi)
     obtain ⟨rk, a6⟩ := nm (Rd.rank s z y)
     rw [<- a6] at k5 ab
     have ac := zh aa
     clear hy cy a5 a6 j1 j2 aa
     cases t
     ·go_wp2_with fail
      go_quiet (fail)
      go_wp2_with fail
      go_roundw
      case rel => exact ⟨false, e + 1, rfl, by go_num, by omega, ac.out.drewN _, zh (by rw [ab.out]; rfl)⟩
      case measure => simp [intOf]; omega
     ·by_cases hneg : rk < 0
      ·have q1 : decide (0 <= rk) = false := by simp; omega
       have al : Hid ((K.take (e + 1)).all F = false) := zh (by rw [ab.out, q1]; rfl)
       clear hneg ab
       go_wp2_with fail
       go_quiet (fail)
       go_wp2_with fail
       go_roundw
       case rel => exact ⟨false, e + 1, rfl, by go_num, by omega, ac.out.drewN _, zh al.out.symm⟩
       case measure => simp [intOf]; omega
      ·have q1 : decide (0 <= rk) = true := by simp; omega
       by_cases hlk : rk < k
       ·have q2 : decide (rk < k) = true := by simpa using hlk
        have al : Hid ((K.take (e + 1)).all F = true) := zh (by rw [ab.out, q1, q2]; rfl)
        clear hneg hlk ab
        go_wp2_with fail
        go_quiet (fail)
        go_wp2_with fail
        go_roundw
        case rel => exact ⟨true, e + 1, rfl, by go_num, by omega, ac.out.drewN _, zh al.out.symm⟩
        case measure => simp [intOf]; omega
       ·have q2 : decide (rk < k) = false := by simpa using hlk
        have al : Hid ((K.take (e + 1)).all F = false) := zh (by rw [ab.out, q1, q2]; rfl)
        clear hneg hlk ab
        go_wp2_with fail
        go_quiet (fail)
        go_wp2_with fail
        go_roundw
        case rel => exact ⟨false, e + 1, rfl, by go_num, by omega, ac.out.drewN _, zh al.out.symm⟩
        case measure => simp [intOf]; omega
    ·obtain rfl : e = m2 := by omega
     have a7 : K.take e = K := by rw [a3.out, List.take_length]
     rw [a7] at aA
     have a8 := (aa.block _ (za0 ay.out)).trans ay.out
     have aB := (aa.block _ (za0 a4.out)).trans a4.out
     obtain ⟨b0, b1⟩ := zam a8
     obtain ⟨a0, a1⟩ := zam aB
     obtain ⟨v0, v1⟩ := zq9 aB
     have ac := zh (bf.out.trans aa)
     have bj := zh aB
     clear a7 a8 aB j1 j2 aa
     cases t
     ·go_wp2_with fail
      go_roundw
      case rel => exact ⟨j + 1, by go_num, by omega, ac.out, zh (fun i hi => by
       by_cases hij : i = j
       ·rw [hij, aH.out, aX.out]; exact aA.out.symm
       ·exact HE.out i (by omega))⟩
      case measure => simp [intOf]; omega
     ·have HS : Hid (T = some (x1, (z : Int))) := zh (by
       rw [aQ.out]
       have ae : j < l.length := by rw [<- aE.out]; exact hlt
       exact zs4 ae (by rw [aH.out, aX.out]; exact aA.out.symm) aH.out HE.out)
      go_wp2_with fail
      obtain ⟨y0, y1, hT⟩ := zqn bj.out (.int .i64 x1) (.int .i64 (z : Nat))
      refine bodyPost_ret (v := .tuple #[.agg #[.int .i64 x1, .int .i64 (z : Nat)], .bool true]) (by simp [results, results144, go_sem, y0, y1]) rfl ⟨by rw [HS.out]; rfl, zaj (aF.out.trans ac.out) (Nat.le_refl _) hT⟩
  ·obtain rfl : j = m := by omega
   have HN : Hid (T = none) := zh (by
    rw [aQ.out, List.find?_eq_none]
    intro x hx
    obtain ⟨i, hi, rfl⟩ := List.mem_iff_getElem.1 hx
    have := HE.out i (by rw [aE.out]; exact hi)
    rw [<- zaa (0, 0) hi] at this
    rw [this]; decide)
   obtain ⟨a0, a1⟩ := zam ag.out
   obtain ⟨v0, v1⟩ := zq9 ag.out
   have bo := zh hu
   clear hu
   go_wp2_with fail
   obtain ⟨y0, y1, hT⟩ := zqn ag.out (.int .i64 0) (.int .i64 0)
   refine bodyPost_ret (v := .tuple #[.agg #[.int .i64 0, .int .i64 0], .bool false]) (by simp [results, results144, go_sem, y0, y1]) rfl ⟨by rw [HN.out]; rfl, zaj (aF.out.trans bo.out) (Nat.le_refl _) hT⟩
end Go.Proofs.YtoaoajfjcfcmhaaGreatDoor
namespace Go.Proofs.YtoaoajfjcfcmhaaGreatDoor
open Go.RowKit Go.Maps
abbrev Ans := Value × Bool × Bool
def zld (x : Ans) : List Value := [x.1, .bool x.2.1, .bool x.2.2]
def zcj (l : List Ans) : List Value := l.flatMap zld
theorem zd3 (x : Ans) : (zld x).length = 3 := rfl
theorem zqu (l : List Ans) : (zcj l).length = l.length * 3 := zd6 zd3 l
theorem zf4 (x : Ans) (l : List Ans) : zcj (x :: l) = x.1 :: .bool x.2.1 :: .bool x.2.2 :: zcj l := by simp [zcj, zld]
def noAns : Ans := (.slice none 0 0, false, false)
theorem zj5 (l : List Ans) (i : Nat) (h : i < l.length) : (zcj l)[i * 3]? = some (l.getD i noAns).1 /\ (zcj l)[i * 3 + 1]? = some (.bool (l.getD i noAns).2.1) /\ (zcj l)[i * 3 + 2]? = some (.bool (l.getD i noAns).2.2) := by
 have e := zaa noAns h
 have h0 := flat_get zd3 l i 0 h (by omega)
 have h1 := flat_get zd3 l i 1 h (by omega)
 have h2 := flat_get zd3 l i 2 h (by omega)
 rw [e] at h0 h1 h2
 exact ⟨h0, h1, h2⟩
theorem zjy : ∀ (m : List Ans) (i : Nat) (x : Ans), zcj (m.set i x) = (((zcj m).set (i * 3) x.1).set (i * 3 + 1) (.bool x.2.1)).set (i * 3 + 2) (.bool x.2.2)
 | [], i, x => by simp [zcj]
 | y :: m, 0, x => by simp [zf4]
 | y :: m, i + 1, x => by
  have ih := zjy m i x
  rw [List.set_cons_succ, zf4, zf4, ih]
  rw [show (i + 1) * 3 = i * 3 + 1 + 1 + 1 by omega, show i * 3 + 1 + 1 + 1 + 1 = (i * 3 + 1) + 1 + 1 + 1 by omega, show i * 3 + 1 + 1 + 1 + 2 = (i * 3 + 2) + 1 + 1 + 1 by omega]
  simp only [List.set_cons_succ]
def zBm (s : Sy.Lts) (w : World) (p q : Nat) (a : Ans) : Prop :=
 (a.2.1 = false -> a = noAns) /\ (a.2.1 = true -> a.2.2 = Dt.fits (Dt.F s p q) /\ w.ownsRow 0 81 2 a.1 (Dt.held (Dt.F s p q)).length (za7 (Dt.held (Dt.F s p q))))
def ze5 (az : List (List Ans)) (k : Nat) : Prop := ∃ r ∈ az, ∃ a ∈ r, a.2.1 = true /\ a.1.ownBlock = some k
structure zE2 where
 n : Nat
 w0 : World
 D : Nat
 O : Nat
 M : Nat
 cm : Nat
 rv : Value
 bs : List Nat
structure Dsk (s : Sy.Lts) (R : zE2) (w : World) (az : List (List Ans)) : Prop where
 right : Sy.Right s
 nn : s.n.toNat = R.n
 up : Up R.w0 w
 box : w.heap[R.D]? = some (.cells #[.slice (some ⟨R.O, 0, none⟩) R.n R.n, R.rv, .slice (some ⟨R.M, 0, none⟩) R.n R.cm] 109 (0, 0))
 out : zd9 s R.w0 R.O R.n
 rks : zda R.w0 R.rv s
 mrow : Row w R.M 180 R.cm (R.bs.map fun b => .slice (some ⟨b, 0, none⟩) R.n R.n)
 blen : R.bs.length = R.n
 alen : az.length = R.n
 rows : ∀ p, p < R.n -> (az.getD p []).length = R.n /\ Row w (R.bs.getD p 0) 182 (R.n * 3) (zcj (az.getD p []))
 nd : R.bs.Nodup
 lo : ∀ b ∈ R.bs, R.w0.heap.size <= b
 ans : ∀ p q, p < R.n -> q < R.n -> zBm s w p q ((az.getD p []).getD q noAns)
section
variable {s : Sy.Lts} {R : zE2} {w w1 : World} {az : List (List Ans)}
theorem Row.ty {g cap : Nat} {e : TypeId} {xs : List Value} (h : Row w g e cap xs) : ∃ cur, w.heap[g]? = some (.cells cur e (0, 0)) := by
 obtain ⟨cur, hg, -⟩ := h
 exact ⟨cur, hg⟩
theorem Dsk.zL7 (h : Dsk s R w az) {b : Nat} (hb : b ∈ R.bs) : ∃ p, p < R.n /\ R.bs.getD p 0 = b := by
 obtain ⟨p, hp, rfl⟩ := List.mem_iff_getElem.1 hb
 exact ⟨p, by rw [<- h.blen]; exact hp, by simp [List.getD, hp]⟩
theorem Dsk.zL1 (h : Dsk s R w az) {p : Nat} (hp : p < R.n) : R.bs.getD p 0 ∈ R.bs := by
 have : p < R.bs.length := by rw [h.blen]; exact hp
 rw [<- zaa 0 this]; exact List.getElem_mem _
theorem Dsk.bty (h : Dsk s R w az) {b : Nat} (hb : b ∈ R.bs) : ∃ cur, w.heap[b]? = some (.cells cur 182 (0, 0)) := by
 obtain ⟨p, hp, rfl⟩ := h.zL7 hb
 exact (h.rows p hp).2.ty
theorem Dsk.blt (h : Dsk s R w az) {b : Nat} (hb : b ∈ R.bs) : b < w.heap.size := by
 obtain ⟨cur, hc⟩ := h.bty hb
 exact za0 hc
theorem ze5.at (h : Dsk s R w az) {k : Nat} (hk : ze5 az k) : ∃ p q, p < R.n /\ q < R.n /\ ((az.getD p []).getD q noAns).2.1 = true /\ ((az.getD p []).getD q noAns).1.ownBlock = some k := by
 obtain ⟨r, hr, a, ha, h1, h2⟩ := hk
 obtain ⟨p, hp, rfl⟩ := List.mem_iff_getElem.1 hr
 obtain ⟨q, hq, rfl⟩ := List.mem_iff_getElem.1 ha
 have aa : p < R.n := by rw [<- h.alen]; exact hp
 have e := zaa ([] : List Ans) hp
 have e2 := zaa noAns hq
 refine ⟨p, q, aa, ?_, ?_, ?_⟩
 ·have := (h.rows p aa).1
  rw [<- e] at this
  omega
 ·rw [<- e, <- e2]; exact h1
 ·rw [<- e, <- e2]; exact h2
theorem Dsk.aty (h : Dsk s R w az) {k : Nat} (hk : ze5 az k) : ∃ cur, w.heap[k]? = some (.cells cur 81 (0, 0)) := by
 obtain ⟨p, q, hp, hq, h1, h2⟩ := hk.at h
 exact za5 ((h.ans p q hp hq).2 h1).2 h2
theorem Dsk.alt (h : Dsk s R w az) {k : Nat} (hk : ze5 az k) : k < w.heap.size := by
 obtain ⟨cur, hc⟩ := h.aty hk
 exact za0 hc
theorem zu3 {l : List Nat} (h : l.Nodup) {i j : Nat} (hi : i < l.length) (hj : j < l.length) (e : l[i] = l[j]) : i = j := by
 rcases Nat.lt_trichotomy i j with h1 | h1 | h1
 ·exact absurd e (List.pairwise_iff_getElem.1 h i j hi hj h1)
 ·exact h1
 ·exact absurd e.symm (List.pairwise_iff_getElem.1 h j i hj hi h1)
def zm2 (R : zE2) (az : List (List Ans)) (k : Nat) : Prop := k = R.D \/ k = R.M \/ k ∈ R.bs \/ ze5 az k
theorem Dsk.keep (h : Dsk s R w az) (hu : Up R.w0 w1) (hk : ∀ k, zm2 R az k -> w1.heap[k]? = w.heap[k]?) : Dsk s R w1 az where
 right := h.right
 nn := h.nn
 up := hu
 box := (hk _ (.inl rfl)).trans h.box
 out := h.out
 rks := h.rks
 mrow := h.mrow.keep (hk _ (.inr (.inl rfl)))
 blen := h.blen
 alen := h.alen
 rows := fun p hp => ⟨(h.rows p hp).1, (h.rows p hp).2.keep (hk _ (.inr (.inr (.inl (h.zL1 hp)))))⟩
 nd := h.nd
 lo := h.lo
 ans := fun p q hp hq => ⟨(h.ans p q hp hq).1, fun ha => by
  obtain ⟨h1, h2⟩ := (h.ans p q hp hq).2 ha
  refine ⟨h1, za2 h2 (fun g hg => hk g (.inr (.inr (.inr ?_))))⟩
  have aa : p < az.length := by rw [h.alen]; exact hp
  have ab : q < (az.getD p []).length := by rw [(h.rows p hp).1]; exact hq
  exact ⟨az.getD p [], by rw [<- zaa [] aa]; exact List.getElem_mem _, (az.getD p []).getD q noAns, by rw [<- zaa noAns ab]; exact List.getElem_mem _, ha, hg⟩⟩
theorem Dsk.lt (h : Dsk s R w az) {k : Nat} (hk : zm2 R az k) : k < w.heap.size := by
 rcases hk with rfl | rfl | hk | hk
 ·exact za0 h.box
 ·exact h.mrow.lt
 ·exact h.blt hk
 ·exact h.alt hk
theorem Dsk.upto (h : Dsk s R w az) (hu : Up w w1) : Dsk s R w1 az := h.keep (h.up.trans hu) (fun k hk => hu.block k (h.lt hk))
theorem Dsk.other (h : Dsk s R w az) {k : Nat} {cur : Array Value} {e : TypeId} (hc : w.heap[k]? = some (.cells cur e (0, 0))) (h1 : e ≠ 109) (h2 : e ≠ 180) (h3 : e ≠ 182) (h4 : ¬ ze5 az k) : ¬ zm2 R az k := by
 rintro (rfl | rfl | hk | hk)
 ·exact zaq hc h.box h1 rfl
 ·obtain ⟨c, hm⟩ := h.mrow.ty
  exact zaq hc hm h2 rfl
 ·obtain ⟨c, hm⟩ := h.bty hk
  exact zaq hc hm h3 rfl
 ·exact h4 hk
theorem Dsk.cell (h : Dsk s R w az) {p q : Nat} (hp : p < R.n) (hq : q < R.n) :
  w.cell? ⟨R.M, p, none⟩ = some (.slice (some ⟨R.bs.getD p 0, 0, none⟩) R.n R.n) /\ w.cell? ⟨R.bs.getD p 0, q * 3, none⟩ = some ((az.getD p []).getD q noAns).1 /\
  w.cell? ⟨R.bs.getD p 0, q * 3 + 1, none⟩ = some (.bool ((az.getD p []).getD q noAns).2.1) /\ w.cell? ⟨R.bs.getD p 0, q * 3 + 2, none⟩ = some (.bool ((az.getD p []).getD q noAns).2.2) := by
 obtain ⟨hl, hr⟩ := h.rows p hp
 obtain ⟨c0, c1, c2⟩ := zj5 (az.getD p []) q (by rw [hl]; exact hq)
 refine ⟨h.mrow.cell ?_, hr.cell c0, hr.cell c1, hr.cell c2⟩
 have aa : p < R.bs.length := by rw [h.blen]; exact hp
 simp [List.getD, aa]
def zJu (az : List (List Ans)) (p q : Nat) (a : Ans) : List (List Ans) := az.set p ((az.getD p []).set q a)
theorem zpy {p q p' : Nat} {a : Ans} (hp : p < az.length) : (zJu az p q a).getD p' [] = if p' = p then (az.getD p []).set q a else az.getD p' [] := by
 unfold zJu
 by_cases h : p' = p
 ·subst h; simp [List.getD, hp]
 ·rw [if_neg h]; simp [List.getD, List.getElem?_set, Ne.symm h]
theorem Dsk.put (h : Dsk s R w az) {p q : Nat} (hp : p < R.n) (hq : q < R.n) {v : Value} {b : Bool} (hb : b = Dt.fits (Dt.F s p q)) (hv : w.ownsRow 0 81 2 v (Dt.held (Dt.F s p q)).length (za7 (Dt.held (Dt.F s p q)))) :
  Dsk s R (((w.setCell ⟨R.bs.getD p 0, q * 3, none⟩ v).setCell ⟨R.bs.getD p 0, q * 3 + 1, none⟩ (.bool true)).setCell ⟨R.bs.getD p 0, q * 3 + 2, none⟩ (.bool b)) (zJu az p q (v, true, b)) /\
  Turned (fun k => k ∈ R.bs) w (((w.setCell ⟨R.bs.getD p 0, q * 3, none⟩ v).setCell ⟨R.bs.getD p 0, q * 3 + 1, none⟩ (.bool true)).setCell ⟨R.bs.getD p 0, q * 3 + 2, none⟩ (.bool b)) /\
  ∀ k, ze5 (zJu az p q (v, true, b)) k -> ze5 az k \/ v.ownBlock = some k := by
 have ad := h.zL1 hp
 obtain ⟨w3, ae⟩ := nm (((w.setCell ⟨R.bs.getD p 0, q * 3, none⟩ v).setCell ⟨R.bs.getD p 0, q * 3 + 1, none⟩ (.bool true)).setCell ⟨R.bs.getD p 0, q * 3 + 2, none⟩ (.bool b))
 rw [<- ae]
 have af : Turned (fun k => k = R.bs.getD p 0) w w3 := by
  rw [ae]
  exact (((Turned.refl (fun k => k = R.bs.getD p 0) w).setCell (p := ⟨_, q * 3, none⟩) (.inl rfl) _).setCell (p := ⟨_, q * 3 + 1, none⟩) (.inl rfl) _).setCell (p := ⟨_, q * 3 + 2, none⟩) (.inl rfl) _
 have hT : Turned (fun k => k ∈ R.bs) w w3 := af.mono (fun k _ hk => by subst hk; exact ad)
 have aa : ∀ k, k < w.heap.size -> k ≠ R.bs.getD p 0 -> w3.heap[k]? = w.heap[k]? := fun k hk hn => af.block k hk hn
 have ag : p < az.length := by rw [h.alen]; exact hp
 obtain ⟨cb, ah⟩ := h.bty ad
 have ab : ∀ g c, w.heap[g]? = some (.cells c 81 (0, 0)) -> g ≠ R.bs.getD p 0 := fun g c hg => zaq hg ah (by decide)
 have aj : w3.ownsRow 0 81 2 v (Dt.held (Dt.F s p q)).length (za7 (Dt.held (Dt.F s p q))) := za2 hv (fun g hg => by
  obtain ⟨c, hc⟩ := za5 hv hg
  exact aa g (za0 hc) (ab g c hc))
 refine ⟨?_, hT, ?_⟩
 ·refine ⟨h.right, h.nn, zaj h.up (h.lo _ ad) af, ?_, h.out, h.rks, h.mrow.keep (aa _ h.mrow.lt ?_), h.blen, by unfold zJu; rw [List.length_set]; exact h.alen, fun p' ac => ?_, h.nd, h.lo, fun p' q' ac ai => ?_⟩
  ·exact (aa _ (za0 h.box) (zaq h.box ah (by decide))).trans h.box
  ·obtain ⟨c, hm⟩ := h.mrow.ty
   exact zaq hm ah (by decide)
  ·rw [zpy ag]
   by_cases e : p' = p
   ·subst e
    rw [if_pos rfl]
    obtain ⟨hl, hr⟩ := h.rows p' ac
    refine ⟨by rw [List.length_set]; exact hl, ?_⟩
    rw [zjy, ae]
    exact ((hr.set _ _).set _ _).set _ _
   ·rw [if_neg e]
    obtain ⟨hl, hr⟩ := h.rows p' ac
    refine ⟨hl, hr.keep (aa _ hr.lt (fun e2 => e ?_))⟩
    have h1 : p' < R.bs.length := by rw [h.blen]; exact ac
    have h2 : p < R.bs.length := by rw [h.blen]; exact hp
    rw [<- zaa 0 h1, <- zaa 0 h2] at e2
    exact zu3 h.nd h1 h2 e2
  ·rw [zpy ag]
   have old : zBm s w3 p' q' ((az.getD p' []).getD q' noAns) := ⟨(h.ans p' q' ac ai).1, fun ha => by
    obtain ⟨h1, h2⟩ := (h.ans p' q' ac ai).2 ha
    refine ⟨h1, za2 h2 (fun g hg => ?_)⟩
    obtain ⟨c, hc⟩ := za5 h2 hg
    exact aa g (za0 hc) (ab g c hc)⟩
   by_cases e : p' = p
   ·subst e
    rw [if_pos rfl]
    by_cases e2 : q' = q
    ·subst e2
     have ak : q' < (az.getD p' []).length := by rw [(h.rows p' ac).1]; exact ai
     rw [show ((az.getD p' []).set q' (v, true, b)).getD q' noAns = (v, true, b) by
      rw [<- zaa noAns (show q' < ((az.getD p' []).set q' (v, true, b)).length by rw [List.length_set]; exact ak)]; simp]
     exact And.intro (fun e => absurd e (by simp)) (fun _ => ⟨hb, aj⟩)
    ·rw [show ((az.getD p' []).set q (v, true, b)).getD q' noAns = (az.getD p' []).getD q' noAns by
      unfold List.getD; rw [List.getElem?_set, if_neg (Ne.symm e2)]]
     exact old
   ·rw [if_neg e]; exact old
 ·rintro k ⟨r, hr, a, ha, h1, h2⟩
  rcases List.mem_or_eq_of_mem_set hr with hr | rfl
  ·exact .inl ⟨r, hr, a, ha, h1, h2⟩
  ·rcases List.mem_or_eq_of_mem_set ha with ha | rfl
   ·exact .inl ⟨az.getD p [], by rw [<- zaa [] ag]; exact List.getElem_mem _, a, ha, h1, h2⟩
   ·exact .inr h2
end
end Go.Proofs.YtoaoajfjcfcmhaaGreatDoor
