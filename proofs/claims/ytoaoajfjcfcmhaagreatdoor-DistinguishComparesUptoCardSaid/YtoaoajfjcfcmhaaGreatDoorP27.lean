/- Walk: distinguish.asked. The errors of chapter 16, as the document tells them: api.Code of ErrLimit; Told of none, of one fault, of a fault in a . -/
import Derived.Test.YtoaoajfjcfcmhaaGreatDoorP18
import Derived.Test.YtoaoajfjcfcmhaaGreatDoorP26
import Derived.Test.YtoaoajfjcfcmhaaGreatDoorP16
import Derived.Test.YtoaoajfjcfcmhaaGreatDoorP15
import Derived.Test.YtoaoajfjcfcmhaaGreatDoorP01
set_option linter.unusedVariables false
set_option linter.unusedSimpArgs false
set_option maxHeartbeats 16000000
set_option maxRecDepth 100000
open Go.Proofs.Tryz
namespace Go.Proofs.YtoaoajfjcfcmhaaGreatDoor
open Go.RowKit Go.Sort Go.Maps
theorem zAd {w0 : World} {B : Nat} {rv : Value} {s : Sy.Lts} :
  Tel w0 (w0.heap.size + 1 + 1) B rv w0.heap.size (w0.heap.size + 1) s
   (((w0.alloc (.map #[] 0)).alloc (.map #[] 0)).alloc (.cells #[.pointer (some ⟨B, 0, none⟩), rv, .slice none 0 0, .map (some w0.heap.size), .map (some (w0.heap.size + 1))] 124)) (.slice none 0 0) [] ⟨[], [], []⟩ := by
 have s1 : (w0.alloc (.map #[] 0)).heap.size = w0.heap.size + 1 := by simp
 have s2 : ((w0.alloc (.map #[] 0)).alloc (.map #[] 0)).heap.size = w0.heap.size + 1 + 1 := by simp
 refine ⟨⟨rfl, rfl, ?_, World.ownsRow_nil _ _ _ _, (fun x hx => by cases hx), ?_, ?_, by omega⟩, ⟨Dt.Table.nil, (fun e he => by cases he), List.nodup_nil⟩, (((Up.refl w0).alloc _).alloc _).alloc _, fun k hk => ?_⟩
 ·have h := heap_alloc_new ((w0.alloc (.map #[] 0)).alloc (.map #[] 0)) (.cells #[.pointer (some ⟨B, 0, none⟩), rv, .slice none 0 0, .map (some w0.heap.size), .map (some (w0.heap.size + 1))] 124)
  rw [s2] at h
  exact h
 ·have h := World.ownsMap_made (H := Unit) (P := prog) w0 9 (plainElem prog 3)
  exact zbc h ((((Up.refl (w0.alloc (.map #[] 0))).alloc _).alloc _).block _ (by rw [s1]; omega))
 ·have h := World.ownsMap_made (H := Unit) (P := prog) (w0.alloc (.map #[] 0)) 201 (plainElem prog 3)
  rw [s1] at h
  exact zbc h (((Up.refl ((w0.alloc (.map #[] 0)).alloc (.map #[] 0))).alloc _).block _ (by rw [s2]; omega))
 ·rcases hk with rfl | hk | rfl | rfl
  ·omega
  ·simp [Value.ownBlock] at hk
  ·omega
  ·omega
theorem zvq (s : Sy.Lts) : Root s 0 ⟨[], [], []⟩ := ⟨0, Dt.Tl.To.refl _ _ _ _⟩
def zBq (s : Sy.Lts) (w : World) (v : Value) (w' : World) : Prop :=
 ∃ w0 tb B rv ma mk, v = .pointer (some ⟨tb, 0, none⟩) /\ Up w w0 /\ zIy w0 B rv s /\ Tel w0 tb B rv ma mk s w' (.slice none 0 0) [] ⟨[], [], []⟩
def zgd (s : Sy.Lts) (p q : Int) (w : World) (x xi xl : Value) (e : Value) (w' : World) : Prop :=
 (Sy.right s = true /\ There s p q /\ 300 < s.n /\ ∃ pb, e = zac pb /\ w.heap.size <= pb /\ zas w' pb zae xl) \/
 (Sy.right s = true /\ ¬ There s p q /\ ∃ pb, e = zac pb /\ w.heap.size <= pb /\ zas w' pb zae xi) \/
 (Sy.right s = false /\ ∃ qb pb, e = zac qb /\ w.heap.size <= qb /\ w.heap.size <= pb /\ zas w' qb zae (zac pb) /\ zas w' pb zar x)
def zh7 (s : Sy.Lts) (p q : Int) (w : World) (x xi xl : Value) (r : Ending) (w' : World) : Prop :=
 Up w w' /\ ((Sy.right s = true /\ There s p q /\ s.n <= 300 /\ ∃ v, r = .returned (.tuple #[v, .nilIface]) /\ zBq s w v w') \/
  (∃ e, r = .returned (.tuple #[.pointer none, e]) /\ zgd s p q w x xi xl e w'))
theorem zxp (s : Sy.Lts) (se : Value) (p q : Int) (a : Addr) (xi xl : Value) (w : World) (hr : Sy.right s = false) (hG : zFl w) (hs : Ls3 w se s.es) (hE : w.cell? ⟨13, 0, none⟩ = some (.iface 335 (.pointer (some a)))) (hl : s.es.length <= maxLen) :
  Calls prog 18 #[zCb s se, .int .i64 p, .int .i64 q] w (zh7 s p q w (.iface 335 (.pointer (some a))) xi xl) := by
 obtain ⟨ao, cap, g, off, rfl, ha, hc⟩ := hs
 have hs : Ls3 w (.slice ao s.es.length cap) s.es := ⟨ao, cap, g, off, rfl, ha, hc⟩
 have HN : Hid (∀ W, Up w W -> Calls prog 73 #[.agg #[.int .i64 s.n, .int .i64 s.m, .int .i64 s.start, .slice ao s.es.length cap]] W (zwr s W (.iface 335 (.pointer (some a))))) := zh (fun W hu => zh6 s _ _ _ W (hs.up hu) (hu.cell hE) hl)
 have HR := zh hr
 have HG := zh hG
 clear hr hs hE hG hl ha hc
 unfold zCb
 go_enter func18, ntmps18
 go_wp2_with (first
  | (go_at_call 73; refine (HN.out _ ((Up.refl w).alloc _)).mono ?_; rintro r w1 ⟨ab, ⟨h1, -⟩ | ⟨-, pb, rfl, ac, ad⟩⟩; (exact absurd (h1.symm.trans HR.out) (by decide)); (have ae := zh ad); (have ag := zh ac); (have aa := zh (((Up.refl w).alloc _).trans ab)); clear ad ac ab; unfold zac)
  | (go_at_call 74; refine (zq1 zae zar _ _ _ ae.out (aa.out.cell HG.out)).mono ?_; rintro r w2 ⟨qb, rfl, ai, af, ah⟩))
 go_ret2
 have h0 := aa.out.size
 exact ⟨aa.out.trans af, .inr ⟨_, rfl, .inr (.inr ⟨HR.out, qb, _, rfl, by omega, by have := ag.out; rw [World.size_alloc] at this; omega, ah, ae.out.up af⟩)⟩⟩
theorem zpd {s : Sy.Lts} {ao : Option Addr} {k cap : Nat} {xt : TypeId} {xv : Value} {w : World} (hr : Sy.right s = true) (hs : Ls3 w (.slice ao k cap) s.es) (hE : w.cell? ⟨13, 0, none⟩ = some (.iface xt xv)) (hl : s.es.length <= maxLen) :
  Calls prog 73 #[.agg #[.int .i64 s.n, .int .i64 s.m, .int .i64 s.start, .slice ao k cap]] (w.alloc (.cells #[.int .i64 s.n, .int .i64 s.m, .int .i64 s.start, .slice ao k cap] 24)) fun r w1 =>
   ∃ B, r = .returned (.tuple #[.pointer (some ⟨B, 0, none⟩), .nilIface]) /\ Up w w1 /\ w1.heap[w.heap.size]? = some (.cells #[.int .i64 s.n, .int .i64 s.m, .int .i64 s.start, .slice ao k cap] 24 (0, 0)) /\ w.heap.size <= B /\ zCg w1 B s := by
 have hu := (Up.refl w).alloc (.cells #[.int .i64 s.n, .int .i64 s.m, .int .i64 s.start, .slice ao k cap] 24)
 refine (zh6 s (.slice ao k cap) xt xv _ (hs.up hu) (hu.cell hE) hl).mono ?_
 rintro r w1 ⟨aa, ⟨-, B, rfl, hB, hg⟩ | ⟨h1, -⟩⟩
 ·have ab := (aa.block _ (by simp)).trans (heap_alloc_new w (.cells #[.int .i64 s.n, .int .i64 s.m, .int .i64 s.start, .slice ao k cap] 24))
  exact ⟨B, rfl, hu.trans aa, ab, by have := hu.size; omega, hg⟩
 ·exact absurd (hr.symm.trans h1) (by decide)
theorem zwv (s : Sy.Lts) (se : Value) (p q : Int) (a : Addr) (xt : TypeId) (xv xl : Value) (w : World) (hr : Sy.right s = true) (hs : Ls3 w se s.es) (hE : w.cell? ⟨13, 0, none⟩ = some (.iface 335 (.pointer (some a))))
  (hI : w.cell? ⟨1, 0, none⟩ = some (.iface xt xv)) (hl : s.es.length <= maxLen) (ht : ¬ There s p q) :
  Calls prog 18 #[zCb s se, .int .i64 p, .int .i64 q] w (zh7 s p q w (.iface 335 (.pointer (some a))) (.iface xt xv) xl) := by
 obtain ⟨ao, cap, rfl⟩ := zaf hs
 have HA := zh (zpd hr hs hE hl)
 have HR := zh hr
 have ae := zh ht
 have af : (decide (p < 0) = true) \/ (decide (p < 0) = false /\ decide (s.n <= p) = true) \/ (decide (p < 0) = false /\ decide (s.n <= p) = false /\ decide (q < 0) = true) \/ (decide (p < 0) = false /\ decide (s.n <= p) = false /\ decide (q < 0) = false /\ decide (s.n <= q) = true) := by
  have ai := ((Sy.zCj s).1 hr).n0
  unfold There at ht
  simp only [decide_eq_true_eq, decide_eq_false_iff_not]
  omega
 clear hr hs hE hl ht
 unfold zCb
 rcases af with q1 | ⟨q1, q2⟩ | ⟨q1, q2, q3⟩ | ⟨q1, q2, q3, q4⟩
 all_goals
  go_enter func18, ntmps18
  go_wp2_with (first
   | (go_at_call 73; refine HA.out.mono ?_; rintro r w1 ⟨B, rfl, aa, ac, -, -⟩; (have cB := (za6 ac).1.1); (have aj := aa.cell hI); (have ad := zh aa); clear aa hI ac)
   | (go_at_call 75; refine (zci zae _ _ _).mono ?_; rintro e w3 ⟨rfl, ab⟩; (have ag := zh (zed ab)); (have ah := zh (show Up w w3 by rw [ab]; exact ad.out.alloc _)); clear ab))
  go_ret2
  exact ⟨ah.out, .inr ⟨_, rfl, .inr (.inl ⟨HR.out, ae.out, _, rfl, ad.out.size, ag.out⟩)⟩⟩
theorem zua (s : Sy.Lts) (se : Value) (p q : Int) (a b : Addr) (xi : Value) (w : World) (hr : Sy.right s = true) (hT : Tab w) (hG : zFl w) (hs : Ls3 w se s.es) (hE : w.cell? ⟨13, 0, none⟩ = some (.iface 335 (.pointer (some a))))
  (hI : w.cell? ⟨2, 0, none⟩ = some (.iface 335 (.pointer (some b)))) (hl : s.es.length <= maxLen) (ht : There s p q) (aa : 300 < s.n) :
  Calls prog 18 #[zCb s se, .int .i64 p, .int .i64 q] w (zh7 s p q w (.iface 335 (.pointer (some a))) xi (.iface 335 (.pointer (some b)))) := by
 obtain ⟨ao, cap, rfl⟩ := zaf hs
 have HA := zh (zpd hr hs hE hl)
 have HK : Hid (∀ W, Up w W -> Calls prog 76 #[.agg #[.int .i64 s.n, .int .i64 s.m, .int .i64 s.start, .slice ao s.es.length cap]] W (fun r w2 => Up W w2 /\ ∃ pb, r = .returned (.tuple #[.slice none 0 0, zac pb]) /\ zas w2 pb zbw (.iface 335 (.pointer (some b))))) :=
  zh (fun W hW => (zru s (.slice ao s.es.length cap) a _ _ W hr aa (hT.up hW) (hW.cell hG) (hs.up hW) (hW.cell hE) (hW.cell hI) hl).mono (by
   rintro r w2 ⟨ab, ⟨-, h1, -⟩ | ⟨-, -, pb, rfl, aq, ac⟩ | ⟨h1, -⟩⟩
   ·exact absurd h1 (by omega)
   ·exact ⟨ab, pb, rfl, ac⟩
   ·exact absurd (h1.symm.trans hr) (by decide)))
 have HR := zh hr
 have ai := zh ht
 have aj := zh aa
 have q1 : decide (p < 0) = false := by unfold There at ht; simp; omega
 have q2 : decide (s.n <= p) = false := by unfold There at ht; simp; omega
 have q3 : decide (q < 0) = false := by unfold There at ht; simp; omega
 have q4 : decide (s.n <= q) = false := by unfold There at ht; simp; omega
 clear hr hs hE hl ht hT hG aa
 unfold zCb
 go_enter func18, ntmps18
 go_wp2_with (first
  | (go_at_call 73; refine HA.out.mono ?_; rintro r w1 ⟨B, rfl, ad, af, -, -⟩; (obtain ⟨⟨cB, cB1, cB2, cB3⟩, -⟩ := za6 af); (have ak := ad.cell hI); (have ag := zh ad); clear ad hI af)
  | (go_at_call 76; refine (HK.out _ ag.out).mono ?_; rintro r w2 ⟨ab, pb, rfl, ac⟩; (have al := zh ac); (have au := ab.cell ak); (have ah := zh (ag.out.trans ab)); clear ac ab; unfold zac)
  | (go_at_call 20; refine (zdm pb b _ (zcg al.out)).mono ?_; rintro e w2 ⟨rfl, rfl⟩)
  | (go_at_call 75; refine (zci zae _ _ _).mono ?_; rintro e w3 ⟨rfl, ae⟩; (have am := zh (zed ae)); (have an := zh (show Up w w3 by rw [ae]; exact ah.out.alloc _)); clear ae))
 go_ret2
 exact ⟨an.out, .inr ⟨_, rfl, .inl ⟨HR.out, ai.out, aj.out, _, rfl, ah.out.size, am.out⟩⟩⟩
theorem zvc (s : Sy.Lts) (se : Value) (p q : Int) (a b : Addr) (xi xl : Value) (w : World) (hr : Sy.right s = true) (hT : Tab w) (hG : zFl w) (hs : Ls3 w se s.es) (hE : w.cell? ⟨13, 0, none⟩ = some (.iface 335 (.pointer (some a))))
  (hI : w.cell? ⟨2, 0, none⟩ = some (.iface 335 (.pointer (some b)))) (hl : s.es.length <= maxLen) (ht : There s p q) (aa : s.n <= 300) :
  Calls prog 18 #[zCb s se, .int .i64 p, .int .i64 q] w (zh7 s p q w (.iface 335 (.pointer (some a))) xi xl) := by
 obtain ⟨ao, cap, rfl⟩ := zaf hs
 have HA := zh (zpd hr hs hE hl)
 have HK : Hid (∀ W, Up w W -> Calls prog 76 #[.agg #[.int .i64 s.n, .int .i64 s.m, .int .i64 s.start, .slice ao s.es.length cap]] W (fun r w2 => Up W w2 /\ ∃ vo vc, r = .returned (.tuple #[.slice vo s.n.toNat vc, .nilIface]) /\ zda w2 (.slice vo s.n.toNat vc) s)) :=
  zh (fun W hW => (zvs s (.slice ao s.es.length cap) a xl W hr aa (hT.up hW) (hW.cell hG) (hs.up hW) (hW.cell hE) hl).mono (by
   rintro r w2 ⟨ab, ⟨-, -, v, vs, rfl, ac, ad⟩ | ⟨-, h1, -⟩ | ⟨h1, -⟩⟩
   ·obtain ⟨vo, vc, rfl⟩ := za1 ac
    exact ⟨ab, vo, vc, rfl, zlv ac ad⟩
   ·exact absurd h1 (by omega)
   ·exact absurd (h1.symm.trans hr) (by decide)))
 have HR := zh hr
 have am := zh ht
 have ah := zh aa
 have HT := zh hT
 have av := @run_makeMap prog
 have q1 : decide (p < 0) = false := by unfold There at ht; simp; omega
 have q2 : decide (s.n <= p) = false := by unfold There at ht; simp; omega
 have q3 : decide (q < 0) = false := by unfold There at ht; simp; omega
 have q4 : decide (s.n <= q) = false := by unfold There at ht; simp; omega
 clear hr hs hE hl ht hT hG aa
 unfold zCb
 go_enter func18, ntmps18
 go_wp2_with (first
  | (go_at_call 73; refine HA.out.mono ?_; rintro r w1 ⟨B, rfl, ae, ai, -, aj⟩; (obtain ⟨⟨cB, cB1, cB2, cB3⟩, -⟩ := za6 ai); (have an := ae.cell hI); (have ak := zh ae); (have aq := zh aj); clear ae hI ai aj)
  | (go_at_call 76; refine (HK.out _ ak.out).mono ?_; rintro r w2 ⟨ab, vo, vc, rfl, al⟩; (have au := zh al); (have aw := ab.cell an); (have af := zh (ak.out.trans ab)); (have ag := zh (aq.out.up ab)); clear al ab)
  | (go_at_call 20; refine (zqc b _).mono ?_; rintro e w3 ⟨rfl, rfl⟩))
 go_ret2
 have hL : zIy w2 B (.slice vo s.n.toNat vc) s := ⟨ag.out, au.out, HT.out.up af.out, (Sy.zCj s).1 HR.out, by have := ah.out; omega⟩
 exact ⟨((af.out.alloc _).alloc _).alloc _, .inl ⟨HR.out, am.out, ah.out, _, rfl, w2, _, B, _, _, _, rfl, af.out, hL, by simpa using zAd⟩⟩
theorem zwd (s : Sy.Lts) (se : Value) (p q : Int) (a b : Addr) (xt : TypeId) (xv : Value) (w : World) (hT : Tab w) (hG : zFl w) (hs : Ls3 w se s.es) (hE : w.cell? ⟨13, 0, none⟩ = some (.iface 335 (.pointer (some a))))
  (hI : w.cell? ⟨1, 0, none⟩ = some (.iface xt xv)) (hL : w.cell? ⟨2, 0, none⟩ = some (.iface 335 (.pointer (some b)))) (hl : s.es.length <= maxLen) :
  Calls prog 18 #[zCb s se, .int .i64 p, .int .i64 q] w (zh7 s p q w (.iface 335 (.pointer (some a))) (.iface xt xv) (.iface 335 (.pointer (some b)))) := by
 cases hr : Sy.right s
 ·exact zxp s se p q a _ _ w hr hG hs hE hl
 ·by_cases ht : There s p q
  ·by_cases h3 : s.n <= 300
   ·exact zvc s se p q a b _ _ w hr hT hG hs hE hL hl ht h3
   ·exact zua s se p q a b _ w hr hT hG hs hE hL hl ht (by omega)
  ·exact zwv s se p q a xt xv _ w hr hs hE hI hl ht
end Go.Proofs.YtoaoajfjcfcmhaaGreatDoor
namespace Go.Proofs.YtoaoajfjcfcmhaaGreatDoor
open Go.RowKit Go.Maps
def zxy (s : Sy.Lts) (p q : Nat) (w : World) (r : Ending) (w' : World) : Prop :=
 (Rd.rank s p q < 0 /\ ∃ ao cap, r = .returned (.tuple #[.agg #[.bool true, .slice ao s.n.toNat cap, .slice none 0 0], .nilIface]) /\ w'.ownsRow w.heap.size 3 1 (.slice ao s.n.toNat cap) s.n.toNat (ints (Rd.R s (Rd.last s)))) \/
 (0 <= Rd.rank s p q /\ (Dt.F s p q).length <= 5000 /\ ∃ ao cap, r = .returned (.tuple #[.agg #[.bool false, .slice none 0 0, .slice ao (Dt.F s p q).length cap], .nilIface]) /\ w'.ownsRow w.heap.size 81 2 (.slice ao (Dt.F s p q).length cap) (Dt.F s p q).length (za7 (Dt.F s p q)))
def zf5 : Value := .agg #[.bool false, .slice none 0 0, .slice none 0 0]
def zg5 (s : Sy.Lts) (p q : Int) (w : World) (x xi xl xm : Value) (r : Ending) (w' : World) : Prop :=
 Up w w' /\ ((Sy.right s = true /\ There s p q /\ s.n <= 300 /\ zxy s p.toNat q.toNat w r w') \/
  (Sy.right s = true /\ There s p q /\ s.n <= 300 /\ 0 <= Rd.rank s p.toNat q.toNat /\ 5000 < (Dt.F s p.toNat q.toNat).length /\ ∃ pb, r = .returned (.tuple #[zf5, zac pb]) /\ w.heap.size <= pb /\ zas w' pb zae xm) \/
  (∃ e, r = .returned (.tuple #[zf5, e]) /\ zgd s p q w x xi xl e w'))
structure zD2 (w : World) (a b i n m : Addr) : Prop where
 sys : w.cell? ⟨13, 0, none⟩ = some (.iface 335 (.pointer (some a)))
 long : w.cell? ⟨2, 0, none⟩ = some (.iface 335 (.pointer (some b)))
 idx : w.cell? ⟨1, 0, none⟩ = some (.iface 335 (.pointer (some i)))
 non : w.cell? ⟨0, 0, none⟩ = some (.iface 335 (.pointer (some n)))
 lim : w.cell? ⟨3, 0, none⟩ = some (.iface 335 (.pointer (some m)))
 ne : m ≠ n
 bn : ∃ c t, w.heap[n.block]? = some (.cells c t (0, 0))
 bm : ∃ c t, w.heap[m.block]? = some (.cells c t (0, 0))
theorem zD2.up {w w1 : World} {a b i n m : Addr} (h : zD2 w a b i n m) (hu : Up w w1) : zD2 w1 a b i n m := by
 obtain ⟨c, t, hc⟩ := h.bn
 obtain ⟨c', t', aa⟩ := h.bm
 exact ⟨hu.cell h.sys, hu.cell h.long, hu.cell h.idx, hu.cell h.non, hu.cell h.lim, h.ne, ⟨c, t, (hu.block _ (za0 hc)).trans hc⟩, ⟨c', t', (hu.block _ (za0 aa)).trans aa⟩⟩
theorem zD2.other {w : World} {a b i n m : Addr} {pb : Nat} {l : ByteArray} (h : zD2 w a b i n m) (hf : zas w pb l (.iface 335 (.pointer (some m)))) :
  Calls prog 20 #[zac pb, .iface 335 (.pointer (some n))] w fun r w' => r = .returned (.bool false) /\ w = w' := by
 obtain ⟨c, t, hc⟩ := h.bn
 obtain ⟨c', t', aa⟩ := h.bm
 exact zep pb n m c' c t' t w (zcg hf) h.ne aa hc
theorem zgd.fault {s : Sy.Lts} {p q : Int} {w w' : World} {x xi xl e : Value} (h : zgd s p q w x xi xl e w') : ∃ qb, e = zac qb := by
 rcases h with ⟨_, _, _, pb, e, _⟩ | ⟨_, _, pb, e, _⟩ | ⟨_, qb, pb, e, _⟩
 ·exact ⟨pb, e⟩
 ·exact ⟨pb, e⟩
 ·exact ⟨qb, e⟩
theorem zcs (w : World) (A : Obj) (o1 : Array Value) (t : TypeId) : ((w.alloc A).alloc (.cells o1 t)).heap[w.heap.size + 1]? = some (.cells o1 t (0, 0)) := by
 have h := heap_alloc_new (w.alloc A) (.cells o1 t)
 rw [World.size_alloc] at h
 exact h
theorem zah {w : World} {b : Nat} {a1 a2 a3 : Value} {e : TypeId} (h : w.heap[b]? = some (.cells #[a1, a2, a3] e (0, 0))) :
  (w.cell? ⟨b, 0, none⟩ = some a1 /\ w.cell? ⟨b, 1, none⟩ = some a2 /\ w.cell? ⟨b, 2, none⟩ = some a3) /\ w.frozen? ⟨b, 0, none⟩ = false /\ w.frozen? ⟨b, 1, none⟩ = false /\ w.frozen? ⟨b, 2, none⟩ = false := by
 refine ⟨⟨?_, ?_, ?_⟩, ?_, ?_, ?_⟩ <;> simp [World.cell?, World.frozen?, h]
theorem zbz {W : World} {b : Nat} {a1 a2 a3 : Value} {e : TypeId} (h : W.heap[b]? = some (.cells #[a1, a2, a3] e (0, 0))) (u1 u2 u3 : Value) :
  (((W.setCell ⟨b, 0, none⟩ u1).setCell ⟨b, 1, none⟩ u2).setCell ⟨b, 2, none⟩ u3).cell? ⟨b, 0, none⟩ = some u1 /\ (((W.setCell ⟨b, 0, none⟩ u1).setCell ⟨b, 1, none⟩ u2).setCell ⟨b, 2, none⟩ u3).cell? ⟨b, 1, none⟩ = some u2 /\
  (((W.setCell ⟨b, 0, none⟩ u1).setCell ⟨b, 1, none⟩ u2).setCell ⟨b, 2, none⟩ u3).cell? ⟨b, 2, none⟩ = some u3 /\ Turned (fun k => k = b) W (((W.setCell ⟨b, 0, none⟩ u1).setCell ⟨b, 1, none⟩ u2).setCell ⟨b, 2, none⟩ u3) := by
 have aa : Row W b e 3 [a1, a2, a3] := ⟨_, h, rfl, by simp, rfl⟩
 have h1 := ((aa.set 0 u1).set 1 u2).set 2 u3
 exact ⟨h1.cell rfl, h1.cell rfl, h1.cell rfl, (((Turned.refl (fun k => k = b) W).setCell (p := ⟨b, 0, none⟩) (.inl rfl) u1).setCell (p := ⟨b, 1, none⟩) (.inl rfl) u2).setCell (p := ⟨b, 2, none⟩) (.inl rfl) u3⟩
theorem zea {w W W2 : World} {b : Nat} (hu : Up w W) (ht : Turned (fun k => k = b) W W2) (hb : w.heap.size <= b) : Up w W2 := by
 have h1 : Turned (fun j => w.heap.size <= j) w W2 := (Turned.below hu).trans ht (fun i hi e => by rw [e]; exact hb)
 exact ⟨h1.os, h1.tape, h1.output, h1.size, fun i hi => h1.block i hi (by omega)⟩
theorem zas.turned {W W2 : World} {b pb : Nat} {l : ByteArray} {v : Value} (h : zas W pb l v) (ht : Turned (fun k => k = b) W W2) (hb : b < pb) : zas W2 pb l v :=
 (ht.block pb (za0 h) (by omega)).trans h
theorem zgd.turned {s : Sy.Lts} {p q : Int} {w0 w w1 w2 : World} {b : Nat} {x xi xl e : Value} (h : zgd s p q w x xi xl e w1) (ht : Turned (fun k => k = b) w1 w2) (h0 : w0.heap.size <= w.heap.size) (hb : b < w.heap.size) : zgd s p q w0 x xi xl e w2 := by
 rcases h with ⟨h1, h2, h3, pb, e, h4, h5⟩ | ⟨h1, h2, pb, e, h4, h5⟩ | ⟨h1, qb, pb, e, h4, h5, h6, h7⟩
 ·exact .inl ⟨h1, h2, h3, pb, e, by omega, h5.turned ht (by omega)⟩
 ·exact .inr (.inl ⟨h1, h2, pb, e, by omega, h5.turned ht (by omega)⟩)
 ·exact .inr (.inr ⟨h1, qb, pb, e, by omega, by omega, h6.turned ht (by omega), h7.turned ht (by omega)⟩)
theorem zzc (s : Sy.Lts) (se : Value) (p q : Int) (a b i n m : Addr) (w : World) (hT : Tab w) (hG : zFl w) (hs : Ls3 w se s.es) (hC : zD2 w a b i n m) (hl : s.es.length <= maxLen) (ad : ¬ (Sy.right s = true /\ There s p q /\ s.n <= 300)) :
  Calls prog 7 #[zCb s se, .int .i64 p, .int .i64 q] w (zg5 s p q w (.iface 335 (.pointer (some a))) (.iface 335 (.pointer (some i))) (.iface 335 (.pointer (some b))) (.iface 335 (.pointer (some m)))) := by
 obtain ⟨ao, cap, rfl⟩ := zaf hs
 have HK : Hid (∀ W, Up w W -> Calls prog 18 #[.agg #[.int .i64 s.n, .int .i64 s.m, .int .i64 s.start, .slice ao s.es.length cap], .int .i64 p, .int .i64 q] W (fun r w2 => Up W w2 /\ ∃ qb, r = .returned (.tuple #[.pointer none, zac qb]) /\
   zgd s p q W (.iface 335 (.pointer (some a))) (.iface 335 (.pointer (some i))) (.iface 335 (.pointer (some b))) (zac qb) w2)) :=
  zh (fun W hW => (zwd s (.slice ao s.es.length cap) p q a b _ _ W (hT.up hW) (hW.cell hG) (hs.up hW) (hC.up hW).sys (hC.up hW).idx (hC.up hW).long hl).mono (by
   rintro r w2 ⟨aa, ⟨h1, h2, h3, -⟩ | ⟨e, rfl, hb⟩⟩
   ·exact absurd ⟨h1, h2, h3⟩ ad
   ·obtain ⟨qb, rfl⟩ := hb.fault
    exact ⟨aa, qb, rfl, hb⟩))
 obtain ⟨L, hL⟩ := nm (s.es.length)
 rw [<- hL] at HK
 unfold zCb
 rw [<- hL]
 have ab : Hid (∀ A B, Up w ((w.alloc A).alloc B)) := zh (fun A B => ((Up.refl w).alloc A).alloc B)
 clear hT hG hs hC hl ad hL
 go_enter func7, ntmps7
 go_wp2_with (go_at_call 18; refine (HK.out _ (ab.out _ _)).mono ?_; rintro r w2 ⟨aa, qb, rfl, hb⟩; (have ac := (aa.block (w.heap.size + 1) (by simp)).trans (zcs w _ _ _)); (obtain ⟨⟨v0, v1, v2⟩, vf0, vf1, vf2⟩ := zah ac); (have ae := zh ac); (have af := zh ((ab.out _ _).trans aa)); (have HB := zh hb); clear aa hb ac; unfold zac)
 obtain ⟨z0, z1, z2, hT⟩ := zbz ae.out (.bool false) (.slice none 0 0) (.slice none 0 0)
 refine bodyPost_ret (v := .tuple #[.agg #[.bool false, .slice none 0 0, .slice none 0 0], .iface 70 (.pointer (some ⟨qb, 0, none⟩))]) (by simp [results, results7, go_sem, z0, z1, z2]) rfl ?_
 have ag := zea af.out hT (by omega)
 have ah := HB.out
 exact ⟨ag, .inr (.inr ⟨_, rfl, ah.turned hT (ab.out _ _).size (by simp)⟩)⟩
theorem zeb.base {w0 W w' : World} {s : Sy.Lts} {p q : Nat} {xn xm : Value} {r : Ending} (h : zeb w0 s p q xn xm r w') (hu : Up W w0) : zeb W s p q xn xm r w' := by
 have hs := hu.size
 obtain ⟨h1, h2⟩ := h
 refine ⟨hu.trans h1, ?_⟩
 rcases h2 with ⟨k, pb, e, hb, hf⟩ | ⟨k, k2, pb, e, hb, hf⟩ | ⟨k, k2, ao, cap, e, ho⟩
 ·exact .inl ⟨k, pb, e, by omega, hf⟩
 ·exact .inr (.inl ⟨k, k2, pb, e, by omega, hf⟩)
 ·exact .inr (.inr ⟨k, k2, ao, cap, e, za8 ho hs⟩)
def zkm (s : Sy.Lts) (p q : Nat) (W : World) (xn xm : Value) (r : Ending) (w2 : World) : Prop :=
 Up W w2 /\ ∃ tb, r = .returned (.tuple #[.pointer (some ⟨tb, 0, none⟩), .nilIface]) /\ Calls prog 19 #[.pointer (some ⟨tb, 0, none⟩), .int .i64 (p : Nat), .int .i64 (q : Nat)] w2 (zeb W s p q xn xm)
theorem zlh (s : Sy.Lts) (se : Value) (p q : Nat) (a b i n m : Addr) (w : World) (hT : Tab w) (hG : zFl w) (hs : Ls3 w se s.es) (hC : zD2 w a b i n m) (hl : s.es.length <= maxLen) (hr : Sy.right s = true) (ht : There s p q) (h3 : s.n <= 300) :
  Calls prog 18 #[zCb s se, .int .i64 (p : Nat), .int .i64 (q : Nat)] w (zkm s p q w (.iface 335 (.pointer (some n))) (.iface 335 (.pointer (some m)))) := by
 refine (zvc s se p q a b undef undef w hr hT hG hs hC.sys hC.long hl ht h3).mono ?_
 rintro r w2 ⟨ab, ⟨-, -, -, v, rfl, w0, tb, B, rv, ma, mk, rfl, hu, hL, aa⟩ | ⟨e, rfl, hb⟩⟩
 ·have hp : p < s.n.toNat := by unfold There at ht; omega
  have hq : q < s.n.toNat := by unfold There at ht; omega
  exact ⟨ab, tb, rfl, (zpg hL aa (zvq s) hp hq (hu.cell hC.non) (hu.cell hC.lim)).mono (fun r w' h => h.base hu)⟩
 ·rcases hb with ⟨_, _, k, _⟩ | ⟨_, k, _⟩ | ⟨k, _⟩
  ·omega
  ·exact absurd ht k
  ·exact absurd (hr.symm.trans k) (by decide)
theorem zkd (w : World) (A : Array Value) (t : TypeId) (B : Obj) : ((w.alloc (.cells A t)).alloc B).heap[w.heap.size]? = some (.cells A t (0, 0)) :=
 (Below.heap_alloc (w.alloc (.cells A t)) B _ (by simp)).trans (heap_alloc_new w _)
theorem zq6 (s : Sy.Lts) (se : Value) (p q : Nat) (a b i n m : Addr) (x xi xl xm : Value) (w : World) (hT : Tab w) (hG : zFl w) (hs : Ls3 w se s.es) (hC : zD2 w a b i n m) (hl : s.es.length <= maxLen) (hr : Sy.right s = true) (ht : There s p q) (h3 : s.n <= 300) (h0 : Rd.rank s p q < 0) :
  Calls prog 7 #[zCb s se, .int .i64 (p : Nat), .int .i64 (q : Nat)] w (zg5 s p q w x xi xl xm) := by
 obtain ⟨ao, cap, rfl⟩ := zaf hs
 have HK : Hid (∀ W, Up w W -> Calls prog 18 #[.agg #[.int .i64 s.n, .int .i64 s.m, .int .i64 s.start, .slice ao s.es.length cap], .int .i64 (p : Nat), .int .i64 (q : Nat)] W (zkm s p q W (.iface 335 (.pointer (some n))) (.iface 335 (.pointer (some m))))) :=
  zh (fun W hW => zlh s (.slice ao s.es.length cap) p q a b i n m W (hT.up hW) (hW.cell hG) (hs.up hW) (hC.up hW) hl hr ht h3)
 have ak : Hid (∀ W, Up w W -> Calls prog 21 #[.agg #[.int .i64 s.n, .int .i64 s.m, .int .i64 s.start, .slice ao s.es.length cap]] W (znj s W s.n.toNat)) :=
  zh (fun W hW => zsf s (.slice ao s.es.length cap) _ _ W hr (hs.up hW) (hC.up hW).sys hl)
 have aa := zh (And.intro hr (And.intro ht (And.intro h3 h0)))
 have aG := zh hC
 obtain ⟨L, hL⟩ := nm (s.es.length)
 rw [<- hL] at HK ak
 unfold zCb
 rw [<- hL]
 obtain ⟨N, hN⟩ := nm (s.n.toNat)
 rw [<- hN] at ak
 have HN := zh hN
 have ah : Hid (∀ A B, Up w ((w.alloc A).alloc B)) := zh (fun A B => ((Up.refl w).alloc A).alloc B)
 have gn := hC.non
 clear hT hG hs hC hl hr ht h3 h0 hL hN
 go_enter func7, ntmps7
 go_wp2_with (first
  | (go_at_call 18; refine (HK.out _ (ah.out _ _)).mono ?_; rintro r w2 ⟨ai, tb, rfl, au⟩; (have av := (ai.block (w.heap.size + 1) (by simp)).trans (zcs w _ _ _)); (have aw := (ai.block w.heap.size (by simp; omega)).trans (zkd w _ _ _)); (have aH := zh av); (have aI := zh aw); (have aJ := zh ((ah.out _ _).trans ai)); (have ay := zh au); clear ai au av aw)
  | fail)
 refine ay.out.mono ?_
 rintro r w3 ⟨aj, ⟨-, pb, rfl, aA, ax⟩ | ⟨h1, -⟩ | ⟨h1, -⟩⟩
 rotate_left
 ·exact absurd h1 (by have := aa.out.2.2.2; omega)
 ·exact absurd h1 (by have := aa.out.2.2.2; omega)
 have aK := zh (ah.out (.cells #[.int .i64 s.n, .int .i64 s.m, .int .i64 s.start, .slice ao L cap] 24) (.cells #[.bool false, .slice none 0 0, .slice none 0 0] 30)).size
 have ab : Up w w3 := (ah.out _ _).trans aj
 have gn3 := ((Up.refl w3).alloc (.cells #[.pointer none] 70)).cell (ab.cell gn)
 have ac := (aj.block w.heap.size (by simp; omega)).trans (zkd w _ _ _)
 have ad := (aj.block (w.heap.size + 1) (by simp)).trans (zcs w _ _ _)
 have aB := zh (ax.up ((Up.refl w3).alloc (.cells #[.pointer none] 70)))
 have al := zh (ab.alloc (.cells #[.pointer none] 70))
 have am := zh ((((Up.refl w3).alloc (.cells #[.pointer none] 70)).block _ (za0 ac)).trans ac)
 have ae := zh ((((Up.refl w3).alloc (.cells #[.pointer none] 70)).block _ (za0 ad)).trans ad)
 obtain ⟨⟨s0, s1, s2, s3⟩, -⟩ := za6 am.out
 clear aj ab aA ax ac ad gn
 unfold zac
 go_wp2_with (first
  | (go_at_call 20; refine (zdm pb n _ (zcg aB.out)).mono ?_; rintro e w4 ⟨rfl, rfl⟩)
  | (go_at_call 21; refine (ak.out _ al.out).mono ?_; rintro r w5 ⟨a1, c1, rfl, aC, an⟩; (have af := (an.block _ (za0 ae.out)).trans ae.out); (obtain ⟨⟨v0, v1, v2⟩, vf0, vf1, vf2⟩ := zah af); (have aq := zh af); (have aD := zh (al.out.trans an)); clear an af))
 obtain ⟨z0, z1, z2, hT⟩ := zbz aq.out (.bool true) (.slice a1 N c1) (.slice none 0 0)
 refine bodyPost_ret (v := .tuple #[.agg #[.bool true, .slice a1 N c1, .slice none 0 0], .nilIface]) (by simp [results, results7, go_sem, z0, z1, z2]) rfl ?_
 have aE := zea aD.out hT (by omega)
 obtain ⟨y1, y2, y3, y4⟩ := aa.out
 have aF := al.out.size
 have ag : World.ownsRow _ _ _ _ _ _ _ := aC.out
 refine ⟨aE, .inl ⟨y1, y2, y3, .inl ⟨by simpa using y4, a1, c1, by rw [<- HN.out], ?_⟩⟩⟩
 rw [<- HN.out]
 refine za8 (za2 ag (fun g hg => hT.block g (za3 ag hg) (fun e => ?_))) aF
 have h1 := (ag.lt g hg).1
 have h2 := za0 ae.out
 omega
theorem zwt (s : Sy.Lts) (se : Value) (p q : Nat) (a b i n m : Addr) (x xi xl : Value) (w : World) (hT : Tab w) (hG : zFl w) (hs : Ls3 w se s.es) (hC : zD2 w a b i n m) (hl : s.es.length <= maxLen) (hr : Sy.right s = true) (ht : There s p q) (h3 : s.n <= 300) (h0 : 0 <= Rd.rank s p q) (ab : 5000 < (Dt.F s p q).length) :
  Calls prog 7 #[zCb s se, .int .i64 (p : Nat), .int .i64 (q : Nat)] w (zg5 s p q w x xi xl (.iface 335 (.pointer (some m)))) := by
 obtain ⟨ao, cap, rfl⟩ := zaf hs
 have HK : Hid (∀ W, Up w W -> Calls prog 18 #[.agg #[.int .i64 s.n, .int .i64 s.m, .int .i64 s.start, .slice ao s.es.length cap], .int .i64 (p : Nat), .int .i64 (q : Nat)] W (zkm s p q W (.iface 335 (.pointer (some n))) (.iface 335 (.pointer (some m))))) :=
  zh (fun W hW => zlh s (.slice ao s.es.length cap) p q a b i n m W (hT.up hW) (hW.cell hG) (hs.up hW) (hC.up hW) hl hr ht h3)
 have HG := zh hG
 have ac := zh (And.intro hr (And.intro ht (And.intro h3 (And.intro h0 ab))))
 have ay := zh hC
 obtain ⟨L, hL⟩ := nm (s.es.length)
 rw [<- hL] at HK
 unfold zCb
 rw [<- hL]
 obtain ⟨N, hN⟩ := nm (s.n.toNat)
 have HN := zh hN
 have aj : Hid (∀ A B, Up w ((w.alloc A).alloc B)) := zh (fun A B => ((Up.refl w).alloc A).alloc B)
 have gn := hC.non
 clear hT hG hs hC hl hr ht h3 h0 ab hL hN
 go_enter func7, ntmps7
 go_wp2_with (first
  | (go_at_call 18; refine (HK.out _ (aj.out _ _)).mono ?_; rintro r w2 ⟨ag, tb, rfl, an⟩; (have aq := (ag.block (w.heap.size + 1) (by simp)).trans (zcs w _ _ _)); (have au := (ag.block w.heap.size (by simp; omega)).trans (zkd w _ _ _)); (have aK := zh aq); (have aL := zh au); (have aM := zh ((aj.out _ _).trans ag)); (have aA := zh an); clear ag an aq au)
  | fail)
 refine aA.out.mono ?_
 rintro r w3 ⟨ak, ⟨h1, -⟩ | ⟨-, -, pb, rfl, al, av⟩ | ⟨-, h1, -⟩⟩
 ·exact absurd h1 (by have := ac.out.2.2.2.1; omega)
 rotate_left
 ·exact absurd h1 (by have := ac.out.2.2.2.2; omega)
 have aa : Up w w3 := (aj.out _ _).trans ak
 have gn3 := ((Up.refl w3).alloc (.cells #[.pointer none] 70)).cell (aa.cell gn)
 have af := (ak.block (w.heap.size + 1) (by simp)).trans (zcs w _ _ _)
 have aB := zh (ay.out.up (aa.alloc (.cells #[.pointer none] 70)))
 have aw := zh av
 have ax := zh aa
 have ad := zh af
 have aC : Hid (w.heap.size + 2 <= pb) := zh (by simpa using al)
 clear ak aa al av af gn
 unfold zac
 have aD : Hid (Calls prog 20 #[.iface 70 (.pointer (some ⟨pb, 0, none⟩)), .iface 335 (.pointer (some n))] (w3.alloc (.cells #[.pointer none] 70)) fun r w' => r = .returned (.bool false) /\ (w3.alloc (.cells #[.pointer none] 70)) = w') := zh (aB.out.other (aw.out.up ((Up.refl w3).alloc _)))
 go_upto_region 10 with (first
  | (go_at_call 20; refine aD.out.mono ?_; rintro e w4 ⟨rfl, rfl⟩)
  | (go_at_call 22; refine (zyc ⟨pb, 0, none⟩ (.pointer none) w3 (ax.out.cell HG.out)).mono ?_; rintro e w5 ⟨rfl, aN, ah⟩))
 have ae := (ah.block _ (za0 ad.out)).trans ad.out
 obtain ⟨⟨v0, v1, v2⟩, vf0, vf1, vf2⟩ := zah ae
 have am := zh ae
 have aE := zh (ax.out.trans ah)
 have aF := zh (aw.out.up ah)
 clear ae ah gn3
 have aG : w.heap.size + 1 < w3.heap.size := za0 ad.out
 have aH : w3.heap.size ≠ w.heap.size + 1 := by omega
 have aI : w.heap.size + 1 ≠ w3.heap.size := by omega
 go_region
 obtain ⟨z0, z1, z2, hT⟩ := zbz am.out (.bool false) (.slice none 0 0) (.slice none 0 0)
 have ai := hT.drew
 generalize ((w5.setCell ⟨w.heap.size + 1, 0, none⟩ (.bool false)).setCell ⟨w.heap.size + 1, 1, none⟩ (.slice none 0 0)).setCell ⟨w.heap.size + 1, 2, none⟩ (.slice none 0 0) = W9 at z0 z1 z2 hT ai ⊢
 have z0' : W9.drew.cell? ⟨w.heap.size + 1, 0, none⟩ = some (.bool false) := z0
 have z1' : W9.drew.cell? ⟨w.heap.size + 1, 1, none⟩ = some (.slice none 0 0) := z1
 have z2' : W9.drew.cell? ⟨w.heap.size + 1, 2, none⟩ = some (.slice none 0 0) := z2
 generalize W9.drew = W8 at z0' z1' z2' ai ⊢
 go_wp2_with fail
 refine bodyPost_ret (v := .tuple #[.agg #[.bool false, .slice none 0 0, .slice none 0 0], .iface 70 (.pointer (some ⟨pb, 0, none⟩))]) (by simp [results, results7, go_sem, z0', z1', z2']) rfl ?_
 have aJ := zea aE.out ai (by omega)
 obtain ⟨y1, y2, y3, y4, y5⟩ := ac.out
 have al := aC.out
 exact ⟨aJ, .inr (.inl ⟨y1, y2, y3, by simpa using y4, by simpa using y5, pb, rfl, by omega, aF.out.turned ai (by omega)⟩)⟩
theorem zpr (s : Sy.Lts) (se : Value) (p q : Nat) (a b i n m : Addr) (x xi xl xm : Value) (w : World) (hT : Tab w) (hG : zFl w) (hs : Ls3 w se s.es) (hC : zD2 w a b i n m) (hl : s.es.length <= maxLen) (hr : Sy.right s = true) (ht : There s p q) (h3 : s.n <= 300) (h0 : 0 <= Rd.rank s p q) (ac : (Dt.F s p q).length <= 5000) :
  Calls prog 7 #[zCb s se, .int .i64 (p : Nat), .int .i64 (q : Nat)] w (zg5 s p q w x xi xl xm) := by
 obtain ⟨ao, cap, rfl⟩ := zaf hs
 have HK : Hid (∀ W, Up w W -> Calls prog 18 #[.agg #[.int .i64 s.n, .int .i64 s.m, .int .i64 s.start, .slice ao s.es.length cap], .int .i64 (p : Nat), .int .i64 (q : Nat)] W (zkm s p q W (.iface 335 (.pointer (some n))) (.iface 335 (.pointer (some m))))) :=
  zh (fun W hW => zlh s (.slice ao s.es.length cap) p q a b i n m W (hT.up hW) (hW.cell hG) (hs.up hW) (hC.up hW) hl hr ht h3)
 have HG := zh hG
 have ad := zh (And.intro hr (And.intro ht (And.intro h3 (And.intro h0 ac))))
 have ay := zh hC
 obtain ⟨L, hL⟩ := nm (s.es.length)
 rw [<- hL] at HK
 unfold zCb
 rw [<- hL]
 obtain ⟨N, hN⟩ := nm (s.n.toNat)
 have HN := zh hN
 have ai : Hid (∀ A B, Up w ((w.alloc A).alloc B)) := zh (fun A B => ((Up.refl w).alloc A).alloc B)
 have gn := hC.non
 clear hT hG hs hC hl hr ht h3 h0 ac hL hN
 go_enter func7, ntmps7
 go_wp2_with (first
  | (go_at_call 18; refine (HK.out _ (ai.out _ _)).mono ?_; rintro r w2 ⟨ah, tb, rfl, al⟩; (have am := (ah.block (w.heap.size + 1) (by simp)).trans (zcs w _ _ _)); (have an := (ah.block w.heap.size (by simp; omega)).trans (zkd w _ _ _)); (have aA := zh am); (have aB := zh an); (have aC := zh ((ai.out _ _).trans ah)); (have au := zh al); clear ah al am an)
  | fail)
 refine au.out.mono ?_
 rintro r w3 ⟨aj, ⟨h1, -⟩ | ⟨-, h1, -⟩ | ⟨-, -, fo, fc, rfl, aa⟩⟩
 ·exact absurd h1 (by have := ad.out.2.2.2.1; omega)
 ·exact absurd h1 (by have := ad.out.2.2.2.2; omega)
 have ae : Up w w3 := (ai.out _ _).trans aj
 have gn3 := ((Up.refl w3).alloc (.cells #[.pointer none] 70)).cell (ae.cell gn)
 have af := (aj.block (w.heap.size + 1) (by simp)).trans (zcs w _ _ _)
 have ag := (((Up.refl w3).alloc (.cells #[.pointer none] 70)).block _ (za0 af)).trans af
 obtain ⟨⟨v0, v1, v2⟩, vf0, vf1, vf2⟩ := zah ag
 have ak := zh ag
 have av := zh (ae.alloc (.cells #[.pointer none] 70))
 obtain ⟨K, hK⟩ := nm ((Dt.F s p q).length)
 have ab := ((Up.refl w3).alloc (.cells #[.pointer none] 70)).owns aa
 rw [<- hK] at ab ⊢
 have aw := zh ab
 have aq := zh hK
 clear aj ae aa ab af ag gn hK
 go_wp2_with (first
  | (go_at_call 20; refine (zqc n _).mono ?_; rintro e w4 ⟨rfl, rfl⟩)
  | (go_at_call 22; refine (zno _ _).mono ?_; rintro e w5 ⟨rfl, rfl⟩))
 obtain ⟨z0, z1, z2, hT⟩ := zbz ak.out (.bool false) (.slice none 0 0) (.slice fo K fc)
 refine bodyPost_ret (v := .tuple #[.agg #[.bool false, .slice none 0 0, .slice fo K fc], .nilIface]) (by simp [results, results7, go_sem, z0, z1, z2]) rfl ?_
 have ax := zea av.out hT (by omega)
 obtain ⟨y1, y2, y3, y4, y5⟩ := ad.out
 have aa := aw.out
 refine ⟨ax, .inl ⟨y1, y2, y3, .inr ⟨by simpa using y4, by simpa using y5, fo, fc, by simp only [Int.toNat_natCast, <- aq.out], ?_⟩⟩⟩
 simp only [Int.toNat_natCast, <- aq.out]
 refine za8 (za2 aa (fun g hg => hT.block g (za3 aa hg) (fun e => ?_))) (by simp; omega)
 have h1 := (aa.lt g hg).1
 simp at h1
 omega
theorem zo0 (s : Sy.Lts) (se : Value) (p q : Int) (a b i n m : Addr) (w : World) (hT : Tab w) (hG : zFl w) (hs : Ls3 w se s.es) (hC : zD2 w a b i n m) (hl : s.es.length <= maxLen) :
  Calls prog 7 #[zCb s se, .int .i64 p, .int .i64 q] w (zg5 s p q w (.iface 335 (.pointer (some a))) (.iface 335 (.pointer (some i))) (.iface 335 (.pointer (some b))) (.iface 335 (.pointer (some m)))) := by
 by_cases hgood : Sy.right s = true /\ There s p q /\ s.n <= 300
 ·obtain ⟨hr, ht, h3⟩ := hgood
  obtain ⟨P, rfl⟩ : ∃ P : Nat, p = (P : Nat) := ⟨p.toNat, by unfold There at ht; omega⟩
  obtain ⟨Q, rfl⟩ : ∃ Q : Nat, q = (Q : Nat) := ⟨q.toNat, by unfold There at ht; omega⟩
  by_cases h0 : Rd.rank s P Q < 0
  ·exact zq6 s se P Q a b i n m _ _ _ _ w hT hG hs hC hl hr ht h3 h0
  ·by_cases hlong : 5000 < (Dt.F s P Q).length
   ·exact zwt s se P Q a b i n m _ _ _ w hT hG hs hC hl hr ht h3 (by omega) hlong
   ·exact zpr s se P Q a b i n m _ _ _ _ w hT hG hs hC hl hr ht h3 (by omega) (by omega)
 ·exact zzc s se p q a b i n m w hT hG hs hC hl hgood
def zf2 : Sy.Lts := ⟨4, 2, 0, [(0, 1, 1), (1, 1, 2), (3, 1, 2)]⟩
theorem zdg : Sy.right zf2 = true := by decide
theorem zhh : 0 <= Rd.rank zf2 0 1 := by decide +kernel
theorem zf0 : Rd.rank zf2 1 3 < 0 := by decide +kernel
theorem zg4 : (Dt.F zf2 0 1).length = 3 := by decide +kernel
def zl3 : Array Value := #[.int .i64 0, .int .i64 1, .int .i64 1, .int .i64 1, .int .i64 1, .int .i64 2, .int .i64 3, .int .i64 1, .int .i64 2]
theorem zps {w W : World} (hu : Up (w.alloc (.cells zl3 60)) W) : Ls3 W (.slice (some ⟨w.heap.size, 0, none⟩) 3 3) zf2.es := by
 have h : Row (w.alloc (.cells zl3 60)) w.heap.size 60 9 (cells3 zf2.es) := Row.new w 60 (cells3 zf2.es)
 exact Ls3.up ⟨_, 3, w.heap.size, 0, rfl, fun _ => rfl, h.zKr⟩ hu
theorem ztq {w W : World} {a b i n m : Addr} (hT : Tab w) (hG : zFl w) (hC : zD2 w a b i n m) (hu : Up (w.alloc (.cells zl3 60)) W) :
  Calls prog 7 #[.agg #[.int .i64 4, .int .i64 2, .int .i64 0, .slice (some ⟨w.heap.size, 0, none⟩) 3 3], .int .i64 0, .int .i64 1] W fun r w' => (∃ ao cap, r = .returned (.tuple #[.agg #[.bool false, .slice none 0 0, .slice ao 3 cap], .nilIface])) /\ Up W w' := by
 have aa : Up w W := ((Up.refl w).alloc _).trans hu
 have h := zpr zf2 (.slice (some ⟨w.heap.size, 0, none⟩) 3 3) 0 1 a b i n m undef undef undef undef W (hT.up aa) (aa.cell hG) (zps hu) (hC.up aa) (by unfold maxLen; decide) zdg (by unfold There zf2; decide) (by decide) zhh (by rw [zg4]; decide)
 refine Calls.mono h ?_
 rintro r w' ⟨ab, ⟨-, -, -, ⟨h1, -⟩ | ⟨-, -, ao, cap, rfl, -⟩⟩ | ⟨-, -, -, -, h1, -⟩ | ⟨e, rfl, hb⟩⟩
 ·exact absurd h1 (by have := zhh; simp only [Int.toNat_natCast]; exact Int.not_lt.2 this)
 ·refine ⟨⟨ao, cap, ?_⟩, ab⟩
  rw [show (Dt.F zf2 ((0 : Nat) : Int).toNat ((1 : Nat) : Int).toNat).length = 3 from zg4]
 ·exact absurd h1 (by rw [show (Dt.F zf2 ((0 : Nat) : Int).toNat ((1 : Nat) : Int).toNat).length = 3 from zg4]; decide)
 ·rcases hb with ⟨_, _, k, _⟩ | ⟨_, k, _⟩ | ⟨k, _⟩
  ·exact absurd k (by decide)
  ·exact absurd (by unfold There zf2; decide) k
  ·exact absurd (zdg.symm.trans k) (by decide)
theorem ztx {w W : World} {a b i n m : Addr} (hT : Tab w) (hG : zFl w) (hC : zD2 w a b i n m) (hu : Up (w.alloc (.cells zl3 60)) W) :
  Calls prog 7 #[.agg #[.int .i64 4, .int .i64 2, .int .i64 0, .slice (some ⟨w.heap.size, 0, none⟩) 3 3], .int .i64 1, .int .i64 3] W fun r w' => (∃ ao cap, r = .returned (.tuple #[.agg #[.bool true, .slice ao 4 cap, .slice none 0 0], .nilIface])) /\ Up W w' := by
 have aa : Up w W := ((Up.refl w).alloc _).trans hu
 have h := zq6 zf2 (.slice (some ⟨w.heap.size, 0, none⟩) 3 3) 1 3 a b i n m undef undef undef undef W (hT.up aa) (aa.cell hG) (zps hu) (hC.up aa) (by unfold maxLen; decide) zdg (by unfold There zf2; decide) (by decide) zf0
 refine Calls.mono h ?_
 rintro r w' ⟨ab, ⟨-, -, -, ⟨-, ao, cap, rfl, -⟩ | ⟨h1, -⟩⟩ | ⟨-, -, -, h1, -⟩ | ⟨e, rfl, hb⟩⟩
 ·exact ⟨⟨ao, cap, rfl⟩, ab⟩
 ·exact absurd h1 (by have := zf0; simp only [Int.toNat_natCast]; exact Int.not_le.2 this)
 ·exact absurd h1 (by have := zf0; simp only [Int.toNat_natCast]; exact Int.not_le.2 this)
 ·rcases hb with ⟨_, _, k, _⟩ | ⟨_, k, _⟩ | ⟨k, _⟩
  ·exact absurd k (by decide)
  ·exact absurd (by unfold There zf2; decide) k
  ·exact absurd (zdg.symm.trans k) (by decide)
theorem zz4 : (Dt.bound 2 2 : Nat) = 13 := by decide +kernel
theorem zr9 {w : World} {a b i n m : Addr} (hT : Tab w) (hG : zFl w) (hC : zD2 w a b i n m) :
  Calls prog 5 #[] w fun r w' => r = .returned (.bool true) /\ Up w w' := by
 have HA := zh (fun W hu => ztq (W := W) hT hG hC hu)
 have HK := zh (fun W hu => ztx (W := W) hT hG hC hu)
 have HB : Hid (∀ W, Calls prog 15 #[.int .i64 2, .int .i64 2] W fun r w' => r = .returned (.int .i64 13) /\ W = w') := zh (fun W => by
  have h := ztf 2 2 W (by decide)
  rw [zz4] at h
  exact h)
 clear hT hG hC
 have ac : Up (w.alloc (.cells zl3 60)) ((w.alloc (.cells zl3 60)).alloc (.cells #[.int .i64 4, .int .i64 2, .int .i64 0, .slice (some ⟨w.heap.size, 0, none⟩) 3 3] 24)) := (Up.refl _).alloc _
 have ad := heap_alloc_new (w.alloc (.cells zl3 60)) (.cells #[.int .i64 4, .int .i64 2, .int .i64 0, .slice (some ⟨w.heap.size, 0, none⟩) 3 3] 24)
 rw [World.size_alloc] at ad
 have ag := zh (((Up.refl w).alloc (.cells zl3 60)).trans ac)
 have ae := zh ad
 have af := zh ac
 clear ac ad
 unfold zl3 at ag ae af HA HK
 go_enter func5, ntmps5
 go_upto_region 3 with (go_at_call 7; refine (HA.out _ af.out).mono ?_; rintro r w2 ⟨⟨ao, cap, rfl⟩, ah⟩)
 have aa := ah.alloc (.cells #[.bool false, .slice none 0 0, .slice ao 3 cap] 30)
 obtain ⟨⟨b0, b1, b2, b3⟩, -⟩ := za6 ((aa.block _ (za0 ae.out)).trans ae.out)
 have ai := heap_alloc_new w2 (.cells #[.bool false, .slice none 0 0, .slice ao 3 cap] 30)
 have aj := zh aa
 have ak := zh ai
 clear ah aa ai
 go_upto_region 4 with (go_at_call 7; refine (HK.out _ (af.out.trans aj.out)).mono ?_; rintro r w3 ⟨⟨ao', cap', rfl⟩, al⟩)
 have ab := al.alloc (.cells #[.bool true, .slice ao' 4 cap', .slice none 0 0] 30)
 obtain ⟨⟨v0, v1, v2⟩, -⟩ := zah ((ab.block _ (za0 ak.out)).trans ak.out)
 obtain ⟨⟨u0, u1, u2⟩, -⟩ := zah (heap_alloc_new w3 (.cells #[.bool true, .slice ao' 4 cap', .slice none 0 0] 30))
 have am := zh ab
 clear al ab
 go_wp2_with (go_at_call 15; refine (HB.out _).mono ?_; rintro r w4 ⟨rfl, rfl⟩)
 go_ret
 exact ⟨rfl, (ag.out.trans aj.out).trans am.out⟩
def zAb (w : World) (r : Ending) (w' : World) : Prop := r = .returned (.bool true) /\ Below w.heap.size w w'
end Go.Proofs.YtoaoajfjcfcmhaaGreatDoor
namespace Go.Proofs.YtoaoajfjcfcmhaaGreatDoor
open Go.RowKit Go.Extern.Stop Go.Stop Go.Extern
def zad : ByteArray := { data := #[100, 105, 115, 116, 105, 110, 103, 117, 105, 115, 104, 32] }
def zan : ByteArray := { data := #[100, 105, 115, 116, 105, 110, 103, 117, 105, 115, 104, 32, 115, 121, 115, 116, 101, 109, 32] }
def zpb : List Nat := zw5 ++ [17, 18, 3, 0]
structure zF0 (w : World) (a : Nat -> Addr) : Prop where
 sent : ∀ i, i < 18 -> zJm w (zpb.getD i 0) (a i)
 ne : ∀ i j, i < 18 -> j < 18 -> i ≠ j -> a i ≠ a j
theorem zF0.up {w w' : World} {a : Nat -> Addr} (h : zF0 w a) (hu : Up w w') : zF0 w' a := ⟨fun i hi => (h.sent i hi).up hu, h.ne⟩
theorem zF0.zJs {w : World} {a : Nat -> Addr} (h : zF0 w a) : zF6 w a :=
 ⟨fun i hi => by
  have h1 := h.sent i (by omega)
  have e : zpb.getD i 0 = zw5.getD i 0 := by
   unfold zpb
   simp only [List.getD]
   rw [List.getElem?_append_left (show i < zw5.length from hi)]
  rwa [e] at h1, fun i j hi hj => h.ne i j (by omega) (by omega)⟩
theorem zF0.cmp {w : World} {a : Nat -> Addr} (h : zF0 w a) : zD2 w (a 13) (a 1) (a 2) (a 17) (a 16) :=
 ⟨(h.sent 13 (by decide)).var, (h.sent 1 (by decide)).var, (h.sent 2 (by decide)).var, (h.sent 17 (by decide)).var, (h.sent 16 (by decide)).var, h.ne 16 17 (by decide) (by decide) (by decide), (h.sent 17 (by decide)).blk, (h.sent 16 (by decide)).blk⟩
theorem zsu {w : World} {v : Value} {a : Nat -> Addr} (h : Wraps w v (a 16)) (S : zF0 w a) : ∀ i, i < 16 ->
  Calls prog 20 #[v, .iface 335 (.pointer (some (a i)))] w fun e w' => e = .returned (.bool false) /\ w = w' := fun i hi => by
 obtain ⟨c, t, hc⟩ := (S.sent 16 (by decide)).blk
 obtain ⟨c1, t1, aa⟩ := (S.sent i (by omega)).blk
 exact zfb h (S.ne 16 i (by decide) (by omega) (by omega)) hc aa
theorem zzp {w : World} {v : Value} {a : Nat -> Addr} (h : Wraps w v (a 16)) (S : zF0 w a) :
  Calls prog 87 #[v] w fun r w' => r = .returned (.int .i64 17) /\ w = w' := by
 have H := zh (zsu h S)
 have HT := zh (zky h)
 obtain ⟨g10, g11, g12, g13⟩ := S.zJs.high
 have g14 : w.cell? ⟨17, 0, none⟩ = some (.iface 335 (.pointer (some (a 14)))) := (S.sent 14 (by decide)).var
 have g15 : w.cell? ⟨18, 0, none⟩ = some (.iface 335 (.pointer (some (a 15)))) := (S.sent 15 (by decide)).var
 have g16 : w.cell? ⟨3, 0, none⟩ = some (.iface 335 (.pointer (some (a 16)))) := (S.sent 16 (by decide)).var
 obtain ⟨t, p, rfl⟩ := zec h
 clear S h
 go_enter func87, ntmps87
 go_wp2_with (first
  | (go_at_call 20; (with_reducible refine HT.out.mono ?_); rintro e w4 ⟨rfl, rfl⟩)
  | (go_at_call 20; (with_reducible refine (H.out _ (by decide)).mono ?_); rintro e w4 ⟨rfl, rfl⟩))
 go_ret
 exact ⟨rfl, rfl⟩
theorem zui {w : World} {v : Value} {a : Nat -> Addr} (h : Wraps w v (a 16)) (S : zF0 w a) :
  Calls prog 23 #[v] w fun r w' => r = .returned (.int .i64 17) /\ w = w' := by
 have H := zh (zsu h S)
 have HR := zh (zzp h S)
 obtain ⟨g0, g1, g2, g3, g4, g5, g6, g7, g8, g9⟩ := S.zJs.low
 obtain ⟨t, p, rfl⟩ := zec h
 clear S h
 go_enter func23, ntmps23
 go_wp2_with (first
  | (go_at_call 87; refine HR.out.mono ?_; rintro e w4 ⟨rfl, rfl⟩)
  | (go_at_call 20; (with_reducible refine (H.out _ (by decide)).mono ?_); rintro e w4 ⟨rfl, rfl⟩))
 go_ret
 exact ⟨rfl, rfl⟩
theorem zsw {w : World} {v : Value} {a : Nat -> Addr} (h : Wraps w v (a 1)) (S : zF6 w a) :
  Calls prog 23 #[v] w fun r w' => r = .returned (.int .i64 2) /\ w = w' := by
 obtain ⟨c, tc, hc⟩ := (S.sent 1 (by decide)).blk
 obtain ⟨c1, t1, aa⟩ := (S.sent 0 (by decide)).blk
 have H := zh (zky h)
 have H1 := zh (zfb h (S.ne 1 0 (by decide) (by decide) (by decide)) hc aa)
 have g1 : w.cell? ⟨5, 0, none⟩ = some (.iface 335 (.pointer (some (a 0)))) := (S.sent 0 (by decide)).var
 have g2 : w.cell? ⟨2, 0, none⟩ = some (.iface 335 (.pointer (some (a 1)))) := (S.sent 1 (by decide)).var
 obtain ⟨t, p, rfl⟩ := zec h
 clear h S hc aa
 go_enter func23, ntmps23
 go_wp2_with (first
  | (go_at_call 20; (with_reducible refine H1.out.mono ?_); rintro e w4 ⟨rfl, rfl⟩)
  | (go_at_call 20; (with_reducible refine H.out.mono ?_); rintro e w4 ⟨rfl, rfl⟩))
 go_ret
 exact ⟨rfl, rfl⟩
def zjx (w : World) (v : Value) (k : Int) : Prop := ∀ w1, Up w w1 -> Calls prog 23 #[v] w1 fun r w' => r = .returned (.int .i64 k) /\ w1 = w'
theorem zkq {w : World} {F : Nat} {a : Addr} {k : Int} (hF : zas w F zae (.iface 335 (.pointer (some a)))) (h1 : zjx w (zac F) k) (h2 : zjx w (.iface 335 (.pointer (some a))) k) (hk : (k == 0) = false) :
  Calls prog 8 #[zac F, .agg #[.int .i64 k, .int .i64 0, .int .i64 0, .string zad]] w fun r w' => r = .returned (.bool true) /\ Up w w' := by
 obtain ⟨⟨c0, c1, c2, c3⟩, -⟩ := za6 hF
 have aa := zh h1
 have ab := zh h2
 have ac := (Array.getElem?_eq_some_iff.1 hF).1
 unfold zae at c0
 unfold zac at aa ⊢
 have aF := Tryz.zIr
 have aN := Tryz.zG9
 clear hF h1 h2
 go_enter func8, ntmps8
 go_wp2_with fail
 go_quiet ((go_at_call 23; exact zj7 (aa.out _ (by repeat (first | (with_reducible exact Up.refl _) | (with_reducible apply Up.drewN) | (with_reducible apply Up.drew) | (with_reducible apply Up.alloc))))))
 go_wp2_with fail
 refine wp_loop_rounds 2 ?_
 rw [rounds_succ]
 go_wp2_with fail
 go_quiet (fail)
 go_wp2_with fail
 rw [rounds_succ]
 go_wp2_with fail
 rw [show (({ data := #[] } : ByteArray) ++ { data := #[100, 105, 115, 116, 105, 110, 103, 117, 105, 115, 104] } ++ { data := #[32] }) = zad from by decide]
 have hq : (zad == zad) = true := by decide
 go_quiet ((go_at_call 23; exact zer (ab.out _ (by repeat (first | (with_reducible exact Up.refl _) | (with_reducible apply Up.drewN) | (with_reducible apply Up.drew) | (with_reducible apply Up.alloc))))))
 go_wp2_with fail
 go_ret
 exact ⟨rfl, by repeat (first | (with_reducible exact Up.refl _) | (with_reducible apply Up.drewN) | (with_reducible apply Up.drew) | (with_reducible apply Up.alloc))⟩
theorem zxu {w : World} {F G : Nat} {a : Addr} (hF : zas w F zae (zac G)) (hG : zas w G zar (.iface 335 (.pointer (some a)))) (h1 : zjx w (zac F) 14) (h2 : zjx w (.iface 335 (.pointer (some a))) 14) :
  Calls prog 8 #[zac F, .agg #[.int .i64 14, .int .i64 0, .int .i64 0, .string zan]] w fun r w' => r = .returned (.bool true) /\ Up w w' := by
 obtain ⟨⟨c0, c1, c2, c3⟩, -⟩ := za6 hF
 obtain ⟨⟨d0, d1, d2, d3⟩, -⟩ := za6 hG
 have aa := zh h1
 have ab := zh h2
 have ac := (Array.getElem?_eq_some_iff.1 hF).1
 have ad := (Array.getElem?_eq_some_iff.1 hG).1
 unfold zae at c0
 unfold zar at d0
 unfold zac at c3 aa ⊢
 have aF := Tryz.zIr
 have aN := Tryz.zG9
 clear hF hG h1 h2
 go_enter func8, ntmps8
 go_wp2_with fail
 go_quiet ((go_at_call 23; exact zj7 (aa.out _ (by repeat (first | (with_reducible exact Up.refl _) | (with_reducible apply Up.drewN) | (with_reducible apply Up.drew) | (with_reducible apply Up.alloc))))))
 go_wp2_with fail
 refine wp_loop_rounds 3 ?_
 rw [rounds_succ]
 go_wp2_with fail
 go_quiet (fail)
 go_wp2_with fail
 rw [rounds_succ]
 go_wp2_with fail
 go_quiet (fail)
 go_wp2_with fail
 rw [rounds_succ]
 go_wp2_with fail
 rw [show (({ data := #[] } : ByteArray) ++ { data := #[100, 105, 115, 116, 105, 110, 103, 117, 105, 115, 104] } ++ { data := #[32] } ++ { data := #[115, 121, 115, 116, 101, 109] } ++ { data := #[32] }) = zan from by decide]
 have hq : (zan == zan) = true := by decide
 go_quiet ((go_at_call 23; first
  | exact zer (ab.out _ (by repeat (first | (with_reducible exact Up.refl _) | (with_reducible apply Up.drewN) | (with_reducible apply Up.drew) | (with_reducible apply Up.alloc))))
  | exact zhr (ab.out _ (by repeat (first | (with_reducible exact Up.refl _) | (with_reducible apply Up.drewN) | (with_reducible apply Up.drew) | (with_reducible apply Up.alloc))))))
 go_wp2_with fail
 go_ret
 exact ⟨rfl, by repeat (first | (with_reducible exact Up.refl _) | (with_reducible apply Up.drewN) | (with_reducible apply Up.drew) | (with_reducible apply Up.alloc))⟩
theorem told_none (w : World) :
  Calls prog 8 #[.nilIface, zhd] w fun r w' => r = .returned (.bool true) /\ Up w w' := by
 unfold zhd zDt
 go_enter func8, ntmps8
 go_wp2_with fail
 go_ret
 exact ⟨rfl, by repeat (first | (with_reducible exact Up.refl _) | (with_reducible apply Up.drewN) | (with_reducible apply Up.drew) | (with_reducible apply Up.alloc))⟩
theorem zqi (k : Int) (w : World) :
  Calls prog 70 #[.string zae, .int .i64 k] w fun r w' => r = .returned (zDt k zad) /\ Up w w' := by
 unfold zae
 go_enter func70, ntmps70
 go_wp2_with fail
 apply bodyPost_ret
 ·(simp [results, results70, go_sem]; rfl)
 ·rfl
 ·exact ⟨rfl, by repeat (first | (with_reducible exact Up.refl _) | (with_reducible apply Up.drew) | (with_reducible apply Up.alloc))⟩
theorem zr5 (w : World) :
  Calls prog 140 #[.string zae, zDt 14 zb8] w fun r w' => r = .returned (zDt 14 zan) /\ Up w w' := by
 unfold zDt zb8 zan zae
 go_enter func140, ntmps140
 go_wp2_with fail
 apply bodyPost_ret
 ·(simp [results, results140, go_sem]; rfl)
 ·rfl
 ·exact ⟨rfl, ((Up.refl w).alloc _).alloc _⟩
theorem zop {s : Sy.Lts} {se : Value} {w : World} (hr : Sy.right s = false) (hs : Ls3 w se s.es) (hl : s.es.length <= maxLen) :
  Calls prog 108 #[.string zae, zCb s se] w fun r w' => r = .returned (zDt 14 zan) /\ Up w w' := by
 have HC : Hid (∀ W, Up w W -> Calls prog 141 #[zCb s se] W fun r w' => r = .returned (zDt 14 zb8) /\ Up W w') := zh (fun W hu => by
  have h := zmc s se W (hs.up hu) hl
  rwa [show zpw s = zDt 14 zb8 by unfold zpw; rw [hr]; rfl] at h)
 have HO := zh zr5
 obtain ⟨ao, cap, rfl⟩ := zaf hs
 obtain ⟨L, hL⟩ := nm (s.es.length)
 unfold zCb at HC ⊢
 rw [<- hL] at HC ⊢
 clear hl hs hL hr
 have aa : Up w ((w.alloc (.cells #[.int .i64 s.n, .int .i64 s.m, .int .i64 s.start, .slice ao L cap] 24)).alloc (.cells #[.int .i64 0, .int .i64 0, .int .i64 0, .string { data := #[] }] 32)) := ((Up.refl w).alloc _).alloc _
 have ab := zh (zex w (.cells #[.int .i64 s.n, .int .i64 s.m, .int .i64 s.start, .slice ao L cap] 24))
 have ac := zh aa
 clear aa
 unfold zDt zae at *
 go_enter func108, ntmps108
 go_wp2_with (first
  | (go_at_call 141; refine (HC.out _ ac.out).mono ?_; rintro r w1 ⟨rfl, ad⟩)
  | (go_at_call 140; refine (HO.out _).mono ?_; rintro r w2 ⟨rfl, ae⟩; (have af := ((ad.trans ae).block _ (za0 ab.out)).trans ab.out); (obtain ⟨⟨e0, e1, e2, e3⟩, z0, z1, z2, z3⟩ := za6 af)))
 obtain ⟨⟨y0, y1, y2, y3⟩, hT, -⟩ := zbf af (.int .i64 14) (.int .i64 0) (.int .i64 0) (.string zan)
 refine bodyPost_ret (v := .agg #[.int .i64 14, .int .i64 0, .int .i64 0, .string zan]) (by simp [results, results108, go_sem, y0, y1, y2, y3]) rfl ⟨rfl, zaj ((ac.out.trans ad).trans ae) (by omega) hT⟩
end Go.Proofs.YtoaoajfjcfcmhaaGreatDoor
