/- The statement DistinguishCompares, walked. Arguments opened: slices of structs of integers; the arguments of a call that turns nothing of what was there read again. An argument that is a system, opened, with what is known of its edges' room. -/
import Derived.Test.YtoaoajfjcfcmhaaGreatDoorP05
import Derived.Test.YtoaoajfjcfcmhaaGreatDoorP30
import Derived.Test.YtoaoajfjcfcmhaaGreatDoorP01
import Derived.ReadAgain
import Derived.Deep.Slices
import Derived.Deep.Fields
import Derived.ChangeSame
import Derived.ProofKit
import Derived.RowKit
import Derived.ChangeSlices
import Derived.OpenShut
import Derived.Test.YtoaoajfjcfcmhaaGreatDoorP12
set_option linter.unusedVariables false
set_option linter.unusedSimpArgs false
set_option maxHeartbeats 16000000
set_option maxRecDepth 100000
open Go.Proofs.Tryz
namespace Go.Proofs.YtoaoajfjcfcmhaaGreatDoor
open Go.RowKit Go.Maps
def zgm (sm : Bool) (xs : List Int) (ns : List Dt.Nd) (k : Int) (l : ByteArray) (w : World) (r : Ending) (w' : World) : Prop :=
 ∃ ca cc fa fc ev, r = .returned (.tuple #[.agg #[.bool sm, .slice ca xs.length cc, .slice fa ns.length fc], ev]) /\
  Hid (w'.ownsRow w.heap.size 3 1 (.slice ca xs.length cc) xs.length (ivs xs) /\ w'.ownsRow w.heap.size 81 2 (.slice fa ns.length fc) ns.length (za7 ns)) /\
  Hid (∀ W2, Up w' W2 -> Calls prog 8 #[ev, zDt k l] W2 fun r w'' => r = .returned (.bool true) /\ Up W2 w'') /\ Up w w'
theorem zgm.bad {k : Int} {l : ByteArray} {w w' : World} {ev : Value} (hu : Up w w') (ht : ∀ W2, Up w' W2 -> Calls prog 8 #[ev, zDt k l] W2 fun r w'' => r = .returned (.bool true) /\ Up W2 w'') : zgm false [] [] k l w (.returned (.tuple #[zf5, ev])) w' :=
 ⟨none, 0, none, 0, ev, rfl, zh ⟨World.ownsRow_nil _ _ _ _, World.ownsRow_nil _ _ _ _⟩, zh ht, hu⟩
def zet (lo bk : Nat) (w0 wr : World) : Prop := Bk2 lo bk wr.heap.size wr /\ Turned (fun k => k = bk \/ lo <= k) w0 wr
theorem zB3 {w w1 w2 : World} {lo bk : Nat} (h : Up w w1) (hb : w.heap.size <= bk) (hl : w.heap.size <= lo) (ht : Turned (fun k => k = bk \/ lo <= k) w1 w2) : Up w w2 := by
 have h2 := (Turned.below h).trans ht (fun i _ e => by rcases e with e | e <;> omega)
 exact ⟨h2.os, h2.tape, h2.output, h2.size, fun i hi => h2.block i hi (by omega)⟩
theorem zet.keep {lo bk b n size : Nat} {w0 wr : World} {e : TypeId} {v : Value} {xs : List Value} (h : zet lo bk w0 wr) (ho : w0.ownsRow b e size v n xs) (hv : ∀ g, v.ownBlock = some g -> g < lo /\ g ≠ bk) : wr.ownsRow b e size v n xs :=
 za2 ho (fun g hg => h.2.block g (za3 ho hg) (fun e => by
  have := hv g hg
  rcases e with e | e <;> omega))
theorem zet.next {lo bk : Nat} {w0 wr w8 ab aa : World} (h : zet lo bk w0 wr) (hu : Up wr w8) (ac : Turned (fun k => k = bk \/ lo <= k) w8 ab) (ad : Turned (fun k => k = bk \/ lo <= k) ab aa) (hb : Bk2 lo bk aa.heap.size aa) : zet lo bk w0 aa :=
 ⟨hb, ((h.2.trans (T := fun _ => False) ⟨hu.os, hu.tape, hu.output, hu.size, fun k hk _ => hu.block k hk⟩ (fun _ _ h => h.elim)).trans ac (fun _ _ h => h)).trans ad (fun _ _ h => h)⟩
theorem zB1 (w : World) (a1 a2 : Array Value) (t1 t2 : TypeId) : ((w.alloc (.cells a1 t1)).alloc (.cells a2 t2)).heap[w.heap.size]? = some (.cells a1 t1 (0, 0)) /\ ((w.alloc (.cells a1 t1)).alloc (.cells a2 t2)).heap[w.heap.size + 1]? = some (.cells a2 t2 (0, 0)) /\
  Up w ((w.alloc (.cells a1 t1)).alloc (.cells a2 t2)) /\ ((w.alloc (.cells a1 t1)).alloc (.cells a2 t2)).heap.size = w.heap.size + 2 := by
 have h1 := heap_alloc_new w (.cells a1 t1)
 have h2 := heap_alloc_new (w.alloc (.cells a1 t1)) (.cells a2 t2)
 have u2 : Up (w.alloc (.cells a1 t1)) ((w.alloc (.cells a1 t1)).alloc (.cells a2 t2)) := (Up.refl _).alloc _
 rw [World.size_alloc] at h2
 exact ⟨(u2.block _ (za0 h1)).trans h1, h2, ((Up.refl w).alloc _).trans u2, by simp⟩
def zj2 (s : Sy.Lts) : Bool := (decide (s.n <= 30) && decide ((s.es.length : Int) <= 150)) || ((!Sy.right s || decide (300 < s.n)) && decide ((s.es.length : Int) <= 11000))
section
variable {s : Sy.Lts} {se : Value} {w : World}
theorem zm3 (hs : Ls3 w se s.es) (hl : s.es.length <= maxLen) : Calls prog 4 #[zCb s se] w fun r w' => r = .returned (.bool (zj2 s)) /\ Up w w' := by
 obtain ⟨rb, ae⟩ := nm (Sy.right s)
 have HR := zh (ze9 ae.symm hs hl)
 obtain ⟨ao, cap, rfl⟩ := zaf hs
 obtain ⟨L, hL⟩ := nm (s.es.length)
 have aa : zj2 s = ((decide (s.n <= 30) && decide ((L : Int) <= 150)) || ((!rb || decide (300 < s.n)) && decide ((L : Int) <= 11000))) := by unfold zj2; rw [<- ae, <- hL]
 unfold zCb at HR ⊢
 rw [<- hL] at HR ⊢
 rw [aa]
 have af := heap_alloc_new w (.cells #[.int .i64 s.n, .int .i64 s.m, .int .i64 s.start, .slice ao L cap] 24)
 have ab : Hid (Up w (w.alloc (.cells #[.int .i64 s.n, .int .i64 s.m, .int .i64 s.start, .slice ao L cap] 24))) := zh ((Up.refl w).alloc _)
 obtain ⟨⟨k0, k1, k2, k3⟩, -⟩ := za6 af
 have ad := zh af
 clear hs hl hL ae aa af
 by_cases h1 : s.n <= 30
 ·have q1 : decide (s.n <= 30) = true := by simpa using h1
  have q4 : decide (300 < s.n) = false := by simp; omega
  by_cases h2 : (L : Int) <= 150
  ·have q2 : decide ((L : Int) <= 150) = true := by simpa using h2
   have hv : Hid (true = ((decide (s.n <= 30) && decide ((L : Int) <= 150)) || ((!rb || decide (300 < s.n)) && decide ((L : Int) <= 11000)))) := zh (by rw [q1, q2]; rfl)
   go_enter func4, ntmps4
   go_wp2_with fail
   go_ret
   exact ⟨zao hv.out, ab.out⟩
  ·have q2 : decide ((L : Int) <= 150) = false := by simpa using h2
   have hv : Hid ((!rb && decide ((L : Int) <= 11000)) = ((decide (s.n <= 30) && decide ((L : Int) <= 150)) || ((!rb || decide (300 < s.n)) && decide ((L : Int) <= 11000)))) := zh (by rw [q1, q2, q4]; simp)
   obtain ⟨lb, aa⟩ := nm (decide ((L : Int) <= 11000))
   rw [<- aa] at hv ⊢
   have ah := aa.symm
   clear aa
   cases rb <;> cases lb
   all_goals
    go_enter func4, ntmps4
    go_wp2_with (go_at_call 14; refine (HR.out _ ab.out).mono ?_; rintro r w1 ⟨rfl, ac⟩; (obtain ⟨⟨j0, j1, j2, j3⟩, -⟩ := za6 ((ac.block _ (za0 ad.out)).trans ad.out)))
    go_ret
    exact ⟨zao hv.out, ab.out.trans ac⟩
 ·have q1 : decide (s.n <= 30) = false := by simpa using h1
  have hv : Hid (((!rb || decide (300 < s.n)) && decide ((L : Int) <= 11000)) = ((decide (s.n <= 30) && decide ((L : Int) <= 150)) || ((!rb || decide (300 < s.n)) && decide ((L : Int) <= 11000)))) := zh (by rw [q1]; simp)
  obtain ⟨lb, aa⟩ := nm (decide ((L : Int) <= 11000))
  obtain ⟨nb, ag⟩ := nm (decide (300 < s.n))
  rw [<- aa, <- ag] at hv ⊢
  have ah := aa.symm
  have ai := ag.symm
  clear aa ag
  cases rb <;> cases nb <;> cases lb
  all_goals
   go_enter func4, ntmps4
   go_wp2_with (go_at_call 14; refine (HR.out _ ab.out).mono ?_; rintro r w1 ⟨rfl, ac⟩; (obtain ⟨⟨j0, j1, j2, j3⟩, -⟩ := za6 ((ac.block _ (za0 ad.out)).trans ad.out)))
   go_ret
   exact ⟨zao hv.out, ab.out.trans ac⟩
theorem zAa (p q : Int) (hs : Ls3 w se s.es) (hl : s.es.length <= maxLen) (h : zj2 s = false) (HA : ∀ W, Up w W -> Calls prog 5 #[] W fun r w' => r = .returned (.bool true) /\ Up W w') :
  Calls prog 3 #[zCb s se, .int .i64 p, .int .i64 q] w (zAb w) := by
 have HL : Hid (∀ W, Up w W -> Calls prog 4 #[zCb s se] W fun r w' => r = .returned (.bool false) /\ Up W w') := zh (fun W hu => by have h1 := zm3 (hs.up hu) hl; rwa [h] at h1)
 have ac := zh HA
 obtain ⟨ao, cap, rfl⟩ := zaf hs
 obtain ⟨L, hL⟩ := nm (s.es.length)
 unfold zCb at HL ⊢
 rw [<- hL] at HL ⊢
 have aa : Hid (Up w (w.alloc (.cells #[.int .i64 s.n, .int .i64 s.m, .int .i64 s.start, .slice ao L cap] 24))) := zh ((Up.refl w).alloc _)
 clear hs hl hL h HA
 go_enter func3, ntmps3
 go_wp2_with (first
  | (go_at_call 4; refine (HL.out _ aa.out).mono ?_; rintro r w1 ⟨rfl, ab⟩)
  | (go_at_call 5; refine (ac.out _ (aa.out.trans ab)).mono ?_; rintro r w2 ⟨rfl, ad⟩))
 go_ret
 exact ⟨rfl, (aa.out.trans ab).trans ad⟩
theorem zjs {sm : Bool} {xs : List Int} {ns : List Dt.Nd} {k : Int} {l : ByteArray} (p q : Int) (hs : Ls3 w se s.es) (hl : s.es.length <= maxLen) (h : zj2 s = true) (HA : ∀ W, Up w W -> Calls prog 5 #[] W fun r w' => r = .returned (.bool true) /\ Up W w')
  (hR : ∀ W, Up w W -> Calls prog 6 #[zCb s se, .int .i64 p, .int .i64 q] W (znr sm xs ns k l W)) (hP : ∀ W, Up w W -> Calls prog 7 #[zCb s se, .int .i64 p, .int .i64 q] W (zgm sm xs ns k l W)) (aW : xs.length <= 900000) (aX : ns.length <= 900000) :
  Calls prog 3 #[zCb s se, .int .i64 p, .int .i64 q] w (zAb w) := by
 have HL : Hid (∀ W, Up w W -> Calls prog 4 #[zCb s se] W fun r w' => r = .returned (.bool true) /\ Up W w') := zh (fun W hu => by have h1 := zm3 (hs.up hu) hl; rwa [h] at h1)
 have bu := zh HA
 have HR := zh hR
 have HP := zh hP
 have bv : Hid (∀ W v u, Lst W v xs -> Lst W u xs -> Calls prog 9 #[v, u] W (Same W true)) := zh (fun W v u hv hu => sameInts_same (by omega) hv hu)
 have bw : Hid (∀ W v u, Ls2 W v ns -> Ls2 W u ns -> Calls prog 10 #[v, u] W fun r w' => r = .returned (.bool true) /\ Up W w') := zh (fun W v u hv hu => Nd2.zDs (by omega) hv hu)
 have HX := zh aW
 have HN := zh aX
 obtain ⟨ao, cap, rfl⟩ := zaf hs
 obtain ⟨L, hL⟩ := nm (s.es.length)
 unfold zCb at HL HR HP ⊢
 rw [<- hL] at HL HR HP ⊢
 unfold znr zDt at HR
 unfold zgm zDt at HP
 have aY := heap_alloc_new w (.cells #[.int .i64 s.n, .int .i64 s.m, .int .i64 s.start, .slice ao L cap] 24)
 have aZ := zh aY
 have a0 : Hid (Up w (w.alloc (.cells #[.int .i64 s.n, .int .i64 s.m, .int .i64 s.start, .slice ao L cap] 24))) := zh ((Up.refl w).alloc _)
 obtain ⟨xl, aD⟩ := nm (xs.length)
 obtain ⟨nl, aE⟩ := nm (ns.length)
 rw [<- aD, <- aE] at HR HP
 have bx := zh aD
 have bz := zh aE
 clear hs hl hL h HA hR hP aW aX aY aD aE
 go_enter func3, ntmps3
 go_upto_region 3 with (go_at_call 4; refine (HL.out _ a0.out).mono ?_; rintro r w1 ⟨rfl, aF⟩; (have a1 := zh (a0.out.trans aF)); (have aq := zh ((aF.block _ (za0 aZ.out)).trans aZ.out)); clear aF)
 obtain ⟨⟨k0, k1, k2, k3⟩, -⟩ := za6 aq.out
 go_upto_region 4 with (go_at_call 6; refine (HR.out _ a1.out).mono ?_; rintro r w2 ⟨ca, cc, fa, fc, rfl, HW, a2⟩; (have aG := zh a2); clear a2)
 obtain ⟨aH, aI, aJ, aK⟩ := zB1 w2 #[.bool sm, .slice ca xl cc, .slice fa nl fc] #[.int .i64 k, .int .i64 0, .int .i64 0, .string l] 30 32
 obtain ⟨w3, a3⟩ := nm ((w2.alloc (.cells #[.bool sm, .slice ca xl cc, .slice fa nl fc] 30)).alloc (.cells #[.int .i64 k, .int .i64 0, .int .i64 0, .string l] 32))
 rw [<- a3] at aH aI aJ aK ⊢
 have a4 := zh aH
 have a5 := zh aI
 have bA := zh aJ
 have a6 := zh aK
 clear a3 aH aI aJ aK k0 k1 k2 k3
 go_upto_region 5 with fail
 have au : Hid (Bk2 (w3.alloc (.cells #[.slice none 0 0, .slice none 0 0, .slice none 0 0, .slice none 0 0, .slice none 0 0, .slice none 0 0, .slice none 0 0, .slice none 0 0, .slice none 0 0, .slice none 0 0, .slice none 0 0, .slice none 0 0, .slice none 0 0, .slice none 0 0, .slice none 0 0, .slice none 0 0, .slice none 0 0, .slice none 0 0, .slice none 0 0, .slice none 0 0, .slice none 0 0, .slice none 0 0] 48)).heap.size w3.heap.size (w3.alloc (.cells #[.slice none 0 0, .slice none 0 0, .slice none 0 0, .slice none 0 0, .slice none 0 0, .slice none 0 0, .slice none 0 0, .slice none 0 0, .slice none 0 0, .slice none 0 0, .slice none 0 0, .slice none 0 0, .slice none 0 0, .slice none 0 0, .slice none 0 0, .slice none 0 0, .slice none 0 0, .slice none 0 0, .slice none 0 0, .slice none 0 0, .slice none 0 0, .slice none 0 0] 48)).heap.size (w3.alloc (.cells #[.slice none 0 0, .slice none 0 0, .slice none 0 0, .slice none 0 0, .slice none 0 0, .slice none 0 0, .slice none 0 0, .slice none 0 0, .slice none 0 0, .slice none 0 0, .slice none 0 0, .slice none 0 0, .slice none 0 0, .slice none 0 0, .slice none 0 0, .slice none 0 0, .slice none 0 0, .slice none 0 0, .slice none 0 0, .slice none 0 0, .slice none 0 0, .slice none 0 0] 48))) := zh (Bk2.start rfl (Up.refl _))
 obtain ⟨w9, av⟩ := nm (w3.alloc (.cells #[.slice none 0 0, .slice none 0 0, .slice none 0 0, .slice none 0 0, .slice none 0 0, .slice none 0 0, .slice none 0 0, .slice none 0 0, .slice none 0 0, .slice none 0 0, .slice none 0 0, .slice none 0 0, .slice none 0 0, .slice none 0 0, .slice none 0 0, .slice none 0 0, .slice none 0 0, .slice none 0 0, .slice none 0 0, .slice none 0 0, .slice none 0 0, .slice none 0 0] 48))
 have bB : w9.heap.size = w3.heap.size + 1 := by rw [av, World.size_alloc]
 have aw : Up w3 w9 := by rw [av]; exact (Up.refl _).alloc _
 rw [<- av] at au ⊢
 have ax := zh (bA.out.trans aw)
 have aL := zh ((a1.out.trans aG.out).trans ax.out)
 have a7 := zh ((aw.block _ (za0 a4.out)).trans a4.out)
 have a8 := zh ((aw.block _ (za0 a5.out)).trans a5.out)
 have a9 := zh (((aG.out.trans ax.out).block _ (za0 aq.out)).trans aq.out)
 have aa : Hid (w3.heap.size = w2.heap.size + 2 /\ w9.heap.size = w2.heap.size + 3 /\ w.heap.size < w2.heap.size) := zh ⟨a6.out, by have := a6.out; omega, Nat.lt_of_lt_of_le (za0 aq.out) aG.out.size⟩
 have bC := zh (ax.out.owns HW.out.1)
 have bD := zh (ax.out.owns HW.out.2)
 have ba : Hid ((∀ g, (Value.slice ca xl cc).ownBlock = some g -> g < w2.heap.size) /\ ∀ g, (Value.slice fa nl fc).ownBlock = some g -> g < w2.heap.size) := zh ⟨fun g hg => za3 HW.out.1 hg, fun g hg => za3 HW.out.2 hg⟩
 obtain ⟨bk, aM⟩ := nm (w3.heap.size)
 obtain ⟨lo, ay⟩ := nm (w9.heap.size)
 rw [<- aM, <- ay] at au aa
 rw [<- aM]
 have bE := zh ay
 have bb : Hid (zet lo bk w9 w9) := zh ⟨by rw [<- ay]; exact au.out, Turned.refl _ _⟩
 clear av bB aw aM ay au HW
 go_wp2_with fail
 go_loopw [10] (fun i wr => ∃ kk : Nat, kk <= 2 /\ i = .int .i64 kk /\ Hid (zet lo bk w9 wr)) (fun i _ => 2 - (intOf i).toNat)
 case atStart => exact ⟨0, by omega, rfl, bb⟩
 case round =>
  clear bb
  obtain ⟨kk, bK, rfl, HS⟩ := hrel
  rename World => wr
  have bc : Up w wr := zB3 aL.out (by have := aa.out; omega) (by have := aa.out; omega) HS.out.2
  have bd := (HS.out.2.block _ (za0 a9.out) (by have := aa.out; omega)).trans a9.out
  have be := (HS.out.2.block _ (za0 a7.out) (by have := aa.out; omega)).trans a7.out
  have bf := (HS.out.2.block _ (za0 a8.out) (by have := aa.out; omega)).trans a8.out
  have bh : lo <= wr.heap.size := by rw [bE.out]; exact HS.out.2.size
  have aN := zh bc
  have bF := zh bd
  have bi := zh be
  have bj := zh bf
  have ah := zh bh
  clear bc bd be bf bh
  by_cases hlt : kk < 2
  ·have qk : (kk : Int) < 2 := by omega
   have bo : Hid (wr.ownsRow 0 3 1 (.slice ca xl cc) xl (ivs xs) /\ wr.ownsRow 0 81 2 (.slice fa nl fc) nl (za7 ns)) := zh ⟨za8 (HS.out.keep bC.out (fun g hg => by have h1 := ba.out.1 g hg; have h2 := aa.out; omega)) (Nat.zero_le _), za8 (HS.out.keep bD.out (fun g hg => by have h1 := ba.out.2 g hg; have h2 := aa.out; omega)) (Nat.zero_le _)⟩
   obtain ⟨⟨k0, k1, k2, k3⟩, -⟩ := za6 bF.out
   go_upto_region 9 with (go_at_call 7; refine (HP.out _ aN.out).mono ?_; rintro r w5 ⟨c2, cc2, f2, fc2, ev, rfl, ai, bG, bp⟩; (have bH := zh bp); clear bp)
   obtain ⟨w6, aA⟩ := nm (w5.alloc (.cells #[.bool sm, .slice c2 xl cc2, .slice f2 nl fc2] 30))
   rw [<- aA]
   have ag : Up w5 w6 := by rw [aA]; exact (Up.refl _).alloc _
   have bq : Hid (w6.heap[w5.heap.size]? = some (.cells #[.bool sm, .slice c2 xl cc2, .slice f2 nl fc2] 30 (0, 0))) := zh (by rw [aA]; exact heap_alloc_new _ _)
   have aj := zh ag
   have br := zh (bH.out.trans ag)
   clear aA ag k0 k1 k2 k3
   obtain ⟨⟨e0, e1, e2, e3⟩, -⟩ := za6 ((br.out.block _ (za0 bj.out)).trans bj.out)
   go_upto_region 11 with (first
    | (go_at_call 8; refine (bG.out _ aj.out).mono ?_; rintro r w7 ⟨rfl, aB⟩; (have aO := zh (aj.out.trans aB)); (have aC := zh (br.out.trans aB)); (have aP := zh ((aB.block _ (za0 bq.out)).trans bq.out)); (obtain ⟨⟨y0, y1, y2⟩, -⟩ := zah aP.out); (obtain ⟨⟨x0, x1, x2⟩, -⟩ := zah ((aC.out.block _ (za0 bi.out)).trans bi.out)); clear aB e0 e1 e2 e3)
    | (go_at_call 9; refine (bv.out _ _ _ (zcy (aO.out.owns ai.out.1)) (zcy (aC.out.owns bo.out.1))).mono ?_; rintro r w8 ⟨rfl, q8, rfl⟩)
    | (go_at_call 10; refine (bw.out _ _ _ (zc6 ((aO.out.drewN q8).owns ai.out.2)) (zc6 ((aC.out.drewN q8).owns bo.out.2))).mono ?_; rintro r bL ⟨rfl, ab⟩; (have ac := zh ((aO.out.drewN q8).trans ab)); (have aQ := zh ((aC.out.drewN q8).trans ab)); (have ad := zh ((ab.block _ (za0 aP.out)).trans aP.out)); (obtain ⟨⟨z0, z1, z2⟩, -⟩ := zah ad.out); clear ab y0 y1 y2 x0 x1 x2))
   go_upto_region 12 with (go_at_call 11; refine (Bk2.ints (v := .slice c2 xl cc2) (xs := xs) HS.out.1 aQ.out ah.out (by rw [<- bx.out]; exact ac.out.owns ai.out.1) HX.out).mono ?_; rintro r bI ⟨rfl, ak, ae, af⟩; (have aR := zh ak); (have aS := zh ae); (have al := za2 (w' := bI) (ac.out.owns ai.out.2) (fun g hg => by
    obtain ⟨c, hc⟩ := za5 (ac.out.owns ai.out.2) hg
    exact af g c _ hc (by decide) (by decide))); (have aT := zh al); (obtain ⟨⟨s0, s1, s2⟩, -⟩ := zah ((af _ _ _ ad.out (by decide) (by decide)).trans ad.out)); (have aU := Nat.le_trans aQ.out.size ae.size); clear ak ae af al z0 z1 z2)
   go_wp2_with (go_at_call 12; refine (Bk2.nodes (v := .slice f2 nl fc2) (xs := ns) aR.out ah.out aU (by rw [<- bz.out]; exact aT.out) HN.out).mono ?_; rintro r bM ⟨rfl, am, an⟩; (have aV := zh (HS.out.next aQ.out aS.out an am)); clear am an)
   go_roundw
   case rel => exact ⟨kk + 1, by omega, by go_num, aV⟩
   case measure => simp [intOf]; omega
  ·obtain rfl : kk = 2 := by omega
   go_wp2_with (first
    | (go_at_call 5; refine (bu.out _ aN.out).mono ?_; rintro r w6 ⟨rfl, ag⟩; (have aj := zh ag); clear ag)
    | (go_at_call 13; refine ((HS.out.1.up aj.out).apart).mono ?_; rintro r w7 ⟨rfl, bt⟩; (have bJ := zh bt); clear bt))
   go_ret
   exact ⟨rfl, zB3 (aN.out.trans aj.out) (by have := aa.out; omega) (by have := aa.out; omega) bJ.out⟩
theorem zul {a : Nat -> Addr} {F G : Nat} {w' : World} (S : zF0 w' a) (hF : zas w' F zae (zac G)) (hG : zas w' G zar (.iface 335 (.pointer (some (a 13))))) : zjx w' (zac F) 14 /\ zjx w' (.iface 335 (.pointer (some (a 13)))) 14 :=
 ⟨fun W hu => zyx (zws (hF.up hu) (hG.up hu)) (S.up hu).zJs, fun W hu => zwa (.inl rfl) (S.up hu).zJs⟩
theorem zr4 {a : Nat -> Addr} (hs : Ls3 w se s.es) (hl : s.es.length <= maxLen) (ai : zfg se) (p q : Int) (S : zF0 w a) (hT : Tab w) (hG : zFl w) :
  Calls prog 3 #[zCb s se, .int .i64 p, .int .i64 q] w (zAb w) := by
 have HA : ∀ W, Up w W -> Calls prog 5 #[] W fun r w' => r = .returned (.bool true) /\ Up W w' := fun W hu => zr9 (hT.up hu) (hu.cell hG) (S.up hu).cmp
 have hC : ∀ W, Up w W -> Calls prog 7 #[zCb s se, .int .i64 p, .int .i64 q] W (zg5 s p q W (.iface 335 (.pointer (some (a 13)))) (.iface 335 (.pointer (some (a 2)))) (.iface 335 (.pointer (some (a 1)))) (.iface 335 (.pointer (some (a 16))))) :=
  fun W hu => zo0 s se p q _ _ _ _ _ W (hT.up hu) (hu.cell hG) (hs.up hu) (S.up hu).cmp hl
 cases hlb : zj2 s
 ·exact zAa p q hs hl hlb HA
 cases hr : Sy.right s
 ·
  refine zjs (sm := false) (xs := []) (ns := []) (k := 14) (l := zan) p q hs hl hlb HA (fun W hu => zh2 p q 14 zan (by decide) (by decide) (hs.up hu) (fun W2 aa => zku p q 14 zan (by decide) (hs.up (hu.trans aa)) (fun W3 ac => zux p q hr (hs.up ((hu.trans aa).trans ac)) hl))) (fun W hu => (hC W hu).mono ?_) (by simp) (by simp)
  rintro r w' ⟨ab, ⟨k1, -⟩ | ⟨k1, -⟩ | ⟨e, rfl, ⟨k1, -⟩ | ⟨k1, -⟩ | ⟨-, qb, pb, rfl, -, -, hF, aj⟩⟩⟩
  ·exact absurd (hr.symm.trans k1) (by decide)
  ·exact absurd (hr.symm.trans k1) (by decide)
  ·exact absurd (hr.symm.trans k1) (by decide)
  ·exact absurd (hr.symm.trans k1) (by decide)
  ·refine zgm.bad ab (fun W2 aa => ?_)
   have ad := (S.up (hu.trans ab)).up aa
   obtain ⟨c1, c2⟩ := zul ad (hF.up aa) (aj.up aa)
   exact zxu (hF.up aa) (aj.up aa) c1 c2
 by_cases ht : There s p q
 ·by_cases h3 : 300 < s.n
  ·
   refine zjs (sm := false) (xs := []) (ns := []) (k := 2) (l := zad) p q hs hl hlb HA (fun W hu => zh2 p q 2 zad (by decide) (by decide) (hs.up hu) (fun W2 aa => zku p q 2 zad (by decide) (hs.up (hu.trans aa)) (fun W3 ac => zqj p q 2 hr (hs.up ((hu.trans aa).trans ac)) hl (.inr ⟨ht, h3, rfl⟩)))) (fun W hu => (hC W hu).mono ?_) (by simp) (by simp)
   rintro r w' ⟨ab, ⟨-, -, k1, -⟩ | ⟨-, -, k1, -⟩ | ⟨e, rfl, ⟨-, -, -, pb, rfl, -, hF⟩ | ⟨-, k1, -⟩ | ⟨k1, -⟩⟩⟩
   ·omega
   ·omega
   ·refine zgm.bad ab (fun W2 aa => ?_)
    have ad := (S.up (hu.trans ab)).up aa
    exact zkq (hF.up aa) (fun W ac => zsw (zki ((hF.up aa).up ac)) (ad.up ac).zJs) (fun W ac => zsw (.inl rfl) (ad.up ac).zJs) (by decide)
   ·exact absurd ht k1
   ·exact absurd (hr.symm.trans k1) (by decide)
  ·have ak : s.n <= 300 := by omega
   obtain ⟨P, rfl⟩ : ∃ P : Nat, p = (P : Nat) := ⟨p.toNat, by unfold There at ht; omega⟩
   obtain ⟨Q, rfl⟩ : ∃ Q : Nat, q = (Q : Nat) := ⟨q.toNat, by unfold There at ht; omega⟩
   obtain ⟨n, hn⟩ : ∃ n : Nat, s.n = (n : Int) := ⟨s.n.toNat, by unfold There at ht; omega⟩
   have hP : P < n := by unfold There at ht; omega
   have hQ : Q < n := by unfold There at ht; omega
   have af : s.n.toNat = n := by omega
   have ag : ∀ W, Up w W -> Calls prog 16 #[zCb s se, .int .i64 (P : Nat), .int .i64 (Q : Nat)] W (zq2 s P Q W) := fun W hu => zzm P Q n hr (hs.up hu) hl ai hn hP hQ (by omega)
   have ah : ∀ W, Up w W -> Calls prog 7 #[zCb s se, .int .i64 (P : Nat), .int .i64 (Q : Nat)] W fun r w' => Up W w' /\ (zxy s P Q W r w' \/ (0 <= Rd.rank s P Q /\ 5000 < (Dt.F s P Q).length /\ ∃ pb, r = .returned (.tuple #[zf5, zac pb]) /\ zas w' pb zae (.iface 335 (.pointer (some (a 16)))))) := fun W hu => by
    refine (hC W hu).mono ?_
    rintro r w' ⟨ab, ⟨-, -, -, k1⟩ | ⟨-, -, -, k1, k2, pb, k3, -, k4⟩ | ⟨e, rfl, ⟨-, -, k1, -⟩ | ⟨-, k1, -⟩ | ⟨k1, -⟩⟩⟩
    ·exact ⟨ab, .inl k1⟩
    ·exact ⟨ab, .inr ⟨k1, k2, pb, k3, k4⟩⟩
    ·omega
    ·exact absurd ht k1
    ·exact absurd (hr.symm.trans k1) (by decide)
   by_cases h0 : Rd.rank s P Q < 0
   ·
    have ae : ((Rd.R s (Rd.last s)).map Int.ofNat).length = n := by rw [List.length_map, Rd.zD0, af]
    refine zjs (sm := true) (xs := (Rd.R s (Rd.last s)).map Int.ofNat) (ns := []) (k := 0) (l := { data := #[] }) P Q hs hl hlb HA (fun W hu => zst rfl P Q hr ai (hs.up hu) (fun W2 aa => (ag W2 (hu.trans aa)).mono ?_)) (fun W hu => (ah W hu).mono ?_) (by rw [ae]; omega) (by simp)
    ·rintro r w' ⟨ab, ⟨-, rfl⟩ | ⟨k1, -⟩ | ⟨k1, -⟩⟩
     ·exact ⟨rfl, ab⟩
     ·omega
     ·omega
    ·rintro r w' ⟨ab, (⟨-, ca, cc, rfl, ho⟩ | ⟨k1, -⟩) | ⟨k1, -⟩⟩
     ·rw [af, <- ae, zq3] at ho
      exact ⟨ca, cc, none, 0, .nilIface, by rw [af, <- ae]; rfl, zh ⟨ho, World.ownsRow_nil _ _ _ _⟩, zh (fun W2 _ => told_none W2), ab⟩
     ·omega
     ·omega
   ·by_cases h5 : 5000 < (Dt.F s P Q).length
    ·
     refine zjs (sm := false) (xs := []) (ns := []) (k := 17) (l := zad) P Q hs hl hlb HA (fun W hu => zh2 P Q 17 zad (by decide) (by decide) (hs.up hu) (fun W2 aa => (ag W2 (hu.trans aa)).mono ?_)) (fun W hu => (ah W hu).mono ?_) (by simp) (by simp)
     ·rintro r w' ⟨ab, ⟨k1, -⟩ | ⟨-, -, rfl⟩ | ⟨-, k1, -⟩⟩
      ·omega
      ·exact ⟨rfl, ab⟩
      ·omega
     ·rintro r w' ⟨ab, (⟨k1, -⟩ | ⟨-, k1, -⟩) | ⟨-, -, pb, rfl, hF⟩⟩
      ·omega
      ·omega
      ·refine zgm.bad ab (fun W2 aa => ?_)
       have ad := (S.up (hu.trans ab)).up aa
       exact zkq (hF.up aa) (fun W ac => zui (zki ((hF.up aa).up ac)) (ad.up ac)) (fun W ac => zui (.inl rfl) (ad.up ac)) (by decide)
    ·
     refine zjs (sm := false) (xs := []) (ns := Dt.F s P Q) (k := 0) (l := { data := #[] }) P Q hs hl hlb HA (fun W hu => ztv P Q (hs.up hu) (fun W2 aa => (ag W2 (hu.trans aa)).mono ?_)) (fun W hu => (ah W hu).mono ?_) (by simp) (by omega)
     ·rintro r w' ⟨ab, ⟨k1, -⟩ | ⟨-, k1, -⟩ | ⟨-, -, fa, fc, rfl, ho⟩⟩
      ·omega
      ·omega
      ·exact ⟨fa, fc, rfl, ho, ab⟩
     ·rintro r w' ⟨ab, (⟨k1, -⟩ | ⟨-, -, fa, fc, rfl, ho⟩) | ⟨-, k1, -⟩⟩
      ·omega
      ·exact ⟨none, 0, fa, fc, .nilIface, rfl, zh ⟨World.ownsRow_nil _ _ _ _, ho⟩, zh (fun W2 _ => told_none W2), ab⟩
      ·omega
 ·
  refine zjs (sm := false) (xs := []) (ns := []) (k := 3) (l := zad) p q hs hl hlb HA (fun W hu => zh2 p q 3 zad (by decide) (by decide) (hs.up hu) (fun W2 aa => zku p q 3 zad (by decide) (hs.up (hu.trans aa)) (fun W3 ac => zqj p q 3 hr (hs.up ((hu.trans aa).trans ac)) hl (.inl ⟨ht, rfl⟩)))) (fun W hu => (hC W hu).mono ?_) (by simp) (by simp)
  rintro r w' ⟨ab, ⟨-, k1, -⟩ | ⟨-, k1, -⟩ | ⟨e, rfl, ⟨-, k1, -⟩ | ⟨-, -, pb, rfl, -, hF⟩ | ⟨k1, -⟩⟩⟩
  ·exact absurd k1 ht
  ·exact absurd k1 ht
  ·exact absurd k1 ht
  ·refine zgm.bad ab (fun W2 aa => ?_)
   have ad := (S.up (hu.trans ab)).up aa
   exact zkq (hF.up aa) (fun W ac => zkb (zki ((hF.up aa).up ac)) (ad.up ac).zJs) (fun W ac => zkb (.inl rfl) (ad.up ac).zJs) (by decide)
  ·exact absurd (hr.symm.trans k1) (by decide)
end
end Go.Proofs.YtoaoajfjcfcmhaaGreatDoor
namespace Go.Proofs.YtoaoajfjcfcmhaaGreatDoor
open Go.ChangeShapes Go.WideShapes Go.Deep Go.RowKit
section
variable {H : Type} {enc : TypeId × Value -> H} {P : Program} {w : World} {base : Nat} {spare : Nat -> Bool} {held : Bool}
theorem zfy {t e : TypeId} {fs : Array Field} {fuel : Nat} {cs : List Value} {x : DataW H × List MemPlace} (ht : P.underlying t = some (.slice e)) (he : P.underlying e = some (.struct fs))
  (ac : oneCellFields P fs = true) (hC : P.cellsOf e = fs.size) (h : DataW.trod enc P w base spare held fuel t cs = some x) :
  (cs = [.slice none 0 0] /\ x = (.nil, [])) \/
  ∃ (a : Addr) (len cap m : Nat) (D : Nat -> DataW H) (Pl : Nat -> List MemPlace), cs = [.slice (some a) len cap] /\ base <= a.block /\ len <= cap /\ cap <= maxLen /\ m = (if spare a.block then cap else len) /\
   x = (.slice ((List.range len).map D) ((List.range (m - len)).map fun j => D (len + j)), MemPlace.row a (m * fs.size) ++ (List.range m).flatMap Pl) /\
   ∀ i, i < m -> ∃ (ys : List (DataW H × List MemPlace)) (n : Nat), D i = .agg (ys.map (·.1)) /\ Pl i = ys.flatMap (·.2) /\ ys.length = fs.size /\
    ∀ (j : Nat) (f : Field), fs[j]? = some f -> ∃ (v : Value) (y : DataW H × List MemPlace), w.cell? (a.add (i * fs.size + j)) = some v /\ ys[j]? = some y /\ DataW.trod enc P w base spare held n f.type [v] = some y := by
 rcases open_slice ht h with h0 | ⟨a, len, cap, m, n, D, Pl, ae, hb, hl, hm, af, hx, hi⟩
 ·exact .inl h0
 ·refine .inr ⟨a, len, cap, m, D, Pl, ae, hb, hl, hm, af, by rw [hC] at hx; exact hx, fun i ag => ?_⟩
  obtain ⟨cs', hc, ah⟩ := hi i ag
  rw [hC] at hc
  obtain ⟨ys, n', am, hy, ai, aj, hf⟩ := DataW.trod_struct he ah
  obtain ⟨_, an, ak⟩ := World.cells?_some hc
  simp only [Prod.mk.injEq] at hy
  refine ⟨ys, n', hy.1, hy.2, aj, fun j f hj => ?_⟩
  obtain ⟨ho, hk⟩ := hone_of ac j f hj
  have al : j < fs.size := (Array.getElem?_eq_some_iff.1 hj).1
  have aa := ak j al
  have hv : cs'[j]? = some (cs'[j]'(by omega)) := List.getElem?_eq_getElem (by omega)
  have h1 := hf j f hj
  rw [ho, hk] at h1
  have ab : (cs'.drop j).take 1 = [cs'[j]'(by omega)] := by
   rw [List.drop_eq_getElem_cons (by omega)]
   rfl
  rw [ab] at h1
  have ad : ys[j]? = some (ys[j]'(by omega)) := List.getElem?_eq_getElem (by omega)
  refine ⟨_, _, ?_, ad, h1.trans ad⟩
  rw [<- Go.Deep.add_add, aa, hv]
theorem zsb {a : Addr} {v : Value} (h : w.cell? a = some v) : a = ⟨a.block, a.off, none⟩ := by
 obtain ⟨b, o, s⟩ := a
 cases s with
 | none => rfl
 | some s =>
  simp only [World.cell?] at h
  split at h
  ·cases h
  ·cases h
theorem zl9 (a : Addr) : a.add 0 = a := by simp [Addr.add]
theorem add_plain (b o i : Nat) : (⟨b, o, none⟩ : Addr).add i = ⟨b, o + i, none⟩ := by
 unfold Addr.add
 split
 ·rename_i h; subst h; rfl
 ·rfl
theorem zyp {W W' : World} {sp : Nat -> Bool} {hd : Bool} {t : TypeId} {v : Value} {d : DataW H} {ps : List MemPlace}
  (hB : Below W.heap.size W W') (h : DataW.Trod enc P W base sp hd t v d ps) : DataW.Trod enc P W' base sp hd t v d ps := by
 obtain ⟨n, hn⟩ := h
 exact ⟨n, DataW.trod_carry n _ _ _ hn (fun p hp => hB.same (DataW.trod_lt n _ _ _ hn p hp))⟩
theorem zjn {W W' : World} {sp : Nat -> Bool} {hd : Bool} (hB : Below W.heap.size W W') : ∀ {ts : List TypeId} {vs : List Value} {ds : List (DataW H)} {ps : List MemPlace},
  DataW.TrodAll enc P W base sp hd ts vs ds ps -> DataW.TrodAll enc P W' base sp hd ts vs ds ps
 | [], [], [], _, h => h
 | _ :: _, _ :: _, _ :: _, _, ⟨p, q, h1, h2, e⟩ => ⟨p, q, zyp hB h1, zjn hB h2, e⟩
theorem zxb {f : Func} {s : ChangeSpec} {W W' : World} {args : Array Value} {ds : List (DataW H)} {p : List MemPlace} {fresh aa : Bool}
  (hl : laidOutB P = true) (hm : mapsRowed P = true) (hz : ((List.range P.types.size).all fun t => match P.underlying t with | some (.slice e) => decide (0 < P.cellsOf e) | _ => true) = true)
  (ad : (f.params.toList.all fun t => decide (t < P.types.size)) = true) (ac : s.vars = []) {bt : TypeId} (ae : f.resultTypes = #[bt]) (af : P.underlying bt = some .bool)
  (hW : DataW.Whole enc P f.params.toList [] false W args.toList ds [] p) (hb : Below W.heap.size W W')
  (ab : s.fn H (ds ++ []) = { results := [.lit (.bool true)], args := ds }) : s.post enc P f false fresh aa false W args (.bool true) W' := by
 have hA := hW
 obtain ⟨pa, pv, h1, hV, hp, _⟩ := hA
 obtain ⟨_, rfl⟩ := trodVars_none hV
 have ag : ∀ x ∈ p, x.block < W.heap.size := fun x hx => hW.lt x hx
 rw [List.append_nil] at hp
 subst hp
 refine ⟨ds, [], p, [], p, [], by rw [ac]; exact hW, ?_, ?_, ?_, hb.frame _, fun h => by cases h⟩
 ·rw [ab, ae]; exact trodAll_mk1 (shut_bool af true)
 ·rw [ab]
  refine zjn hb (DataW.TrodAll.respare (kids_rows hl hm) (slices_full_of P hz) ?_ h1 ?_)
  ·intro t ht
   have := List.all_eq_true.1 ad t ht
   simpa using this
  ·intro x hx
   simpa using ag x hx
 ·rw [ab, ac]; rfl
end
section
variable {H : Type} {enc : TypeId × Value -> H} {P : Program} {w : World} {base : Nat} {spare : Nat -> Bool} {held : Bool}
end
section
variable {H : Type} {enc : TypeId × Value -> H} {P : Program} {w : World} {base : Nat} {spare : Nat -> Bool} {held : Bool}
theorem zln {t e : TypeId} {f0 f1 f2 : Field} {v : Value} {fuel : Nat} {x : DataW H × List MemPlace} (ht : P.underlying t = some (.slice e)) (he : P.underlying e = some (.struct #[f0, f1, f2]))
  (h0 : P.underlying f0.type = some (.int .i64)) (h1 : P.underlying f1.type = some (.int .i64)) (h2 : P.underlying f2.type = some (.int .i64)) (ac : oneCellFields P #[f0, f1, f2] = true) (hC : P.cellsOf e = 3)
  (hf : DataW.trod enc P w base spare held fuel t [v] = some x) : ∃ l : List Sy.Edge, Ls3 w v l /\ l.length <= maxLen /\ zfg v := by
 rcases zfy ht he ac hC hf with ⟨hv, _⟩ | ⟨a, len, cap, m, D, Pl, hv, hb, hl, hm, ae, ai, hi⟩
 ·simp only [List.cons.injEq, and_true] at hv
  subst hv
  exact ⟨[], ⟨none, 0, 0, 0, rfl, fun h => by simp at h, fun i h => by simp at h⟩, Nat.zero_le _, ⟨Nat.le_refl _, Nat.zero_le _⟩⟩
 ·simp only [List.cons.injEq, and_true] at hv
  subst hv
  have aj : len <= m := by rw [ae]; split <;> omega
  have key : ∀ i, i < len -> ∃ x y z : Int, w.cell? (a.add (i * 3)) = some (.int .i64 x) /\ w.cell? (a.add (i * 3 + 1)) = some (.int .i64 y) /\ w.cell? (a.add (i * 3 + 2)) = some (.int .i64 z) := by
   intro i al
   obtain ⟨ys, n, _, _, _, ad⟩ := hi i (by omega)
   obtain ⟨v0, y0, c0, _, t0⟩ := ad 0 f0 rfl
   obtain ⟨v1, y1, c1, _, t1⟩ := ad 1 f1 rfl
   obtain ⟨v2, y2, c2, _, t2⟩ := ad 2 f2 rfl
   obtain ⟨x, af, _, wx⟩ := DataW.trod_int h0 t0
   obtain ⟨y, ag, _, wy⟩ := DataW.trod_int h1 t1
   obtain ⟨z, ah, _, wz⟩ := DataW.trod_int h2 t2
   simp only [List.cons.injEq, and_true] at af ag ah
   subst af ag ah
   exact ⟨x, y, z, c0, c1, c2⟩
  have ak : ∃ l : List Sy.Edge, l.length = len /\ ∀ i, i < len -> w.cell? (a.add (i * 3)) = some (.int .i64 (l.getD i (0, 0, 0)).1) /\ w.cell? (a.add (i * 3 + 1)) = some (.int .i64 (l.getD i (0, 0, 0)).2.1) /\
    w.cell? (a.add (i * 3 + 2)) = some (.int .i64 (l.getD i (0, 0, 0)).2.2) := by
   clear hi hf aj ae hl hm ai
   induction len with
   | zero => exact ⟨[], rfl, fun i h => by omega⟩
   | succ len ih =>
    obtain ⟨l, aa, ab⟩ := ih (fun i h => key i (by omega))
    obtain ⟨x, y, z, c0, c1, c2⟩ := key len (by omega)
    refine ⟨l ++ [(x, y, z)], by simp [aa], fun i h => ?_⟩
    by_cases g : i < len
    ·have := ab i g
     simp only [List.getD, List.getElem?_append, aa, g, if_true] at this ⊢
     exact this
    ·obtain rfl : i = len := by omega
     simp only [List.getD, List.getElem?_append, aa, Nat.lt_irrefl, if_false, Nat.sub_self, List.getElem?_cons_zero, Option.getD_some]
     exact ⟨c0, c1, c2⟩
  obtain ⟨l, aa, ab⟩ := ak
  by_cases h00 : len = 0
  ·subst h00
   have : l = [] := List.eq_nil_of_length_eq_zero aa
   subst this
   exact ⟨[], ⟨some a, cap, 0, 0, rfl, fun h => by simp at h, fun i h => by simp at h⟩, Nat.zero_le _, ⟨hl, hm⟩⟩
  ·have ha := (ab 0 (by omega)).1
   rw [Nat.zero_mul, zl9] at ha
   have hp := zsb ha
   obtain ⟨g, off, sp⟩ := a
   simp only [Addr.mk.injEq, true_and] at hp
   subst hp
   simp only [add_plain] at ab
   refine ⟨l, ⟨_, cap, g, off, by rw [aa], fun _ => rfl, fun i h => ?_⟩, by omega, ⟨hl, hm⟩⟩
   have := ab i (by omega)
   simp only [<- Nat.add_assoc] at this
   exact this
theorem zuz {r : Reach} {b0 : Nat} {t e : TypeId} {f0 f1 f2 f3 e0 e1 e2 : Field} {v : Value} {d : DataW H} {ps : List MemPlace} (ht : P.underlying t = some (.struct #[f0, f1, f2, f3]))
  (h0 : P.underlying f0.type = some (.int .i64)) (h1 : P.underlying f1.type = some (.int .i64)) (h2 : P.underlying f2.type = some (.int .i64)) (h3 : P.underlying f3.type = some (.slice e))
  (he : P.underlying e = some (.struct #[e0, e1, e2])) (g0 : P.underlying e0.type = some (.int .i64)) (g1 : P.underlying e1.type = some (.int .i64)) (g2 : P.underlying e2.type = some (.int .i64))
  (aa : oneCellFields P #[f0, f1, f2, f3] = true) (ag : P.cellsOf t = 4) (ac : oneCellFields P #[e0, e1, e2] = true) (hC : P.cellsOf e = 3)
  (ad : Value.okWide P w r b0 t v) (hd : DataW.Trod enc P w base spare held t v d ps) :
  ∃ (s : Sy.Lts) (se : Value), v = zCb s se /\ Ls3 w se s.es /\ s.es.length <= maxLen /\ (Lit.int .i64 s.n).wf = true /\ (Lit.int .i64 s.m).wf = true /\ (Lit.int .i64 s.start).wf = true /\ zfg se := by
 obtain ⟨fuel, hf⟩ := hd
 obtain ⟨cs, rfl, ae⟩ := okWide_struct ht ad
 obtain ⟨c0, c1, c2, c3, rfl⟩ : ∃ c0 c1 c2 c3, cs = #[c0, c1, c2, c3] := by
  rw [ag] at ae
  match cs, ae with
  | ⟨[c0, c1, c2, c3]⟩, _ => exact ⟨c0, c1, c2, c3, rfl⟩
 have ah : (Value.agg #[c0, c1, c2, c3]).cells.toList = [c0, c1, c2, c3] := rfl
 rw [ah] at hf
 obtain ⟨ys, n', _, hy, ai, aj, ak⟩ := DataW.trod_struct ht hf
 have key : ∀ (j : Nat) (f : Field) (u : Value), #[f0, f1, f2, f3][j]? = some f -> [c0, c1, c2, c3][j]? = some u -> ∃ y, DataW.trod enc P w base spare held n' f.type [u] = some y := by
  intro j f u hj hu
  obtain ⟨ho, hk⟩ := hone_of aa j f hj
  have af : j < 4 := (Array.getElem?_eq_some_iff.1 hj).1
  have h := ak j f hj
  rw [ho, hk] at h
  have ab : (([c0, c1, c2, c3] : List Value).drop j).take 1 = [u] := by
   have hl : j < [c0, c1, c2, c3].length := af
   rw [List.drop_eq_getElem_cons hl]
   have : [c0, c1, c2, c3][j] = u := by
    rw [List.getElem?_eq_getElem hl] at hu
    exact Option.some.inj hu
   rw [this]; rfl
  rw [ab] at h
  have al : ys[j]? = some (ys[j]'(by rw [aj]; exact af)) := List.getElem?_eq_getElem _
  exact ⟨_, h.trans al⟩
 obtain ⟨y0, t0⟩ := key 0 f0 c0 rfl rfl
 obtain ⟨y1, t1⟩ := key 1 f1 c1 rfl rfl
 obtain ⟨y2, t2⟩ := key 2 f2 c2 rfl rfl
 obtain ⟨y3, t3⟩ := key 3 f3 c3 rfl rfl
 obtain ⟨x0, q0, _, w0⟩ := DataW.trod_int h0 t0
 obtain ⟨x1, q1, _, w1⟩ := DataW.trod_int h1 t1
 obtain ⟨x2, q2, _, w2⟩ := DataW.trod_int h2 t2
 simp only [List.cons.injEq, and_true] at q0 q1 q2
 subst q0 q1 q2
 obtain ⟨l, hl, hm, am⟩ := zln h3 he g0 g1 g2 ac hC t3
 exact ⟨⟨x0, x1, x2, l⟩, c3, rfl, hl, hm, w0, w1, w2, am⟩
end
end Go.Proofs.YtoaoajfjcfcmhaaGreatDoor
