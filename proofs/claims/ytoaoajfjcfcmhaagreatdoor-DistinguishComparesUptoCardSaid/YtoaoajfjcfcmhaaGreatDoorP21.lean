/- Walks: refine.Of. -/
import Derived.Test.YtoaoajfjcfcmhaaGreatDoorP20
import Derived.Test.YtoaoajfjcfcmhaaGreatDoorP15
import Derived.Deep.RegionWith
import Derived.Deep.DeepCutAuto
import Derived.BigRegion
import Derived.BigQuiet
import Derived.Deep.QuietTactic
import Derived.Test.YtoaoajfjcfcmhaaGreatDoorP01
set_option linter.unusedVariables false
set_option linter.unusedSimpArgs false
set_option maxHeartbeats 16000000
set_option maxRecDepth 100000
open Go.Proofs.Tryz
namespace Go.Proofs.YtoaoajfjcfcmhaaGreatDoor
open Go.RowKit Go.Maps
theorem Tryz.zFh : (prog.info? 299).map (fun i => (i.zero, i.size, i.bytes)) = some (some (.agg #[.int .i64 0, .int .i64 0, .int .i64 0]), 3, 24) := by kernel_rfl
def zA8 (w : World) (n : Nat) (l : List Int) (v : Value) (w' : World) : Prop :=
 ∃ Bx gi gp : Nat, v = .pointer (some ⟨Bx, 0, none⟩) /\ w'.heap[Bx]? = some (.cells #[.slice none 0 0, .slice (some ⟨gp, 0, none⟩) n n, .slice (some ⟨gi, 0, none⟩) n n, .slice none 0 0] 257 (0, 0)) /\
  Row w' gi 3 n (ints (Cn.canon l)) /\ Row w' gp 3 n (ints (List.replicate n 0)) /\ gi ≠ gp /\ w.heap.size <= gi /\ w.heap.size <= gp /\ w.heap.size <= Bx /\ Below w.heap.size w w'
theorem zqd (w : World) (n : Nat) (Z : Array Value) (hZ : Z = madeCells (Value.int .i64 0).cells (n * 1)) : Row (w.alloc (.cells Z 3)) w.heap.size 3 n (ints (List.replicate n 0)) := by
 refine ⟨Z, heap_alloc_new w _, by rw [hZ, size_madeCells]; omega, by simp [ints], ?_⟩
 have e : Z.toList = ints (List.replicate n 0) := by
  rw [hZ, Nat.mul_one, zcm]; exact toList_madeCells_one _ _
 rw [e, List.take_of_length_le (Nat.le_refl _)]
theorem zzj (g off n cap : Nat) (ao : Option Addr) (a9 : 0 < n -> ao = some ⟨g, off, none⟩) (l : List Int) (w : World) (hl : l.length = n) (hn : n <= 1000)
  (ba : ∀ k, k < n -> (Lit.int .i64 (l.getD k 0)).wf = true) (hc : ∀ k, k < n -> w.cell? ⟨g, off + k, none⟩ = some (.int .i64 (l.getD k 0))) :
  Calls prog 195 #[.slice ao n cap] w (zor w (Rf.zEv l)) := by
 obtain ⟨i0, hi, bb, bc, bd⟩ := info_parts Tryz.zFf
 have be : 0 < n -> g < w.heap.size := fun h => World.block_lt_of_cell? w _ (hc 0 h)
 obtain ⟨Z, hZ⟩ := nm (madeCells (Value.int .i64 0).cells (n * 1))
 have bu : ∀ w, (Instr.makeSlice 27 (.int .i64 (n : Int)) (.int .i64 (n : Int))).run prog w = .ok (.slice (some ⟨w.heap.size, 0, none⟩) n n) (w.alloc (.cells Z 3)) := by
  intro w
  have h := run_make (P := prog) w 27 3 i0 (.int .i64 0) underlying27 hi bb .i64 .i64 n n (by omega) (by omega) (by rw [bd]; omega) (by omega)
  rw [h, hZ, bc]; simp
 have HC : Hid (∀ k, k < n -> w.drew.cell? ⟨g, off + k, none⟩ = some (.int .i64 (l.getD k 0))) := hc
 have bv : Hid (∀ k, k < n -> (w.alloc (.cells Z 3)).drew.cell? ⟨g, off + k, none⟩ = some (.int .i64 (l.getD k 0))) := by
  intro k hk
  show (w.alloc _).cell? _ = _
  rw [World.cell?_alloc_lt _ _ _ (be (by omega))]; exact hc k hk
 have HZ := zh hZ
 have HL := zh hl
 have bf := zh a9
 clear a9
 have bh := zh ba
 clear hZ hl ba hc
 have hd : decide (1000 < (n : Int)) = false := by simp; omega
 go_enter func195, ntmps195
 go_upto_region 3 with fail
 go_cut [4] (zA8 w n l)
 case first =>
  go_region_with (go_at_call 172; refine (zj8 g off n cap _ bf.out l _ HL.out (by omega) bh.out (by first | exact HC.out | exact bv.out)).mono ?_; rintro e w1 ⟨rfl, ae, ab⟩)
  all_goals go_wp2_with fail
  all_goals go_meet
  ·have hb : Below w.heap.size w w1 := (Below.refl _ _).drew.trans ab
   have aO := ab.size
   have ak := ae.lt
   have aP : w.drew.heap.size = w.heap.size := rfl
   rw [aP] at ae ak aO
   refine ⟨w1.heap.size + 1, w.heap.size + 1, w1.heap.size, rfl, ?_, (ae.alloc _).alloc _, (zqd w1 n Z HZ.out).alloc _, by omega, by omega, by omega, by omega, (hb.alloc (by omega) _).alloc (by simp; omega) _⟩
   have := heap_alloc_new (w1.alloc (.cells Z 3)) (.cells #[.slice none 0 0, .slice (some ⟨w1.heap.size, 0, none⟩) n n, .slice (some ⟨w.heap.size + 1, 0, none⟩) n n, .slice none 0 0] 257)
   rw [World.size_alloc] at this
   exact this
  ·have hz := zqd w n Z HZ.out
   have aO := ab.size
   have ak := ae.lt
   have aP : (w.alloc (.cells Z 3)).drew.heap.size = w.heap.size + 1 := by show (w.alloc _).heap.size = _; simp
   rw [aP] at ae ak aO ab
   have hb : Below w.heap.size w w1 := (((Below.refl _ _).alloc (Nat.le_refl _) _).drew).trans (ab.mono (by omega))
   have bw : Row w1 w.heap.size 3 n (ints (List.replicate n 0)) := hz.keep (ab.block _ (by omega))
   exact ⟨w1.heap.size, w.heap.size + 1 + 1, w.heap.size, rfl, heap_alloc_new w1 _, ae.alloc _, bw.alloc _, by omega, by omega, by omega, by omega, hb.alloc (by omega) _⟩
 case rest =>
  obtain ⟨Bx, gi, gp, rfl, af, aJ, aK, bi, bx, bz, bj, ab⟩ := hcut
  obtain ⟨j0, hj, bA, bB, bC⟩ := info_parts Tryz.zFh
  have bo : ∀ k, k < n -> wc.cell? ⟨g, off + k, none⟩ = some (.int .i64 (l.getD k 0)) := fun k hk => (ab.cell (p := ⟨g, off + k, none⟩) (be (by omega))).trans ((show w.cell? ⟨g, off + k, none⟩ = _ from HC.out k hk))
  have bD := zh bo
  have aQ := Cn.zCq l
  have aR : (Cn.seen l).length <= n := by rw [HL.out] at aQ; exact aQ
  clear bo aQ bu
  go_wp2_with fail
  refine (zli g off n cap _ bf.out l _ HL.out (by omega) bh.out bD.out).mono ?_
  rintro e w2 ⟨rfl, aB⟩
  have aS : w2.heap[Bx]? = some (.cells #[.slice none 0 0, .slice (some ⟨gp, 0, none⟩) n n, .slice (some ⟨gi, 0, none⟩) n n, .slice none 0 0] 257 (0, 0)) := (aB.block _ (lt_of_block af)).trans af
  obtain ⟨nb, aT⟩ := nm ((Cn.seen l).length)
  rw [<- aT] at aR ⊢
  have aC := zh aT
  clear aT
  have aE := aJ.lt
  have aF := aK.lt
  have aU := lt_of_block af
  have bE := aB.size
  have av := aJ.keep (aB.block _ aE)
  have aG := aK.keep (aB.block _ aF)
  have ad : Below w.heap.size w w2 := ab.trans (aB.mono ab.size)
  have aV : Bx ≠ gi := by
   intro e; obtain ⟨cur, hh, _⟩ := aJ; rw [<- e, af] at hh; simp at hh
  have aW : Bx ≠ gp := by
   intro e; obtain ⟨cur, hh, _⟩ := aK; rw [<- e, af] at hh; simp at hh
  clear af aJ aK ab
  go_wp2_with (at_make; refine wpList_make_full _ rfl _ _ 255 rfl 0 299 j0 _ 3 underlying255 hj bA bB _ _ _ _ nb rfl rfl rfl rfl (by rw [bC]; omega) (by unfold maxLen; omega) (Nat.zero_le _) ?_; intro w3 ag aa; (have aL : w3.heap[Bx]? = some (.cells #[.slice none 0 0, .slice (some ⟨gp, 0, none⟩) n n, .slice (some ⟨gi, 0, none⟩) n n, .slice none 0 0] 257 (0, 0)) := (aa.block _ (lt_of_block aS) (by simp)).trans aS); (have aX : w3.cell? ⟨Bx, 3, none⟩ = some (.slice none 0 0) := by simp [World.cell?, aL]); (have aY : w3.frozen? ⟨Bx, 3, none⟩ = false := by simp [World.frozen?, aL]))
  obtain ⟨inn, al⟩ := nm (Cn.canon l)
  rw [<- al] at av
  have ac := zh al
  have aZ : inn.length = n := by rw [al, Cn.zC8, HL.out]
  clear al
  have bF := aa.size
  have a0 : w2.heap.size < w3.heap.size := (Row.of ag).1.lt
  have hB : OfB w Bx gi gp w2.heap.size w3.heap.size := ⟨bi, by omega, by omega, aV, aW, by omega, by omega, by omega, by omega, by omega, by omega, by omega, by have := ad.size; omega, by omega⟩
  have a1 : OfR w (w3.setCell ⟨Bx, 3, none⟩ (.slice (some ⟨w2.heap.size, 0, none⟩) nb nb)) Bx gi gp w2.heap.size w3.heap.size n nb inn (.slice none 0 0) (Rf.outer inn n 0).1 ((Rf.outer inn n 0).2 ++ List.replicate (nb - 0) (0, 0, 0)) := by
   refine ⟨by simp [World.setCell, Array.getElem?_modify, aL], World.ownsRow_nil _ _ _ _, (aG.keep (aa.block _ (by omega) (by simp))).other (fun e => aW e.symm) _, (av.keep (aa.block _ (by omega) (by simp))).other (fun e => aV e.symm) _, ?_, (ad.grown aa ad.size (by simp)).setCell bj _, by simp⟩
   have h := (Row.of ag).1
   rw [zgq] at h
   simpa [Rf.outer] using h.other (a := ⟨Bx, 3, none⟩) (show w2.heap.size ≠ Bx by omega) _
  obtain ⟨S0, bp⟩ := nm (w3.heap.size)
  obtain ⟨gb, aw⟩ := nm (w2.heap.size)
  rw [<- bp, <- aw] at hB a1
  rw [<- aw]
  clear aL aX aY ag aa aS av aG ad aB bF a0 bE aE aF aU aV aW bp aw bx bz bj bi
  go_loopw [31] (fun i wr => ∃ (b : Nat) (ve : Value), b <= nb /\ i = .int .i64 b /\ OfR w wr Bx gi gp gb S0 n nb inn ve (Rf.outer inn n b).1 ((Rf.outer inn n b).2 ++ List.replicate (nb - b) (0, 0, 0)))
   (fun i _ => nb - (intOf i).toNat)
  case atStart => exact ⟨0, _, Nat.zero_le _, rfl, a1⟩
  case round =>
   clear a1
   obtain ⟨b, ve, hb, rfl, hR⟩ := hrel
   by_cases ak : b < nb
   ·obtain ⟨ao, c, rfl⟩ := zc0 hR.el
    have bG : (Rf.outer inn n b).1.1.length <= n := by
     have := Rf.zHh l b (by rw [<- aC.out]; omega)
     rw [<- ac.out, HL.out] at this; exact this
    obtain ⟨m, hm⟩ := nm ((Rf.outer inn n b).1.1.length)
    obtain ⟨bl, aD⟩ := nm ((Rf.outer inn n b).2 ++ List.replicate (nb - b) (0, 0, 0))
    rw [<- hm] at hR bG
    rw [<- aD] at hR
    have HM := zh hm
    have bH := zh aD
    have a2 : bl.length = nb := by rw [aD, List.length_append, Rf.zCw, List.length_replicate]; omega
    clear hm aD
    have c0 : wr.cell? ⟨Bx, 0, none⟩ = some (.slice ao m c) := by simp [World.cell?, hR.box]
    have c2 : wr.cell? ⟨Bx, 2, none⟩ = some (.slice (some ⟨gi, 0, none⟩) n n) := by simp [World.cell?, hR.box]
    have c3 : wr.cell? ⟨Bx, 3, none⟩ = some (.slice (some ⟨gb, 0, none⟩) nb nb) := by simp [World.cell?, hR.box]
    have cb := hR.bk.cell (zau bl b (by omega))
    have fb := hR.bk.free (b * 3)
    go_wp2_with fail
    go_region
    have ax := (hR.zJq hB (b * 3) (.int .i64 (m : Nat)) _ (zew bl b m (by omega))).drew
    obtain ⟨wx, a3⟩ : ∃ wx, (wr.setCell ⟨gb, b * 3, none⟩ (.int .i64 (m : Nat))).drew = wx := ⟨_, rfl⟩
    rw [a3] at ax
    rw [a3]
    clear a3 c0 c2 c3 cb fb
    have c2 : wx.cell? ⟨Bx, 2, none⟩ = some (.slice (some ⟨gi, 0, none⟩) n n) := by simp [World.cell?, ax.box]
    go_wp2_with fail
    obtain ⟨q, hq⟩ := nm ((Rf.outer inn n b).1)
    rw [<- hq] at ax
    have HQ := zh hq
    have a4 : m = q.1.length := by rw [hq]; exact HM.out
    obtain ⟨bl1, am⟩ := nm (bl.set b (m, (bl.getD b (0, 0, 0)).2.1, (bl.getD b (0, 0, 0)).2.2))
    rw [<- am] at ax
    have a5 := zh am
    have bq : bl1.length = nb := by rw [am, List.length_set, a2]
    rw [a4] at ax
    have bI := zh a4
    clear hq am a4 hR c2
    go_loopw [51] (fun i wr => ∃ (k : Nat) (ve : Value), k <= n /\ i = .int .i64 k /\ OfR w wr Bx gi gp gb S0 n nb inn ve (Rf.inner inn b k q) bl1)
     (fun i _ => n - (intOf i).toNat)
    case atStart => exact ⟨0, _, Nat.zero_le _, rfl, ax⟩
    case round =>
     clear ax
     obtain ⟨k, ve, hk, rfl, hR⟩ := hrel
     by_cases hkn : k < n
     ·obtain ⟨x, hx⟩ := nm (inn.getD k 0)
      have ci := hR.ir.cell (zai (l := inn) (i := k) (by omega))
      rw [<- hx] at ci
      have HX := zh hx
      clear hx
      by_cases hxb : x = b
      ·obtain ⟨ao1, c1, rfl⟩ := zc0 hR.el
       have ah : (Rf.inner inn b k q).1.length <= n := by
        have := Rf.zHa l b k (by rw [<- aC.out]; omega) (by rw [HL.out]; exact hk)
        rw [<- ac.out, HL.out, <- HQ.out] at this; exact this
       obtain ⟨q1, ay⟩ := nm (Rf.inner inn b k q)
       rw [<- ay] at hR ah
       obtain ⟨m1, aA⟩ := nm (q1.1.length)
       rw [<- aA] at hR ah
       have aM := zh ay
       have aN := zh aA
       clear ay aA
       have a6 : ((x : Int) == (b : Int)) = true := by simp; omega
       have d0 : wr.cell? ⟨Bx, 0, none⟩ = some (.slice ao1 m1 c1) := by simp [World.cell?, hR.box]
       have d1 : wr.cell? ⟨Bx, 1, none⟩ = some (.slice (some ⟨gp, 0, none⟩) n n) := by simp [World.cell?, hR.box]
       have br : q1.2.length = n := by rw [aM.out, (Rf.zGg _ _ _ _).1, HQ.out, Rf.zFd]
       have dp := hR.pl.cell (zai (l := q1.2) (i := k) (by omega))
       have fp := hR.pl.free k
       have bJ := zh hxb
       have bK := zh br
       clear hxb br
       go_wp2_with fail
       go_region
       have an := (hR.zL4 hB k m1).drew
       obtain ⟨wy, a7⟩ : ∃ wy, (wr.setCell ⟨gp, k, none⟩ (.int .i64 (m1 : Nat))).drew = wy := ⟨_, rfl⟩
       rw [a7] at an
       rw [a7]
       clear a7 d0 d1 dp fp ci hR
       have d0 : wy.cell? ⟨Bx, 0, none⟩ = some (.slice ao1 m1 c1) := by simp [World.cell?, an.box]
       have a8 := an.el
       have ak : (q1.1, q1.2.set k m1).1.length = m1 := aN.out.symm
       rw [ak] at a8
       have hS := an.s0
       have bL := hB.l4
       go_wp2_with (at_builtin; (refine wpList_append_own _ rfl _ _ 27 rfl S0 3 i0 (.int .i64 0) 1 8 underlying27 hi bb bc bd rfl (by decide) _ m1 _ rfl (a8.alloc _) ⟨wy.heap.size, 0, none⟩ 1 1 [.int .i64 (k : Nat)] rfl rfl (cell_one_new _ _ _) (ints_oneCell .i64 [(k : Int)]) (by unfold maxLen; omega) (by omega) (by simp; omega) ?_); intro v' w1 ai aj aH; clear aH; (obtain ⟨ao2, c2, rfl⟩ := zc0 ai); (have aI : w1.heap[Bx]? = some (.cells #[.slice ao1 m1 c1, .slice (some ⟨gp, 0, none⟩) n n, .slice (some ⟨gi, 0, none⟩) n n, .slice (some ⟨gb, 0, none⟩) nb nb] 257 (0, 0)) := (aj.block Bx (by simp; omega) (by intro e; have := (a8.lt Bx e.symm).1; omega)).trans ((Below.heap_alloc _ _ _ (by omega)).trans an.box)); (have bM : w1.cell? ⟨Bx, 0, none⟩ = some (.slice ao1 m1 c1) := by simp [World.cell?, aI]); (have bN : w1.frozen? ⟨Bx, 0, none⟩ = false := by simp [World.frozen?, aI]))
       rw [<- ak] at ai
       have bt := an.push hB k ai aj
       rw [ak] at bt
       go_roundw
       case rel => exact ⟨k + 1, _, by omega, by go_num, by rw [Rf.zDj, <- aM.out, Rf.zFv, if_pos (by rw [<- HX.out]; exact bJ.out), <- aN.out]; exact bt⟩
       case measure => simp [intOf]; omega
      ·have a6 : ((x : Int) == (b : Int)) = false := by simp; omega
       go_wp2_with fail
       go_roundw
       case rel => exact ⟨k + 1, ve, by omega, by go_num, by rw [Rf.zDj, Rf.zFv, if_neg (by rw [<- HX.out]; exact hxb)]; exact hR⟩
       case measure => simp [intOf]; omega
     ·obtain rfl : k = n := by omega
      obtain ⟨ao1, c1, rfl⟩ := zc0 hR.el
      have ah : (Rf.inner inn b k q).1.length <= k := by
       have := Rf.zHa l b k (by rw [<- aC.out]; omega) (by rw [HL.out]; exact hk)
       rw [<- ac.out, HL.out, <- HQ.out] at this; exact this
      obtain ⟨q1, ay⟩ := nm (Rf.inner inn b k q)
      rw [<- ay] at hR ah
      obtain ⟨m1, aA⟩ := nm (q1.1.length)
      rw [<- aA] at hR ah
      have aM := zh ay
      have aN := zh aA
      clear ay aA
      have d0 : wr.cell? ⟨Bx, 0, none⟩ = some (.slice ao1 m1 c1) := by simp [World.cell?, hR.box]
      have d3 : wr.cell? ⟨Bx, 3, none⟩ = some (.slice (some ⟨gb, 0, none⟩) nb nb) := by simp [World.cell?, hR.box]
      have db := hR.bk.cell (zb1 bl1 b (by omega))
      have fb := hR.bk.free (b * 3 + 1)
      go_wp2_with fail
      go_region
      have an := (hR.zJq hB (b * 3 + 1) (.int .i64 (m1 : Nat)) _ (zf1 bl1 b m1 (by omega))).drew
      have aq := zp5 _ b nb m m1 (Rf.zCw inn k b) ak bl bl1 bH.out a5.out
      have au : Rf.outer inn k (b + 1) = (q1, (Rf.outer inn k b).2 ++ [(m, m1, 0)]) := by
       rw [Rf.outer, <- HQ.out, <- aM.out, <- aN.out, <- bI.out]
      rw [aq] at an
      have HF := zh au
      clear aq au d0 d3 db fb hR
      go_wp2_with fail
      go_roundw
      case rel => exact ⟨b + 1, _, by omega, by go_num, by rw [HF.out]; exact an⟩
      case measure => simp [intOf]; omega
   ·obtain rfl : b = nb := by omega
    go_wp2_with fail
    go_ret2
    have aD : (Rf.outer inn n b).2 ++ List.replicate (b - b) (0, 0, 0) = (Rf.outer inn n b).2 := by simp
    rw [aD] at hR
    have hP := hR.part (s := Rf.zEv l) hB hn (by omega) (by rw [ac.out, aC.out, <- HL.out]; rfl) (by rw [ac.out, aC.out, <- HL.out]; rfl) ac.out.symm (by rw [ac.out, aC.out, <- HL.out]; rfl)
     (Rf.zFd _ _ _) aZ (Rf.zCw _ _ _)
    exact ⟨Bx, ve, _, _, _, rfl, hP.1, hP.2, hR.bel⟩
theorem zBa (g off n cap : Nat) (l : List Int) (w : World) (hl : l.length = n) (hn : n <= 1000)
  (aa : ∀ k, k < n -> (Lit.int .i64 (l.getD k 0)).wf = true) (hc : ∀ k, k < n -> w.cell? ⟨g, off + k, none⟩ = some (.int .i64 (l.getD k 0))) :
  Calls prog 195 #[.slice (some ⟨g, off, none⟩) n cap] w (zor w (Rf.zEv l)) :=
 zzj g off n cap _ (fun _ => rfl) l w hl hn aa hc
theorem zk3 (n k : Nat) : (List.replicate n (0 : Int)).getD k 0 = 0 := by
 simp only [List.getD, List.getElem?_replicate]; split <;> rfl
theorem zBh (n : Nat) (w : World) (h : n <= 1000) :
  Calls prog 163 #[.int .i64 n] w (zor w (Rf.zEv (List.replicate n 0))) := by
 obtain ⟨i0, hi, ae, af, ag⟩ := info_parts Tryz.zFf
 go_enter func163, ntmps163
 go_wp2_with (at_make; refine wpList_make_full _ rfl _ _ 27 rfl 0 3 i0 (.int .i64 0) 1 underlying27 hi ae af _ _ _ _ n rfl rfl rfl rfl (by rw [ag]; omega) (by unfold maxLen; omega) (Nat.zero_le _) ?_; intro w1 ab aa)
 have ac := (Row.of ab).1
 have ad : Below w.heap.size w w1 := (Below.refl _ _).grown aa (Nat.le_refl _) (by simp)
 refine (zBa w.heap.size 0 n n (List.replicate n 0) w1 (by simp) h (by intro k hk; rw [zk3]; decide) ?_).mono ?_
 ·intro k hk
  rw [zk3, Nat.zero_add]
  refine ac.cell ?_
  show ((madeCells #[Value.int .i64 0] (n * 1)).toList)[k]? = _
  rw [Nat.mul_one, toList_madeCells_one]; simp [hk]
 ·rintro e w2 ⟨B, ve, vp, vi, vb, rfl, hP, hF, ah⟩
  go_wp2
  go_ret2
  exact ⟨B, ve, vp, vi, vb, rfl, hP, fun k hk => Nat.le_trans ad.size (hF k hk), ad.trans (ah.mono ad.size)⟩
end Go.Proofs.YtoaoajfjcfcmhaaGreatDoor
