/- The document's own answer: edges in order, each once: two halves, sorted, and merged. -/
import Derived.Test.YtoaoajfjcfcmhaaGreatDoorP11
import Derived.Test.YtoaoajfjcfcmhaaGreatDoorP06
import Derived.Test.YtoaoajfjcfcmhaaGreatDoorP08
import Derived.Test.YtoaoajfjcfcmhaaGreatDoorP03
import Derived.Deep.Cut
import Derived.BigCall
import Derived.OwnWalk
import Derived.Test.YtoaoajfjcfcmhaaGreatDoorP01
set_option linter.unusedVariables false
set_option linter.unusedSimpArgs false
set_option maxHeartbeats 16000000
set_option maxRecDepth 100000
open Go.Proofs.Tryz
namespace Go.Proofs.YtoaoajfjcfcmhaaGreatDoor
open Go.RowKit Go.Maps
def zcd (w : World) (l : List Sy.Edge) (r : Ending) (w' : World) : Prop :=
 ∃ ao cap, r = .returned (.slice ao l.length cap) /\ w'.ownsRow w.heap.size 60 3 (.slice ao l.length cap) l.length (cells3 l) /\ Up w w'
def zfg : Value -> Prop
 | .slice _ n c => n <= c /\ c <= maxLen
 | _ => True
theorem zJ7.part {w : World} {g off : Nat} {l : List Sy.Edge} (h : zJ7 w g off l) (a n : Nat) (hn : a + n <= l.length) : zJ7 w g (off + a * 3) ((l.drop a).take n) := by
 intro i hi
 rw [List.length_take, List.length_drop] at hi
 have hh := h (a + i) (by omega)
 have e : ((l.drop a).take n).getD i (0, 0, 0) = l.getD (a + i) (0, 0, 0) := by
  simp only [List.getD, List.getElem?_take, List.getElem?_drop]
  rw [if_pos (by omega)]
 rw [e]
 have e2 : off + a * 3 + i * 3 = off + (a + i) * 3 := by omega
 rw [e2]; exact hh
theorem zrm {w : World} {ao : Option Addr} {g off : Nat} {l : List Sy.Edge} (ha : 0 < l.length -> ao = some ⟨g, off, none⟩) (hc : zJ7 w g off l) : ∀ ad, ao = some ad -> ∀ j u, (cells3 l)[j]? = some u -> w.cell? (ad.add j) = some u := by
 intro ad aa j u hj
 have hl : 0 < l.length := by
  have := (List.getElem?_eq_some_iff.1 hj).1
  rw [zbn] at this; omega
 have h := ha hl
 rw [aa, Option.some.injEq] at h
 subst h
 exact zmj hc j u hj
theorem zgh {w : World} {v : Value} {l : List Sy.Edge} (hv : Ls3 w v l) (h2 : l.length < 2) :
  Calls prog 142 #[v] w (zcd w (Sy.norm Sy.lt3 l)) := by
 obtain ⟨i0, hi, ad, ae, af⟩ := info_parts Tryz.zFi
 rw [Rd.zI3 l h2]
 obtain ⟨ao, cap, g, off, rfl, ha, hc⟩ := hv
 have ac := zrm ha hc
 have aa : ao = none -> l.length = 0 := fun e => by
  rcases Nat.eq_zero_or_pos l.length with h | h
  ·exact h
  ·have := ha h; rw [e] at this; cases this
 have HL := zh (zbn l)
 obtain ⟨n, hn⟩ := nm (l.length)
 have HN := zh hn
 unfold zcd
 rw [<- hn] at h2 aa ⊢
 have ag := zh ac
 have ah := zh aa
 clear ha hc ac aa hn
 go_enter func142, ntmps142
 go_wp2_with (at_builtin; (refine zeu _ rfl _ _ 22 rfl 60 i0 (.agg #[.int .i64 0, .int .i64 0, .int .i64 0]) 3 24 underlying22 hi ad ae af rfl (by decide) rfl ao n cap rfl (cells3 l) ah.out (by rw [HL.out, HN.out]) ag.out (zjm l) (by unfold maxLen; omega) (by omega) ?_); intro v1 w1 ab ai)
 obtain ⟨a1, c1, rfl⟩ := za1 ab
 go_ret
 exact ⟨a1, c1, rfl, ab, ai⟩
theorem Ls3.first {w : World} {g off cap : Nat} {l : List Sy.Edge} (h : zJ7 w g off l) (k : Nat) (hk : k <= l.length) : Ls3 w (.slice (some ⟨g, off, none⟩) k cap) (l.take k) := by
 have e : (l.take k).length = k := by rw [List.length_take]; omega
 refine ⟨_, cap, g, off, by rw [e], fun _ => rfl, ?_⟩
 have := h.part 0 k (by omega)
 simpa using this
theorem Ls3.rest {w : World} {g off cap : Nat} {l : List Sy.Edge} (h : zJ7 w g off l) (k : Nat) (hk : k <= l.length) : Ls3 w (.slice (some ⟨g, off + k * 3, none⟩) (l.length - k) cap) (l.drop k) := by
 have e : (l.drop k).length = l.length - k := List.length_drop
 refine ⟨_, cap, g, off + k * 3, by rw [e], fun _ => rfl, ?_⟩
 have := h.part k (l.length - k) (by omega)
 rwa [List.take_of_length_le (by rw [List.length_drop]; omega)] at this
theorem zbe {w : World} {b : Nat} {a1 a2 a3 : Value} {e : TypeId} (h : w.heap[b]? = some (.cells #[a1, a2, a3] e (0, 0))) :
  (w.cell? ⟨b, 0, none⟩ = some a1 /\ w.cell? ⟨b, 1, none⟩ = some a2 /\ w.cell? ⟨b, 2, none⟩ = some a3) /\ (w.frozen? ⟨b, 0, none⟩ = false /\ w.frozen? ⟨b, 1, none⟩ = false /\ w.frozen? ⟨b, 2, none⟩ = false) := by
 refine ⟨⟨?_, ?_, ?_⟩, ?_, ?_, ?_⟩ <;> simp [World.cell?, World.frozen?, h]
theorem zfs {W : World} {b : Nat} {a1 a2 a3 : Value} {e : TypeId} (h : W.heap[b]? = some (.cells #[a1, a2, a3] e (0, 0))) (u1 u2 u3 : Value) :
  (((W.setCell ⟨b, 0, none⟩ u1).setCell ⟨b, 1, none⟩ u2).setCell ⟨b, 2, none⟩ u3).heap[b]? = some (.cells #[u1, u2, u3] e (0, 0)) := by
 simp [World.setCell, Array.getElem?_modify, h]
theorem zbr (w : World) (a b c : Value) (e : TypeId) : ∀ j u, [a, b, c][j]? = some u -> (w.alloc (.cells #[a, b, c] e)).cell? ((⟨w.heap.size, 0, none⟩ : Addr).add j) = some u := by
 intro j u hj
 have h := heap_alloc_new w (.cells #[a, b, c] e)
 obtain ⟨⟨h1, h2, h3⟩, -⟩ := zbe h
 rw [zd7, Nat.zero_add]
 match j, hj with
 | 0, hj => simp only [List.getElem?_cons_zero, Option.some.injEq] at hj; subst hj; exact h1
 | 1, hj => simp only [List.getElem?_cons_succ, List.getElem?_cons_zero, Option.some.injEq] at hj; subst hj; exact h2
 | 2, hj => simp only [List.getElem?_cons_succ, List.getElem?_cons_zero, Option.some.injEq] at hj; subst hj; exact h3
theorem zdr {out : List Sy.Edge} {x : Sy.Edge} (h : 0 < out.length) (hx : out.getD (out.length - 1) (0, 0, 0) = x) : Sy.zCy out x = out := by
 unfold Sy.zCy
 rw [if_pos]
 rw [List.getLast?_eq_getElem?, <- hx]
 simp [List.getD, show out.length - 1 < out.length by omega]
theorem zbl {out : List Sy.Edge} {x : Sy.Edge} (h : out.length = 0 \/ out.getD (out.length - 1) (0, 0, 0) ≠ x) : Sy.zCy out x = out ++ [x] := by
 unfold Sy.zCy
 rw [if_neg]
 intro e
 rw [List.getLast?_eq_getElem?] at e
 rcases h with h | h
 ·rw [List.eq_nil_of_length_eq_zero h] at e; cases e
 ·exact h (by simp [List.getD, e])
theorem zpe {w : World} {v : Value} {l : List Sy.Edge} (hv : Ls3 w v l) (bp : zfg v) (h2 : 2 <= l.length) (hm : l.length <= 1000000)
    (ih : ∀ l' : List Sy.Edge, l'.length < l.length -> ∀ v' w', Ls3 w' v' l' -> zfg v' -> Calls prog 142 #[v'] w' (zcd w' (Sy.norm Sy.lt3 l'))) :
    Calls prog 142 #[v] w (zcd w (Sy.norm Sy.lt3 l)) := by
  obtain ⟨i0, hi, aC, aD, aE⟩ := info_parts Tryz.zFi
  obtain ⟨ao, cap, g, off, rfl, ha, hc⟩ := hv
  obtain rfl := ha (by omega)
  obtain ⟨aY, aO⟩ := bp
  obtain ⟨n, hn⟩ := nm (l.length)
  obtain ⟨h, hh⟩ := nm (n / 2)
  have bA : 0 < h := by omega
  have bB : h < n := by omega
  obtain ⟨A, aP⟩ := nm (Sy.norm Sy.lt3 (l.take h))
  obtain ⟨B, aQ⟩ := nm (Sy.norm Sy.lt3 (l.drop h))
  have HA : Hid (∀ W, Up w W -> Calls prog 142 #[.slice (some ⟨g, off, none⟩) h cap] W (zcd W A)) :=
    zh (fun W hu => by rw [aP]; exact ih _ (by rw [List.length_take]; omega) _ _ ((Ls3.first hc h (by omega)).up hu) ⟨by omega, aO⟩)
  have HB : Hid (∀ W, Up w W -> Calls prog 142 #[.slice (some ⟨g, off + h * 3, none⟩) (n - h) (cap - h)] W (zcd W B)) :=
    zh (fun W hu => by rw [aQ]; exact ih _ (by rw [List.length_drop]; omega) _ _ (by rw [hn]; exact (Ls3.rest hc h (by omega)).up hu) ⟨by omega, by omega⟩)
  rw [<- hn] at h2 hm aY ⊢
  have HN := zh hn
  unfold maxLen at aO
  have qd : Int.tdiv (n : Int) 2 = (h : Int) := by rw [hh, Int.tdiv_eq_ediv_of_nonneg (by omega)]; omega
  have qw : IntKind.i64.wrap (h : Int) = (h : Int) := by simp [IntKind.wrap, IntKind.bits, IntKind.signed]; omega
  have q0 : (0 : Int) <= (h : Int) := by omega
  have qc : (h : Int) <= (cap : Int) := by omega
  have qn : (h : Int) <= (n : Int) := by omega
  have qne : ¬ (cap = h) := by omega
  have bb : Hid (A.Pairwise (fun a b => Sy.lt3 a b = true)) := zh (by rw [aP]; exact Sy.zC5 Sy.zIk _)
  have bc : Hid (B.Pairwise (fun a b => Sy.lt3 a b = true)) := zh (by rw [aQ]; exact Sy.zC5 Sy.zIk _)
  have bq : Hid (Sy.norm Sy.lt3 (A ++ B) = Sy.norm Sy.lt3 l) := zh (by rw [aP, aQ]; exact Rd.zH1 Sy.zIk l h)
  have aZ : A.length <= 1000000 := by have := Sy.zCo (lt := Sy.lt3) (l.take h); rw [<- aP, List.length_take] at this; omega
  have a0 : B.length <= 1000000 := by have := Sy.zCo (lt := Sy.lt3) (l.drop h); have hN := HN.out; rw [<- aQ, List.length_drop] at this; omega
  obtain ⟨la, a3⟩ := nm (A.length)
  obtain ⟨lb, a4⟩ := nm (B.length)
  have aL := zh a3
  have aM := zh a4
  rw [<- a3] at aZ
  rw [<- a4] at a0
  clear ih ha hc hn hh aP aQ a3 a4
  go_enter func142, ntmps142
  go_upto_region 3 with fail
  refine za9 13 [(0, true), (1, true), (2, true), (3, true), (4, true), (6, true), (7, true), (8, true), (9, true), (10, true), (5, false), (11, false), (12, true)] (fun x => Up w x) (by kernel_rfl) (by kernel_rfl) (fun _ _ _ _ _ h => h) (Up.refl w).drew ?_
  iterate 10
    refine WO.still rfl rfl (fun K hK => ?_)
    apply Exists.intro
    refine ⟨?_, hK _ ?_⟩
    · intro w' hS
      go_simp
      first | done | rfl | exact ⟨rfl, rfl⟩
    clear hK K
  refine WO.act rfl rfl (fun K hK => ?_)
  go_simp
  go_at_call 142
  refine (HA.out _ (Up.refl _).drew).mono ?_
  rintro r w1 ⟨a1, c1, rfl, bd, aR⟩
  have aS : Up w w1 := ((Up.refl w).drew).trans aR
  refine hK _ _ aS ?_
  clear hK K
  refine WO.act rfl rfl (fun K hK => ?_)
  go_simp
  go_at_call 142
  refine (HB.out _ aS).mono ?_
  rintro r w2 ⟨a2, c2, rfl, be, aW⟩
  refine hK _ _ (aS.trans aW) ?_
  clear hK K
  refine WO.still rfl rfl (fun K hK => ?_)
  apply Exists.intro
  refine ⟨?_, hK _ ?_⟩
  · intro w' hS
    go_simp
    first | done | rfl | exact ⟨rfl, rfl⟩
  clear hK K
  refine WO.last rfl rfl (fun K hK => ?_)
  go_simp
  refine hK _ _ ?_
  clear hK K
  have bf := zh (aS.trans aW)
  have br := zf8 (aW.owns bd)
  have bt := zf8 be
  clear HA HB aS aW bd be aR qd qw q0 qc qn
  obtain ⟨a1', c1', ga, fa, he, ha, bh⟩ := br
  simp only [Value.slice.injEq, true_and] at he
  obtain ⟨rfl, rfl⟩ := he
  obtain ⟨a2', c2', gb, fb, he, hb, bi⟩ := bt
  simp only [Value.slice.injEq, true_and] at he
  obtain ⟨rfl, rfl⟩ := he
  rw [<- aL.out] at ha ⊢
  rw [<- aM.out] at hb ⊢
  have HA := zh ha
  have HB := zh hb
  have bu := zh bh
  have bv := zh bi
  clear ha hb bh bi
  go_wp2_with fail
  go_loopw [5, 6, 7] (fun o i k wr => ∃ (ii kk m : Nat) (out : List Sy.Edge), i = .int .i64 ii /\ k = .int .i64 kk /\ ii <= la /\ kk <= lb /\ Up w2 wr /\ wr.ownsRow w2.heap.size 60 3 o m (cells3 out) /\ Hid (m = out.length /\ m <= ii + kk /\ Rd.Merged Sy.lt3 A B ii kk out)) (fun _ i k _ => la + lb - ((intOf i).toNat + (intOf k).toNat))
  case atStart => exact ⟨0, 0, 0, [], rfl, rfl, Nat.zero_le _, Nat.zero_le _, Up.refl _, World.ownsRow_nil _ _ _ _, zh ⟨rfl, Nat.le_refl _, Rd.Merged.start _ _⟩⟩
  case round =>
    obtain ⟨ii, kk, m, out, rfl, rfl, bC, bD, hu, aw, HM⟩ := hrel
    by_cases hend : la <= ii /\ lb <= kk
    · have hi' : ii = la := by omega
      have aG : kk = lb := by omega
      subst hi' aG
      have a5 := zh (HM.out.2.2.done Sy.zIk (by rw [<- aL.out]; exact Nat.le_refl _) (by rw [<- aM.out]; exact Nat.le_refl _))
      obtain ⟨ao', co', rfl⟩ := za1 aw
      go_wp2_with fail
      go_ret
      have bw := HM.out.1
      subst bw
      rw [<- bq.out, <- a5.out]
      exact ⟨ao', co', rfl, za8 aw bf.out.size, bf.out.trans hu⟩
    · have ad : Hid (m = out.length) := zh HM.out.1
      have bE := HM.out.2.1
      obtain ⟨ao', co', bx⟩ := za1 aw
      subst bx
      have HO := zh aw
      have HU := zh hu
      clear aw hu
      have a6 := heap_alloc_new wr (.cells #[.int .i64 0, .int .i64 0, .int .i64 0] 60)
      have aT : Up wr (wr.alloc (.cells #[.int .i64 0, .int .i64 0, .int .i64 0] 60)) := (Up.refl wr).alloc _
      obtain ⟨w4, aB⟩ := nm (wr.alloc (.cells #[.int .i64 0, .int .i64 0, .int .i64 0] 60))
      rw [<- aB] at a6 aT
      have aF := zh a6
      have aX := zh aT
      obtain ⟨a, aU⟩ : ∃ a, A.getD ii (0, 0, 0) = a := ⟨_, rfl⟩
      obtain ⟨b, aV⟩ : ∃ b, B.getD kk (0, 0, 0) = b := ⟨_, rfl⟩
      have bF := zh aU
      have bG := zh aV
      have aN := zh (fun W => zos b a W)
      obtain ⟨y1, y2, y3⟩ := b
      obtain ⟨x1, x2, x3⟩ := a
      have bj : ii < la -> a1 = some ⟨ga, fa, none⟩ /\ w4.cell? ⟨ga, fa + ii * 3, none⟩ = some (.int .i64 x1) /\ w4.cell? ⟨ga, fa + ii * 3 + 1, none⟩ = some (.int .i64 x2) /\ w4.cell? ⟨ga, fa + ii * 3 + 2, none⟩ = some (.int .i64 x3) := fun h => by
        have h1 := bu.out ii (by rw [<- aL.out]; exact h)
        rw [aU] at h1
        have hu := HU.out.trans aT
        exact ⟨HA.out (by omega), hu.cell h1.1, hu.cell h1.2.1, hu.cell h1.2.2⟩
      have bo : kk < lb -> a2 = some ⟨gb, fb, none⟩ /\ w4.cell? ⟨gb, fb + kk * 3, none⟩ = some (.int .i64 y1) /\ w4.cell? ⟨gb, fb + kk * 3 + 1, none⟩ = some (.int .i64 y2) /\ w4.cell? ⟨gb, fb + kk * 3 + 2, none⟩ = some (.int .i64 y3) := fun h => by
        have h1 := bv.out kk (by rw [<- aM.out]; exact h)
        rw [aV] at h1
        have hu := HU.out.trans aT
        exact ⟨HB.out (by omega), hu.cell h1.1, hu.cell h1.2.1, hu.cell h1.2.2⟩
      have a7 := zh bj
      have a8 := zh bo
      have a9 : Hid (ii < la -> (lb <= kk \/ (kk < lb /\ Sy.lt3 (y1, y2, y3) (x1, x2, x3) = false)) -> Rd.Merged Sy.lt3 A B (ii + 1) kk (Sy.zCy out (x1, x2, x3))) := zh (fun h1 h2 => by
        have hi' : ii < A.length := by rw [<- aL.out]; exact h1
        have e : A[ii] = (x1, x2, x3) := by rw [zaa (0, 0, 0) hi', aU]
        rw [<- e]
        refine HM.out.2.2.left Sy.zIk bb.out bc.out hi' ?_
        rcases h2 with h2 | ⟨h2, h3⟩
        · exact .inl (by rw [<- aM.out]; exact h2)
        · have aG : kk < B.length := by rw [<- aM.out]; exact h2
          exact .inr ⟨aG, by rw [zaa (0, 0, 0) aG, aV, e]; exact h3⟩)
      have ba : Hid (kk < lb -> (la <= ii \/ (ii < la /\ Sy.lt3 (y1, y2, y3) (x1, x2, x3) = true)) -> Rd.Merged Sy.lt3 A B ii (kk + 1) (Sy.zCy out (y1, y2, y3))) := zh (fun h1 h2 => by
        have aG : kk < B.length := by rw [<- aM.out]; exact h1
        have e : B[kk] = (y1, y2, y3) := by rw [zaa (0, 0, 0) aG, aV]
        rw [<- e]
        refine HM.out.2.2.right Sy.zIk bb.out bc.out aG ?_
        rcases h2 with h2 | ⟨h2, h3⟩
        · exact .inl (by rw [<- aL.out]; exact h2)
        · have hi' : ii < A.length := by rw [<- aL.out]; exact h2
          exact .inr ⟨hi', by rw [zaa (0, 0, 0) hi', aU, e]; exact h3⟩)
      obtain ⟨t, ht⟩ : ∃ t, Sy.lt3 (y1, y2, y3) (x1, x2, x3) = t := ⟨_, rfl⟩
      rw [ht] at aN a9 ba
      simp only at aN
      clear bj bo aU aV ht a6 aT
      have bz : (lb <= kk /\ ii < la) \/ (kk < lb /\ la <= ii) \/ (kk < lb /\ ii < la) := by omega
      rcases bz with ⟨h1, h2⟩ | ⟨h1, h2⟩ | ⟨h1, h2⟩
      · obtain ⟨e1, d1, d2, d3⟩ := a7.out h2
        subst e1
        have al := zh (a9.out h2 (.inl h1))
        have qa : decide ((ii : Int) < (la : Int)) = true := by simp; omega
        have qb : decide ((lb : Int) <= (kk : Int)) = true := by simp; omega
        go_upto_region 8 with fail
        rw [<- aB]
        clear aB
        refine zak (fun w' => Up w4 w') (by kernel_rfl) (by kernel_rfl) (Up.refl _).drew ?_
        iterate 22
          refine WQ.step (fun K hK => ?_)
          go_simp
          first
            | (refine hK _ ?_
               clear hK K)
            | (apply Exists.intro
               refine ⟨?_, hK _ ?_⟩
               · intro w' aj
                 first
                   | (go_at_call 174; (with_reducible refine (aN.out _).mono ?_); rintro r w9 ⟨rfl, aH⟩; exact ⟨rfl, aj.trans aH⟩)
                   | (go_simp
                      first | done | rfl | exact ⟨rfl, rfl⟩)
               clear hK K)
        refine WQ.nil ?_
        intro w5 ae
        have f1 := ae.cell d1
        have f2 := ae.cell d2
        have f3 := ae.cell d3
        have am := (ae.block _ (za0 aF.out)).trans aF.out
        obtain ⟨⟨g1, g2, g3⟩, z1, z2, z3⟩ := zbe am
        have aI := zh am
        have aJ := zh ae
        clear am ae
        go_upto_region 13 with fail
        have an := zfs aI.out (.int .i64 x1) (.int .i64 x2) (.int .i64 x3)
        have ak : Up wr (((w5.setCell ⟨wr.heap.size, 0, none⟩ (.int .i64 x1)).setCell ⟨wr.heap.size, 1, none⟩ (.int .i64 x2)).setCell ⟨wr.heap.size, 2, none⟩ (.int .i64 x3)) := (((aX.out.trans aJ.out).setCell (Nat.le_refl _) _).setCell (Nat.le_refl _) _).setCell (Nat.le_refl _) _
        obtain ⟨w6, ax⟩ := nm (((w5.setCell ⟨wr.heap.size, 0, none⟩ (.int .i64 x1)).setCell ⟨wr.heap.size, 1, none⟩ (.int .i64 x2)).setCell ⟨wr.heap.size, 2, none⟩ (.int .i64 x3))
        rw [<- ax] at an ak ⊢
        clear ax f1 f2 f3 g1 g2 g3 z1 z2 z3 d1 d2 d3
        obtain ⟨⟨p1, p2, p3⟩, -⟩ := zbe an
        have ag := zh ak
        have af := zh (ak.owns HO.out)
        clear an ak
        by_cases hm0 : m = 0
        · have q0 : ((m : Int) == 0) = true := by simp [hm0]
          have ah : Hid (Sy.zCy out (x1, x2, x3) = out ++ [(x1, x2, x3)]) := zh (zbl (.inl (by rw [<- ad.out]; exact hm0)))
          clear hm0
          go_wp2_with fail
          go_quiet (fail)
          go_wp2_with (at_builtin; (refine wpList_append_own _ rfl _ _ 22 rfl w2.heap.size 60 i0 (.agg #[.int .i64 0, .int .i64 0, .int .i64 0]) 3 24 underlying22 hi aC aD aE rfl (by decide) _ m _ rfl (Up.owns (w := w6) (((Up.refl w6).drewN _).alloc _) af.out) ⟨w6.heap.size, 0, none⟩ 1 1 [.int .i64 x1, .int .i64 x2, .int .i64 x3] rfl rfl (zbr _ _ _ _ _) (zcq (x1, x2, x3)) (by unfold maxLen; omega) (by omega) (by have := ag.out.size; have := HU.out.size; simp; omega) ?_); intro v' w8 ab aa ac; clear ac)
          have aq : Hid (Up w2 w8) := zh ((((HU.out.trans ag.out).drewN _).alloc _).grown aa (fun g hg => (af.out.lt g hg).1))
          have au : Hid (w8.ownsRow w2.heap.size 60 3 v' (m + 1) (cells3 (out ++ [(x1, x2, x3)]))) := zh (by
            have h := ab
            rw [zb5]; exact h)
          clear ab aa
          go_roundw
          case rel => exact ⟨ii + 1, kk, m + 1, out ++ [(x1, x2, x3)], by go_num, by go_num, by omega, by omega, aq.out, au.out, zh ⟨by rw [List.length_append, <- ad.out]; rfl, by omega, by rw [<- ah.out]; exact al.out⟩⟩
          case measure => simp [intOf]; omega
        · rcases za4 af.out with ⟨-, h0, -⟩ | ⟨go, co2, he, ai, -⟩
          · exact absurd h0 hm0
          · simp only [Value.slice.injEq, true_and] at he
            obtain ⟨rfl, rfl⟩ := he
            have aK : m - 1 < out.length := by rw [<- ad.out]; omega
            obtain ⟨u, av⟩ : ∃ u, out.getD (out.length - 1) (0, 0, 0) = u := ⟨_, rfl⟩
            obtain ⟨u1, u2, u3⟩ := u
            obtain ⟨r1, r2, r3⟩ := zel ai (m - 1) ((m - 1) * 3) rfl aK u1 u2 u3 (by rw [ad.out]; exact av)
            have ay := zh av
            have he := zg3 u1 u2 u3 x1 x2 x3
            have q0 : ((m : Int) == 0) = false := by simp; omega
            have q1 : IntKind.i64.wrap ((m : Int) - 1) = (m : Int) - 1 := by simp [IntKind.wrap, IntKind.bits, IntKind.signed]; omega
            have q2 : ((m : Int) - 1).toNat = m - 1 := by omega
            have q3 : (0 : Int) <= (m : Int) - 1 := by omega
            have q4 : (m : Int) - 1 < (m : Int) := by omega
            clear av ai
            by_cases hdup : (u1, u2, u3) = (x1, x2, x3)
            · have ah : Hid (Sy.zCy out (x1, x2, x3) = out) := zh (zdr (by rw [<- ad.out]; omega) (by rw [ay.out, hdup]))
              simp only [Prod.mk.injEq] at hdup
              obtain ⟨rfl, rfl, rfl⟩ := hdup
              simp only [beq_self_eq_true, Bool.and_self] at he
              go_wp2_with fail
              go_quiet (fail)
              go_wp2_with fail
              go_roundw
              case rel => exact ⟨ii + 1, kk, m, out, by go_num, by go_num, by omega, by omega, (HU.out.trans ag.out).drewN _, Up.owns (w := w6) ((Up.refl w6).drewN _) af.out, zh ⟨ad.out, by omega, by have h := al.out; rw [ah.out] at h; exact h⟩⟩
              case measure => simp [intOf]; omega
            · have ah : Hid (Sy.zCy out (x1, x2, x3) = out ++ [(x1, x2, x3)]) := zh (zbl (.inr (by rw [ay.out]; exact hdup)))
              have aA : (u1 == x1 && (u2 == x2 && u3 == x3)) = false := by
                rw [Bool.eq_false_iff]
                intro h
                simp only [Bool.and_eq_true, beq_iff_eq] at h
                exact hdup (by rw [h.1, h.2.1, h.2.2])
              rw [aA] at he
              clear aA hdup
              go_wp2_with fail
              go_quiet (fail)
              go_wp2_with (at_builtin; (refine wpList_append_own _ rfl _ _ 22 rfl w2.heap.size 60 i0 (.agg #[.int .i64 0, .int .i64 0, .int .i64 0]) 3 24 underlying22 hi aC aD aE rfl (by decide) _ m _ rfl (Up.owns (w := w6) (((Up.refl w6).drewN _).alloc _) af.out) ⟨w6.heap.size, 0, none⟩ 1 1 [.int .i64 x1, .int .i64 x2, .int .i64 x3] rfl rfl (zbr _ _ _ _ _) (zcq (x1, x2, x3)) (by unfold maxLen; omega) (by omega) (by have := ag.out.size; have := HU.out.size; simp; omega) ?_); intro v' w8 ab aa ac; clear ac)
              have aq : Hid (Up w2 w8) := zh ((((HU.out.trans ag.out).drewN _).alloc _).grown aa (fun g hg => (af.out.lt g hg).1))
              have au : Hid (w8.ownsRow w2.heap.size 60 3 v' (m + 1) (cells3 (out ++ [(x1, x2, x3)]))) := zh (by
                have h := ab
                rw [zb5]; exact h)
              clear ab aa
              go_roundw
              case rel => exact ⟨ii + 1, kk, m + 1, out ++ [(x1, x2, x3)], by go_num, by go_num, by omega, by omega, aq.out, au.out, zh ⟨by rw [List.length_append, <- ad.out]; rfl, by omega, by rw [<- ah.out]; exact al.out⟩⟩
              case measure => simp [intOf]; omega
      · obtain ⟨e1, d1, d2, d3⟩ := a8.out h1
        subst e1
        have al := zh (ba.out h1 (.inl h2))
        have qa : decide ((ii : Int) < (la : Int)) = false := by simp; omega
        have qa2 : ¬ (ii < la) := by omega
        have qb : decide ((lb : Int) <= (kk : Int)) = false := by simp; omega
        have qb2 : ¬ (lb <= kk) := by omega
        go_upto_region 8 with fail
        rw [<- aB]
        clear aB
        refine zak (fun w' => Up w4 w') (by kernel_rfl) (by kernel_rfl) (Up.refl _).drew ?_
        iterate 22
          refine WQ.step (fun K hK => ?_)
          go_simp
          first
            | (refine hK _ ?_
               clear hK K)
            | (apply Exists.intro
               refine ⟨?_, hK _ ?_⟩
               · intro w' aj
                 first
                   | (go_at_call 174; (with_reducible refine (aN.out _).mono ?_); rintro r w9 ⟨rfl, aH⟩; exact ⟨rfl, aj.trans aH⟩)
                   | (go_simp
                      first | done | rfl | exact ⟨rfl, rfl⟩)
               clear hK K)
        refine WQ.nil ?_
        intro w5 ae
        have f1 := ae.cell d1
        have f2 := ae.cell d2
        have f3 := ae.cell d3
        have am := (ae.block _ (za0 aF.out)).trans aF.out
        obtain ⟨⟨g1, g2, g3⟩, z1, z2, z3⟩ := zbe am
        have aI := zh am
        have aJ := zh ae
        clear am ae
        go_upto_region 13 with fail
        have an := zfs aI.out (.int .i64 y1) (.int .i64 y2) (.int .i64 y3)
        have ak : Up wr (((w5.setCell ⟨wr.heap.size, 0, none⟩ (.int .i64 y1)).setCell ⟨wr.heap.size, 1, none⟩ (.int .i64 y2)).setCell ⟨wr.heap.size, 2, none⟩ (.int .i64 y3)) := (((aX.out.trans aJ.out).setCell (Nat.le_refl _) _).setCell (Nat.le_refl _) _).setCell (Nat.le_refl _) _
        obtain ⟨w6, ax⟩ := nm (((w5.setCell ⟨wr.heap.size, 0, none⟩ (.int .i64 y1)).setCell ⟨wr.heap.size, 1, none⟩ (.int .i64 y2)).setCell ⟨wr.heap.size, 2, none⟩ (.int .i64 y3))
        rw [<- ax] at an ak ⊢
        clear ax f1 f2 f3 g1 g2 g3 z1 z2 z3 d1 d2 d3
        obtain ⟨⟨p1, p2, p3⟩, -⟩ := zbe an
        have ag := zh ak
        have af := zh (ak.owns HO.out)
        clear an ak
        by_cases hm0 : m = 0
        · have q0 : ((m : Int) == 0) = true := by simp [hm0]
          have ah : Hid (Sy.zCy out (y1, y2, y3) = out ++ [(y1, y2, y3)]) := zh (zbl (.inl (by rw [<- ad.out]; exact hm0)))
          clear hm0
          go_wp2_with fail
          go_quiet (fail)
          go_wp2_with (at_builtin; (refine wpList_append_own _ rfl _ _ 22 rfl w2.heap.size 60 i0 (.agg #[.int .i64 0, .int .i64 0, .int .i64 0]) 3 24 underlying22 hi aC aD aE rfl (by decide) _ m _ rfl (Up.owns (w := w6) (((Up.refl w6).drewN _).alloc _) af.out) ⟨w6.heap.size, 0, none⟩ 1 1 [.int .i64 y1, .int .i64 y2, .int .i64 y3] rfl rfl (zbr _ _ _ _ _) (zcq (y1, y2, y3)) (by unfold maxLen; omega) (by omega) (by have := ag.out.size; have := HU.out.size; simp; omega) ?_); intro v' w8 ab aa ac; clear ac)
          have aq : Hid (Up w2 w8) := zh ((((HU.out.trans ag.out).drewN _).alloc _).grown aa (fun g hg => (af.out.lt g hg).1))
          have au : Hid (w8.ownsRow w2.heap.size 60 3 v' (m + 1) (cells3 (out ++ [(y1, y2, y3)]))) := zh (by
            have h := ab
            rw [zb5]; exact h)
          clear ab aa
          go_roundw
          case rel => exact ⟨ii, kk + 1, m + 1, out ++ [(y1, y2, y3)], by go_num, by go_num, by omega, by omega, aq.out, au.out, zh ⟨by rw [List.length_append, <- ad.out]; rfl, by omega, by rw [<- ah.out]; exact al.out⟩⟩
          case measure => simp [intOf]; omega
        · rcases za4 af.out with ⟨-, h0, -⟩ | ⟨go, co2, he, ai, -⟩
          · exact absurd h0 hm0
          · simp only [Value.slice.injEq, true_and] at he
            obtain ⟨rfl, rfl⟩ := he
            have aK : m - 1 < out.length := by rw [<- ad.out]; omega
            obtain ⟨u, av⟩ : ∃ u, out.getD (out.length - 1) (0, 0, 0) = u := ⟨_, rfl⟩
            obtain ⟨u1, u2, u3⟩ := u
            obtain ⟨r1, r2, r3⟩ := zel ai (m - 1) ((m - 1) * 3) rfl aK u1 u2 u3 (by rw [ad.out]; exact av)
            have ay := zh av
            have he := zg3 u1 u2 u3 y1 y2 y3
            have q0 : ((m : Int) == 0) = false := by simp; omega
            have q1 : IntKind.i64.wrap ((m : Int) - 1) = (m : Int) - 1 := by simp [IntKind.wrap, IntKind.bits, IntKind.signed]; omega
            have q2 : ((m : Int) - 1).toNat = m - 1 := by omega
            have q3 : (0 : Int) <= (m : Int) - 1 := by omega
            have q4 : (m : Int) - 1 < (m : Int) := by omega
            clear av ai
            by_cases hdup : (u1, u2, u3) = (y1, y2, y3)
            · have ah : Hid (Sy.zCy out (y1, y2, y3) = out) := zh (zdr (by rw [<- ad.out]; omega) (by rw [ay.out, hdup]))
              simp only [Prod.mk.injEq] at hdup
              obtain ⟨rfl, rfl, rfl⟩ := hdup
              simp only [beq_self_eq_true, Bool.and_self] at he
              go_wp2_with fail
              go_quiet (fail)
              go_wp2_with fail
              go_roundw
              case rel => exact ⟨ii, kk + 1, m, out, by go_num, by go_num, by omega, by omega, (HU.out.trans ag.out).drewN _, Up.owns (w := w6) ((Up.refl w6).drewN _) af.out, zh ⟨ad.out, by omega, by have h := al.out; rw [ah.out] at h; exact h⟩⟩
              case measure => simp [intOf]; omega
            · have ah : Hid (Sy.zCy out (y1, y2, y3) = out ++ [(y1, y2, y3)]) := zh (zbl (.inr (by rw [ay.out]; exact hdup)))
              have aA : (u1 == y1 && (u2 == y2 && u3 == y3)) = false := by
                rw [Bool.eq_false_iff]
                intro h
                simp only [Bool.and_eq_true, beq_iff_eq] at h
                exact hdup (by rw [h.1, h.2.1, h.2.2])
              rw [aA] at he
              clear aA hdup
              go_wp2_with fail
              go_quiet (fail)
              go_wp2_with (at_builtin; (refine wpList_append_own _ rfl _ _ 22 rfl w2.heap.size 60 i0 (.agg #[.int .i64 0, .int .i64 0, .int .i64 0]) 3 24 underlying22 hi aC aD aE rfl (by decide) _ m _ rfl (Up.owns (w := w6) (((Up.refl w6).drewN _).alloc _) af.out) ⟨w6.heap.size, 0, none⟩ 1 1 [.int .i64 y1, .int .i64 y2, .int .i64 y3] rfl rfl (zbr _ _ _ _ _) (zcq (y1, y2, y3)) (by unfold maxLen; omega) (by omega) (by have := ag.out.size; have := HU.out.size; simp; omega) ?_); intro v' w8 ab aa ac; clear ac)
              have aq : Hid (Up w2 w8) := zh ((((HU.out.trans ag.out).drewN _).alloc _).grown aa (fun g hg => (af.out.lt g hg).1))
              have au : Hid (w8.ownsRow w2.heap.size 60 3 v' (m + 1) (cells3 (out ++ [(y1, y2, y3)]))) := zh (by
                have h := ab
                rw [zb5]; exact h)
              clear ab aa
              go_roundw
              case rel => exact ⟨ii, kk + 1, m + 1, out ++ [(y1, y2, y3)], by go_num, by go_num, by omega, by omega, aq.out, au.out, zh ⟨by rw [List.length_append, <- ad.out]; rfl, by omega, by rw [<- ah.out]; exact al.out⟩⟩
              case measure => simp [intOf]; omega
      · cases t
        · obtain ⟨e1, d1, d2, d3⟩ := a7.out h2
          obtain ⟨e2, k1, k2, k3⟩ := a8.out h1
          subst e1
          subst e2
          have al := zh (a9.out h2 (.inr ⟨h1, rfl⟩))
          have qa : decide ((ii : Int) < (la : Int)) = true := by simp; omega
          have qb : decide ((lb : Int) <= (kk : Int)) = false := by simp; omega
          have qb2 : ¬ (lb <= kk) := by omega
          go_upto_region 8 with fail
          rw [<- aB]
          clear aB
          refine zak (fun w' => Up w4 w') (by kernel_rfl) (by kernel_rfl) (Up.refl _).drew ?_
          iterate 22
            refine WQ.step (fun K hK => ?_)
            go_simp
            first
              | (refine hK _ ?_
                 clear hK K)
              | (apply Exists.intro
                 refine ⟨?_, hK _ ?_⟩
                 · intro w' aj
                   have s1 := aj.cell d1
                   have s2 := aj.cell d2
                   have s3 := aj.cell d3
                   have s4 := aj.cell k1
                   have s5 := aj.cell k2
                   have s6 := aj.cell k3
                   first
                     | (go_at_call 174; (with_reducible refine (aN.out _).mono ?_); rintro r w9 ⟨rfl, aH⟩; exact ⟨rfl, aj.trans aH⟩)
                     | (go_simp
                        first | done | rfl | exact ⟨rfl, rfl⟩)
                 clear hK K)
          refine WQ.nil ?_
          intro w5 ae
          clear k1 k2 k3
          have f1 := ae.cell d1
          have f2 := ae.cell d2
          have f3 := ae.cell d3
          have am := (ae.block _ (za0 aF.out)).trans aF.out
          obtain ⟨⟨g1, g2, g3⟩, z1, z2, z3⟩ := zbe am
          have aI := zh am
          have aJ := zh ae
          clear am ae
          go_upto_region 13 with fail
          have an := zfs aI.out (.int .i64 x1) (.int .i64 x2) (.int .i64 x3)
          have ak : Up wr (((w5.setCell ⟨wr.heap.size, 0, none⟩ (.int .i64 x1)).setCell ⟨wr.heap.size, 1, none⟩ (.int .i64 x2)).setCell ⟨wr.heap.size, 2, none⟩ (.int .i64 x3)) := (((aX.out.trans aJ.out).setCell (Nat.le_refl _) _).setCell (Nat.le_refl _) _).setCell (Nat.le_refl _) _
          obtain ⟨w6, ax⟩ := nm (((w5.setCell ⟨wr.heap.size, 0, none⟩ (.int .i64 x1)).setCell ⟨wr.heap.size, 1, none⟩ (.int .i64 x2)).setCell ⟨wr.heap.size, 2, none⟩ (.int .i64 x3))
          rw [<- ax] at an ak ⊢
          clear ax f1 f2 f3 g1 g2 g3 z1 z2 z3 d1 d2 d3
          obtain ⟨⟨p1, p2, p3⟩, -⟩ := zbe an
          have ag := zh ak
          have af := zh (ak.owns HO.out)
          clear an ak
          by_cases hm0 : m = 0
          · have q0 : ((m : Int) == 0) = true := by simp [hm0]
            have ah : Hid (Sy.zCy out (x1, x2, x3) = out ++ [(x1, x2, x3)]) := zh (zbl (.inl (by rw [<- ad.out]; exact hm0)))
            clear hm0
            go_wp2_with fail
            go_quiet (fail)
            go_wp2_with (at_builtin; (refine wpList_append_own _ rfl _ _ 22 rfl w2.heap.size 60 i0 (.agg #[.int .i64 0, .int .i64 0, .int .i64 0]) 3 24 underlying22 hi aC aD aE rfl (by decide) _ m _ rfl (Up.owns (w := w6) (((Up.refl w6).drewN _).alloc _) af.out) ⟨w6.heap.size, 0, none⟩ 1 1 [.int .i64 x1, .int .i64 x2, .int .i64 x3] rfl rfl (zbr _ _ _ _ _) (zcq (x1, x2, x3)) (by unfold maxLen; omega) (by omega) (by have := ag.out.size; have := HU.out.size; simp; omega) ?_); intro v' w8 ab aa ac; clear ac)
            have aq : Hid (Up w2 w8) := zh ((((HU.out.trans ag.out).drewN _).alloc _).grown aa (fun g hg => (af.out.lt g hg).1))
            have au : Hid (w8.ownsRow w2.heap.size 60 3 v' (m + 1) (cells3 (out ++ [(x1, x2, x3)]))) := zh (by
              have h := ab
              rw [zb5]; exact h)
            clear ab aa
            go_roundw
            case rel => exact ⟨ii + 1, kk, m + 1, out ++ [(x1, x2, x3)], by go_num, by go_num, by omega, by omega, aq.out, au.out, zh ⟨by rw [List.length_append, <- ad.out]; rfl, by omega, by rw [<- ah.out]; exact al.out⟩⟩
            case measure => simp [intOf]; omega
          · rcases za4 af.out with ⟨-, h0, -⟩ | ⟨go, co2, he, ai, -⟩
            · exact absurd h0 hm0
            · simp only [Value.slice.injEq, true_and] at he
              obtain ⟨rfl, rfl⟩ := he
              have aK : m - 1 < out.length := by rw [<- ad.out]; omega
              obtain ⟨u, av⟩ : ∃ u, out.getD (out.length - 1) (0, 0, 0) = u := ⟨_, rfl⟩
              obtain ⟨u1, u2, u3⟩ := u
              obtain ⟨r1, r2, r3⟩ := zel ai (m - 1) ((m - 1) * 3) rfl aK u1 u2 u3 (by rw [ad.out]; exact av)
              have ay := zh av
              have he := zg3 u1 u2 u3 x1 x2 x3
              have q0 : ((m : Int) == 0) = false := by simp; omega
              have q1 : IntKind.i64.wrap ((m : Int) - 1) = (m : Int) - 1 := by simp [IntKind.wrap, IntKind.bits, IntKind.signed]; omega
              have q2 : ((m : Int) - 1).toNat = m - 1 := by omega
              have q3 : (0 : Int) <= (m : Int) - 1 := by omega
              have q4 : (m : Int) - 1 < (m : Int) := by omega
              clear av ai
              by_cases hdup : (u1, u2, u3) = (x1, x2, x3)
              · have ah : Hid (Sy.zCy out (x1, x2, x3) = out) := zh (zdr (by rw [<- ad.out]; omega) (by rw [ay.out, hdup]))
                simp only [Prod.mk.injEq] at hdup
                obtain ⟨rfl, rfl, rfl⟩ := hdup
                simp only [beq_self_eq_true, Bool.and_self] at he
                go_wp2_with fail
                go_quiet (fail)
                go_wp2_with fail
                go_roundw
                case rel => exact ⟨ii + 1, kk, m, out, by go_num, by go_num, by omega, by omega, (HU.out.trans ag.out).drewN _, Up.owns (w := w6) ((Up.refl w6).drewN _) af.out, zh ⟨ad.out, by omega, by have h := al.out; rw [ah.out] at h; exact h⟩⟩
                case measure => simp [intOf]; omega
              · have ah : Hid (Sy.zCy out (x1, x2, x3) = out ++ [(x1, x2, x3)]) := zh (zbl (.inr (by rw [ay.out]; exact hdup)))
                have aA : (u1 == x1 && (u2 == x2 && u3 == x3)) = false := by
                  rw [Bool.eq_false_iff]
                  intro h
                  simp only [Bool.and_eq_true, beq_iff_eq] at h
                  exact hdup (by rw [h.1, h.2.1, h.2.2])
                rw [aA] at he
                clear aA hdup
                go_wp2_with fail
                go_quiet (fail)
                go_wp2_with (at_builtin; (refine wpList_append_own _ rfl _ _ 22 rfl w2.heap.size 60 i0 (.agg #[.int .i64 0, .int .i64 0, .int .i64 0]) 3 24 underlying22 hi aC aD aE rfl (by decide) _ m _ rfl (Up.owns (w := w6) (((Up.refl w6).drewN _).alloc _) af.out) ⟨w6.heap.size, 0, none⟩ 1 1 [.int .i64 x1, .int .i64 x2, .int .i64 x3] rfl rfl (zbr _ _ _ _ _) (zcq (x1, x2, x3)) (by unfold maxLen; omega) (by omega) (by have := ag.out.size; have := HU.out.size; simp; omega) ?_); intro v' w8 ab aa ac; clear ac)
                have aq : Hid (Up w2 w8) := zh ((((HU.out.trans ag.out).drewN _).alloc _).grown aa (fun g hg => (af.out.lt g hg).1))
                have au : Hid (w8.ownsRow w2.heap.size 60 3 v' (m + 1) (cells3 (out ++ [(x1, x2, x3)]))) := zh (by
                  have h := ab
                  rw [zb5]; exact h)
                clear ab aa
                go_roundw
                case rel => exact ⟨ii + 1, kk, m + 1, out ++ [(x1, x2, x3)], by go_num, by go_num, by omega, by omega, aq.out, au.out, zh ⟨by rw [List.length_append, <- ad.out]; rfl, by omega, by rw [<- ah.out]; exact al.out⟩⟩
                case measure => simp [intOf]; omega
        · obtain ⟨e1, k1, k2, k3⟩ := a7.out h2
          obtain ⟨e2, d1, d2, d3⟩ := a8.out h1
          subst e1
          subst e2
          have al := zh (ba.out h1 (.inr ⟨h2, rfl⟩))
          have qa : decide ((ii : Int) < (la : Int)) = true := by simp; omega
          have qb : decide ((lb : Int) <= (kk : Int)) = false := by simp; omega
          have qb2 : ¬ (lb <= kk) := by omega
          go_upto_region 8 with fail
          rw [<- aB]
          clear aB
          refine zak (fun w' => Up w4 w') (by kernel_rfl) (by kernel_rfl) (Up.refl _).drew ?_
          iterate 22
            refine WQ.step (fun K hK => ?_)
            go_simp
            first
              | (refine hK _ ?_
                 clear hK K)
              | (apply Exists.intro
                 refine ⟨?_, hK _ ?_⟩
                 · intro w' aj
                   have s1 := aj.cell d1
                   have s2 := aj.cell d2
                   have s3 := aj.cell d3
                   have s4 := aj.cell k1
                   have s5 := aj.cell k2
                   have s6 := aj.cell k3
                   first
                     | (go_at_call 174; (with_reducible refine (aN.out _).mono ?_); rintro r w9 ⟨rfl, aH⟩; exact ⟨rfl, aj.trans aH⟩)
                     | (go_simp
                        first | done | rfl | exact ⟨rfl, rfl⟩)
                 clear hK K)
          refine WQ.nil ?_
          intro w5 ae
          clear k1 k2 k3
          have f1 := ae.cell d1
          have f2 := ae.cell d2
          have f3 := ae.cell d3
          have am := (ae.block _ (za0 aF.out)).trans aF.out
          obtain ⟨⟨g1, g2, g3⟩, z1, z2, z3⟩ := zbe am
          have aI := zh am
          have aJ := zh ae
          clear am ae
          go_upto_region 13 with fail
          have an := zfs aI.out (.int .i64 y1) (.int .i64 y2) (.int .i64 y3)
          have ak : Up wr (((w5.setCell ⟨wr.heap.size, 0, none⟩ (.int .i64 y1)).setCell ⟨wr.heap.size, 1, none⟩ (.int .i64 y2)).setCell ⟨wr.heap.size, 2, none⟩ (.int .i64 y3)) := (((aX.out.trans aJ.out).setCell (Nat.le_refl _) _).setCell (Nat.le_refl _) _).setCell (Nat.le_refl _) _
          obtain ⟨w6, ax⟩ := nm (((w5.setCell ⟨wr.heap.size, 0, none⟩ (.int .i64 y1)).setCell ⟨wr.heap.size, 1, none⟩ (.int .i64 y2)).setCell ⟨wr.heap.size, 2, none⟩ (.int .i64 y3))
          rw [<- ax] at an ak ⊢
          clear ax f1 f2 f3 g1 g2 g3 z1 z2 z3 d1 d2 d3
          obtain ⟨⟨p1, p2, p3⟩, -⟩ := zbe an
          have ag := zh ak
          have af := zh (ak.owns HO.out)
          clear an ak
          by_cases hm0 : m = 0
          · have q0 : ((m : Int) == 0) = true := by simp [hm0]
            have ah : Hid (Sy.zCy out (y1, y2, y3) = out ++ [(y1, y2, y3)]) := zh (zbl (.inl (by rw [<- ad.out]; exact hm0)))
            clear hm0
            go_wp2_with fail
            go_quiet (fail)
            go_wp2_with (at_builtin; (refine wpList_append_own _ rfl _ _ 22 rfl w2.heap.size 60 i0 (.agg #[.int .i64 0, .int .i64 0, .int .i64 0]) 3 24 underlying22 hi aC aD aE rfl (by decide) _ m _ rfl (Up.owns (w := w6) (((Up.refl w6).drewN _).alloc _) af.out) ⟨w6.heap.size, 0, none⟩ 1 1 [.int .i64 y1, .int .i64 y2, .int .i64 y3] rfl rfl (zbr _ _ _ _ _) (zcq (y1, y2, y3)) (by unfold maxLen; omega) (by omega) (by have := ag.out.size; have := HU.out.size; simp; omega) ?_); intro v' w8 ab aa ac; clear ac)
            have aq : Hid (Up w2 w8) := zh ((((HU.out.trans ag.out).drewN _).alloc _).grown aa (fun g hg => (af.out.lt g hg).1))
            have au : Hid (w8.ownsRow w2.heap.size 60 3 v' (m + 1) (cells3 (out ++ [(y1, y2, y3)]))) := zh (by
              have h := ab
              rw [zb5]; exact h)
            clear ab aa
            go_roundw
            case rel => exact ⟨ii, kk + 1, m + 1, out ++ [(y1, y2, y3)], by go_num, by go_num, by omega, by omega, aq.out, au.out, zh ⟨by rw [List.length_append, <- ad.out]; rfl, by omega, by rw [<- ah.out]; exact al.out⟩⟩
            case measure => simp [intOf]; omega
          · rcases za4 af.out with ⟨-, h0, -⟩ | ⟨go, co2, he, ai, -⟩
            · exact absurd h0 hm0
            · simp only [Value.slice.injEq, true_and] at he
              obtain ⟨rfl, rfl⟩ := he
              have aK : m - 1 < out.length := by rw [<- ad.out]; omega
              obtain ⟨u, av⟩ : ∃ u, out.getD (out.length - 1) (0, 0, 0) = u := ⟨_, rfl⟩
              obtain ⟨u1, u2, u3⟩ := u
              obtain ⟨r1, r2, r3⟩ := zel ai (m - 1) ((m - 1) * 3) rfl aK u1 u2 u3 (by rw [ad.out]; exact av)
              have ay := zh av
              have he := zg3 u1 u2 u3 y1 y2 y3
              have q0 : ((m : Int) == 0) = false := by simp; omega
              have q1 : IntKind.i64.wrap ((m : Int) - 1) = (m : Int) - 1 := by simp [IntKind.wrap, IntKind.bits, IntKind.signed]; omega
              have q2 : ((m : Int) - 1).toNat = m - 1 := by omega
              have q3 : (0 : Int) <= (m : Int) - 1 := by omega
              have q4 : (m : Int) - 1 < (m : Int) := by omega
              clear av ai
              by_cases hdup : (u1, u2, u3) = (y1, y2, y3)
              · have ah : Hid (Sy.zCy out (y1, y2, y3) = out) := zh (zdr (by rw [<- ad.out]; omega) (by rw [ay.out, hdup]))
                simp only [Prod.mk.injEq] at hdup
                obtain ⟨rfl, rfl, rfl⟩ := hdup
                simp only [beq_self_eq_true, Bool.and_self] at he
                go_wp2_with fail
                go_quiet (fail)
                go_wp2_with fail
                go_roundw
                case rel => exact ⟨ii, kk + 1, m, out, by go_num, by go_num, by omega, by omega, (HU.out.trans ag.out).drewN _, Up.owns (w := w6) ((Up.refl w6).drewN _) af.out, zh ⟨ad.out, by omega, by have h := al.out; rw [ah.out] at h; exact h⟩⟩
                case measure => simp [intOf]; omega
              · have ah : Hid (Sy.zCy out (y1, y2, y3) = out ++ [(y1, y2, y3)]) := zh (zbl (.inr (by rw [ay.out]; exact hdup)))
                have aA : (u1 == y1 && (u2 == y2 && u3 == y3)) = false := by
                  rw [Bool.eq_false_iff]
                  intro h
                  simp only [Bool.and_eq_true, beq_iff_eq] at h
                  exact hdup (by rw [h.1, h.2.1, h.2.2])
                rw [aA] at he
                clear aA hdup
                go_wp2_with fail
                go_quiet (fail)
                go_wp2_with (at_builtin; (refine wpList_append_own _ rfl _ _ 22 rfl w2.heap.size 60 i0 (.agg #[.int .i64 0, .int .i64 0, .int .i64 0]) 3 24 underlying22 hi aC aD aE rfl (by decide) _ m _ rfl (Up.owns (w := w6) (((Up.refl w6).drewN _).alloc _) af.out) ⟨w6.heap.size, 0, none⟩ 1 1 [.int .i64 y1, .int .i64 y2, .int .i64 y3] rfl rfl (zbr _ _ _ _ _) (zcq (y1, y2, y3)) (by unfold maxLen; omega) (by omega) (by have := ag.out.size; have := HU.out.size; simp; omega) ?_); intro v' w8 ab aa ac; clear ac)
                have aq : Hid (Up w2 w8) := zh ((((HU.out.trans ag.out).drewN _).alloc _).grown aa (fun g hg => (af.out.lt g hg).1))
                have au : Hid (w8.ownsRow w2.heap.size 60 3 v' (m + 1) (cells3 (out ++ [(y1, y2, y3)]))) := zh (by
                  have h := ab
                  rw [zb5]; exact h)
                clear ab aa
                go_roundw
                case rel => exact ⟨ii, kk + 1, m + 1, out ++ [(y1, y2, y3)], by go_num, by go_num, by omega, by omega, aq.out, au.out, zh ⟨by rw [List.length_append, <- ad.out]; rfl, by omega, by rw [<- ah.out]; exact al.out⟩⟩
                case measure => simp [intOf]; omega
theorem zl7 (l : List Sy.Edge) {v : Value} {w : World} (hv : Ls3 w v l) (aa : zfg v) (hm : l.length <= 1000000) : Calls prog 142 #[v] w (zcd w (Sy.norm Sy.lt3 l)) := by
 suffices h : ∀ (N : Nat) (l : List Sy.Edge), l.length <= N -> l.length <= 1000000 -> ∀ v w, Ls3 w v l -> zfg v -> Calls prog 142 #[v] w (zcd w (Sy.norm Sy.lt3 l)) from h l.length l (Nat.le_refl _) hm v w hv aa
 intro N
 induction N with
 | zero => exact fun l hl _ v w hv _ => zgh hv (by omega)
 | succ N ih =>
  intro l hl hm v w hv aa
  by_cases h2 : l.length < 2
  ·exact zgh hv h2
  ·exact zpe hv aa (by omega) hm (fun l' ad v' w' ac ab => ih l' (by omega) (by omega) v' w' ac ab)
end Go.Proofs.YtoaoajfjcfcmhaaGreatDoor
