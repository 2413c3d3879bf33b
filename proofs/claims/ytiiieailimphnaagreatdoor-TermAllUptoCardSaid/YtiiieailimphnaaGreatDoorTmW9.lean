/- Walks: Put of a term that is new. Printed by mkw9.py. -/
import Derived.Test.YtiiieailimphnaaGreatDoorTmW8
import Derived.Test.YtiiieailimphnaaGreatDoorTmPush
import Derived.StillTailTactics
import Derived.Deep.RegionLaw
import Derived.Maps.AppendAt
import Derived.Deep.DeepCutAuto
namespace Go.Proofs.YtiiieailimphnaaGreatDoor
open Go.RowKit Go.Maps
set_option linter.unusedVariables false
set_option linter.unusedSimpArgs false

theorem own_lit (t : Tm.T) (nv pv : Value) (w : World) (h : TRead w t nv pv) (hn : t.names.length ≤ 1000) (hp : t.pairs.length ≤ 1000) :
    Calls Tryz.prog 79 #[.agg #[.int .i64 t.kind, .int .i64 t.label, .int .i64 t.a, .int .i64 t.b, nv, pv]] w (OwnDone t w) := own_any t nv pv w h hn hp

/-- append ONTO A SLICE THAT THE CALL OWNS, as one step of a region that draws its order. -/
theorem step_append_ownT {P : Program} {ops : Array Oper} {o : Oper} {a : Act} {w : World} {K : Act → World → Prop} {Q : Exit → Act → World → Prop} {E : Prop}
    (hg : o.guard = none) (s x : Operand) (t : TypeId) (hop : o.op = Op.call { callee := Callee.builtin Builtin.append, args := #[s, x], argTypes := #[t, t] })
    (base : Nat) (e : TypeId) (i : TypeInfo) (z : Value) (size bytes : Nat) (ht : P.underlying t = some (.slice e)) (hi : P.info? e = some i) (hz : i.zero = some z)
    (hsize : i.size = size) (hby : i.bytes = bytes) (hzs : z.cells.size = size) (hsz : 0 < size)
    (v : Value) (n : Nat) (xs : List Value) (hs : a.eval s = v) (hown : w.ownsRow base e size v n xs)
    (ad : Addr) (m c : Nat) (news : List Value) (hx : a.eval x = .slice (some ad) m c) (hl : news.length = m * size) (hnews : ∀ j u, news[j]? = some u → w.cell? (ad.add j) = some u) (h1 : ∀ u ∈ news, u.oneCell' = true)
    (h63 : n + m ≤ maxLen) (hbytes : (n + m) * bytes ≤ 140737488355328) (hbase : base ≤ w.heap.size)
    (hK : ∀ v' w', w'.ownsRow base e size v' (n + m) (xs ++ news) → w.grownBy w' v.ownBlock → (v'.ownBlock = v.ownBlock ∨ v'.ownBlock = some w.heap.size) → K (a.put o.dst v') w') :
    if Region.wanted o (yielded ops a.tmps) = true then Oper.wp P o a w K Q else E := by
  have hw : Region.wanted o (yielded ops a.tmps) = true := by simp [Region.wanted, hg]
  rw [if_pos hw]
  obtain ⟨v', w', hr, h2, h3, h4, h5⟩ := run_append_own_at (P := P) w base t o.type e i z size bytes ht hi hz hsize hby hzs hsz v n xs hown ad m c news hl hnews h1 h63 hbytes hbase
  unfold Oper.wp execOp
  simp only [hop, resolve, invoke, builtin, Sem.run_bind, Sem.run_pure, Result.andThen_ok, List.map_toArray, List.map_cons, List.map_nil, hs, hx, hr]
  exact hK v' w' h2 h3 h5

/-- What Put of a new term leaves. -/
def NewDone (w : World) (B bm : Nat) (vt : Value) (ts : List TRow) (t : Tm.T) (r : Ending) (w' : World) : Prop :=
  r = .returned (.tuple #[.int .i64 (ts.length : Nat), .nilIface]) ∧ ∃ vt' nv pv, StoreAt w' B vt' (.map (some bm)) (ts ++ [(t, nv, pv)]) ∧ Turned (PutFoot B bm vt) w w' ∧
    (∀ k, vt'.ownBlock = some k → vt.ownBlock = some k ∨ w.heap.size ≤ k) ∧ ∀ k, nv.ownBlock = some k ∨ pv.ownBlock = some k → w.heap.size ≤ k

theorem cell_no_map {H : Type} {P : Program} {k : TypeId} {R : Value → Option (DataW H × List MemPlace)} {w : World} {b n : Nat} {D : DataW H} {p : Addr} {v : Value} (h : w.ownsMap P k R b n D) (hc : w.cell? p = some v) : p.block ≠ b := by
  obtain ⟨es, clock, hb, _⟩ := h
  rintro rfl
  simp [World.cell?, hb] at hc

theorem TRead.mapped {H : Type} {P : Program} {k : TypeId} {R : Value → Option (DataW H × List MemPlace)} {w w' : World} {b n : Nat} {D : DataW H} {t : Tm.T} {nv pv : Value} (h : TRead w t nv pv) (hm : w.ownsMap P k R b n D) (hg : w.grownBy w' (some b)) : TRead w' t nv pv := by
  have hc : ∀ {p : Addr} {v : Value}, w.cell? p = some v → w'.cell? p = some v := fun {p v} hc => (World.cell?_of_block (w := w) (hg.block p.block (World.block_lt_of_cell? w p hc) (by have := cell_no_map hm hc; simpa using this))).trans hc
  obtain ⟨⟨ao, cap, g, off, hv, ha, hx⟩, ⟨ao2, cap2, g2, off2, hv2, ha2, hx2⟩⟩ := h
  exact ⟨⟨ao, cap, g, off, hv, ha, fun i hi => hc (hx i hi)⟩, ⟨ao2, cap2, g2, off2, hv2, ha2, fun i hi => ⟨hc (hx2 i hi).1, hc (hx2 i hi).2⟩⟩⟩

theorem cells_new6 (w : World) (a b c d e f : Value) (t : TypeId) : ∀ j u, ([a, b, c, d, e, f] : List Value)[j]? = some u → (w.alloc (.cells #[a, b, c, d, e, f] t)).cell? ((⟨w.heap.size, 0, none⟩ : Addr).add j) = some u := by
  intro j u hj
  match j, hj with
  | 0, hj => simp at hj; subst hj; simp [Addr.add]
  | 1, hj => simp at hj; subst hj; simp [Addr.add]
  | 2, hj => simp at hj; subst hj; simp [Addr.add]
  | 3, hj => simp at hj; subst hj; simp [Addr.add]
  | 4, hj => simp at hj; subst hj; simp [Addr.add]
  | 5, hj => simp at hj; subst hj; simp [Addr.add]
  | j + 6, hj => simp at hj

theorem box2 {w : World} {B : Nat} {t : TypeId} {a b : Value} (h : w.heap[B]? = some (.cells #[a, b] t (0, 0))) : w.cell? ⟨B, 0, none⟩ = some a ∧ w.cell? ⟨B, 1, none⟩ = some b ∧ ∀ j, w.frozen? ⟨B, j, none⟩ = false := by
  simp [World.cell?, World.frozen?, h]

theorem newEnd {w W W2 W2' w3 w4 : World} {B bm : Nat} {vt v' nv pv : Value} {ts : List TRow} {t : Tm.T} {o : Obj} (hU : Turned (PutFoot B bm vt) w W) (h : StoreAt W B vt (.map (some bm)) ts) (hm : t.may ts.length = true) (hin : t ∉ ts.map (·.1))
    (hmap : W2.ownsMap (H := Unit) Tryz.prog 9 (plainElem Tryz.prog 3) bm (ts.length + 1) ((Tm.index (ts.map (·.1))).put (Tm.kl t) (.lit (.int .i64 (ts.length : Nat))))) (hg2 : W.grownBy W2 (some bm))
    (hd : Up W2 W2') (hb3 : Up W2' w3) (hown : TOwn w3 t nv pv) (hnew : ∀ k, nv.ownBlock = some k ∨ pv.ownBlock = some k → W2'.heap.size ≤ k)
    (hrow : w4.ownsRow 0 35 6 v' (ts.length + 1) (cellsT ts ++ tcells t nv pv)) (hg4 : (w3.alloc o).grownBy w4 vt.ownBlock) (hloc : v'.ownBlock = vt.ownBlock ∨ v'.ownBlock = some (w3.alloc o).heap.size) :
    NewDone w B bm vt ts t (.returned (.tuple #[.int .i64 (ts.length : Nat), .nilIface])) (w4.setCell ⟨B, 0, none⟩ v') := by
  have hl : (ts.map (·.1)).length = ts.length := List.length_map _
  have hinv : Tm.Inv (ts.map (·.1) ++ [t]) := by
    have := Tm.put_inv (t := t) h.inv
    rw [Tm.put, hl, if_pos hm, if_neg hin] at this; exact this
  have hmap' : W2.ownsMap (H := Unit) Tryz.prog 9 (plainElem Tryz.prog 3) bm (ts.length + 1) (Tm.index (ts.map (·.1) ++ [t])) := by rw [Tm.index_snoc, hl]; exact hmap
  obtain ⟨p1, p2, p3⟩ := h.pushed hinv hmap' hg2 (hd.trans hb3) hown (fun k hk => Nat.le_trans hd.size (hnew k hk)) hrow hg4 hloc
  have s1 := hU.size
  have s2 := hg2.size
  refine ⟨rfl, v', nv, pv, p1, ?_, fun k hk => (p3 k hk).imp id (fun h => by omega), fun k hk => by have := hnew k hk; have := hd.size; omega⟩
  exact hU.trans p2 (fun i hi hk => hk)

theorem StoreAt.mapMade {W : World} {B : Nat} {vt : Value} (h : StoreAt W B vt (.map none) []) : StoreAt ((W.alloc (.map #[] 0)).setCell ⟨B, 1, none⟩ (.map (some W.heap.size))) B vt (.map (some W.heap.size)) [] := by
  have hB := lt_of_block' h.box
  have hb : (W.alloc (.map #[] 0)).heap[B]? = some (.cells #[vt, .map none] 71 (0, 0)) := (Below.heap_alloc W _ B hB).trans h.box
  refine ⟨?_, ?_, .inr ⟨_, rfl, (World.ownsMap_made W _ _ _).setCell (by simp; omega) _⟩, (fun x hx => by cases hx), h.inv⟩
  · simp [World.setCell, Array.getElem?_modify, hb]
  · refine owns_keep h.row (fun k hk => (Below.heap_setCell _ ⟨B, 1, none⟩ _ k ?_).trans (Below.heap_alloc W _ k (owns_lt h.row hk)))
    rintro rfl
    obtain ⟨cur, hc⟩ := owns_type h.row hk
    exact cells_ne hc h.box (by decide) rfl

theorem TRead.store2 {W : World} {B m : Nat} {vt vm : Value} {t : Tm.T} {nv pv : Value} {o : Obj} {u : Value} (h : TRead W t nv pv) (hb : W.heap[B]? = some (.cells #[vt, vm] 71 (0, 0))) (hv : ∃ ao n cap, vt = .slice ao n cap) (hm : ∃ r, vm = .map r) : TRead ((W.alloc o).setCell ⟨B, 1, none⟩ u) t nv pv := by
  have hc : ∀ {p : Addr} {x : Int}, W.cell? p = some (.int .i64 x) → ((W.alloc o).setCell ⟨B, 1, none⟩ u).cell? p = some (.int .i64 x) := fun {p x} hc => by
    have hp : p.block ≠ B := by
      rintro rfl
      obtain ⟨ao, n, cap, rfl⟩ := hv
      obtain ⟨r, rfl⟩ := hm
      obtain ⟨b, off, sp⟩ := p
      cases sp with
      | some s => simp [World.cell?, hb] at hc
      | none =>
        match off, hc with
        | 0, hc => simp [World.cell?, hb] at hc
        | 1, hc => simp [World.cell?, hb] at hc
        | off + 2, hc => simp [World.cell?, hb] at hc
    exact (World.cell?_of_block (w := W) ((Below.heap_setCell _ ⟨B, 1, none⟩ _ _ hp).trans (Below.heap_alloc W _ _ (World.block_lt_of_cell? W p hc)))).trans hc
  obtain ⟨⟨ao, cap, g, off, hv1, ha, hx⟩, ⟨ao2, cap2, g2, off2, hv2, ha2, hx2⟩⟩ := h
  exact ⟨⟨ao, cap, g, off, hv1, ha, fun i hi => hc (hx i hi)⟩, ⟨ao2, cap2, g2, off2, hv2, ha2, fun i hi => ⟨hc (hx2 i hi).1, hc (hx2 i hi).2⟩⟩⟩

set_option maxHeartbeats 8000000 in
set_option maxRecDepth 100000 in
theorem put_new {w : World} {B bm : Nat} {vt : Value} {ts : List TRow} {t : Tm.T} {nv pv : Value} (h : StoreAt w B vt (.map (some bm)) ts) (hr : TRead w t nv pv) (hm : t.may ts.length = true) (hn : ts.length ≤ 1000) (hin : t ∉ ts.map (·.1)) (hT : Tab w) :
    Calls Tryz.prog 20 #[.pointer (some ⟨B, 0, none⟩), tv t nv pv] w (NewDone w B bm vt ts t) := by
  have hsm := Tm.may_small hm hn
  obtain ⟨i0, hi, hz0, hz1, hz2⟩ := info_parts Tryz.termInfo
  obtain ⟨ao, cap, hvt⟩ := h.shape
  subst hvt
  have hfin : Hid (∀ (W : World), Up w W → StoreAt W B (.slice ao ts.length cap) (.map (some bm)) ts) := fun W hW => h.keep (fun k hk => hW.block k (h.lt hk))
  have HMAY := Lib.hid hm
  have HIN := Lib.hid hin
  have hb := h.box
  have hmap : w.ownsMap (H := Unit) Tryz.prog 9 (plainElem Tryz.prog 3) bm ts.length (Tm.index (ts.map (·.1))) := by
    rcases h.map with ⟨e, _⟩ | ⟨bm', e, hmap⟩
    · cases e
    · cases e; exact hmap
  obtain ⟨ix1, -⟩ := Tm.index_at h.inv hm
  rw [decide_eq_false hin] at ix1
  obtain ⟨a1, c1, g1, o1, e1, -⟩ := hr.n
  obtain ⟨a2, c2, g2, o2, e2, -⟩ := hr.p
  subst e1 e2
  have hU0 := (Up.refl w).alloc (.cells #[.int .i64 t.kind, .int .i64 t.label, .int .i64 t.a, .int .i64 t.b, .slice a1 t.names.length c1, .slice a2 t.pairs.length c2] 35)
  have hx0 := heap_alloc_new w (.cells #[.int .i64 t.kind, .int .i64 t.label, .int .i64 t.a, .int .i64 t.b, .slice a1 t.names.length c1, .slice a2 t.pairs.length c2] 35)
  have HM := Lib.hid (mayPut_lit t _ _ B ao ts.length cap _ true _ (hr.up hU0) (by omega) (by omega) ((hU0.block B (lt_of_block' hb)).trans hb) hm)
  have HK : Hid (∀ W, Up w W → Calls Tryz.prog 83 #[.agg #[.int .i64 t.kind, .int .i64 t.label, .int .i64 t.a, .int .i64 t.b, .slice a1 t.names.length c1, .slice a2 t.pairs.length c2]] W (KeyDone t W)) := fun W hW => key_lit t _ _ W (hr.up hW) (hT.up hW) hm hn
  have HO : Hid (∀ W, TRead W t (.slice a1 t.names.length c1) (.slice a2 t.pairs.length c2) → Calls Tryz.prog 79 #[.agg #[.int .i64 t.kind, .int .i64 t.label, .int .i64 t.a, .int .i64 t.b, .slice a1 t.names.length c1, .slice a2 t.pairs.length c2]] W (OwnDone t W)) := fun W hW => own_lit t _ _ W hW (by omega) (by omega)
  have HKEY := Lib.hid (keyOf_t hm hn)
  have HB : Hid (∀ W, Up w W → W.cell? ⟨B, 1, none⟩ = some (.map (some bm)) ∧ W.cell? ⟨B, 0, none⟩ = some (.slice ao ts.length cap)) := fun W hW => by
    have := (hW.block B (lt_of_block' hb)).trans hb
    simp [World.cell?, this]
  have HMAP : Hid (∀ W, Up w W → W.ownsMap (H := Unit) Tryz.prog 9 (plainElem Tryz.prog 3) bm ts.length (Tm.index (ts.map (·.1)))) := fun W hW => ownsMap_keep hmap (hW.block bm hmap.lt)
  have HR := Lib.hid hr
  have HS := Lib.hid h
  obtain ⟨l1, hl1⟩ : ∃ l, l = t.names.length := ⟨_, rfl⟩
  obtain ⟨l2, hl2⟩ : ∃ l, l = t.pairs.length := ⟨_, rfl⟩
  obtain ⟨n, hne⟩ : ∃ n, n = ts.length := ⟨_, rfl⟩
  obtain ⟨ks, hks⟩ : ∃ ks : ByteArray, ks = ⟨(Tm.enc t.seq).toArray⟩ := ⟨_, rfl⟩
  rw [← hl1, ← hl2] at HM HK HO HR hU0 hx0
  rw [← hne] at HB HMAP hn
  rw [← hks] at HKEY
  rw [tlit, ← hl1, ← hl2]
  have HKS := Lib.hid hks
  have HNE := Lib.hid hne
  have I1 := Lib.hid ix1
  have hq := fun w r => run_eql_map_nil (P := Tryz.prog) w 69 9 3 r Tryz.underlying69
  clear h hb hr hm hsm hin hT hmap ix1 hl1 hl2 hne hks
  go_enter Tryz.func20, Tryz.ntmps20
  go_wp2_with fail
  (with_reducible refine HM.out.mono ?_)
  rintro e w1 ⟨rfl, hU1⟩
  have hb1 := (hU1.block w.heap.size (lt_of_block' hx0)).trans hx0
  obtain ⟨x0, x1, x2, x3, x4, x5, -⟩ := six_cells hb1
  have hU2 := hU0.trans hU1
  have HB1 := Lib.hid hb1
  clear hU1 hU0 HM hb1 hx0
  go_wp2_with fail
  (with_reducible refine (HK.out _ hU2).mono ?_)
  rintro e w2 ⟨rfl, hU3⟩
  rw [← HKS.out]
  have hU4 := hU2.trans hU3
  have hb2 := (hU3.block w.heap.size (lt_of_block' HB1.out)).trans HB1.out
  have hmap := HMAP.out _ hU4
  obtain ⟨y1, y0⟩ := HB.out _ hU4
  have HB2 := Lib.hid hb2
  clear hU2 hU3 HK x0 x1 x2 x3 x4 x5 hb2 HB1
  go_wp2_with (at_lookup; refine wpList_lookup_own_ok_int _ rfl _ _ 69 rfl 9 3 .i64 Tryz.strLaw Tryz.underlying69 Tryz.underlying3 (Tryz.intZero _) bm n _ rfl hmap _ _ rfl HKEY.out ?_; intro c' hat hwc; rw [I1.out]; clear hat hwc)
  go_still_tail 10, (by kernel_rfl)
  change wpList _ _ _ _ _ w2.drew
  have hmap' := hmap.drew
  have hU5 := hU4.drew
  obtain ⟨w3, hw3⟩ : ∃ w3, w2.drew = w3 := ⟨_, rfl⟩
  have hb3 : w3.heap[w.heap.size]? = some (.cells #[.int .i64 t.kind, .int .i64 t.label, .int .i64 t.a, .int .i64 t.b, .slice a1 l1 c1, .slice a2 l2 c2] 35 (0, 0)) := by rw [← hw3]; exact HB2.out
  rw [hw3] at hmap' hU5 ⊢
  have HS3 := Lib.hid (hfin.out _ hU5)
  have HR3 := Lib.hid (HR.out.up hU5)
  have HT3 : Hid (Turned (PutFoot B bm (.slice ao ts.length cap)) w w3) := (Turned.below hU5).newF
  clear hw3 hU4 hmap HB2 y0 y1 hU5 HR hfin
  go_wp2_with (at_mapUpdate; refine wpList_mapUpdate_own _ rfl _ _ _ 69 rfl 9 3 Tryz.strLaw Tryz.underlying69 _ bm n _ rfl hmap' (by unfold maxLen; omega) _ _ _ rfl rfl HKEY.out _ [] (plainElem_int Tryz.underlying3 (WalkArith.wf_i64 (by omega))) ?_; intro w4 hown4 hgrow4)
  go_frame
  have hr4 : TRead w4.drew t (.slice a1 l1 c1) (.slice a2 l2 c2) := (HR3.out.mapped hmap' hgrow4).up (Up.drew (Up.refl _))
  have hs3 := HS3.out
  obtain ⟨n1, n2, n3, lm, lB⟩ := hs3.heads
  have hB4 : w4.heap[B]? = some (.cells #[.slice ao n cap, .map (some bm)] 71 (0, 0)) := by
    rw [HNE.out]; exact (hgrow4.block B lB (by simp; omega)).trans hs3.box
  have hX4 : w4.heap[w.heap.size]? = some (.cells #[.int .i64 t.kind, .int .i64 t.label, .int .i64 t.a, .int .i64 t.b, .slice a1 l1 c1, .slice a2 l2 c2] 35 (0, 0)) :=
    (hgrow4.block _ (lt_of_block' hb3) (by have := map_ne_cells hmap' hb3; simp; omega)).trans hb3
  have hrow4 : w4.ownsRow 0 35 6 (.slice ao n cap) n (cellsT ts) := by
    have := owns_keep hs3.row (w' := w4) (fun k hk => hgrow4.block k (owns_lt hs3.row hk) (by
      intro e
      simp only [Option.some.injEq] at e
      exact n3 (by rw [← e]; exact hk)))
    rw [HNE.out]; exact this
  have HR4 := Lib.hid hr4
  have HB4 := Lib.hid hB4
  have HX4 := Lib.hid hX4
  have HROW := Lib.hid hrow4
  have HFIN : Hid (∀ (w5 w6 : World) (nv pv v' : Value) (o : Obj), Up w4.drew w5 → TOwn w5 t nv pv → (∀ k, nv.ownBlock = some k ∨ pv.ownBlock = some k → w4.drew.heap.size ≤ k) →
      w6.ownsRow 0 35 6 v' (n + 1) (cellsT ts ++ tcells t nv pv) → (w5.alloc o).grownBy w6 (Value.slice ao n cap).ownBlock → (v'.ownBlock = (Value.slice ao n cap).ownBlock ∨ v'.ownBlock = some (w5.alloc o).heap.size) →
      NewDone w B bm (.slice ao ts.length cap) ts t (.returned (.tuple #[.int .i64 (n : Nat), .nilIface])) (w6.setCell ⟨B, 0, none⟩ v')) := by
    intro w5 w6 nv pv v' o h5 ho hn5 hr6 hg6 hl6
    have e := HNE.out
    subst e
    exact newEnd HT3.out hs3 HMAY.out HIN.out hown4 hgrow4 ((Up.refl w4).drew) h5 ho hn5 hr6 hg6 hl6
  obtain ⟨b0, b1, bf⟩ := box2 hB4
  obtain ⟨x0, x1, x2, x3, x4, x5, -⟩ := six_cells hX4
  have hBl : B < w4.heap.size := lt_of_block' hB4
  have hXl : w.heap.size < w4.heap.size := lt_of_block' hX4
  have hnB : (Value.slice ao n cap).ownBlock ≠ some B := by rw [HNE.out]; exact n2
  have HNB := Lib.hid hnB
  have hwrap : IntKind.i64.wrap (((n + 1 : Nat) : Int) - 1) = (n : Int) := (IntWalk.i64_in _ (by omega)).trans (by omega)
  clear hr4 hs3 n1 n2 n3 lm lB hB4 hX4 hrow4 hmap' hb3 hown4 hgrow4 hnB HMAY HIN
  go_region_law (first
    | (refine step_append_ownT rfl _ _ 22 rfl 0 35 i0 _ 6 80 Tryz.underlying22 hi hz0 hz1 hz2 rfl (by decide) (.slice ao n cap) n _ rfl (hrow5.out.alloc _) ⟨w5.heap.size, 0, none⟩ 1 1 (tcells t (.slice p1 t.names.length q1) (.slice p2 t.pairs.length q2)) rfl rfl (cells_new6 _ _ _ _ _ _ _ _) (by intro u hu; simp [tcells] at hu; rcases hu with rfl | rfl | rfl | rfl | rfl | rfl <;> rfl) (by unfold maxLen; omega) (by omega) (Nat.zero_le _) ?_; intro v' w6 hown6 hgrow6 hat6; (obtain ⟨ao6, c6, rfl⟩ := owns_shape' hown6); (obtain ⟨c60, c61, cf6⟩ := box2 ((World.grownBy.block hgrow6 B (by show B < (w5.alloc _).heap.size; rw [World.size_alloc]; omega) (fun e => HNB.out e.symm)).trans ((Below.heap_alloc w5 _ B hBl5).trans ((Below.block hb5.out B hBl).trans HB4.out)))); (replace hown6 := Lib.hid hown6); (replace hgrow6 := Lib.hid hgrow6); (replace hat6 := Lib.hid hat6))
    | (go_simp; go_at_call 79; (with_reducible refine (HO.out _ HR4.out).mono ?_); rintro e w5 ⟨nv', pv', he, hown5, hnew5, hb5⟩; (obtain ⟨p1, q1, rfl⟩ := owns_shape' hown5.n); (obtain ⟨p2, q2, rfl⟩ := owns_shape' hown5.p); rw [tlit] at he; subst he; (obtain ⟨c50, c51, cf5⟩ := box2 ((Below.block hb5 B hBl).trans HB4.out)); (have hBl5 : B < w5.heap.size := Nat.lt_of_lt_of_le hBl hb5.size); (have hrow5 := Lib.hid (Up.owns hb5 (HROW.out.drew))); (replace hown5 := Lib.hid hown5); (replace hnew5 := Lib.hid hnew5); (replace hb5 := Lib.hid hb5)))
  all_goals go_wp2_with fail
  all_goals go_ret2
  all_goals exact HFIN.out _ _ _ _ _ _ hb5.out hown5.out hnew5.out hown6.out hgrow6.out hat6.out

set_option maxHeartbeats 8000000 in
set_option maxRecDepth 100000 in
theorem put_first {w : World} {B : Nat} {vt : Value} {t : Tm.T} {nv pv : Value} (h : StoreAt w B vt (.map none) []) (hr : TRead w t nv pv) (hm : t.may 0 = true) (hT : Tab w) :
    Calls Tryz.prog 20 #[.pointer (some ⟨B, 0, none⟩), tv t nv pv] w (fun r w' => ∃ bm, w.heap.size ≤ bm ∧ NewDone w B bm vt [] t r w') := by
  have hsm := Tm.may_small hm (by omega)
  obtain ⟨i0, hi, hz0, hz1, hz2⟩ := info_parts Tryz.termInfo
  obtain ⟨ao, cap, hvt⟩ := h.shape
  subst hvt
  have HMAY : Hid (t.may ([] : List TRow).length = true) := hm
  have HIN : Hid (t ∉ ([] : List TRow).map (·.1)) := by intro h; cases h
  have hb := h.box
  obtain ⟨a1, c1, g1, o1, e1, -⟩ := hr.n
  obtain ⟨a2, c2, g2, o2, e2, -⟩ := hr.p
  subst e1 e2
  have hU0 := (Up.refl w).alloc (.cells #[.int .i64 t.kind, .int .i64 t.label, .int .i64 t.a, .int .i64 t.b, .slice a1 t.names.length c1, .slice a2 t.pairs.length c2] 35)
  have hx0 := heap_alloc_new w (.cells #[.int .i64 t.kind, .int .i64 t.label, .int .i64 t.a, .int .i64 t.b, .slice a1 t.names.length c1, .slice a2 t.pairs.length c2] 35)
  have HM := Lib.hid (mayPut_lit t _ _ B ao 0 cap _ true _ (hr.up hU0) (by omega) (by omega) ((hU0.block B (lt_of_block' hb)).trans hb) hm)
  have HK : Hid (∀ W, Up w W → Calls Tryz.prog 83 #[.agg #[.int .i64 t.kind, .int .i64 t.label, .int .i64 t.a, .int .i64 t.b, .slice a1 t.names.length c1, .slice a2 t.pairs.length c2]] W (KeyDone t W)) := fun W hW => key_lit t _ _ W (hr.up hW) (hT.up hW) hm (by omega)
  have HO : Hid (∀ W, TRead W t (.slice a1 t.names.length c1) (.slice a2 t.pairs.length c2) → Calls Tryz.prog 79 #[.agg #[.int .i64 t.kind, .int .i64 t.label, .int .i64 t.a, .int .i64 t.b, .slice a1 t.names.length c1, .slice a2 t.pairs.length c2]] W (OwnDone t W)) := fun W hW => own_lit t _ _ W hW (by omega) (by omega)
  have HKEY := Lib.hid (keyOf_t hm (by omega))
  have HB : Hid (∀ W, Up w W → W.heap[B]? = some (.cells #[.slice ao 0 cap, .map none] 71 (0, 0))) := fun W hW => (hW.block B (lt_of_block' hb)).trans hb
  have HFW : Hid (∀ (W : World), Up w W → StoreAt ((W.alloc (.map #[] 0)).setCell ⟨B, 1, none⟩ (.map (some W.heap.size))) B (.slice ao 0 cap) (.map (some W.heap.size)) [] ∧
      TRead ((W.alloc (.map #[] 0)).setCell ⟨B, 1, none⟩ (.map (some W.heap.size))) t (.slice a1 t.names.length c1) (.slice a2 t.pairs.length c2) ∧ Turned (PutFoot B W.heap.size (.slice ao 0 cap)) w ((W.alloc (.map #[] 0)).setCell ⟨B, 1, none⟩ (.map (some W.heap.size))) ∧ w.heap.size ≤ W.heap.size) := fun W hW =>
    ⟨(h.keep (fun k hk => hW.block k (h.lt hk))).mapMade, (hr.up hW).store2 (m := 0) ((h.keep (fun k hk => hW.block k (h.lt hk))).box) ⟨_, _, _, rfl⟩ ⟨_, rfl⟩, (((Turned.below hW).newF).alloc _).setCell (.inl (.inl rfl)) _, hW.size⟩
  obtain ⟨l1, hl1⟩ : ∃ l, l = t.names.length := ⟨_, rfl⟩
  obtain ⟨l2, hl2⟩ : ∃ l, l = t.pairs.length := ⟨_, rfl⟩
  obtain ⟨ks, hks⟩ : ∃ ks : ByteArray, ks = ⟨(Tm.enc t.seq).toArray⟩ := ⟨_, rfl⟩
  rw [← hl1, ← hl2] at HM HK HO HFW hU0 hx0
  rw [← hks] at HKEY
  rw [tlit, ← hl1, ← hl2]
  have HKS := Lib.hid hks
  have hq := fun w r => run_eql_map_nil (P := Tryz.prog) w 69 9 3 r Tryz.underlying69
  have hlk := fun w => Maps.look_nil (w := w) true Tryz.strLaw Tryz.underlying69 (Tryz.intZero w) HKEY.out
  have hmm := @run_makeMap Tryz.prog
  clear h hb hr hm hsm hT hl1 hl2 hks
  go_enter Tryz.func20, Tryz.ntmps20
  go_wp2_with fail
  (with_reducible refine HM.out.mono ?_)
  rintro e w1 ⟨rfl, hU1⟩
  have hb1 := (hU1.block w.heap.size (lt_of_block' hx0)).trans hx0
  obtain ⟨x0, x1, x2, x3, x4, x5, -⟩ := six_cells hb1
  have hU2 := hU0.trans hU1
  have HB1 := Lib.hid hb1
  clear hU1 hU0 HM hb1 hx0
  go_wp2_with fail
  (with_reducible refine (HK.out _ hU2).mono ?_)
  rintro e w2 ⟨rfl, hU3⟩
  rw [← HKS.out]
  have hU4 := hU2.trans hU3
  have hb2 := (hU3.block w.heap.size (lt_of_block' HB1.out)).trans HB1.out
  obtain ⟨y0, y1, yf⟩ := box2 (HB.out _ hU4)
  have hBl2 := lt_of_block' (HB.out _ hU4)
  have HB2 := Lib.hid hb2
  have HBX := Lib.hid (HB.out _ hU4)
  clear hU2 hU3 HK x0 x1 x2 x3 x4 x5 hb2 HB1
  go_wp2_with fail
  obtain ⟨hs3, hr3, ht3, hbm⟩ := HFW.out _ hU4
  have hb3 : ((w2.alloc (.map #[] 0)).setCell ⟨B, 1, none⟩ (.map (some w2.heap.size))).heap[w.heap.size]? = some (.cells #[.int .i64 t.kind, .int .i64 t.label, .int .i64 t.a, .int .i64 t.b, .slice a1 l1 c1, .slice a2 l2 c2] 35 (0, 0)) :=
    (Below.heap_setCell _ ⟨B, 1, none⟩ _ _ (fun e => cells_ne HB2.out HBX.out (by decide) e)).trans ((Below.heap_alloc w2 _ _ (lt_of_block' HB2.out)).trans HB2.out)
  rw [← World.setCell_alloc_past _ _ _ _ hBl2]
  obtain ⟨bm, hbme⟩ : ∃ bm, bm = w2.heap.size := ⟨_, rfl⟩
  rw [← hbme] at hs3 hr3 ht3 hbm hb3 ⊢
  obtain ⟨w5, hw5⟩ : ∃ w5, ((w2.alloc (.map #[] 0)).setCell ⟨B, 1, none⟩ (.map (some bm))) = w5 := ⟨_, rfl⟩
  rw [hw5] at hs3 hr3 ht3 hb3 ⊢
  obtain ⟨ts, hts⟩ : ∃ ts : List TRow, ts = [] := ⟨_, rfl⟩
  obtain ⟨n, hne⟩ : ∃ n : Nat, n = ts.length := ⟨_, rfl⟩
  have hn0 : n = 0 := by rw [hne, hts]; rfl
  have hn : n ≤ 1000 := by omega
  rw [show (Value.slice ao 0 cap) = .slice ao ts.length cap by rw [hts]; rfl] at ht3
  rw [show (Value.slice ao 0 cap) = .slice ao ts.length cap by rw [hts]; rfl, ← hts] at hs3
  rw [← hts] at HMAY HIN
  have HNE := Lib.hid hne
  have HN0 := Lib.hid hn0
  have HTS := Lib.hid hts
  have HBM := Lib.hid hbm
  obtain ⟨y0, y1, yf⟩ := box2 hs3.box
  rw [← hne] at y0
  have hmap : w5.ownsMap (H := Unit) Tryz.prog 9 (plainElem Tryz.prog 3) bm n (Tm.index (ts.map (·.1))) := by
    rw [hne]
    rcases hs3.map with ⟨e, _⟩ | ⟨bm', e, hmap⟩
    · cases e
    · cases e; exact hmap
  clear hw5 hbme hU4 HFW HB HBX HB2 hn0 hts hbm hlk hne
  go_still_tail 10, (by kernel_rfl)
  change wpList _ _ _ _ _ w5.drew
  have hmap' := hmap.drew
  obtain ⟨w3, hw3⟩ : ∃ w3, w5.drew = w3 := ⟨_, rfl⟩
  have HS3 : Hid (StoreAt w3 B (.slice ao ts.length cap) (.map (some bm)) ts) := by rw [← hw3]; exact hs3.keep (fun k hk => rfl)
  have HR3 : Hid (TRead w3 t (.slice a1 l1 c1) (.slice a2 l2 c2)) := by rw [← hw3]; exact hr3.up (Up.drew (Up.refl _))
  have HT3 : Hid (Turned (PutFoot B bm (.slice ao ts.length cap)) w w3) := by rw [← hw3]; exact ht3.drew
  have hb3 : w3.heap[w.heap.size]? = some (.cells #[.int .i64 t.kind, .int .i64 t.label, .int .i64 t.a, .int .i64 t.b, .slice a1 l1 c1, .slice a2 l2 c2] 35 (0, 0)) := by rw [← hw3]; exact hb3
  rw [hw3] at hmap' ⊢
  clear hw3 hmap y0 y1 yf hs3 hr3 ht3
  go_wp2_with (at_mapUpdate; refine wpList_mapUpdate_own _ rfl _ _ _ 69 rfl 9 3 Tryz.strLaw Tryz.underlying69 _ bm n _ rfl hmap' (by unfold maxLen; omega) _ _ _ rfl rfl HKEY.out _ [] (plainElem_int Tryz.underlying3 (WalkArith.wf_i64 (by omega))) ?_; intro w4 hown4 hgrow4)
  go_frame
  have hr4 : TRead w4.drew t (.slice a1 l1 c1) (.slice a2 l2 c2) := (HR3.out.mapped hmap' hgrow4).up (Up.drew (Up.refl _))
  have hs3 := HS3.out
  obtain ⟨n1, n2, n3, lm, lB⟩ := hs3.heads
  have hB4 : w4.heap[B]? = some (.cells #[.slice ao n cap, .map (some bm)] 71 (0, 0)) := by
    rw [HNE.out]; exact (hgrow4.block B lB (by simp; omega)).trans hs3.box
  have hX4 : w4.heap[w.heap.size]? = some (.cells #[.int .i64 t.kind, .int .i64 t.label, .int .i64 t.a, .int .i64 t.b, .slice a1 l1 c1, .slice a2 l2 c2] 35 (0, 0)) :=
    (hgrow4.block _ (lt_of_block' hb3) (by have := map_ne_cells hmap' hb3; simp; omega)).trans hb3
  have hrow4 : w4.ownsRow 0 35 6 (.slice ao n cap) n (cellsT ts) := by
    have := owns_keep hs3.row (w' := w4) (fun k hk => hgrow4.block k (owns_lt hs3.row hk) (by
      intro e
      simp only [Option.some.injEq] at e
      exact n3 (by rw [← e]; exact hk)))
    rw [HNE.out]; exact this
  have HR4 := Lib.hid hr4
  have HB4 := Lib.hid hB4
  have HX4 := Lib.hid hX4
  have HROW := Lib.hid hrow4
  have HFIN : Hid (∀ (w5 w6 : World) (nv pv v' : Value) (o : Obj), Up w4.drew w5 → TOwn w5 t nv pv → (∀ k, nv.ownBlock = some k ∨ pv.ownBlock = some k → w4.drew.heap.size ≤ k) →
      w6.ownsRow 0 35 6 v' (n + 1) (cellsT ts ++ tcells t nv pv) → (w5.alloc o).grownBy w6 (Value.slice ao n cap).ownBlock → (v'.ownBlock = (Value.slice ao n cap).ownBlock ∨ v'.ownBlock = some (w5.alloc o).heap.size) →
      NewDone w B bm (.slice ao ts.length cap) ts t (.returned (.tuple #[.int .i64 (n : Nat), .nilIface])) (w6.setCell ⟨B, 0, none⟩ v')) := by
    intro w5 w6 nv pv v' o h5 ho hn5 hr6 hg6 hl6
    have e := HNE.out
    subst e
    exact newEnd HT3.out hs3 HMAY.out HIN.out hown4 hgrow4 ((Up.refl w4).drew) h5 ho hn5 hr6 hg6 hl6
  obtain ⟨b0, b1, bf⟩ := box2 hB4
  obtain ⟨x0, x1, x2, x3, x4, x5, -⟩ := six_cells hX4
  have hBl : B < w4.heap.size := lt_of_block' hB4
  have hXl : w.heap.size < w4.heap.size := lt_of_block' hX4
  have hnB : (Value.slice ao n cap).ownBlock ≠ some B := by rw [HNE.out]; exact n2
  have HNB := Lib.hid hnB
  have hwrap : IntKind.i64.wrap (((n + 1 : Nat) : Int) - 1) = (n : Int) := (IntWalk.i64_in _ (by omega)).trans (by omega)
  clear hr4 hs3 n1 n2 n3 lm lB hB4 hX4 hrow4 hmap' hb3 hown4 hgrow4 hnB HMAY HIN
  go_region_law (first
    | (refine step_append_ownT rfl _ _ 22 rfl 0 35 i0 _ 6 80 Tryz.underlying22 hi hz0 hz1 hz2 rfl (by decide) (.slice ao n cap) n _ rfl (hrow5.out.alloc _) ⟨w5.heap.size, 0, none⟩ 1 1 (tcells t (.slice p1 t.names.length q1) (.slice p2 t.pairs.length q2)) rfl rfl (cells_new6 _ _ _ _ _ _ _ _) (by intro u hu; simp [tcells] at hu; rcases hu with rfl | rfl | rfl | rfl | rfl | rfl <;> rfl) (by unfold maxLen; omega) (by omega) (Nat.zero_le _) ?_; intro v' w6 hown6 hgrow6 hat6; (obtain ⟨ao6, c6, rfl⟩ := owns_shape' hown6); (obtain ⟨c60, c61, cf6⟩ := box2 ((World.grownBy.block hgrow6 B (by show B < (w5.alloc _).heap.size; rw [World.size_alloc]; omega) (fun e => HNB.out e.symm)).trans ((Below.heap_alloc w5 _ B hBl5).trans ((Below.block hb5.out B hBl).trans HB4.out)))); (replace hown6 := Lib.hid hown6); (replace hgrow6 := Lib.hid hgrow6); (replace hat6 := Lib.hid hat6))
    | (go_simp; go_at_call 79; (with_reducible refine (HO.out _ HR4.out).mono ?_); rintro e w5 ⟨nv', pv', he, hown5, hnew5, hb5⟩; (obtain ⟨p1, q1, rfl⟩ := owns_shape' hown5.n); (obtain ⟨p2, q2, rfl⟩ := owns_shape' hown5.p); rw [tlit] at he; subst he; (obtain ⟨c50, c51, cf5⟩ := box2 ((Below.block hb5 B hBl).trans HB4.out)); (have hBl5 : B < w5.heap.size := Nat.lt_of_lt_of_le hBl hb5.size); (have hrow5 := Lib.hid (Up.owns hb5 (HROW.out.drew))); (replace hown5 := Lib.hid hown5); (replace hnew5 := Lib.hid hnew5); (replace hb5 := Lib.hid hb5)))
  all_goals go_wp2_with fail
  all_goals go_ret2
  all_goals
    have hE := HFIN.out _ _ _ _ _ _ hb5.out hown5.out hnew5.out hown6.out hgrow6.out hat6.out
    rw [HTS.out] at hE
    rw [HN0.out] at hE ⊢
    exact ⟨bm, HBM.out, hE⟩

end Go.Proofs.YtiiieailimphnaaGreatDoor
