/- Walk: the statement TermBack. -/
import Derived.Test.YtiiieailimphnaaDoorTmW15
import Derived.Deep.DeepCutAuto
import Derived.OwnWalk
namespace Go.Proofs.YtiiieailimphnaaDoor
open Go.RowKit Go.Maps
set_option linter.unusedVariables false
set_option linter.unusedSimpArgs false

set_option maxHeartbeats 1000000 in
set_option maxRecDepth 100000 in
theorem back_many (n cap : Nat) (ao : Option Addr) (w : World) (hT : Tab w) (h : 150 < n) (hm : n ≤ 9223372036854775807) :
    Calls Tryd.prog 4 #[.slice ao n cap] w (Done w) := by
  have h2 : (150 : Int) < (n : Int) := by omega
  have HA := Lib.hid (alive_true w hT)
  clear hT h
  go_enter Tryd.func4, Tryd.ntmps4
  go_wp2_with (go_at_call 6; (with_reducible refine HA.out.mono ?_); rintro e w' ⟨rfl, hU⟩)
  go_ret
  exact ⟨rfl, hU⟩

/-- What stands at the head of a round. -/
structure BackAt (w wr : World) (B gi : Nat) (l : List Tm.T) (k : Nat) : Prop where
  st : St (fun j => w.heap.size ≤ j ∧ j ≠ gi) wr B (Tm.run (l.take k))
  ids : Row wr gi 3 l.length (vals (Tm.idsL l k))
  up : Up w wr
  new : w.heap.size ≤ gi

theorem BackAt.upw {w wr w2 : World} {B gi : Nat} {l : List Tm.T} {k : Nat} (h : BackAt w wr B gi l k) (hu : Up wr w2) : BackAt w w2 B gi l k := ⟨h.st.up hu, hu.row h.ids, h.up.trans hu, h.new⟩

theorem Up.turned {w wr w2 : World} {F : Nat → Prop} (h : Up w wr) (ht : Turned F wr w2) (hF : ∀ k, F k → w.heap.size ≤ k) : Up w w2 := by
  have T := (Turned.below h).trans ht (fun i _ hi => hF i hi)
  exact ⟨T.os, T.tape, T.output, T.size, fun i hi => T.block i hi (by omega)⟩

theorem Row.turned {w w2 : World} {F : Nat → Prop} {g cap : Nat} {e : TypeId} {xs : List Value} (h : Row w g e cap xs) (ht : Turned F w w2) (hF : ¬ F g) : Row w2 g e cap xs := h.keep (ht.block g h.lt hF)

/-- What a test leaves that fails. -/
def FalseAt (x : World) (v : Value) (wc : World) : Prop := v = .bool false ∧ x = wc

theorem ids_fresh {w : World} {g cap pb : Nat} {xs : List Value} {xt : TypeId} {xv : Value} (h : Row w g 3 cap xs) (hf : FaultT w pb xt xv) : g ≠ pb := by
  rintro rfl
  exact row_ne' h hf (by decide)

theorem FaultT.set {w : World} {g pb j : Nat} {xt : TypeId} {xv u : Value} (hf : FaultT w pb xt xv) (h : g ≠ pb) : FaultT (w.setCell ⟨g, j, none⟩ u) pb xt xv := (Below.heap_setCell w ⟨g, j, none⟩ u pb (fun e => h e.symm)).trans hf

theorem BackAt.stSet {w wr : World} {B gi j : Nat} {l : List Tm.T} {k : Nat} {s : List Tm.T} {F : Nat → Prop} (h : St F wr B s) (hF : ¬ F gi) (u : Value) : St F (wr.setCell ⟨gi, j, none⟩ u) B s :=
  h.keep (fun b _ hb => Below.heap_setCell wr ⟨gi, j, none⟩ u b (fun e => hF (by rw [← (show b = gi from e)]; exact hb)))

theorem BackAt.skip {w wr : World} {B gi : Nat} {l : List Tm.T} {k : Nat} (h : BackAt w wr B gi l k) (hk : k < l.length) (hm : (l.getD k Tm.nilT).may (Tm.run (l.take k)).length = false) (u : Value) :
    BackAt w ((wr.setCell ⟨gi, k, none⟩ u).setCell ⟨gi, k, none⟩ (.int .i64 (-1))) B gi l (k + 1) := by
  have hp := Tm.put_none hm
  refine ⟨?_, ?_, (h.up.setCell h.new _).setCell h.new _, h.new⟩
  · rw [Tm.run_take l k hk, hp]
    exact BackAt.stSet (w := w) (l := l) (k := k) (BackAt.stSet (w := w) (l := l) (k := k) h.st (fun e => e.2 rfl) _) (fun e => e.2 rfl) _
  · have h2 := (h.ids.set k u).set k (.int .i64 (-1))
    rw [List.set_set, ← vals_set, show (-1 : Int) = Tm.idOf l k from (Tm.idOf_none (by rw [hp])).symm, Tm.idsL_set] at h2
    rw [show (-1 : Int) = Tm.idOf l k from (Tm.idOf_none (by rw [hp])).symm]
    exact h2

theorem BackAt.puts {w wr w3 : World} {B gi : Nat} {l : List Tm.T} {k k' : Nat} (h : BackAt w wr B gi l k) (hk : k < l.length) (hp : (Tm.put (Tm.run (l.take k)) (l.getD k Tm.nilT)).1 = some k')
    (hs : St (fun j => w.heap.size ≤ j ∧ j ≠ gi) w3 B (Tm.put (Tm.run (l.take k)) (l.getD k Tm.nilT)).2) (ht : Turned (fun j => w.heap.size ≤ j ∧ j ≠ gi) wr w3) :
    BackAt w (w3.setCell ⟨gi, k, none⟩ (.int .i64 (k' : Nat))) B gi l (k + 1) := by
  refine ⟨?_, ?_, (h.up.turned ht (fun _ hk => hk.1)).setCell h.new _, h.new⟩
  · rw [Tm.run_take l k hk]
    exact BackAt.stSet (w := w) (l := l) (k := k) hs (fun e => e.2 rfl) _
  · have h2 := (h.ids.turned ht (fun e => e.2 rfl)).set k (.int .i64 (k' : Nat))
    rw [← vals_set, show ((k' : Nat) : Int) = Tm.idOf l k from (Tm.idOf_some hp).symm, Tm.idsL_set] at h2
    rw [show ((k' : Nat) : Int) = Tm.idOf l k from (Tm.idOf_some hp).symm]
    exact h2

set_option maxHeartbeats 16000000 in
set_option maxRecDepth 100000 in
theorem back_main (g off cap : Nat) (ao : Option Addr) (l : List Tm.T) (a : Addr) (w : World) (hT : Tab w) (hG : w.cell? ⟨0, 0, none⟩ = some (.iface 129 (.pointer (some a))))
    (hao : 0 < l.length → ao = some ⟨g, off, none⟩) (hA : TermsAt w g off l) (hm : l.length ≤ 150) :
    Calls Tryd.prog 4 #[.slice ao l.length cap] w (Done w) := by
  obtain ⟨i0, hif, hz0, hz1, hz2⟩ := info_parts Tryd.intInfo'
  obtain ⟨n, hn⟩ : ∃ n, n = l.length := ⟨_, rfl⟩
  have hm2 : ¬ (150 : Int) < (n : Int) := by omega
  rw [← hn] at hao hm ⊢
  have HN := Lib.hid hn
  have HAO := Lib.hid hao
  have HA := Lib.hid hA
  have HT := Lib.hid hT
  have HG := Lib.hid hG
  clear hn hao hA hT hG
  go_enter Tryd.func4, Tryd.ntmps4
  go_wp2_with (first
    | (go_at_call 7; (with_reducible refine (new_any w HT.out).mono ?_); rintro e w1 ⟨B, rfl, hS, hU⟩; (replace hS := Lib.hid hS); (replace hU := Lib.hid hU))
    | (at_make; refine wpList_make_full _ rfl _ _ 30 rfl 0 3 i0 (.int .i64 0) 1 Tryd.underlying30 hif hz0 hz1 _ _ _ _ n rfl rfl rfl rfl (by rw [hz2]; omega) (by unfold maxLen; omega) (Nat.zero_le _) ?_; intro w2 hown hgrow; (replace hown := Lib.hid hown); (replace hgrow := Lib.hid hgrow)))
  have hB0 : BackAt w w2 B w1.heap.size l 0 := by
    have hU2 : Up w1 w2 := (Up.refl w1).grown hgrow.out (fun k hk => by cases hk)
    have hown := hown.out
    rw [made_zeros] at hown
    obtain ⟨hrow, -, -, -⟩ := Row.of hown
    rw [Nat.mul_one] at hrow
    refine ⟨((hS.out.bound).up hU2).mono (fun k _ hk => ⟨hk.1, by omega⟩), ?_, hU.out.trans hU2, hU.out.size⟩
    rw [Tm.idsL_zero, ← HN.out]; exact hrow
  obtain ⟨gi, hgi⟩ : ∃ gi, gi = w1.heap.size := ⟨_, rfl⟩
  rw [← hgi] at hB0 ⊢
  clear hown hgrow hS hU hgi
  go_loopw [5] (fun i wr => ∃ k : Nat, k ≤ n ∧ i = .int .i64 k ∧ BackAt w wr B gi l k) (fun i _ => n - (intOf i).toNat)
  case atStart => exact ⟨0, Nat.zero_le _, rfl, hB0⟩
  case round =>
    clear hB0
    obtain ⟨k, hk, rfl, hB⟩ := hrel
    have HB := Lib.hid hB
    by_cases hlt : k < n
    · obtain rfl := HAO.out (by omega)
      have hkl : k < l.length := by rw [← HN.out]; exact hlt
      have HKL := Lib.hid hkl
      obtain ⟨nv, pv, ⟨c0, c1, c2, c3, c4, c5⟩, hr, hln, hlp⟩ := (HA.out.up hB.up) k hkl
      obtain ⟨s, hs⟩ : ∃ s, s = Tm.run (l.take k) := ⟨_, rfl⟩
      obtain ⟨t, ht⟩ : ∃ t, t = l.getD k Tm.nilT := ⟨_, rfl⟩
      have hsl : s.length ≤ 200 := by
        have h1 := (Tm.run_len (l.take k)).2
        rw [← hs, List.length_take] at h1; omega
      have hst := hB.st
      rw [← hs] at hst
      rw [← ht] at c0 c1 c2 c3 hr hln hlp
      obtain ⟨p1, q1, g1, o1, e1, -⟩ := hr.n
      obtain ⟨p2, q2, g2, o2, e2, -⟩ := hr.p
      subst e1 e2
      have hcg := hB.ids.cell (vals_get (l := Tm.idsL l k) (i := k) (by rw [Tm.idsL_len]; exact hkl))
      have hgl := hB.ids.lt
      obtain ⟨x0, hx0⟩ : ∃ x, x = (Tm.idsL l k).getD k 0 := ⟨_, rfl⟩
      rw [← hx0] at hcg
      have hfg := hB.ids.free k
      have HST := Lib.hid hst
      have HS := Lib.hid hs
      have HTT := Lib.hid ht
      have HGR := hB.up.cell HG.out
      obtain ⟨l1, hl1⟩ : ∃ l, l = t.names.length := ⟨_, rfl⟩
      obtain ⟨l2, hl2⟩ : ∃ l, l = t.pairs.length := ⟨_, rfl⟩
      cases hmay : t.may s.length
      · as_aux_lemma =>
          have HPUT := Lib.hid (put_not hst hr hln hlp hmay HGR)
          have HMAY := Lib.hid hmay
          have HTW := Lib.hid (HT.out.up hB.up)
          rw [← hl1] at c4 HPUT
          rw [← hl2] at c5 HPUT
          clear hB hst hs ht hx0 hr hln hlp hl1 hl2 hmay hkl
          go_wp2_with fail
          (with_reducible refine (size_st HST.out).mono ?_)
          rintro e w' ⟨rfl, rfl⟩
          go_wp2_with fail
          (with_reducible refine HPUT.out.mono ?_)
          rintro e w3 ⟨pb, rfl, hf, hU3⟩
          have hcg3 := hU3.cell hcg
          have hfg3 := (hU3.free hcg).trans hfg
          have hne := ids_fresh (hU3.row HB.out.ids) hf
          have hf4 := (hf.set (g := gi) (j := k) (u := .int .i64 0) hne).cell
          have hG4 : (w3.setCell ⟨gi, k, none⟩ (.int .i64 0)).cell? ⟨0, 0, none⟩ = some (.iface 129 (.pointer (some a))) := by
            rw [World.cell?_setCell_other _ _ _ _ (by
              have h1 := World.block_lt_of_cell? w _ HG.out
              have h2 := HB.out.new
              simp only [ne_eq, Addr.mk.injEq]; simp only at h1; omega)]
            exact hU3.cell HGR
          have HB3 := Lib.hid (HB.out.upw hU3)
          have HCODE := Lib.hid (code_arg pb a _ hf4 hG4)
          have HST4 := Lib.hid (BackAt.stSet (w := w) (l := l) (k := k) (j := k) (HST.out.up hU3) (fun e => e.2 rfl) (.int .i64 0))
          clear c0 c1 c2 c3 c4 c5 HPUT hcg hfg hf hne hf4 hG4 hU3 HGR
          go_wp2_with fail
          (with_reducible refine HCODE.out.mono ?_)
          rintro e w5 ⟨rfl, rfl⟩
          go_wp2_with fail
          (with_reducible refine (size_st HST4.out).mono ?_)
          rintro e w5 ⟨rfl, rfl⟩
          go_wp2_with fail
          go_roundw
          case rel => exact ⟨k + 1, by omega, by go_num, HB3.out.skip HKL.out (by rw [← HTT.out, ← HS.out]; exact HMAY.out) _⟩
          case measure => simp [intOf]; omega
      · have HPUT := Lib.hid (put_F hst (fun j hj => (⟨by have := hB.up.size; omega, by omega⟩ : w.heap.size ≤ j ∧ j ≠ gi)) hr hmay (by omega) (HT.out.up hB.up))
        have HMAY := Lib.hid hmay
        have HRR := Lib.hid (⟨hr, hln, hlp⟩ : TRead wr t (.slice p1 t.names.length q1) (.slice p2 t.pairs.length q2) ∧ t.names.length ≤ 9223372036854775807 ∧ t.pairs.length ≤ 9223372036854775807)
        have HTW := Lib.hid (HT.out.up hB.up)
        rw [← hl1] at c4 HPUT
        rw [← hl2] at c5 HPUT
        obtain ⟨z, hz⟩ : ∃ z, z = s.length := ⟨_, rfl⟩
        have HZ := Lib.hid hz
        have HL1 := Lib.hid hl1
        have HL2 := Lib.hid hl2
        have hsz : Calls Tryd.prog 9 #[.pointer (some ⟨B, 0, none⟩)] wr fun e w' => e = .returned (.int .i64 z) ∧ wr = w' := by rw [hz]; exact size_st hst
        have HSZ := Lib.hid hsz
        have hz2 : z ≤ 200 := by omega
        clear hB hst hs ht hx0 hr hln hlp hl1 hl2 hmay hkl hz hsz hsl
        go_wp2_with fail
        (with_reducible refine HSZ.out.mono ?_)
        rintro e w' ⟨rfl, rfl⟩
        go_wp2_with fail
        (with_reducible refine HPUT.out.mono ?_)
        rintro e w3 ⟨k', hk', rfl, hst3, ht3⟩
        have hk2 := hk'
        rw [HS.out, HTT.out] at hk2
        have hst2 := hst3
        rw [HS.out, HTT.out] at hst2
        have hB4 := HB.out.puts HKL.out hk2 hst2 ht3
        have hput := Tm.put_some hk'
        have hmayk := Tm.put_may (show Tm.Inv s from HST.out.inv) hk'
        have hcg3 := (ht3.cell hcg (fun e => e.2 rfl))
        have hfg3 := (ht3.free (p := ⟨gi, k, none⟩) hgl (fun e => e.2 rfl)).trans hfg
        obtain ⟨s', hs'⟩ : ∃ s', s' = (Tm.put s t).2 := ⟨_, rfl⟩
        have hst4 : St (fun j => w.heap.size ≤ j ∧ j ≠ gi) (w3.setCell ⟨gi, k, none⟩ (.int .i64 (k' : Nat))) B s' := by rw [hs']; exact BackAt.stSet (w := w) (l := l) (k := k) hst3 (fun e => e.2 rfl) _
        rw [← hs'] at hput
        have hk's : k' < s'.length := (List.getElem?_eq_some_iff.1 hput.2.2.1).1
        have hs'k : s'[k'] = t := (List.getElem?_eq_some_iff.1 hput.2.2.1).2
        have hs'l : s'.length = max z (k' + 1) := by rw [HZ.out]; exact hput.2.2.2.1
        have hk'z : k' ≤ z := by rw [HZ.out]; exact hput.2.1
        obtain ⟨w4, hw4⟩ : ∃ w4, w3.setCell ⟨gi, k, none⟩ (.int .i64 (k' : Nat)) = w4 := ⟨_, rfl⟩
        rw [hw4] at hB4 hst4
        have HGET : Hid (Calls Tryd.prog 10 #[.pointer (some ⟨B, 0, none⟩), .int .i64 k'] w4 (GetDone t w4)) := by
          have := get_in hst4 hk's (by omega)
          rw [hs'k] at this; exact this
        have HW4 := Lib.hid hw4
        have HB4 := Lib.hid hB4
        have HST4 := Lib.hid hst4
        have HK' := Lib.hid hk2
        have HMK := Lib.hid hmayk
        have hz' : s'.length ≤ 201 := by omega
        have hU4 := hB4.up
        have HU4 := Lib.hid hU4
        have HS'L := Lib.hid hs'l
        clear c0 c1 c2 c3 c4 c5 HPUT hcg hfg hk' hst3 ht3 hk2 hst2 hput hmayk hs' hst4 hk's hs'k hs'l hB4 hw4 hU4
        go_wp2_with fail
        rw [HW4.out]
        (with_reducible refine HGET.out.mono ?_)
        rintro e w5 ⟨nv2, pv2, he, ho5, hn5, hU5⟩
        obtain ⟨p3, q3, rfl⟩ := owns_shape' ho5.n
        obtain ⟨p4, q4, rfl⟩ := owns_shape' ho5.p
        rw [tlit, ← HL1.out, ← HL2.out] at he
        subst he
        have HO5 := Lib.hid ho5
        have HU5 := Lib.hid hU5
        clear ho5 hn5 hU5
        go_wp2_with fail
        have hT6 := heap_alloc_new w5 (.cells #[.int .i64 t.kind, .int .i64 t.label, .int .i64 t.a, .int .i64 t.b, .slice p3 l1 q3, .slice p4 l2 q4] 33)
        have hU56 := (Up.refl w5).alloc (.cells #[.int .i64 t.kind, .int .i64 t.label, .int .i64 t.a, .int .i64 t.b, .slice p3 l1 q3, .slice p4 l2 q4] 33)
        obtain ⟨w6, hw6⟩ : ∃ w6, w5.alloc (.cells #[.int .i64 t.kind, .int .i64 t.label, .int .i64 t.a, .int .i64 t.b, .slice p3 l1 q3, .slice p4 l2 q4] 33) = w6 := ⟨_, rfl⟩
        obtain ⟨T, hT⟩ : ∃ T, T = w5.heap.size := ⟨_, rfl⟩
        rw [hw6] at hT6 hU56 ⊢
        rw [← hT] at hT6 ⊢
        have hU46 := HU5.out.trans hU56
        have hU06 := HU4.out.trans hU46
        have hA6 : ∃ nv pv, (w6.cell? ⟨g, off + k * 6, none⟩ = some (.int .i64 t.kind) ∧ w6.cell? ⟨g, off + k * 6 + 1, none⟩ = some (.int .i64 t.label) ∧ w6.cell? ⟨g, off + k * 6 + 2, none⟩ = some (.int .i64 t.a) ∧ w6.cell? ⟨g, off + k * 6 + 3, none⟩ = some (.int .i64 t.b) ∧
            w6.cell? ⟨g, off + k * 6 + 4, none⟩ = some nv ∧ w6.cell? ⟨g, off + k * 6 + 5, none⟩ = some pv) ∧ TRead w6 t nv pv := by
          obtain ⟨nv, pv, hc, hr, -, -⟩ := (HA.out.up hU06) k HKL.out
          rw [← HTT.out] at hc hr
          exact ⟨nv, pv, hc, hr⟩
        obtain ⟨nv6, pv6, hc6, hr6⟩ := hA6
        obtain ⟨p5, q5, g5, o5, e5, -⟩ := hr6.n
        obtain ⟨p6, q6, g6, o6, e6, -⟩ := hr6.p
        subst e5 e6
        rw [← HL1.out] at hc6
        rw [← HL2.out] at hc6
        have KC : Hid (∀ w', Up w6 w' → (w'.cell? ⟨T, 0, none⟩ = some (.int .i64 t.kind) ∧ w'.cell? ⟨T, 1, none⟩ = some (.int .i64 t.label) ∧ w'.cell? ⟨T, 2, none⟩ = some (.int .i64 t.a) ∧ w'.cell? ⟨T, 3, none⟩ = some (.int .i64 t.b) ∧ w'.cell? ⟨T, 4, none⟩ = some (.slice p3 l1 q3) ∧ w'.cell? ⟨T, 5, none⟩ = some (.slice p4 l2 q4)) ∧
            w'.cell? ⟨g, off + k * 6, none⟩ = some (.int .i64 t.kind) ∧ w'.cell? ⟨g, off + k * 6 + 1, none⟩ = some (.int .i64 t.label) ∧ w'.cell? ⟨g, off + k * 6 + 2, none⟩ = some (.int .i64 t.a) ∧ w'.cell? ⟨g, off + k * 6 + 3, none⟩ = some (.int .i64 t.b) ∧
            w'.cell? ⟨g, off + k * 6 + 4, none⟩ = some (.slice p5 l1 q5) ∧ w'.cell? ⟨g, off + k * 6 + 5, none⟩ = some (.slice p6 l2 q6)) := fun w' hw => by
          obtain ⟨y0, y1, y2, y3, y4, y5⟩ := hc6
          obtain ⟨z0, z1, z2, z3, z4, z5, -⟩ := six_cells hT6
          exact ⟨⟨hw.cell z0, hw.cell z1, hw.cell z2, hw.cell z3, hw.cell z4, hw.cell z5⟩, hw.cell y0, hw.cell y1, hw.cell y2, hw.cell y3, hw.cell y4, hw.cell y5⟩
        have KS : Hid (∀ w', Up w6 w' → Calls Tryd.prog 13 #[.agg #[.int .i64 t.kind, .int .i64 t.label, .int .i64 t.a, .int .i64 t.b, .slice p3 l1 q3, .slice p4 l2 q4], .agg #[.int .i64 t.kind, .int .i64 t.label, .int .i64 t.a, .int .i64 t.b, .slice p5 l1 q5, .slice p6 l2 q6]] w' (Eql w' true)) := fun w' hw => by
          have h1 := same_term (a := t) (b := t) ((HO5.out.read.up hU56).up hw) (hr6.up hw) HRR.out.2.1 HRR.out.2.1 HRR.out.2.2 HRR.out.2.2
          rw [decide_eq_true rfl, ← HL1.out, ← HL2.out] at h1
          exact h1
        have KZ : Hid (∀ w', Up w6 w' → Calls Tryd.prog 9 #[.pointer (some ⟨B, 0, none⟩)] w' fun e w2 => e = .returned (.int .i64 s'.length) ∧ w' = w2) := fun w' hw => size_st ((HST4.out.up hU46).up hw)
        have HB6 := Lib.hid (HB4.out.upw hU46)
        have qg : decide ((z : Int) < (k' : Int)) = false := by simp; omega
        have qw : IntKind.i64.wrap ((k' : Int) + 1) = (k' : Int) + 1 := IntWalk.i64_in _ (by omega)
        have qm : ((s'.length : Int) != max (z : Int) ((k' : Int) + 1)) = false := by
          have := HS'L.out
          simp; omega
        clear hw6 hT hT6 hU56 hU46 hU06 hc6 hr6 HGET
        refine wp_region_quiet_in (fun w' => Up w6 w') (by kernel_rfl) (by kernel_rfl) (Up.drew (Up.refl _)) ?_
        iterate 25
          refine WQ.step (fun K hK => ?_)
          go_simp
          apply Exists.intro
          refine ⟨?_, hK _ ?_⟩
          (intro w' hw'
           first
             | rfl
             | ((go_at_call 13); (with_reducible refine (KS.out _ hw').mono ?_); rintro e w3 ⟨rfl, hb2⟩; exact ⟨rfl, Up.trans hw' hb2⟩)
             | ((go_at_call 9); (with_reducible refine (KZ.out _ hw').mono ?_); rintro e w3 ⟨rfl, rfl⟩; exact ⟨rfl, hw'⟩)
             | (obtain ⟨⟨z0, z1, z2, z3, z4, z5⟩, y0, y1, y2, y3, y4, y5⟩ := KC.out w' hw'
                go_simp; first | done | rfl | exact ⟨rfl, rfl⟩))
          clear hK K
        refine WQ.nil ?_
        intro w7 hU67
        obtain ⟨⟨z0, z1, z2, z3, z4, z5⟩, y0, y1, y2, y3, y4, y5⟩ := KC.out w7 hU67
        obtain ⟨kd, hkd⟩ : ∃ x, x = t.kind := ⟨_, rfl⟩
        obtain ⟨ta, hta⟩ : ∃ x, x = t.a := ⟨_, rfl⟩
        obtain ⟨tb, htb⟩ : ∃ x, x = t.b := ⟨_, rfl⟩
        have hmp := Tm.may_parts HMK.out
        rw [← hkd, ← hta, ← htb] at hmp
        rw [← hkd] at y0
        rw [← hta] at y2
        rw [← htb] at y3
        have HMP := Lib.hid hmp
        clear z0 z1 z2 z3 z4 z5 hkd hta htb hmp
        go_upto_region 18 with fail
        go_cut [141] (FalseAt w7)
        case first =>
          rcases HMP.out with (rfl | rfl) | ⟨rfl | rfl | rfl, ha⟩ | ⟨rfl | rfl, ha, hb⟩
          all_goals
            as_aux_lemma =>
              go_wp2_with fail
              all_goals go_meet
              all_goals exact ⟨by first | rfl | (simp; omega), rfl⟩
        case rest =>
        obtain ⟨rfl, rfl⟩ := hcut
        clear y0 y1 y2 y3 y4 y5 qg qw qm
        go_wp2_with fail
        go_loopw [11] (fun i wi => ∃ j : Nat, j ≤ k ∧ i = .int .i64 j ∧ Up w7 wi) (fun i _ => k - (intOf i).toNat)
        case atStart => exact ⟨0, Nat.zero_le _, rfl, Up.refl _⟩
        case round =>
          obtain ⟨j, hj, rfl, hU⟩ := hrel
          by_cases hjk : j < k
          · have hB8 := HB6.out.upw (hU67.trans hU)
            have hjl : j < l.length := by have := HKL.out; omega
            have hci := hB8.ids.cell (vals_get (l := Tm.idsL l (k + 1)) (i := j) (by rw [Tm.idsL_len]; exact hjl))
            rw [Tm.idsL_get l (k + 1) j (by omega) HKL.out] at hci
            have hsn := Tm.same_number (l := l) (j := j) (i := k) hjk HKL.out HK'.out
            obtain ⟨nvj, pvj, ⟨d0, d1, d2, d3, d4, d5⟩, hrj, hlnj, hlpj⟩ := (HA.out.up hB8.up) j hjl
            obtain ⟨nvk, pvk, ⟨f0, f1, f2, f3, f4, f5⟩, hrk, hlnk, hlpk⟩ := (HA.out.up hB8.up) k HKL.out
            obtain ⟨x, hx⟩ : ∃ x, x = Tm.idOf l j := ⟨_, rfl⟩
            obtain ⟨tj, htj⟩ : ∃ tj, tj = l.getD j Tm.nilT := ⟨_, rfl⟩
            rw [← hx] at hci hsn
            rw [← htj] at d0 d1 d2 d3 hrj hlnj hlpj hsn
            rw [← HTT.out] at f0 f1 f2 f3 hrk hlnk hlpk hsn
            obtain ⟨r1, s1, j1, o7, e7, -⟩ := hrj.n
            obtain ⟨r2, s2, j2, o8, e8, -⟩ := hrj.p
            obtain ⟨r3, s3, j3, o9, e9, -⟩ := hrk.n
            obtain ⟨r4, s4, j4, o10, e10, -⟩ := hrk.p
            subst e7 e8 e9 e10
            have JC : Hid (∀ w', Up wr w' → w'.cell? ⟨gi, j, none⟩ = some (.int .i64 x) ∧ (w'.cell? ⟨g, off + j * 6, none⟩ = some (.int .i64 tj.kind) ∧ w'.cell? ⟨g, off + j * 6 + 1, none⟩ = some (.int .i64 tj.label) ∧ w'.cell? ⟨g, off + j * 6 + 2, none⟩ = some (.int .i64 tj.a) ∧ w'.cell? ⟨g, off + j * 6 + 3, none⟩ = some (.int .i64 tj.b) ∧
                w'.cell? ⟨g, off + j * 6 + 4, none⟩ = some (.slice r1 tj.names.length s1) ∧ w'.cell? ⟨g, off + j * 6 + 5, none⟩ = some (.slice r2 tj.pairs.length s2)) ∧
                w'.cell? ⟨g, off + k * 6, none⟩ = some (.int .i64 t.kind) ∧ w'.cell? ⟨g, off + k * 6 + 1, none⟩ = some (.int .i64 t.label) ∧ w'.cell? ⟨g, off + k * 6 + 2, none⟩ = some (.int .i64 t.a) ∧ w'.cell? ⟨g, off + k * 6 + 3, none⟩ = some (.int .i64 t.b) ∧
                w'.cell? ⟨g, off + k * 6 + 4, none⟩ = some (.slice r3 t.names.length s3) ∧ w'.cell? ⟨g, off + k * 6 + 5, none⟩ = some (.slice r4 t.pairs.length s4)) := fun w' hw =>
              ⟨hw.cell hci, ⟨hw.cell d0, hw.cell d1, hw.cell d2, hw.cell d3, hw.cell d4, hw.cell d5⟩, hw.cell f0, hw.cell f1, hw.cell f2, hw.cell f3, hw.cell f4, hw.cell f5⟩
            obtain ⟨b, hbe⟩ : ∃ b, b = decide (tj = t) := ⟨_, rfl⟩
            have JS : Hid (∀ w', Up wr w' → Calls Tryd.prog 13 #[.agg #[.int .i64 tj.kind, .int .i64 tj.label, .int .i64 tj.a, .int .i64 tj.b, .slice r1 tj.names.length s1, .slice r2 tj.pairs.length s2], .agg #[.int .i64 t.kind, .int .i64 t.label, .int .i64 t.a, .int .i64 t.b, .slice r3 t.names.length s3, .slice r4 t.pairs.length s4]] w' (Eql w' b)) := fun w' hw => by
              rw [hbe]; exact same_term (hrj.up hw) (hrk.up hw) hlnj hlnk hlpj hlpk
            have HSN : Hid (0 ≤ x → (x == (k' : Int)) = b) := fun h0 => by
              rw [hbe, Bool.eq_iff_iff, beq_iff_eq, decide_eq_true_iff]; exact hsn h0
            clear hB8 hci hsn d0 d1 d2 d3 d4 d5 f0 f1 f2 f3 f4 f5 hrj hrk hlnj hlnk hlpj hlpk hx htj hbe
            have hjn : j < n := by omega
            by_cases h0 : 0 ≤ x
            · as_aux_lemma =>
                have qx : decide (0 ≤ x) = true := by simpa using h0
                have qe := HSN.out h0
                have qb : (b != b) = false := by cases b <;> rfl
                go_wp2_with fail
                refine wp_region_quiet_in (fun w' => Up wr w') (by kernel_rfl) (by kernel_rfl) (Up.drew (Up.refl _)) ?_
                iterate 23
                  refine WQ.step (fun K hK => ?_)
                  go_simp
                  apply Exists.intro
                  refine ⟨?_, hK _ ?_⟩
                  (intro w' hw'
                   first
                     | rfl
                     | ((go_at_call 13); (with_reducible refine (JS.out _ hw').mono ?_); rintro e w3 ⟨rfl, hb2⟩; exact ⟨rfl, Up.trans hw' hb2⟩)
                     | (obtain ⟨cj, ⟨z0, z1, z2, z3, z4, z5⟩, y0, y1, y2, y3, y4, y5⟩ := JC.out w' hw'
                        go_simp; first | done | rfl | exact ⟨rfl, rfl⟩))
                  clear hK K
                refine WQ.nil ?_
                intro w9 hU9
                go_wp2_with fail
                go_roundw
                case rel => exact ⟨j + 1, by omega, by go_num, hU.trans hU9⟩
                case measure => simp [intOf]; omega
            · as_aux_lemma =>
                have qx : decide (0 ≤ x) = false := by simpa using h0
                clear h0
                go_wp2_with fail
                refine wp_region_quiet_in (fun w' => Up wr w') (by kernel_rfl) (by kernel_rfl) (Up.drew (Up.refl _)) ?_
                iterate 6
                  refine WQ.step (fun K hK => ?_)
                  go_simp
                  apply Exists.intro
                  refine ⟨?_, hK _ ?_⟩
                  (intro w' hw'
                   first
                     | rfl
                     | ((go_at_call 13); (with_reducible refine (JS.out _ hw').mono ?_); rintro e w3 ⟨rfl, hb2⟩; exact ⟨rfl, Up.trans hw' hb2⟩)
                     | (obtain ⟨cj, ⟨z0, z1, z2, z3, z4, z5⟩, y0, y1, y2, y3, y4, y5⟩ := JC.out w' hw'
                        go_simp; first | done | rfl | exact ⟨rfl, rfl⟩))
                  clear hK K
                iterate 16
                  refine WQ.skip (by kernel_rfl) ?_
                  simp only [Act.put, List.setIfInBounds_toArray, List.set_cons_zero, List.set_cons_succ]
                refine WQ.step (fun K hK => ?_)
                go_simp
                apply Exists.intro
                refine ⟨?_, hK _ ?_⟩
                (intro w' hw'
                 first
                   | rfl
                   | ((go_at_call 13); (with_reducible refine (JS.out _ hw').mono ?_); rintro e w3 ⟨rfl, hb2⟩; exact ⟨rfl, Up.trans hw' hb2⟩)
                   | (obtain ⟨cj, ⟨z0, z1, z2, z3, z4, z5⟩, y0, y1, y2, y3, y4, y5⟩ := JC.out w' hw'
                      go_simp; first | done | rfl | exact ⟨rfl, rfl⟩))
                clear hK K
                refine WQ.nil ?_
                intro w9 hU9
                go_wp2_with fail
                go_roundw
                case rel => exact ⟨j + 1, by omega, by go_num, hU.trans hU9⟩
                case measure => simp [intOf]; omega
          · obtain rfl : j = k := by omega
            go_wp2_with fail
            go_roundw
            case rel => exact ⟨j + 1, by omega, by go_num, HB6.out.upw (hU67.trans hU)⟩
            case measure => simp [intOf]; omega
    · obtain rfl : k = n := by omega
      have hTW := HT.out.up hB.up
      have HA2 := Lib.hid (alive_true wr hTW)
      clear hTW hB
      go_wp2_with (go_at_call 6; (with_reducible refine HA2.out.mono ?_); rintro e w' ⟨rfl, hU⟩)
      go_ret
      exact ⟨rfl, HB.out.up.trans hU⟩

/-- TermBack, whatever it is handed. -/
theorem back_any (g off cap : Nat) (ao : Option Addr) (l : List Tm.T) (a : Addr) (w : World) (hT : Tab w) (hG : w.cell? ⟨0, 0, none⟩ = some (.iface 129 (.pointer (some a))))
    (hao : 0 < l.length → ao = some ⟨g, off, none⟩) (hA : TermsAt w g off l) (hl : l.length ≤ 9223372036854775807) :
    Calls Tryd.prog 4 #[.slice ao l.length cap] w (Done w) := by
  by_cases h : l.length ≤ 150
  · exact back_main g off cap ao l a w hT hG hao hA h
  · exact back_many _ cap ao w hT (by omega) hl

end Go.Proofs.YtiiieailimphnaaDoor
