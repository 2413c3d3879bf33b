/- Walk: the law's put: terms one behind the other, into a store and the document's own. -/
import Derived.Test.YtiiieailimphnaaGreatDoorTmTwo
import Derived.Test.YtiiieailimphnaaGreatDoorTmOpen2
import Derived.Deep.DeepCutAuto
namespace Go.Proofs.YtiiieailimphnaaGreatDoor
open Go.RowKit Go.Maps
set_option linter.unusedVariables false
set_option linter.unusedSimpArgs false

/-- What Put leaves, whether the term may be put or not. -/
def PutBoth (F : Nat → Prop) (w : World) (B : Nat) (s : List Tm.T) (t : Tm.T) (a1 : Addr) (r : Ending) (w' : World) : Prop :=
  ∃ (kv : Int) (ev : Value), r = .returned (.tuple #[.int .i64 kv, ev]) ∧ St (fun j => F j ∨ w.heap.size ≤ j) w' B (Tm.put s t).2 ∧ Turned F w w' ∧
    ((∃ k : Nat, (Tm.put s t).1 = some k ∧ kv = (k : Int) ∧ ev = .nilIface) ∨ ((Tm.put s t).1 = none ∧ kv = 0 ∧ ∃ pb, ev = .iface 120 (.pointer (some ⟨pb, 0, none⟩)) ∧ FaultT w' pb 214 (.pointer (some a1)) ∧ w.heap.size ≤ pb))

theorem put_both {F : Nat → Prop} {w : World} {B : Nat} {s : List Tm.T} {t : Tm.T} {nv pv : Value} {a1 a2 a3 : Addr} (h : St F w B s) (hr : TRead w t nv pv) (hs : s.length ≤ 1000) (hn : t.names.length ≤ 9223372036854775807) (hp : t.pairs.length ≤ 9223372036854775807) (hT : Tab w) (hS : Sts w a1 a2 a3) :
    Calls Tryz.prog 20 #[.pointer (some ⟨B, 0, none⟩), .agg #[.int .i64 t.kind, .int .i64 t.label, .int .i64 t.a, .int .i64 t.b, nv, pv]] w (PutBoth F w B s t a1) := by
  cases hm : t.may s.length
  · have e : Tm.put s t = (none, s) := by rw [Tm.put, if_neg (by simp [hm])]
    refine (put_bad h hr hn hp hm hS.s1.var).mono fun r w' ⟨pb, he, hf, hpb, hu⟩ => ⟨0, _, he, ?_, upTurned hu, .inr ⟨by rw [e], rfl, pb, rfl, hf, hpb⟩⟩
    rw [e]; exact (h.up hu).mono (fun k _ hk => .inl hk)
  · exact (put_term h hr hm hs hT).mono fun r w' ⟨k, hk, he, hst, ht⟩ => ⟨k, .nilIface, he, hst, ht, .inl ⟨k, hk, rfl, rfl⟩⟩

/-- The document's Put, its number by a name. -/
theorem refput_want {F : Nat → Prop} {w : World} {R : Nat} {s : List Tm.T} {t : Tm.T} {nv pv : Value} (hR : Rs F w R s) (h : TRead w t nv pv) (hs : s.length ≤ 1000) (hn : t.names.length ≤ 9223372036854775807) (hp : t.pairs.length ≤ 9223372036854775807) :
    ∃ wv : Int, ((∃ k : Nat, (Tm.put s t).1 = some k ∧ wv = (k : Int)) ∨ ((Tm.put s t).1 = none ∧ wv = -1)) ∧
      Calls Tryz.prog 22 #[.pointer (some ⟨R, 0, none⟩), .agg #[.int .i64 t.kind, .int .i64 t.label, .int .i64 t.a, .int .i64 t.b, nv, pv]] w fun r w' =>
        r = .returned (.int .i64 wv) ∧ Rs (fun j => F j ∨ w.heap.size ≤ j) w' R (Tm.put s t).2 ∧ Turned F w w' := by
  cases e : (Tm.put s t).1 with
  | none => exact ⟨-1, .inr ⟨rfl, rfl⟩, (refput_any hR h hs hn hp).mono fun r w' hd => ⟨by have := hd.1; rw [e] at this; exact this, hd.2⟩⟩
  | some k => exact ⟨(k : Int), .inl ⟨k, rfl, rfl⟩, (refput_any hR h hs hn hp).mono fun r w' hd => ⟨by have := hd.1; rw [e] at this; exact this, hd.2⟩⟩

/-- What put leaves. -/
def PutAllDone (F G : Nat → Prop) (w : World) (B R : Nat) (s : List Tm.T) (r : Ending) (w' : World) : Prop :=
  r = .returned (.bool true) ∧ ∃ F' G', Two F G w B R w' s s F' G'

/-- Behind both calls of Put and their tests. -/
def PutMid (F G : Nat → Prop) (w : World) (B R : Nat) (s : List Tm.T) (t : Tm.T) (K g1 c1 n0 n1 : Nat) (v1 v2 : Value) (wc : World) : Prop :=
  ∃ F' G', Two F G w B R wc s s F' G' ∧ (∀ k, n0 ≤ k → k < n1 → ¬ F' k ∧ ¬ G' k) ∧ wc.heap[K]? = some (.cells #[.int .i64 t.kind, .int .i64 t.label, .int .i64 t.a, .int .i64 t.b, v1, v2] 35 (0, 0)) ∧
    LentAt wc t.names v1 g1 c1 ∧ wc.ownsRow n0 75 2 v2 t.pairs.length (cellsP t.pairs)

theorem put_mid {F G F' G' : Nat → Prop} {w w5 w6 w7 : World} {B R n0 K g1 c1 : Nat} {s : List Tm.T} {t : Tm.T} {v1 v2 : Value}
    (h : Two F G w B R w5 s s F' G') (hl : ∀ k, F' k ∨ G' k → k < n0) (hs : St (fun j => F' j ∨ w5.heap.size ≤ j) w6 B (Tm.put s t).2) (ht : Turned F' w5 w6) (hr : Rs (fun j => G' j ∨ w6.heap.size ≤ j) w7 R (Tm.put s t).2) (ht7 : Turned G' w6 w7)
    (hK : w5.heap[K]? = some (.cells #[.int .i64 t.kind, .int .i64 t.label, .int .i64 t.a, .int .i64 t.b, v1, v2] 35 (0, 0))) (hK0 : n0 ≤ K) (hL : LentAt w5 t.names v1 g1 c1) (hg : n0 ≤ g1) (hP : w5.ownsRow n0 75 2 v2 t.pairs.length (cellsP t.pairs)) :
    PutMid F G w B R (Tm.put s t).2 t K g1 c1 n0 w5.heap.size v1 v2 w7 := by
  have hkeep : ∀ k, n0 ≤ k → k < w5.heap.size → w7.heap[k]? = w5.heap[k]? := fun k h0 h1 =>
    (ht7.block k (Nat.lt_of_lt_of_le h1 ht.size) (fun e => by have := hl k (.inr e); omega)).trans (ht.block k h1 (fun e => by have := hl k (.inl e); omega))
  obtain ⟨hv, hc1, hc2, hrow⟩ := hL
  refine ⟨_, _, (h.put1 hs ht).put2 hr ht7, fun k h0 h1 => ⟨fun e => ?_, fun e => ?_⟩, (hkeep K hK0 (lt_of_block' hK)).trans hK, ⟨hv, hc1, hc2, hrow.keep (hkeep g1 hg hrow.lt)⟩, owns_keep hP (fun k hk => hkeep k (hP.lt k hk).1 (owns_lt hP hk))⟩
  · rcases e.1 with e | e
    · have := hl k (.inl e); omega
    · omega
  · rcases e.1 with e | e
    · have := hl k (.inr e); omega
    · have := ht.size; omega

theorem PutMid.up {F G : Nat → Prop} {w wc w' : World} {B R K g1 c1 n0 n1 : Nat} {s : List Tm.T} {t : Tm.T} {v1 v2 : Value} (h : PutMid F G w B R s t K g1 c1 n0 n1 v1 v2 wc) (hu : Up wc w') : PutMid F G w B R s t K g1 c1 n0 n1 v1 v2 w' := by
  obtain ⟨F', G', hT, hno, hk, ⟨hv, hc1, hc2, hrow⟩, hP⟩ := h
  exact ⟨F', G', hT.up hu, hno, (hu.block _ (lt_of_block' hk)).trans hk, ⟨hv, hc1, hc2, hu.row hrow⟩, hu.owns hP⟩

theorem owns_row_ne {w : World} {base n size g cap : Nat} {e e' : TypeId} {v : Value} {xs ys : List Value} (h : w.ownsRow base e size v n xs) (hr : Row w g e' cap ys) (he : e ≠ e') : v.ownBlock ≠ some g := fun hk => by
  obtain ⟨cur, hc⟩ := owns_type h hk
  exact row_ne' hr hc (fun x => he x.symm)

/-- Where the pairs' copy lies, for whoever writes over it. -/
theorem over_pairs {w : World} {n0 n1 l2 g1 : Nat} {v2 : Value} {ps : List (Int × Int)} (hl : l2 = ps.length) (h : w.ownsRow n0 75 2 v2 l2 (cellsP ps)) (hn : ∀ k, v2.ownBlock = some k → k < n1) (hg0 : n0 ≤ g1) (hg1 : g1 < n1) (hf : ∀ j, w.frozen? ⟨g1, j, none⟩ = false) :
    ∃ ao g2 cap, v2 = .slice ao l2 cap ∧ (0 < l2 → ao = some ⟨g2, 0, none⟩) ∧ Over w g2 (l2 * 2) w ∧ n0 ≤ g2 ∧ g2 < n1 ∧ (∀ k a t, w.heap[k]? = some (.cells a t (0, 0)) → t ≠ 75 → k ≠ g1 → k ≠ g2) := by
  rcases owns_cases h with ⟨rfl, h0, _⟩ | ⟨g2, cap, rfl, hr, _⟩
  · subst h0
    exact ⟨none, g1, 0, rfl, fun h => by omega, ⟨Turned.refl _ _, fun j hj => by omega, hf⟩, hg0, hg1, fun k a t _ _ hk => hk⟩
  · refine ⟨_, g2, cap, rfl, fun _ => rfl, Over.start hr (by rw [cellsP_length, hl]; exact Nat.le_refl _), (h.lt g2 rfl).1, hn g2 rfl, fun k a t he ht _ e => ?_⟩
    subst e
    exact row_ne' hr he (fun x => ht x.symm)

set_option maxHeartbeats 8000000 in
set_option maxRecDepth 100000 in
theorem put_all {F G : Nat → Prop} {w : World} {B R : Nat} {s l : List Tm.T} {g off cap : Nat} {ao : Option Addr} {vs : Nat → Value × Value} {a1 a2 a3 : Addr} (hS : St F w B s) (hR : Rs G w R s) (hd : ∀ k, F k → ¬ G k) (hlt : ∀ k, F k ∨ G k → k < w.heap.size)
    (hK : ∀ W, Turned (fun k => F k ∨ G k) w W → Kept W g off l vs a1 a2 a3) (hao : 0 < l.length → ao = some ⟨g, off, none⟩) (hfit : ∀ i, i < l.length → TermFit (l.getD i Tm.nilT)) (hm : s.length + l.length ≤ 1000) :
    Calls Tryz.prog 8 #[.pointer (some ⟨B, 0, none⟩), .pointer (some ⟨R, 0, none⟩), .slice ao l.length cap] w (PutAllDone F G w B R (Tm.runFrom s l)) := by
  obtain ⟨j0, hj, yz0, yz1, yz2⟩ := info_parts Tryz.pairInfo
  have h0 := Two.start hS hR hd hlt
  obtain ⟨n, hn⟩ : ∃ n, n = l.length := ⟨_, rfl⟩
  rw [← hn] at hao hm ⊢
  have HN := Lib.hid hn
  have HAO := Lib.hid hao
  have HK := Lib.hid hK
  have HFIT := Lib.hid hfit
  have HM : Hid (s.length + n ≤ 1000) := Lib.hid hm
  have hn1 : n ≤ 1000 := by omega
  have H0 := Lib.hid h0
  clear hS hR hd hlt hK hao hfit hn hm h0
  go_enter Tryz.func8, Tryz.ntmps8
  go_wp2_with fail
  go_loopw [7] (fun i wr => ∃ k : Nat, k ≤ n ∧ i = .int .i64 k ∧ ∃ F' G', Two F G w B R wr (Tm.runFrom s (l.take k)) (Tm.runFrom s (l.take k)) F' G') (fun i _ => n - (intOf i).toNat)
  case atStart => exact ⟨0, Nat.zero_le _, rfl, F, G, H0.out⟩
  case round =>
    clear H0
    obtain ⟨k, hk, rfl, F', G', hB⟩ := hrel
    have HB := Lib.hid hB
    by_cases hlt : k < n
    · obtain rfl := HAO.out (by omega)
      have hkl : k < l.length := by rw [← HN.out]; exact hlt
      have hKR := HK.out wr hB.t
      obtain ⟨⟨c0, c1, c2, c3, c4, c5⟩, hr⟩ := hKR.terms k hkl
      have hf := HFIT.out k hkl
      obtain ⟨sk, hsk⟩ : ∃ s', s' = Tm.runFrom s (l.take k) := ⟨_, rfl⟩
      have hsl : sk.length ≤ 1000 := by
        have h1 := (Tm.runFrom_len s (l.take k)).2
        have := HM.out
        rw [← hsk, List.length_take] at h1; omega
      have HNX : Hid (Tm.runFrom s (l.take (k + 1)) = (Tm.put sk (l.getD k Tm.nilT)).2) := Lib.hid (by rw [Tm.runFrom_take s l k hkl, hsk])
      obtain ⟨t, ht⟩ : ∃ t, t = l.getD k Tm.nilT := ⟨_, rfl⟩
      rw [← ht] at c0 c1 c2 c3 hr hf HNX
      obtain ⟨p1, q1, g1, o1, e1, -⟩ := hr.n
      obtain ⟨p2, q2, g2, o2, e2, -⟩ := hr.p
      rw [e1, e2] at hr
      rw [e1] at c4
      rw [e2] at c5
      have KC : Hid (∀ W, Turned (fun k => F k ∨ G k) w W → (W.cell? ⟨g, off + k * 6, none⟩ = some (.int .i64 t.kind) ∧ W.cell? ⟨g, off + k * 6 + 1, none⟩ = some (.int .i64 t.label) ∧ W.cell? ⟨g, off + k * 6 + 2, none⟩ = some (.int .i64 t.a) ∧ W.cell? ⟨g, off + k * 6 + 3, none⟩ = some (.int .i64 t.b) ∧
          W.cell? ⟨g, off + k * 6 + 4, none⟩ = some (.slice p1 t.names.length q1) ∧ W.cell? ⟨g, off + k * 6 + 5, none⟩ = some (.slice p2 t.pairs.length q2)) ∧ TRead W t (.slice p1 t.names.length q1) (.slice p2 t.pairs.length q2) ∧ Tab W ∧ Sts W a1 a2 a3) := Lib.hid (fun W hW => by
        have h1 := (HK.out W hW).terms k hkl
        rw [← ht, e1, e2] at h1
        exact ⟨h1.1, h1.2, (HK.out W hW).tab, (HK.out W hW).sts⟩)
      have hnm : t.names.length ≤ 9223372036854775807 := by have := hf.1; omega
      have hpm : t.pairs.length ≤ 9223372036854775807 := by have := hf.2; omega
      have HFT := Lib.hid hf
      rw [← hsk] at hB
      have HB2 := Lib.hid hB
      obtain ⟨l1, hl1⟩ : ∃ l, l = t.names.length := ⟨_, rfl⟩
      obtain ⟨l2, hl2⟩ : ∃ l, l = t.pairs.length := ⟨_, rfl⟩
      have HL1 := Lib.hid hl1
      have HL2' := Lib.hid hl2
      have HSL := Lib.hid hsl
      have HNM := Lib.hid (⟨hnm, hpm⟩ : t.names.length ≤ 9223372036854775807 ∧ t.pairs.length ≤ 9223372036854775807)
      rw [← hl1] at c4 KC
      rw [← hl2] at c5 KC
      have hfl : l1 * 8 ≤ 140737488351232 ∧ l2 * 16 ≤ 140737488351232 := by rw [hl1, hl2]; exact hf
      clear hB hsk ht hr hf hKR hkl e1 e2 hl1 hl2 hnm hpm hsl
      have hU1 : Up wr (wr.alloc (.cells #[.int .i64 t.kind, .int .i64 t.label, .int .i64 t.a, .int .i64 t.b, .slice p1 l1 q1, .slice p2 l2 q2] 35 (0, 0))) := (Up.refl wr).alloc _
      have hk1 := heap_alloc_new wr (.cells #[.int .i64 t.kind, .int .i64 t.label, .int .i64 t.a, .int .i64 t.b, .slice p1 l1 q1, .slice p2 l2 q2] 35 (0, 0))
      obtain ⟨K, hKe⟩ : ∃ K, K = wr.heap.size := ⟨_, rfl⟩
      go_upto_region 5 with fail
      obtain ⟨w1, hw1⟩ : ∃ x, wr.alloc (.cells #[.int .i64 t.kind, .int .i64 t.label, .int .i64 t.a, .int .i64 t.b, .slice p1 l1 q1, .slice p2 l2 q2] 35 (0, 0)) = x := ⟨_, rfl⟩
      rw [hw1] at hU1 hk1 ⊢
      rw [← hKe] at hk1 ⊢
      have HKE := Lib.hid hKe
      clear c0 c1 c2 c3 c4 c5 hw1 hKe
      have HU1 := Lib.hid hU1
      have HK1 := Lib.hid hk1
      obtain ⟨⟨e0, e1, e2, e3, e4, e5⟩, hr1, -, -⟩ := KC.out w1 (HB2.out.up hU1).t
      have HLENT := Lib.hid (lent_any (u := .slice p1 l1 q1) (xs := t.names) HFT.out.1 hr1.n)
      have hKl1 := lt_of_block' hk1
      clear hU1 hk1 hr1
      go_upto_region 6 with ((go_at_call 23); (with_reducible refine HLENT.out.mono ?_); rintro e w2 ⟨v1, g1, cp1, rfl, hL2, hg1, hU2⟩; (have hk2 := (Below.block hU2 _ hKl1).trans HK1.out); (obtain ⟨m0, m1, m2, m3, m4, m5, mf⟩ := six_cells hk2); (have HL2 := Lib.hid hL2); (obtain ⟨rfl, -, -, -⟩ := hL2); rw [← HL1.out])
      have hk3 := six_set4 hk2 (.slice (some ⟨g1, 0, none⟩) l1 cp1)
      have hKl : K < w2.heap.size := lt_of_block' hk2
      have hKw : wr.heap.size ≤ K := by rw [HKE.out]; exact Nat.le_refl _
      have hU3 : Up wr (w2.setCell ⟨K, 4, none⟩ (.slice (some ⟨g1, 0, none⟩) l1 cp1)) := (HU1.out.trans hU2).setCell hKw _
      have hL3 : LentAt (w2.setCell ⟨K, 4, none⟩ (.slice (some ⟨g1, 0, none⟩) l1 cp1)) t.names (.slice (some ⟨g1, 0, none⟩) t.names.length cp1) g1 cp1 := HL2.out.keep (Below.heap_setCell _ ⟨K, 4, none⟩ _ _ (by show g1 ≠ K; omega))
      have hKw1 : wr.heap.size < w1.heap.size := Nat.lt_of_le_of_lt hKw hKl1
      have hg1l : wr.heap.size ≤ g1 := by omega
      have hg1K : g1 ≠ K := by omega
      obtain ⟨w3, hw3⟩ : ∃ x, w2.setCell ⟨K, 4, none⟩ (.slice (some ⟨g1, 0, none⟩) l1 cp1) = x := ⟨_, rfl⟩
      rw [hw3] at hk3 hU3 hL3 ⊢
      have HK3 := Lib.hid hk3
      have HU3 := Lib.hid hU3
      have HL3 := Lib.hid hL3
      have HG1 := Lib.hid (⟨hg1l, hg1K, hKw⟩ : wr.heap.size ≤ g1 ∧ g1 ≠ K ∧ wr.heap.size ≤ K)
      clear e0 e1 e2 e3 e4 e5 hw3 m0 m1 m2 m3 m4 m5 mf hk2 hU2 hg1 HL2 hKl1 hKw1 hKl hL3 hg1l hg1K hKw HLENT HK1 HU1
      obtain ⟨⟨e0, e1, e2, e3, e4, e5⟩, hr3, -, -⟩ := KC.out w3 (HB2.out.up hU3).t
      obtain ⟨d0, d1, d2, d3, d4, d5, df⟩ := six_cells hk3
      obtain ⟨ae, ce, ge, oe, hve, hae, hxe⟩ := hr3.p
      simp only [Value.slice.injEq] at hve
      obtain ⟨rfl, -, rfl⟩ := hve
      have HN2 : Hid (p2 = none → l2 = 0) := Lib.hid (fun e => by
        rcases Nat.eq_zero_or_pos t.pairs.length with h | h
        · rw [HL2'.out]; exact h
        · have := hae h; rw [e] at this; cases this)
      have HX2 : Hid (∀ ad, p2 = some ad → ∀ j u, (cellsP t.pairs)[j]? = some u → w3.cell? (ad.add j) = some u) := Lib.hid (fun ad e j u hu => by
        have hjl : j < t.pairs.length * 2 := by have := (List.getElem?_eq_some_iff.1 hu).1; rwa [cellsP_length] at this
        have := hae (by omega)
        rw [e] at this; cases this
        exact cellsP_at hxe j u hu)
      have HLP : Hid ((cellsP t.pairs).length = l2 * 2) := Lib.hid (by rw [cellsP_length, HL2'.out])
      clear hk3 hU3 hr3 hae hxe
      go_upto_region 7 with (at_builtin; refine wpList_append_fresh _ rfl _ _ 33 rfl 75 j0 _ 2 16 Tryz.underlying33 hj yz0 yz1 yz2 rfl (by decide) rfl p2 l2 q2 rfl (cellsP t.pairs) HN2.out HLP.out HX2.out (cellsP_oneCell _) (by unfold maxLen; omega) (by omega) ?_; intro v2 w4 hown4 hU4; (obtain ⟨r2, k2, rfl⟩ := owns_shape' hown4); (have hk4 := (Below.block hU4 _ (lt_of_block' HK3.out)).trans HK3.out); (obtain ⟨m0, m1, m2, m3, m4, m5, mf⟩ := six_cells hk4))
      have hk5 := six_set5 hk4 (.slice r2 l2 k2)
      have hU5 : Up wr (w4.setCell ⟨K, 5, none⟩ (.slice r2 l2 k2)) := (HU3.out.trans hU4).setCell HG1.out.2.2 _
      have hL5 : LentAt (w4.setCell ⟨K, 5, none⟩ (.slice r2 l2 k2)) t.names (.slice (some ⟨g1, 0, none⟩) t.names.length cp1) g1 cp1 := (HL3.out.keep (hU4.block _ HL3.out.2.2.2.lt)).keep (Below.heap_setCell _ ⟨K, 5, none⟩ _ _ (by show g1 ≠ K; exact HG1.out.2.1))
      have hP5 : (w4.setCell ⟨K, 5, none⟩ (.slice r2 l2 k2)).ownsRow wr.heap.size 75 2 (.slice r2 l2 k2) l2 (cellsP t.pairs) := owns_base (owns_keep hown4 (fun k hk => Below.heap_setCell w4 ⟨K, 5, none⟩ _ k (by have h1 := (hown4.lt k hk).1; have h2 := lt_of_block' HK3.out; show k ≠ K; omega))) HU3.out.size
      obtain ⟨w5, hw5⟩ : ∃ x, w4.setCell ⟨K, 5, none⟩ (.slice r2 l2 k2) = x := ⟨_, rfl⟩
      rw [hw5] at hk5 hU5 hL5 hP5 ⊢
      have hT5 := HB2.out.up hU5
      have hTR5 : TRead w5 t (.slice (some ⟨g1, 0, none⟩) l1 cp1) (.slice r2 l2 k2) := ⟨by have := hL5.lst; rwa [← HL1.out] at this, owns_lsp hP5⟩
      obtain ⟨-, -, hTab5, hSts5⟩ := KC.out w5 hT5.t
      have HPUT := Lib.hid (put_both hT5.st hTR5 HSL.out HNM.out.1 HNM.out.2 hTab5 hSts5)
      have HK5 := Lib.hid hk5
      have HL5 := Lib.hid hL5
      have HP5 := Lib.hid hP5
      have HW5 : Hid (wr.heap.size ≤ w5.heap.size) := Lib.hid hU5.size
      have HT5 := Lib.hid hT5
      clear e0 e1 e2 e3 e4 e5 d0 d1 d2 d3 d4 d5 df m0 m1 m2 m3 m4 m5 mf hk4 hU4 hown4 hw5 hL5 hP5 hT5 hTR5 hTab5 hSts5 hU5 HK3 HU3 HL3 HN2 HX2 HLP hj yz0 yz1 yz2
      obtain ⟨d0, d1, d2, d3, d4, d5, df⟩ := six_cells hk5
      clear hk5
      go_wp2_with fail
      (with_reducible refine HPUT.out.mono ?_)
      rintro e w6 ⟨kv, ev, rfl, hst6, ht6, hor⟩
      have hT6 := HT5.out.put1 hst6 ht6
      obtain ⟨⟨e0, e1, e2, e3, e4, e5⟩, hr6, -, -⟩ := KC.out w6 hT6.t
      obtain ⟨wv, hwv, href⟩ := refput_want hT6.rs hr6 HSL.out HNM.out.1 HNM.out.2
      have HREF := Lib.hid href
      have HST6 := Lib.hid hst6
      have HT6 := Lib.hid ht6
      have HOR := Lib.hid hor
      have HWV := Lib.hid hwv
      clear d0 d1 d2 d3 d4 d5 df HPUT hst6 ht6 hor hT6 hr6 hwv href
      go_wp2_with fail
      (with_reducible refine HREF.out.mono ?_)
      rintro e w7 ⟨rfl, hrs7, ht7⟩
      have HMID := Lib.hid (put_mid (s := sk) HT5.out (fun k hk => HB2.out.lt k hk) HST6.out HT6.out hrs7 ht7 HK5.out HG1.out.2.2 (by have := HL5.out; rw [HL1.out]; exact this) HG1.out.1 (by have := HP5.out; rw [HL2'.out] at this ⊢; exact this))
      have hfk : ∀ pb, w5.heap.size ≤ pb → FaultT w6 pb 214 (.pointer (some a1)) → FaultT w7 pb 214 (.pointer (some a1)) := fun pb hp hf => (ht7.block pb (lt_of_block' hf) (fun e => by have := HB2.out.lt pb (.inr e); have := HW5.out; omega)).trans hf
      have HFK := Lib.hid hfk
      clear hrs7 ht7 hfk e0 e1 e2 e3 e4 e5 HREF HST6 HT6
      go_upto_if 51 with fail
      go_cut [] (PutMid F G w B R (Tm.put sk t).2 t K g1 cp1 wr.heap.size w5.heap.size (.slice (some ⟨g1, 0, none⟩) l1 cp1) (.slice r2 l2 k2))
      case first =>
        rcases HOR.out with ⟨k', hk', rfl, rfl⟩ | ⟨hno, rfl, pb, rfl, hf6, hpb⟩
        · rcases HWV.out with ⟨k3, hk3, rfl⟩ | ⟨hno, rfl⟩
          · rw [hk'] at hk3
            obtain rfl := Option.some.inj hk3
            have hk0 : ¬ ((k' : Int) < 0) := by omega
            have qn : ((k' : Int) != (k' : Int)) = false := by simp
            go_wp2_with fail
            go_meet
            exact HMID.out
          · rw [hno] at hk'; cases hk'
        · rcases HWV.out with ⟨k3, hk3, rfl⟩ | ⟨-, rfl⟩
          · rw [hno] at hk3; cases hk3
          · have HTOLD : Hid (Calls Tryz.prog 12 #[.iface 120 (.pointer (some ⟨pb, 0, none⟩)), .int .i64 1] w7 (Done w7)) := by
              obtain ⟨_, _, hT7, -⟩ := HMID.out
              exact Lib.hid (told_arg (HFK.out pb hpb hf6) (KC.out w7 hT7.t).2.2.2)
            go_wp2_with (go_at_call 12; (with_reducible refine HTOLD.out.mono ?_); rintro e w8 ⟨rfl, hU8⟩)
            go_meet
            exact HMID.out.up hU8
      case rest =>
      obtain ⟨w9, rfl⟩ : ∃ x, x = wc := ⟨_, rfl⟩
      obtain ⟨n0, hn0⟩ : ∃ x, x = wr.heap.size := ⟨_, rfl⟩
      obtain ⟨n1, hn1'⟩ : ∃ x, x = w5.heap.size := ⟨_, rfl⟩
      have HKN : Hid (n0 ≤ K ∧ K < n1 ∧ n0 ≤ g1 ∧ g1 < n1 ∧ g1 ≠ K ∧ w.heap.size ≤ n0) := Lib.hid ⟨by rw [hn0]; exact HG1.out.2.2, by rw [hn1']; exact lt_of_block' HK5.out, by rw [hn0]; exact HG1.out.1, by rw [hn1']; exact HL5.out.2.2.2.lt, HG1.out.2.1, by rw [hn0]; exact HB2.out.t.size⟩
      rw [← hn0, ← hn1'] at hcut
      have HPL : Hid (∀ k, (Value.slice r2 l2 k2).ownBlock = some k → k < n1) := Lib.hid (fun k hk => by rw [hn1']; exact owns_lt HP5.out hk)
      have HCUT := Lib.hid hcut
      clear hn0 hn1' HMID HFK HOR HWV HT5 HK5 HL5 HP5 hcut
      have KC9 : Hid (∀ W, Up w9 W → W.cell? ⟨K, 4, none⟩ = some (.slice (some ⟨g1, 0, none⟩) l1 cp1) ∧ W.cell? ⟨g, off + k * 6 + 4, none⟩ = some (.slice p1 l1 q1)) := Lib.hid (fun W hW => by
        obtain ⟨F2, G2, hT, -, hk, -⟩ := HCUT.out.up hW
        obtain ⟨-, -, -, -, d4, -⟩ := six_cells hk
        obtain ⟨⟨-, -, -, -, e4, -⟩, -⟩ := KC.out W hT.t
        exact ⟨d4, e4⟩)
      have KST : Hid (∀ W, Up w9 W → Calls Tryz.prog 24 #[.slice (some ⟨g1, 0, none⟩) l1 cp1, .slice p1 l1 q1] W (Same W true)) := Lib.hid (fun W hW => by
        obtain ⟨F2, G2, hT, -, hk, hL, -⟩ := HCUT.out.up hW
        exact stays_any (xs := t.names) (by have := HFT.out.1; omega) hL (KC.out W hT.t).2.1.n)
      go_wp2_with fail
      refine wp_region_quiet_in (fun w' => Up w9 w') (by kernel_rfl) (by kernel_rfl) (Up.drew (Up.refl _)) ?_
      iterate 9
        refine WQ.step (fun K' hK => ?_)
        go_simp
        apply Exists.intro
        refine ⟨?_, hK _ ?_⟩
        (intro w' hw'
         first
           | rfl
           | ((go_at_call 24); (with_reducible refine (KST.out _ hw').mono ?_); rintro e w3 ⟨rfl, q, rfl⟩; exact ⟨rfl, Up.drewN hw' q⟩)
           | (obtain ⟨z4, y4⟩ := KC9.out w' hw'
              go_simp; first | done | rfl | exact ⟨rfl, rfl⟩))
        clear hK K'
      refine WQ.nil ?_
      intro w10 hU10
      obtain ⟨F2, G2, hT, hno, hk10, hL, hP⟩ := HCUT.out.up hU10
      obtain ⟨d0, d1, d2, d3, d4, d5, df⟩ := six_cells hk10
      have HT10 := Lib.hid hT
      have HNO := Lib.hid hno
      have HK10 := Lib.hid hk10
      have HP10 := Lib.hid hP
      have HG1K : Hid (g1 ≠ K) := Lib.hid HKN.out.2.2.2.2.1
      have HRF : Hid (∀ j, w10.frozen? ⟨g1, j, none⟩ = false) := Lib.hid (fun j => hL.2.2.2.free j)
      have HR10 : Hid ((Value.slice r2 l2 k2).ownBlock ≠ some g1) := Lib.hid (owns_row_ne hP hL.2.2.2 (by decide))
      have HO := Lib.hid (Over.start (n := l1) hL.2.2.2 (by rw [List.length_append, vals_length, ← HL1.out]; omega))
      clear hT hno hk10 hL hP hU10 KST KC9
      go_wp2_with fail
      go_loopw [12] (fun i wi => ∃ j : Nat, j ≤ l1 ∧ i = .int .i64 j ∧ Over w10 g1 l1 wi) (fun i _ => l1 - (intOf i).toNat)
      case atStart => exact ⟨0, Nat.zero_le _, rfl, HO.out⟩
      case round =>
        clear HO d0 d1 d2 d3 d4 d5 df
        obtain ⟨j, hjl, rfl, hO1⟩ := hrel
        have hk11 := (hO1.t.block K (lt_of_block' HK10.out) (fun e => HG1K.out e.symm)).trans HK10.out
        obtain ⟨d0, d1, d2, d3, d4, d5, df⟩ := six_cells hk11
        by_cases hjn : j < l1
        · obtain ⟨x, hx⟩ := hO1.c j hjn
          have hfx := hO1.f j
          have HO1 := Lib.hid hO1
          clear hO1 hk11
          go_wp2_with fail
          go_roundw
          case rel => exact ⟨j + 1, by omega, by go_num, HO1.out.set j _⟩
          case measure => simp [intOf]; omega
        · have hjl : j = l1 := by omega
          have hP11 := owns_keep HP10.out (fun k hk => hO1.t.block k (owns_lt HP10.out hk) (fun e => HR10.out (by rw [← e]; exact hk)))
          rw [← HL2'.out] at hP11
          obtain ⟨ao2, g2, cap2, hv2, ha2, hO2, hg20, hg21, hne2⟩ := over_pairs HL2'.out hP11 HPL.out HKN.out.2.2.1 HKN.out.2.2.2.1 (fun j => hO1.f j)
          simp only [Value.slice.injEq] at hv2
          obtain ⟨rfl, -, rfl⟩ := hv2
          have hKg2 : K ≠ g2 := hne2 K _ _ hk11 (by decide) (fun e => HG1K.out e.symm)
          have HT11 := Lib.hid (HT10.out.other hO1.t (fun k hk => by subst hk; exact ⟨Nat.le_trans HKN.out.2.2.2.2.2 HKN.out.2.2.1, HNO.out _ HKN.out.2.2.1 HKN.out.2.2.2.1⟩))
          have HO2 := Lib.hid hO2
          have HA2 := Lib.hid ha2
          have HG2 := Lib.hid (⟨hg20, hg21⟩ : n0 ≤ g2 ∧ g2 < n1)
          have HK11 := Lib.hid hk11
          have HKG2 := Lib.hid hKg2
          have hnj : ¬ ((j : Int) < (l1 : Int)) := by omega
          clear hP11 hne2 hO1 hO2 ha2 hg20 hg21 hk11 hKg2 hjn
          obtain ⟨w11, rfl⟩ : ∃ x, x = wr := ⟨_, rfl⟩
          go_wp2_with fail
          go_loopw [13] (fun i wi => ∃ j : Nat, j ≤ l2 ∧ i = .int .i64 j ∧ Over w11 g2 (l2 * 2) wi) (fun i _ => l2 - (intOf i).toNat)
          case atStart => exact ⟨0, Nat.zero_le _, rfl, HO2.out⟩
          case round =>
            clear HO2 d0 d1 d2 d3 d4 d5 df
            obtain ⟨i2, hi2, rfl, hO3⟩ := hrel
            have hk12 := (hO3.t.block K (lt_of_block' HK11.out) HKG2.out).trans HK11.out
            obtain ⟨d0, d1, d2, d3, d4, d5, df⟩ := six_cells hk12
            by_cases hin : i2 < l2
            · obtain rfl := HA2.out (by omega)
              obtain ⟨x, hx⟩ := hO3.c (i2 * 2 + 1) (by omega)
              have hfx := hO3.f (i2 * 2 + 1)
              have HO3 := Lib.hid hO3
              clear hO3 hk12
              go_wp2_with fail
              go_roundw
              case rel => exact ⟨i2 + 1, by omega, by go_num, HO3.out.set _ _⟩
              case measure => simp [intOf]; omega
            · have hni : ¬ ((i2 : Int) < (l2 : Int)) := by omega
              have HT12 := Lib.hid (HT11.out.other hO3.t (fun k hk => by subst hk; exact ⟨Nat.le_trans HKN.out.2.2.2.2.2 HG2.out.1, HNO.out _ HG2.out.1 HG2.out.2⟩))
              clear hO3 hk12 hin
              go_wp2_with fail
              go_roundw
              case rel => exact ⟨k + 1, by omega, by go_num, F2, G2, by rw [HNX.out]; exact HT12.out⟩
              case measure => simp [intOf]; omega
    · obtain rfl : k = n := by omega
      obtain ⟨z, hz⟩ : ∃ z, z = (Tm.runFrom s (l.take k)).length := ⟨_, rfl⟩
      obtain ⟨ar, cr, r0, -, -⟩ := hB.rs.at
      rw [← hz] at r0
      have HEND : Hid (∀ W, Up wr W → PutAllDone F G w B R (Tm.runFrom s l) (.returned (.bool true)) W) := Lib.hid (fun W hW => ⟨rfl, F', G', by
        have := HB.out.up hW
        rw [HN.out, List.take_length] at this
        exact this⟩)
      have KR : Hid (∀ W, Up wr W → W.cell? ⟨R, 0, none⟩ = some (.slice ar z cr)) := Lib.hid (fun W hW => hW.cell r0)
      have KZ : Hid (∀ W, Up wr W → Calls Tryz.prog 21 #[.pointer (some ⟨B, 0, none⟩)] W fun e w' => e = .returned (.int .i64 z) ∧ W = w') := Lib.hid (fun W hW => by rw [hz]; exact size_st (hB.st.up hW))
      have qz : ((z : Int) == (z : Int)) = true := by simp
      clear hB hz r0
      go_wp2_with fail
      refine wp_region_quiet_in (fun w' => Up wr w') (by kernel_rfl) (by kernel_rfl) (Up.drew (Up.refl _)) ?_
      iterate 9
        refine WQ.step (fun K' hK => ?_)
        go_simp
        apply Exists.intro
        refine ⟨?_, hK _ ?_⟩
        (intro w' hw'
         first
           | rfl
           | ((go_at_call 21); (with_reducible refine (KZ.out _ hw').mono ?_); rintro e w3 ⟨rfl, rfl⟩; exact ⟨rfl, hw'⟩)
           | (have r0 := KR.out w' hw'
              go_simp; first | done | rfl | exact ⟨rfl, rfl⟩))
        clear hK K'
      refine WQ.nil ?_
      intro w10 hU10
      have HU10 := Lib.hid hU10
      clear hU10
      go_wp2_with fail
      go_ret
      exact HEND.out _ HU10.out

end Go.Proofs.YtiiieailimphnaaGreatDoor
