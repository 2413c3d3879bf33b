/- Walk: Same's errors. Walk: the statement TermSames. -/
import Derived.Test.YtiiieailimphnaaDoorTmSameW
import Derived.Test.YtiiieailimphnaaDoorTmPutAll
import Derived.Test.YtiiieailimphnaaDoorTmR11

namespace Go.Proofs.YtiiieailimphnaaDoor
open Go.RowKit Go.Maps
set_option linter.unusedVariables false
set_option linter.unusedSimpArgs false

theorem asked_nil {w : World} {xt : TypeId} {xv : Value} (i : Int) (hg : w.cell? ⟨0, 0, none⟩ = some (.iface xt xv)) :
    Calls Tryd.prog 23 #[.pointer none, .int .i64 i] w (BadOne xt xv w) := by
  go_enter Tryd.func23, Tryd.ntmps23
  go_wp2_with (go_at_call 20; (with_reducible refine (faultNewT xt xv _).mono ?_); rintro e w2 ⟨pb, rfl, hf, hpb, hb2⟩)
  go_ret
  exact ⟨pb, rfl, hf, hpb, hb2⟩

/-- What Same leaves that tells an error. -/
def SameBad (xt : TypeId) (xv : Value) (w : World) (r : Ending) (w' : World) : Prop :=
  ∃ pb, r = .returned (.tuple #[.bool false, .iface 83 (.pointer (some ⟨pb, 0, none⟩))]) ∧ FaultT w' pb xt xv ∧ Up w w'

set_option maxHeartbeats 1000000 in
theorem same_bad1 {F : Nat → Prop} {w : World} {S : Nat} {s : List Tm.T} {op : Value} {a b : Int} {xt : TypeId} {xv : Value} (hop : ∃ p, op = .pointer p) (hs : St F w S s) (ha : ¬ (0 ≤ a ∧ a < s.length)) (hg : w.cell? ⟨2, 0, none⟩ = some (.iface xt xv)) :
    Calls Tryd.prog 11 #[.pointer (some ⟨S, 0, none⟩), .int .i64 a, op, .int .i64 b] w (SameBad xt xv w) := by
  have HA : Hid (∀ W, Up w W → Calls Tryd.prog 23 #[.pointer (some ⟨S, 0, none⟩), .int .i64 a] W (BadOne xt xv W)) := fun W hW => asked_out (hs.up hW) a ha (hW.cell hg)
  have HU2 := Lib.hid (fun (A B : Obj) => (((Up.refl w).alloc A).alloc B))
  obtain ⟨p, rfl⟩ := hop
  clear hs ha hg
  go_enter Tryd.func11, Tryd.ntmps11
  go_wp2_with fail
  (with_reducible refine (HA.out _ (HU2.out _ _)).mono ?_)
  rintro e w1 ⟨pb, rfl, hf, -, hu⟩
  go_wp2_with fail
  go_ret2
  exact ⟨pb, rfl, hf, (HU2.out _ _).trans hu⟩

set_option maxHeartbeats 1000000 in
theorem same_bad2 {F : Nat → Prop} {w : World} {S : Nat} {s : List Tm.T} {p : Option Addr} {a b : Int} {xt : TypeId} {xv : Value} (hs : St F w S s) (ha : 0 ≤ a ∧ a < s.length)
    (hb : ∀ W, Up w W → Calls Tryd.prog 23 #[.pointer p, .int .i64 b] W (BadOne xt xv W)) :
    Calls Tryd.prog 11 #[.pointer (some ⟨S, 0, none⟩), .int .i64 a, .pointer p, .int .i64 b] w (SameBad xt xv w) := by
  have HA : Hid (∀ W, Up w W → Calls Tryd.prog 23 #[.pointer (some ⟨S, 0, none⟩), .int .i64 a] W fun e w' => e = .returned .nilIface ∧ W = w') := fun W hW => asked_in (hs.up hW) a ha
  have HB := Lib.hid hb
  have HU2 := Lib.hid (fun (A B : Obj) => (((Up.refl w).alloc A).alloc B))
  clear hs ha hb
  go_enter Tryd.func11, Tryd.ntmps11
  go_wp2_with fail
  (with_reducible refine (HA.out _ (HU2.out _ _)).mono ?_)
  rintro e w1 ⟨rfl, rfl⟩
  go_wp2_with fail
  (with_reducible refine (HB.out _ (HU2.out _ _)).mono ?_)
  rintro e w1 ⟨pb, rfl, hf, -, hu⟩
  go_wp2_with fail
  go_ret2
  exact ⟨pb, rfl, hf, (HU2.out _ _).trans hu⟩

end Go.Proofs.YtiiieailimphnaaDoor

namespace Go.Proofs.YtiiieailimphnaaDoor
open Go.RowKit Go.Maps
set_option linter.unusedVariables false
set_option linter.unusedSimpArgs false

set_option maxHeartbeats 1000000 in
set_option maxRecDepth 100000 in
theorem sames_many1 (n0 cap0 n1 cap1 : Nat) (ao0 ao1 : Option Addr) (id other : Int) (w : World) (hT : Tab w) (h : 100 < n0) (hm : n0 ≤ 9223372036854775807) :
    Calls Tryd.prog 5 #[.slice ao0 n0 cap0, .slice ao1 n1 cap1, .int .i64 id, .int .i64 other] w (Done w) := by
  have h2 : (100 : Int) < (n0 : Int) := by omega
  have HA := Lib.hid (alive_true w hT)
  clear hT h
  go_enter Tryd.func5, Tryd.ntmps5
  go_wp2_with (go_at_call 6; (with_reducible refine HA.out.mono ?_); rintro e w' ⟨rfl, hU⟩)
  go_ret
  exact ⟨rfl, hU⟩

set_option maxHeartbeats 1000000 in
set_option maxRecDepth 100000 in
theorem sames_many2 (n0 cap0 n1 cap1 : Nat) (ao0 ao1 : Option Addr) (id other : Int) (w : World) (hT : Tab w) (h0 : n0 ≤ 100) (h : 100 < n1) (hm : n1 ≤ 9223372036854775807) :
    Calls Tryd.prog 5 #[.slice ao0 n0 cap0, .slice ao1 n1 cap1, .int .i64 id, .int .i64 other] w (Done w) := by
  have h2 : (100 : Int) < (n1 : Int) := by omega
  have h3 : ¬ (100 : Int) < (n0 : Int) := by omega
  have HA := Lib.hid (alive_true w hT)
  clear hT h
  go_enter Tryd.func5, Tryd.ntmps5
  go_wp2_with (go_at_call 6; (with_reducible refine HA.out.mono ?_); rintro e w' ⟨rfl, hU⟩)
  go_ret
  exact ⟨rfl, hU⟩

/-- The four stores. -/
structure FourAt (w wr : World) (B1 R1 B2 R2 : Nat) (s o : List Tm.T) (F1 G1 F2 G2 : Nat → Prop) : Prop where
  s1 : St F1 wr B1 s
  r1 : Rs G1 wr R1 s
  s2 : St F2 wr B2 o
  r2 : Rs G2 wr R2 o
  up : Up w wr

theorem FourAt.upw {w wr w2 : World} {B1 R1 B2 R2 : Nat} {s o : List Tm.T} {F1 G1 F2 G2 : Nat → Prop} (h : FourAt w wr B1 R1 B2 R2 s o F1 G1 F2 G2) (hu : Up wr w2) : FourAt w w2 B1 R1 B2 R2 s o F1 G1 F2 G2 :=
  ⟨h.s1.up hu, h.r1.up hu, h.s2.up hu, h.r2.up hu, h.up.trans hu⟩

set_option maxHeartbeats 8000000 in
set_option maxRecDepth 100000 in
theorem sames_main {g0 off0 cap0 g1 off1 cap1 : Nat} {ao0 ao1 : Option Addr} {l0 l1 : List Tm.T} {a1 a2 a3 : Addr} {w : World} (id other : Int) (hT : Tab w) (hS : Sts w a1 a2 a3)
    (ha0 : 0 < l0.length → ao0 = some ⟨g0, off0, none⟩) (hA0 : TermsAt w g0 off0 l0) (hF0 : ∀ i, i < l0.length → TermFit (l0.getD i Tm.nilT)) (hm0 : l0.length ≤ 100)
    (ha1 : 0 < l1.length → ao1 = some ⟨g1, off1, none⟩) (hA1 : TermsAt w g1 off1 l1) (hF1 : ∀ i, i < l1.length → TermFit (l1.getD i Tm.nilT)) (hm1 : l1.length ≤ 100) :
    Calls Tryd.prog 5 #[.slice ao0 l0.length cap0, .slice ao1 l1.length cap1, .int .i64 id, .int .i64 other] w (Done w) := by
  obtain ⟨vs0, hV0⟩ := TermsIn.of hA0
  obtain ⟨vs1, hV1⟩ := TermsIn.of hA1
  have HK0 : Hid (∀ W, Up w W → Kept W g0 off0 l0 vs0 a1 a2 a3) := Lib.hid (fun W hW => Kept.up ⟨hV0, hT, hS⟩ hW)
  have HK1 : Hid (∀ W, Up w W → Kept W g1 off1 l1 vs1 a1 a2 a3) := Lib.hid (fun W hW => Kept.up ⟨hV1, hT, hS⟩ hW)
  have HNEW : Hid (∀ W, Up w W → Calls Tryd.prog 7 #[] W (NewStore W)) := Lib.hid (fun W hW => new_any W (hT.up hW))
  have HREF : Hid (∀ W, Calls Tryd.prog 14 #[] W (NewRef W)) := Lib.hid (fun W => refnew_any W)
  have HAL : Hid (∀ W, Up w W → Calls Tryd.prog 6 #[] W (Done W)) := Lib.hid (fun W hW => alive_true W (hT.up hW))
  have HI0 := Lib.hid (⟨ha0, hF0, hm0⟩ : (0 < l0.length → ao0 = some ⟨g0, off0, none⟩) ∧ (∀ i, i < l0.length → TermFit (l0.getD i Tm.nilT)) ∧ l0.length ≤ 100)
  have HI1 := Lib.hid (⟨ha1, hF1, hm1⟩ : (0 < l1.length → ao1 = some ⟨g1, off1, none⟩) ∧ (∀ i, i < l1.length → TermFit (l1.getD i Tm.nilT)) ∧ l1.length ≤ 100)
  obtain ⟨m0, hn0⟩ : ∃ n, n = l0.length := ⟨_, rfl⟩
  obtain ⟨m1, hn1⟩ : ∃ n, n = l1.length := ⟨_, rfl⟩
  have q0 : ¬ (100 : Int) < (m0 : Int) := by omega
  have q1 : ¬ (100 : Int) < (m1 : Int) := by omega
  rw [← hn0, ← hn1]
  have HN0 := Lib.hid hn0
  have HN1 := Lib.hid hn1
  clear hT hS ha0 hA0 hF0 hm0 ha1 hA1 hF1 hm1 hV0 hV1 hn0 hn1
  go_enter Tryd.func5, Tryd.ntmps5
  go_wp2_with fail
  (with_reducible refine (HNEW.out _ (Up.refl w)).mono ?_)
  rintro e w1 ⟨B1, rfl, hS1, hU1⟩
  go_wp2_with fail
  (with_reducible refine (HREF.out _).mono ?_)
  rintro e w2 ⟨R1, rfl, hR1, hU2⟩
  have hV2 := hU1.trans hU2
  go_wp2_with fail
  (with_reducible refine (HNEW.out _ hV2).mono ?_)
  rintro e w3 ⟨B2, rfl, hS2, hU3⟩
  go_wp2_with fail
  (with_reducible refine (HREF.out _).mono ?_)
  rintro e w4 ⟨R2, rfl, hR2, hU4⟩
  have hV4 := hV2.trans (hU3.trans hU4)
  obtain ⟨i0, hi0⟩ : ∃ i, i = w.heap.size := ⟨_, rfl⟩
  obtain ⟨i1, hi1⟩ : ∃ i, i = w1.heap.size := ⟨_, rfl⟩
  obtain ⟨i2, hi2⟩ : ∃ i, i = w2.heap.size := ⟨_, rfl⟩
  obtain ⟨i3, hi3⟩ : ∃ i, i = w3.heap.size := ⟨_, rfl⟩
  obtain ⟨i4, hi4⟩ : ∃ i, i = w4.heap.size := ⟨_, rfl⟩
  have HII : Hid (i0 = w.heap.size ∧ i0 ≤ i1 ∧ i1 ≤ i2 ∧ i2 ≤ i3 ∧ i3 ≤ i4 ∧ i4 = w4.heap.size) := Lib.hid ⟨hi0, by rw [hi0, hi1]; exact hU1.size, by rw [hi1, hi2]; exact hU2.size, by rw [hi2, hi3]; exact hU3.size, by rw [hi3, hi4]; exact hU4.size, hi4⟩
  have HS1 : Hid (St (fun k => i0 ≤ k ∧ k < i1) w4 B1 [Tm.nilT]) := Lib.hid (by rw [hi0, hi1]; exact (hS1.bound).up (hU2.trans (hU3.trans hU4)))
  have HR1 : Hid (Rs (fun k => i1 ≤ k ∧ k < i2) w4 R1 [Tm.nilT]) := Lib.hid (by rw [hi1, hi2]; exact (hR1.bound).up (hU3.trans hU4))
  have HS2 : Hid (St (fun k => i2 ≤ k ∧ k < i3) w4 B2 [Tm.nilT]) := Lib.hid (by rw [hi2, hi3]; exact (hS2.bound).up hU4)
  have HR2 : Hid (Rs (fun k => i3 ≤ k ∧ k < i4) w4 R2 [Tm.nilT]) := Lib.hid (by rw [hi3, hi4]; exact hR2.bound)
  have HV4 := Lib.hid hV4
  clear hS1 hU1 hR1 hU2 hS2 hU3 hR2 hU4 hV2 hV4 hi0 hi1 hi2 hi3 hi4 HNEW HREF
  go_wp2_with fail
  (with_reducible refine (HAL.out _ HV4.out).mono ?_)
  rintro e w5 ⟨rfl, hU5⟩
  have HI5 : Hid (i4 ≤ w5.heap.size) := Lib.hid (by have := hU5.size; have := HII.out; omega)
  have HV5 := Lib.hid (HV4.out.trans hU5)
  have HP1 := Lib.hid (put_all (s := [Tm.nilT]) (cap := cap0) (HS1.out.up hU5) (HR1.out.up hU5) (fun k a b => by omega) (fun k h => by have := HII.out; have := HI5.out; omega) (fun W hW => HK0.out W (upTurn HV5.out hW (fun k hk => by have := HII.out; omega))) HI0.out.1 HI0.out.2.1 (by have := HI0.out.2.2; show 1 + l0.length ≤ 1000; omega))
  rw [← HN0.out] at HP1
  have HS5 := Lib.hid (HS2.out.up hU5)
  have HR5 := Lib.hid (HR2.out.up hU5)
  clear hU5
  go_wp2_with fail
  (with_reducible refine HP1.out.mono ?_)
  rintro e w6 ⟨rfl, F1, G1, hT1⟩
  have HV6 := Lib.hid (upTurn HV5.out hT1.t (fun k hk => by have := HII.out; omega))
  have HI6 : Hid (i4 ≤ w6.heap.size) := Lib.hid (by have := hT1.t.size; have := HI5.out; omega)
  have HP2 := Lib.hid (put_all (s := [Tm.nilT]) (cap := cap1) (HS5.out.turned hT1.t (fun k _ a b => by have := HII.out; omega)) (HR5.out.turned hT1.t (fun k _ a b => by have := HII.out; omega)) (fun k a b => by omega) (fun k h => by have := HII.out; have := HI6.out; omega) (fun W hW => HK1.out W (upTurn HV6.out hW (fun k hk => by have := HII.out; omega))) HI1.out.1 HI1.out.2.1 (by have := HI1.out.2.2; show 1 + l1.length ≤ 1000; omega))
  rw [← HN1.out] at HP2
  have HT1 := Lib.hid hT1
  clear hT1 HP1
  go_wp2_with fail
  (with_reducible refine HP2.out.mono ?_)
  rintro e w7 ⟨rfl, F2, G2, hT2⟩
  have H4 : Hid (FourAt w w7 B1 R1 B2 R2 (Tm.runFrom [Tm.nilT] l0) (Tm.runFrom [Tm.nilT] l1) F1 G1 F2 G2) := Lib.hid
    ⟨HT1.out.st.turned hT2.t (fun k _ a b => by have h1 := HT1.out.f k a; have := HII.out; have := HI5.out; omega), HT1.out.rs.turned hT2.t (fun k _ a b => by have h1 := HT1.out.g k a; have := HII.out; have := HI5.out; omega), hT2.st, hT2.rs, upTurn HV6.out hT2.t (fun k hk => by have := HII.out; omega)⟩
  have hls := (Tm.runFrom_len [Tm.nilT] l0)
  have hlo := (Tm.runFrom_len [Tm.nilT] l1)
  obtain ⟨s, hs⟩ : ∃ s, s = Tm.runFrom [Tm.nilT] l0 := ⟨_, rfl⟩
  obtain ⟨o, ho⟩ : ∃ s, s = Tm.runFrom [Tm.nilT] l1 := ⟨_, rfl⟩
  rw [← hs, ← ho] at H4
  rw [← hs] at hls
  rw [← ho] at hlo
  have hsl : s.length ≤ 1000 := by have := HI0.out.2.2; have := hls.2; simp only [List.length_singleton] at this; omega
  have hol : o.length ≤ 1000 := by have := HI1.out.2.2; have := hlo.2; simp only [List.length_singleton] at this; omega
  have HSL := Lib.hid (⟨hsl, hol⟩ : s.length ≤ 1000 ∧ o.length ≤ 1000)
  obtain ⟨ar1, cr1, x1, -, -⟩ := H4.out.r1.at
  obtain ⟨ar2, cr2, x2, -, -⟩ := H4.out.r2.at
  have HC7 : Hid (∀ W, Up w7 W → W.cell? ⟨R1, 0, none⟩ = some (.slice ar1 s.length cr1) ∧ W.cell? ⟨R2, 0, none⟩ = some (.slice ar2 o.length cr2) ∧ Sts W a1 a2 a3) := Lib.hid (fun W hW => ⟨hW.cell x1, hW.cell x2, (HK0.out W (H4.out.up.trans hW)).sts⟩)
  clear hls hlo hs ho hsl hol x1 x2 hT2 HP2 HT1 HV6 HV5 HV4 HI6 HI5 HII HS1 HR1 HS2 HR2 HS5 HR5 HAL HK0 HK1 HI0 HI1 HN0 HN1 q0 q1
  by_cases hid : 0 ≤ id ∧ id < (s.length : Int)
  · obtain ⟨a, rfl⟩ : ∃ a : Nat, id = (a : Int) := ⟨id.toNat, by omega⟩
    have hal : a < s.length := by omega
    obtain ⟨z1, hz1⟩ : ∃ z, z = s.length := ⟨_, rfl⟩
    obtain ⟨z2, hz2⟩ : ∃ z, z = o.length := ⟨_, rfl⟩
    by_cases hot : 0 ≤ other ∧ other < (o.length : Int)
    · obtain ⟨b, rfl⟩ : ∃ b : Nat, other = (b : Int) := ⟨other.toNat, by omega⟩
      have hbl : b < o.length := by omega
      have HSAME := Lib.hid (same_in H4.out.s1 H4.out.s2 hal hbl HSL.out.1 HSL.out.2)
      have HBAD : Hid (∀ W, Up w7 W → Calls Tryd.prog 11 #[.pointer (some ⟨B1, 0, none⟩), .int .i64 (a : Nat), .pointer none, .int .i64 (b : Nat)] W (SameBad 129 (.pointer (some a1)) W)) := Lib.hid (fun W hW =>
        same_bad2 (H4.out.upw hW).s1 ⟨by omega, by omega⟩ (fun W2 hW2 => asked_nil _ (HC7.out W2 (hW.trans hW2)).2.2.s1.var))
      have HREFS : Hid (∀ W, Up w7 W → Calls Tryd.prog 17 #[.pointer (some ⟨R1, 0, none⟩), .int .i64 (a : Nat), .pointer (some ⟨R2, 0, none⟩), .int .i64 (b : Nat)] W (RefSameDone s o a (b : Nat) W)) := Lib.hid (fun W hW => refsameof_any (H4.out.upw hW).r1 (H4.out.upw hW).r2 hal HSL.out.1 HSL.out.2)
      have hnum := Tm.same_num H4.out.s1.inv H4.out.s2.inv hal hbl
      obtain ⟨x, hx⟩ : ∃ x, x = (Tm.asL s o (a + 1)).getD a (-1) := ⟨_, rfl⟩
      obtain ⟨al, hale⟩ : ∃ x, x = Tm.alike s o a b := ⟨_, rfl⟩
      unfold RefSameDone at HREFS
      rw [← hx] at hnum HREFS
      rw [← hale] at hnum HSAME
      have qal : (al == (x == (b : Int))) = true := by
        rw [← hnum, beq_iff_eq, Bool.eq_iff_iff, decide_eq_true_iff, beq_iff_eq]
      have r1 : (a : Int) < (z1 : Int) := by omega
      have r2 : (b : Int) < (z2 : Int) := by omega
      have r3 : ¬ ((z1 : Int) ≤ (a : Int)) := by omega
      have r4 : ¬ ((z2 : Int) ≤ (b : Int)) := by omega
      have r5 : ¬ ((a : Int) < 0) := by omega
      have r6 : ¬ ((b : Int) < 0) := by omega
      rw [← hz1, ← hz2] at HC7
      clear hid hot hal hbl hz1 hz2 hx hale hnum
      go_wp2_with fail
      (with_reducible refine HSAME.out.mono ?_)
      rintro e w8 ⟨rfl, hU8⟩
      obtain ⟨x1, x2, -⟩ := HC7.out w8 hU8
      have HU8 := Lib.hid hU8
      clear hU8
      go_wp2_with fail
      (with_reducible refine (HBAD.out _ HU8.out).mono ?_)
      rintro e w9 ⟨pb, rfl, hf9, hU9⟩
      have HU9 := Lib.hid (HU8.out.trans hU9)
      have HF9 := Lib.hid hf9
      clear hU9 hf9 x1 x2
      go_wp2_with fail
      (with_reducible refine (HREFS.out _ HU9.out).mono ?_)
      rintro e w10 ⟨rfl, hU10⟩
      have HU10 := Lib.hid (HU9.out.trans hU10)
      have HTOLD := Lib.hid (told_arg (HF9.out.up hU10) (HC7.out w10 HU10.out).2.2)
      clear hU10
      go_wp2_with fail
      (with_reducible refine HTOLD.out.mono ?_)
      rintro e w11 ⟨rfl, hU11⟩
      have HU11 := Lib.hid (H4.out.up.trans (HU10.out.trans hU11))
      clear hU11
      go_wp2_with fail
      go_ret
      exact ⟨rfl, HU11.out⟩
    · have HBAD := Lib.hid (same_bad2 (b := other) (p := some ⟨B2, 0, none⟩) H4.out.s1 ⟨by omega, hid.2⟩ (fun W2 hW2 => asked_out (H4.out.upw hW2).s2 _ hot (HC7.out W2 hW2).2.2.s3.var))
      have r3 : ¬ ((z1 : Int) ≤ (a : Int)) := by omega
      have r5 : ¬ ((a : Int) < 0) := by omega
      have hcase : other < 0 ∨ ¬ other < 0 ∧ (z2 : Int) ≤ other := by omega
      rw [← hz1, ← hz2] at HC7
      clear hid hot hal hz1 hz2
      go_wp2_with fail
      (with_reducible refine HBAD.out.mono ?_)
      rintro e w8 ⟨pb, rfl, hf8, hU8⟩
      obtain ⟨x1, x2, hsts⟩ := HC7.out w8 hU8
      have HTOLD := Lib.hid (told_index hf8 hsts)
      have HU8 := Lib.hid (H4.out.up.trans hU8)
      clear hU8 hf8 hsts
      rcases hcase with h | ⟨h, h2⟩
      all_goals
        go_wp2_with fail
        (with_reducible refine HTOLD.out.mono ?_)
        rintro e w11 ⟨rfl, hU11⟩
        have HU11 := Lib.hid (HU8.out.trans hU11)
        clear hU11
        go_wp2_with fail
        go_ret
        exact ⟨rfl, HU11.out⟩
  · obtain ⟨z1, hz1⟩ : ∃ z, z = s.length := ⟨_, rfl⟩
    have HBAD := Lib.hid (same_bad1 (b := other) (op := .pointer (some ⟨B2, 0, none⟩)) ⟨_, rfl⟩ H4.out.s1 hid (HC7.out w7 (Up.refl _)).2.2.s3.var)
    have hcase : id < 0 ∨ ¬ id < 0 ∧ (z1 : Int) ≤ id := by omega
    rw [← hz1] at HC7
    clear hid hz1
    go_wp2_with fail
    (with_reducible refine HBAD.out.mono ?_)
    rintro e w8 ⟨pb, rfl, hf8, hU8⟩
    obtain ⟨x1, x2, hsts⟩ := HC7.out w8 hU8
    have HTOLD := Lib.hid (told_index hf8 hsts)
    have HU8 := Lib.hid (H4.out.up.trans hU8)
    clear hU8 hf8 hsts
    rcases hcase with h | ⟨h, h2⟩
    all_goals
      go_wp2_with fail
      (with_reducible refine HTOLD.out.mono ?_)
      rintro e w11 ⟨rfl, hU11⟩
      have HU11 := Lib.hid (HU8.out.trans hU11)
      clear hU11
      go_wp2_with fail
      go_ret
      exact ⟨rfl, HU11.out⟩

/-- TermSames, whatever it is handed. -/
theorem sames_any {g0 off0 cap0 g1 off1 cap1 : Nat} {ao0 ao1 : Option Addr} {l0 l1 : List Tm.T} {a1 a2 a3 : Addr} {w : World}
    (ha0 : 0 < l0.length → ao0 = some ⟨g0, off0, none⟩) (hA0 : TermsAt w g0 off0 l0) (hF0 : ∀ i, i < l0.length → TermFit (l0.getD i Tm.nilT)) (hl0 : l0.length ≤ 9223372036854775807)
    (ha1 : 0 < l1.length → ao1 = some ⟨g1, off1, none⟩) (hA1 : TermsAt w g1 off1 l1) (hF1 : ∀ i, i < l1.length → TermFit (l1.getD i Tm.nilT)) (hl1 : l1.length ≤ 9223372036854775807) (id other : Int) (hT : Tab w) (hS : Sts w a1 a2 a3) :
    Calls Tryd.prog 5 #[.slice ao0 l0.length cap0, .slice ao1 l1.length cap1, .int .i64 id, .int .i64 other] w (Done w) := by
  by_cases h0 : l0.length ≤ 100
  · by_cases h1 : l1.length ≤ 100
    · exact sames_main id other hT hS ha0 hA0 hF0 h0 ha1 hA1 hF1 h1
    · exact sames_many2 _ _ _ _ _ _ _ _ w hT h0 (by omega) hl1
  · exact sames_many1 _ _ _ _ _ _ _ _ w hT (by omega) hl0

end Go.Proofs.YtiiieailimphnaaDoor
