/- The statement RoundsNext, walked. -/
import Derived.Test.YtpmdjicaefmbnaaGreatDoorRdAlive
import Derived.Test.YtpmdjicaefmbnaaGreatDoorRdMet
import Derived.Test.YtpmdjicaefmbnaaGreatDoorQuiet
namespace Go.Proofs.YtpmdjicaefmbnaaGreatDoor
open Go.RowKit Go.Sort Go.Maps
set_option linter.unusedVariables false
set_option linter.unusedSimpArgs false

/-- A row of a round, as it reads. -/
def RoundAt (s : Sy.Lts) (w : World) (u : Value) (k n : Nat) : Prop :=
  ∃ ao c g off, u = .slice ao n c ∧ (0 < n → ao = some ⟨g, off, none⟩) ∧ (∀ i, i < n → w.cell? ⟨g, off + i, none⟩ = some (.int .i64 (((Rd.R s k).getD i 0 : Nat) : Int))) ∧ Lst w u ((Rd.R s k).map Int.ofNat)

theorem RoundAt.up {s : Sy.Lts} {w w1 : World} {u : Value} {k n : Nat} (h : RoundAt s w u k n) (hu : Up w w1) : RoundAt s w1 u k n := by
  obtain ⟨ao, c, g, off, h1, h2, h3, h4⟩ := h
  exact ⟨ao, c, g, off, h1, h2, fun i hi => hu.cell (h3 i hi), h4.up hu⟩

/-- The rows of the rounds, as they read. -/
theorem round_rows {s : Sy.Lts} {w : World} {b n : Nat} {v : Value} {vs : List Value} (ho : w.ownsRow b 34 1 v (Rd.last s + 1) vs) (hr : RowsOf b w vs (Rd.rounds s)) (hn : s.n.toNat = n) :
    ∃ g cap, v = .slice (some ⟨g, 0, none⟩) (Rd.last s + 1) cap ∧ ∀ k, k < Rd.last s + 1 → ∃ u, w.cell? ⟨g, k, none⟩ = some u ∧ RoundAt s w u k n := by
  obtain ⟨g, cap, rfl, h⟩ := RowsOf.at ho hr (Rd.rounds_len s) (by omega)
  rw [Rd.rounds_len] at h ⊢
  refine ⟨g, cap, rfl, fun k hk => ?_⟩
  obtain ⟨u, h1, h2⟩ := h k hk
  have e : (Rd.rounds s).getD k [] = Rd.R s k := by simp [List.getD, Rd.rounds_get s k hk]
  rw [e] at h2
  have h3 := h2
  obtain ⟨ao, c, g2, off, hu, ha, hx⟩ := h2
  rw [List.length_map, Rd.R_len, hn] at hu ha
  exact ⟨u, h1, ao, c, g2, off, hu, ha, fun i hi => at_nat hx (by rw [Rd.R_len, hn]; exact hi), h3⟩

set_option maxHeartbeats 4000000 in
set_option maxRecDepth 100000 in
theorem next_out (s : Sy.Lts) (se : Value) (a : Addr) (w : World) (hg : 40 < s.n ∨ 300 < s.es.length) (hT : Tab w) (hG : ErrT w) (hs : Ls3 w se s.es) (hE : w.cell? ⟨0, 0, none⟩ = some (.iface 299 (.pointer (some a)))) (hl : s.es.length ≤ maxLen) :
    Calls Tryz.prog 3 #[sysV s se] w (Good w) := by
  obtain ⟨ao, cap, rfl⟩ := ls3_shape hs
  have HA : Hid (∀ W, Up w W → Calls Tryz.prog 10 #[] W fun r w' => r = .returned (.bool true) ∧ Up W w') := Lib.hid (fun W hu => alive_any (hT.up hu) (hu.cell hG) (hu.cell hE))
  obtain ⟨L, hL⟩ : ∃ L, L = s.es.length := ⟨_, rfl⟩
  rw [← hL] at hg ⊢
  clear hT hG hs hE hl hL
  unfold sysV
  by_cases h40 : 40 < s.n
  · have q1 : decide ((40 : Int) < s.n) = true := by simpa using h40
    go_enter Tryz.func3, Tryz.ntmps3
    go_wp2_with (go_at_call 10; refine (HA.out _ ((Up.refl w).alloc _)).mono ?_; rintro r w1 ⟨rfl, hu1⟩)
    go_ret
    exact ⟨rfl, ((Up.refl w).alloc _).trans hu1⟩
  · have q1 : decide ((40 : Int) < s.n) = false := by simpa using h40
    have q2 : 300 < L := by omega
    go_enter Tryz.func3, Tryz.ntmps3
    go_wp2_with (go_at_call 10; refine (HA.out _ ((Up.refl w).alloc _)).mono ?_; rintro r w1 ⟨rfl, hu1⟩)
    go_ret
    exact ⟨rfl, ((Up.refl w).alloc _).trans hu1⟩

set_option maxHeartbeats 4000000 in
set_option maxRecDepth 100000 in
theorem next_bad (s : Sy.Lts) (se : Value) (a : Addr) (w : World) (h40 : s.n ≤ 40) (h300 : s.es.length ≤ 300) (hr : Sy.right s = false) (hT : Tab w) (hG : ErrT w) (hs : Ls3 w se s.es) (hE : w.cell? ⟨0, 0, none⟩ = some (.iface 299 (.pointer (some a)))) (hl : s.es.length ≤ maxLen) :
    Calls Tryz.prog 3 #[sysV s se] w (Good w) := by
  obtain ⟨ao, cap, rfl⟩ := ls3_shape hs
  have HA : Hid (∀ W, Up w W → Calls Tryz.prog 10 #[] W fun r w' => r = .returned (.bool true) ∧ Up W w') := Lib.hid (fun W hu => alive_any (hT.up hu) (hu.cell hG) (hu.cell hE))
  have HL := Lib.hid (all_no hr hT hG hs hE hl)
  have HN : Hid (∀ W, Up w W → Calls Tryz.prog 12 #[.agg #[.int .i64 s.n, .int .i64 s.m, .int .i64 s.start, .slice ao s.es.length cap]] W (Newed s W (.iface 299 (.pointer (some a))))) := Lib.hid (fun W hu => new_any s _ _ _ W (hs.up hu) (hu.cell hE) hl)
  have HR := Lib.hid hr
  obtain ⟨L, hLL⟩ : ∃ L, L = s.es.length := ⟨_, rfl⟩
  rw [← hLL] at h300 HL HN ⊢
  clear hT hG hs hE hl hLL hr
  unfold sysV
  have q1 : decide ((40 : Int) < s.n) = false := by simp; omega
  go_enter Tryz.func3, Tryz.ntmps3
  go_wp2_with (first
    | (go_at_call 11; refine HL.out.mono ?_; rintro r w1 ⟨qb, pb, rfl, hu1, hb1, -, -, -, -⟩; (obtain ⟨⟨c0, c1, c2, c3⟩, -⟩ := four_cells hb1); unfold faultAt)
    | (go_at_call 12; refine (HN.out _ hu1).mono ?_; rintro r w2 ⟨hu2, ⟨h1, -⟩ | ⟨-, pb2, rfl, -, -⟩⟩; (exact absurd (h1.symm.trans HR.out) (by decide)); unfold faultAt)
    | (go_at_call 10; refine (HA.out _ (hu1.trans hu2)).mono ?_; rintro r w3 ⟨rfl, hu3⟩))
  go_ret
  exact ⟨rfl, (hu1.trans hu2).trans hu3⟩

set_option maxHeartbeats 16000000 in
set_option maxRecDepth 100000 in
theorem next_ok (s : Sy.Lts) (se : Value) (a : Addr) (w : World) (h40 : s.n ≤ 40) (h300 : s.es.length ≤ 300) (hr : Sy.right s = true) (hT : Tab w) (hG : ErrT w) (hs : Ls3 w se s.es) (hE : w.cell? ⟨0, 0, none⟩ = some (.iface 299 (.pointer (some a)))) (hl : s.es.length ≤ maxLen) :
    Calls Tryz.prog 3 #[sysV s se] w (Good w) := by
  obtain ⟨ao, cap, rfl⟩ := ls3_shape hs
  have HA : Hid (∀ W, Up w W → Calls Tryz.prog 10 #[] W fun r w' => r = .returned (.bool true) ∧ Up W w') := Lib.hid (fun W hu => alive_any (hT.up hu) (hu.cell hG) (hu.cell hE))
  have hL := all_yes hr hT hG hs hE hl
  have hN : ∀ W, Up w W → Calls Tryz.prog 12 #[.agg #[.int .i64 s.n, .int .i64 s.m, .int .i64 s.start, .slice ao s.es.length cap]] W (Newed s W (.iface 299 (.pointer (some a)))) := fun W hu => new_any s _ _ _ W (hs.up hu) (hu.cell hE) hl
  have hR := (Sy.right_iff s).1 hr
  have HR := Lib.hid hr
  have HRR := Lib.hid hR
  obtain ⟨n, hn⟩ : ∃ n : Nat, s.n = (n : Nat) := ⟨s.n.toNat, by have := hR.n0; omega⟩
  have HNN : Hid (s.n.toNat = n) := Lib.hid (by rw [hn]; rfl)
  rw [hn] at hL hN
  have HL := Lib.hid hL
  have HN := Lib.hid hN
  obtain ⟨L, hLL⟩ : ∃ L, L = s.es.length := ⟨_, rfl⟩
  rw [← hLL] at h300 HL HN ⊢
  unfold sysV
  rw [hn] at h40 ⊢
  clear hT hG hs hE hl hLL hr hR hn hL hN
  have q1 : decide ((40 : Int) < (n : Int)) = false := by simp; omega
  obtain ⟨K0, hK0⟩ : ∃ K0, K0 = Rd.last s + 1 := ⟨_, rfl⟩
  have HK0 := Lib.hid hK0
  rw [← hK0] at HL
  have hK1 : 0 < K0 := by omega
  have q0 : ((K0 : Int) == 0) = false := by simp; omega
  have hK2 : K0 ≤ 1001 := by have := rounds_small HRR.out; rw [Rd.rounds_len] at this; omega
  clear hK0
  go_enter Tryz.func3, Tryz.ntmps3
  go_upto_region 9 with (first
    | (go_at_call 11; refine HL.out.mono ?_; rintro r w1 ⟨av, cv, vs, rfl, hu1, hb1, ho1, hrw1⟩; (obtain ⟨⟨c0, c1, c2, c3⟩, -⟩ := four_cells hb1); rw [HK0.out] at ho1; (obtain ⟨g, cap1, he, hrd⟩ := round_rows ho1 hrw1 HNN.out); rw [← HK0.out] at he hrd; simp only [Value.slice.injEq, true_and] at he; (obtain ⟨rfl, rfl⟩ := he); (have HRD := Lib.hid hrd); (have HU1 := Lib.hid hu1); clear ho1 hrw1 hu1 hrd)
    | (go_at_call 12; refine (HN.out _ HU1.out).mono ?_; rintro r w2 ⟨hu2, ⟨-, B, rfl, -, hgr⟩ | ⟨h1, -⟩⟩; rotate_left; (exact absurd (HR.out.symm.trans h1) (by decide)); (have HGR := Lib.hid hgr); (have HU2 := Lib.hid hu2); (have cB := hu2.cell c0); clear hgr hu2 c0 c1 c2 c3 hb1))
  go_wp2_with fail
  go_loopw [7] (fun i wk => ∃ k : Nat, i = .int .i64 k ∧ k ≤ K0 ∧ Up w2 wk) (fun i _ => K0 - (intOf i).toNat)
  case atStart => exact ⟨0, rfl, Nat.zero_le _, Up.refl _⟩
  case round =>
    obtain ⟨k, rfl, hk, hu⟩ := hrel
    rename World => wk
    by_cases hlt : k < K0
    · obtain ⟨uk, hck, hrk⟩ := HRD.out k hlt
      obtain ⟨ak, ck, gk, ok, rfl, hak, hxk, hlk⟩ := hrk
      have HLK := Lib.hid (hlk.up (HU2.out.trans hu))
      have HXK := Lib.hid hxk
      have HAK := Lib.hid hak
      have dk := (HU2.out.trans hu).cell hck
      have hnx : ∃ (t : Bool) (an : Option Addr) (cn gn on : Nat), decide ((k : Int) + 1 < (K0 : Int)) = t ∧ (t = true → wk.cell? ⟨g, k + 1, none⟩ = some (.slice an n cn)) ∧ (t = false → ak = an ∧ ck = cn ∧ gk = gn ∧ ok = on) ∧ (0 < n → an = some ⟨gn, on, none⟩) ∧
          ∀ i, i < n → w1.cell? ⟨gn, on + i, none⟩ = some (.int .i64 (((Rd.R s (k + 1)).getD i 0 : Nat) : Int)) := by
        by_cases h : k + 1 < K0
        · obtain ⟨u, h1, ⟨an, cn, gn, on, rfl, han, hxn, -⟩⟩ := HRD.out (k + 1) h
          exact ⟨true, an, cn, gn, on, by simp; omega, fun _ => (HU2.out.trans hu).cell h1, (fun h => by cases h), han, hxn⟩
        · refine ⟨false, ak, ck, gk, ok, by simp; omega, (fun h => by cases h), fun _ => ⟨rfl, rfl, rfl, rfl⟩, hak, ?_⟩
          have e : Rd.R s (k + 1) = Rd.R s k := by
            rw [Rd.rounds_next s k (by rw [← HK0.out]; exact hlt), if_neg (by rw [← HK0.out]; exact h)]
          rw [e]
          exact hxk
      obtain ⟨t, an, cn, gn, on, ht, hut, huf, han, hxn⟩ := hnx
      have HXN := Lib.hid hxn
      have HAN := Lib.hid han
      have HU := Lib.hid hu
      have cBr := hu.cell cB
      clear hck hak hxk hlk han hxn hu
      cases t
      all_goals
        first
          | (have dn := hut rfl
             have qk3 : IntKind.i64.wrap ((k : Int) + 1) = (k : Int) + 1 := by simp [IntKind.wrap, IntKind.bits, IntKind.signed]; omega
             have qk4 : ((k : Int) + 1).toNat = k + 1 := by omega
             have qk5 : (0 : Int) ≤ (k : Int) + 1 := by omega
             have qk6 : (k : Int) + 1 < (K0 : Int) := by simpa using ht
             clear huf)
          | (obtain ⟨rfl, rfl, rfl, rfl⟩ := huf rfl; clear huf)
        clear hut
        go_wp2_with fail
        go_loopw [9] (fun i wp => ∃ p : Nat, i = .int .i64 p ∧ p ≤ n ∧ Up wk wp) (fun i _ => n - (intOf i).toNat)
        case atStart => exact ⟨0, rfl, Nat.zero_le _, Up.refl _⟩
        case round =>
          obtain ⟨p, rfl, hp, hup⟩ := hrel
          rename World => wp
          have cBp := hup.cell cBr
          have HUP := Lib.hid hup
          clear hup
          by_cases hlp : p < n
          · go_wp2_with fail
            go_loopw [10] (fun i wr => ∃ q : Nat, i = .int .i64 q ∧ q ≤ p ∧ Up wp wr) (fun i _ => p - (intOf i).toNat)
            case atStart => exact ⟨0, rfl, Nat.zero_le _, Up.refl _⟩
            case round =>
              obtain ⟨q, rfl, hq, huq⟩ := hrel
              by_cases hlq : q < p
              · have e1 := HAK.out (by omega)
                have e2 := HAN.out (by omega)
                subst e1
                try subst e2
                have hqn : q < n := by omega
                have hrq := HUP.out.trans huq
                have h1q := (HU2.out.trans HU.out).trans hrq
                have d1 := hrq.cell dk
                have d2 := h1q.cell (HXK.out p hlp)
                have d3 := h1q.cell (HXK.out q hqn)
                have d4 := h1q.cell (HXN.out p hlp)
                have d5 := h1q.cell (HXN.out q hqn)
                have hlen : (Rd.R s k).length = n := by rw [Rd.R_len, HNN.out]
                have hlaw := Rd.next_eq_iff s (Rd.R s k) (p := p) (q := q) (by rw [hlen]; exact hlp) (by rw [hlen]; exact hqn)
                have HM : Hid (∀ W, Up wr W → Calls Tryz.prog 13 #[.pointer (some ⟨B, 0, none⟩), .slice (some ⟨gk, ok, none⟩) n ck, .int .i64 (p : Nat), .int .i64 (q : Nat)] W fun r w' => r = .returned (.bool (Rd.meets s (Rd.R s k) p q)) ∧ Up W w') :=
                  Lib.hid (fun W hW => met_any (HGR.out.up ((HU.out.trans hrq).trans hW)) HRR.out (by rw [HNN.out]; exact hlp) (by rw [HNN.out]; exact hqn) (HLK.out.up (hrq.trans hW)) (by rw [hlen, HNN.out]))
                have HM2 : Hid (∀ W, Up wr W → Calls Tryz.prog 13 #[.pointer (some ⟨B, 0, none⟩), .slice (some ⟨gk, ok, none⟩) n ck, .int .i64 (q : Nat), .int .i64 (p : Nat)] W fun r w' => r = .returned (.bool (Rd.meets s (Rd.R s k) q p)) ∧ Up W w') :=
                  Lib.hid (fun W hW => met_any (HGR.out.up ((HU.out.trans hrq).trans hW)) HRR.out (by rw [HNN.out]; exact hqn) (by rw [HNN.out]; exact hlp) (HLK.out.up (hrq.trans hW)) (by rw [hlen, HNN.out]))
                have hnx : ∀ i, (Rd.next s (Rd.R s k)).getD i 0 = (Rd.R s (k + 1)).getD i 0 := fun _ => rfl
                rw [hnx, hnx] at hlaw
                clear hnx hlen
                generalize (Rd.R s k).getD p 0 = A at d2 hlaw
                generalize (Rd.R s k).getD q 0 = A2 at d3 hlaw
                generalize (Rd.R s (k + 1)).getD p 0 = N at d4 hlaw
                generalize (Rd.R s (k + 1)).getD q 0 = N2 at d5 hlaw
                generalize Rd.meets s (Rd.R s k) p q = m1 at HM hlaw
                generalize Rd.meets s (Rd.R s k) q p = m2 at HM2 hlaw
                have HUQ := Lib.hid huq
                clear huq hrq h1q
                have hcs : ∃ b1 b2 : Bool, ((A : Int) == (A2 : Int)) = b1 ∧ ((N : Int) == (N2 : Int)) = b2 ∧ b2 = (b1 && m1 && m2) := by
                  refine ⟨_, _, rfl, rfl, ?_⟩
                  rw [Bool.eq_iff_iff]
                  simp only [beq_iff_eq, Bool.and_eq_true, Int.ofNat_inj]
                  constructor
                  · intro h; obtain ⟨x1, x2, x3⟩ := hlaw.1 h; exact ⟨⟨x1, x2⟩, x3⟩
                  · rintro ⟨⟨x1, x2⟩, x3⟩; exact hlaw.2 ⟨x1, x2, x3⟩
                obtain ⟨b1, b2, qb1, qb2, hb2⟩ := hcs
                clear hlaw
                cases b1
                rotate_left
                cases m1
                rotate_left
                cases m2
                all_goals
                  simp only [Bool.and_true, Bool.and_false, Bool.true_and, Bool.false_and] at hb2
                  subst hb2
                  go_upto_region 21 with fail
                  refine wp_region_quiet_in (fun w' => Up wr w') (by kernel_rfl) (by kernel_rfl) (Up.refl _).drew ?_
                  iterate 36
                    refine WQ.step (fun K hK => ?_)
                    go_simp
                    first
                      | (refine hK _ ?_
                         clear hK K)
                      | (apply Exists.intro
                         refine ⟨?_, hK _ ?_⟩
                         · intro w' hw'
                           have f1 := hw'.cell d1
                           have f2 := hw'.cell d2
                           have f3 := hw'.cell d3
                           first
                             | (go_at_call 13; (with_reducible refine (HM.out _ hw').mono ?_); rintro r w4 ⟨rfl, hu4⟩; exact ⟨rfl, hw'.trans hu4⟩)
                             | (go_at_call 13; (with_reducible refine (HM2.out _ hw').mono ?_); rintro r w4 ⟨rfl, hu4⟩; exact ⟨rfl, hw'.trans hu4⟩)
                             | (go_simp
                                first | done | rfl | exact ⟨rfl, rfl⟩)
                         clear hK K)
                  refine WQ.nil ?_
                  intro w5 hu5
                  have f4 := hu5.cell d4
                  have f5 := hu5.cell d5
                  go_wp2_with fail
                  go_quiet (fail)
                  go_wp2_with fail
                  go_roundw
                  case rel => exact ⟨q + 1, by go_num, by omega, (HUQ.out.trans hu5).drewN _⟩
                  case measure => simp [intOf]; omega
              · obtain rfl : q = p := by omega
                go_wp2_with fail
                go_roundw
                case rel => exact ⟨q + 1, by go_num, by omega, HUP.out.trans huq⟩
                case measure => simp [intOf]; omega
          · obtain rfl : p = n := by omega
            go_wp2_with fail
            go_roundw
            case rel => exact ⟨k + 1, by go_num, by omega, HU.out.trans HUP.out⟩
            case measure => simp [intOf]; omega
    · obtain rfl : k = K0 := by omega
      go_wp2_with (go_at_call 10; refine (HA.out _ ((HU1.out.trans HU2.out).trans hu)).mono ?_; rintro r w3 ⟨rfl, hu3⟩)
      go_ret
      exact ⟨rfl, ((HU1.out.trans HU2.out).trans hu).trans hu3⟩

end Go.Proofs.YtpmdjicaefmbnaaGreatDoor
