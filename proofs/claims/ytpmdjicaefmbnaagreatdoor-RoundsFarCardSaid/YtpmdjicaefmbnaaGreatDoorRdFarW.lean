/- The statement RoundsFar, walked. -/
import Derived.Test.YtpmdjicaefmbnaaGreatDoorRdAlive
import Derived.Test.YtpmdjicaefmbnaaGreatDoorRdRanks
import Derived.Deep.QuietTactic
namespace Go.Proofs.YtpmdjicaefmbnaaGreatDoor
open Go.RowKit Go.Sort Go.Maps
set_option linter.unusedVariables false
set_option linter.unusedSimpArgs false

theorem farI_any (x : Int) (w : World) : Calls Tryz.prog 15 #[.int .i64 x] w fun e w' => e = .returned (.int .i64 (Rd.far x)) ∧ w' = w := by
  by_cases h : x < 0
  · have q1 : decide (x < 0) = true := by simpa using h
    have e : Rd.far x = 1048576 := by unfold Rd.far; rw [if_pos h]
    rw [e]
    clear e
    go_enter Tryz.func15, Tryz.ntmps15
    go_wp2_with fail
    go_ret
    exact ⟨rfl, rfl⟩
  · have q1 : decide (x < 0) = false := by simpa using h
    have e : Rd.far x = x := by unfold Rd.far; rw [if_neg h]
    rw [e]
    clear e
    go_enter Tryz.func15, Tryz.ntmps15
    go_wp2_with fail
    go_ret
    exact ⟨rfl, rfl⟩

/-- The ranks, as they read. -/
theorem rank_cells {s : Sy.Lts} {w : World} {b n cv : Nat} {av : Option Addr} {vs : List Value} (ho : w.ownsRow b 34 1 (.slice av n cv) n vs) (hr : RowsI b w vs (ranks s)) (hn : s.n.toNat = n) (h0 : 0 < n) :
    ∃ g, av = some ⟨g, 0, none⟩ ∧ ∀ p, p < n → ∃ gp cp, w.cell? ⟨g, p, none⟩ = some (.slice (some ⟨gp, 0, none⟩) n cp) ∧ ∀ q, q < n → w.cell? ⟨gp, q, none⟩ = some (.int .i64 (Rd.rank s p q)) := by
  rcases owns_cases ho with ⟨-, h1, -⟩ | ⟨g, cap, he, hrow, -⟩
  · omega
  · simp only [Value.slice.injEq, true_and] at he
    obtain ⟨rfl, rfl⟩ := he
    have hl : (ranks s).length = n := by unfold ranks; rw [rankRows_len, hn]
    refine ⟨g, rfl, fun p hp => ?_⟩
    have h1 := hr.2.1 p (by rw [hl]; exact hp)
    rw [ranks_get (by rw [hn]; exact hp), rankRow_len, hn] at h1
    have hv : vs[p]? = some (vs.getD p undef) := by simp [List.getD, show p < vs.length by rw [hr.1, hl]; exact hp]
    have hc := hrow.cell hv
    rcases owns_cases h1 with ⟨-, h2, -⟩ | ⟨gp, cp, h3, hrow2, -⟩
    · omega
    · rw [h3] at hc
      refine ⟨gp, cp, hc, fun q hq => hrow2.cell ?_⟩
      simp [ivs, rankRow, hq]

set_option maxHeartbeats 4000000 in
set_option maxRecDepth 100000 in
theorem far_out (s : Sy.Lts) (se : Value) (a : Addr) (w : World) (hg : 25 < s.n ∨ 200 < s.es.length) (hT : Tab w) (hG : ErrT w) (hs : Ls3 w se s.es) (hE : w.cell? ⟨0, 0, none⟩ = some (.iface 299 (.pointer (some a)))) (hl : s.es.length ≤ maxLen) :
    Calls Tryz.prog 4 #[sysV s se] w (Good w) := by
  obtain ⟨ao, cap, rfl⟩ := ls3_shape hs
  have HA : Hid (∀ W, Up w W → Calls Tryz.prog 10 #[] W fun r w' => r = .returned (.bool true) ∧ Up W w') := Lib.hid (fun W hu => alive_any (hT.up hu) (hu.cell hG) (hu.cell hE))
  obtain ⟨L, hL⟩ : ∃ L, L = s.es.length := ⟨_, rfl⟩
  rw [← hL] at hg ⊢
  clear hT hG hs hE hl hL
  unfold sysV
  by_cases h25 : 25 < s.n
  · have q1 : decide ((25 : Int) < s.n) = true := by simpa using h25
    go_enter Tryz.func4, Tryz.ntmps4
    go_wp2_with (go_at_call 10; refine (HA.out _ ((Up.refl w).alloc _)).mono ?_; rintro r w1 ⟨rfl, hu1⟩)
    go_ret
    exact ⟨rfl, ((Up.refl w).alloc _).trans hu1⟩
  · have q1 : decide ((25 : Int) < s.n) = false := by simpa using h25
    have q2 : 200 < L := by omega
    go_enter Tryz.func4, Tryz.ntmps4
    go_wp2_with (go_at_call 10; refine (HA.out _ ((Up.refl w).alloc _)).mono ?_; rintro r w1 ⟨rfl, hu1⟩)
    go_ret
    exact ⟨rfl, ((Up.refl w).alloc _).trans hu1⟩

set_option maxHeartbeats 4000000 in
set_option maxRecDepth 100000 in
theorem far_bad (s : Sy.Lts) (se : Value) (a : Addr) (w : World) (h25 : s.n ≤ 25) (h200 : s.es.length ≤ 200) (hr : Sy.right s = false) (hT : Tab w) (hG : ErrT w) (hs : Ls3 w se s.es) (hE : w.cell? ⟨0, 0, none⟩ = some (.iface 299 (.pointer (some a)))) (hl : s.es.length ≤ maxLen) :
    Calls Tryz.prog 4 #[sysV s se] w (Good w) := by
  obtain ⟨ao, cap, rfl⟩ := ls3_shape hs
  have HA : Hid (∀ W, Up w W → Calls Tryz.prog 10 #[] W fun r w' => r = .returned (.bool true) ∧ Up W w') := Lib.hid (fun W hu => alive_any (hT.up hu) (hu.cell hG) (hu.cell hE))
  have HL : Hid (∀ W, Up w W → Calls Tryz.prog 14 #[.agg #[.int .i64 s.n, .int .i64 s.m, .int .i64 s.start, .slice ao s.es.length cap]] W fun r w' => (∃ qb, r = .returned (.tuple #[.slice none 0 0, faultAt qb])) ∧ Up W w') := Lib.hid (fun W hu => by
    refine (ranks_bad s _ a .nilIface W hr (hT.up hu) (hu.cell hG) (hs.up hu) (hu.cell hE) hl).mono ?_
    rintro r w' ⟨hu1, ⟨h1, -⟩ | ⟨h1, -⟩ | ⟨-, qb, pb, rfl, -⟩⟩
    · exact absurd (hr.symm.trans h1) (by decide)
    · exact absurd (hr.symm.trans h1) (by decide)
    · exact ⟨⟨qb, rfl⟩, hu1⟩)
  obtain ⟨L, hLL⟩ : ∃ L, L = s.es.length := ⟨_, rfl⟩
  rw [← hLL] at h200 HL ⊢
  clear hT hG hs hE hl hLL hr
  unfold sysV
  have q1 : decide ((25 : Int) < s.n) = false := by simp; omega
  go_enter Tryz.func4, Tryz.ntmps4
  go_wp2_with (first
    | (go_at_call 14; refine (HL.out _ ((Up.refl w).alloc _)).mono ?_; rintro r w1 ⟨⟨qb, rfl⟩, hu1⟩; unfold faultAt)
    | (go_at_call 10; refine (HA.out _ (((Up.refl w).alloc _).trans hu1)).mono ?_; rintro r w3 ⟨rfl, hu3⟩))
  go_ret
  exact ⟨rfl, (((Up.refl w).alloc _).trans hu1).trans hu3⟩

set_option maxHeartbeats 16000000 in
set_option maxRecDepth 100000 in
theorem far_ok (s : Sy.Lts) (se : Value) (a : Addr) (w : World) (h25 : s.n ≤ 25) (h200 : s.es.length ≤ 200) (hr : Sy.right s = true) (hT : Tab w) (hG : ErrT w) (hs : Ls3 w se s.es) (hE : w.cell? ⟨0, 0, none⟩ = some (.iface 299 (.pointer (some a)))) (hl : s.es.length ≤ maxLen) :
    Calls Tryz.prog 4 #[sysV s se] w (Good w) := by
  obtain ⟨ao, cap, rfl⟩ := ls3_shape hs
  have HA : Hid (∀ W, Up w W → Calls Tryz.prog 10 #[] W fun r w' => r = .returned (.bool true) ∧ Up W w') := Lib.hid (fun W hu => alive_any (hT.up hu) (hu.cell hG) (hu.cell hE))
  have hR := (Sy.right_iff s).1 hr
  obtain ⟨n, hn⟩ : ∃ n : Nat, s.n = (n : Nat) := ⟨s.n.toNat, by have := hR.n0; omega⟩
  have hnn : s.n.toNat = n := by rw [hn]; rfl
  have hL : ∀ W, Up w W → Calls Tryz.prog 14 #[.agg #[.int .i64 s.n, .int .i64 s.m, .int .i64 s.start, .slice ao s.es.length cap]] W fun r w' => ∃ av cv, r = .returned (.tuple #[.slice av n cv, .nilIface]) ∧ Up W w' ∧
      (0 < n → ∃ g, av = some ⟨g, 0, none⟩ ∧ ∀ p, p < n → ∃ gp cp, w'.cell? ⟨g, p, none⟩ = some (.slice (some ⟨gp, 0, none⟩) n cp) ∧ ∀ q, q < n → w'.cell? ⟨gp, q, none⟩ = some (.int .i64 (Rd.rank s p q))) := fun W hu => by
    refine (ranks_ok s _ a .nilIface W hr (by omega) (hT.up hu) (hu.cell hG) (hs.up hu) (hu.cell hE) hl).mono ?_
    rintro r w' ⟨hu1, ⟨-, -, v, vs, rfl, ho, hrw⟩ | ⟨-, h1, -⟩ | ⟨h1, -⟩⟩
    · rw [hnn] at ho
      obtain ⟨av, cv, rfl⟩ := owns_shape' ho
      exact ⟨av, cv, rfl, hu1, fun h0 => rank_cells ho hrw hnn h0⟩
    · omega
    · exact absurd (hr.symm.trans h1) (by decide)
  rw [hn] at hL
  have HL := Lib.hid hL
  have HF : Hid (∀ p q r, 0 < n → ¬ Rd.far (Rd.rank s p r) < min (Rd.far (Rd.rank s p q)) (Rd.far (Rd.rank s q r))) := Lib.hid (fun p q r h0 => Rd.far_min s p q r (by omega) (by omega))
  obtain ⟨L, hLL⟩ : ∃ L, L = s.es.length := ⟨_, rfl⟩
  rw [← hLL] at h200 HL ⊢
  unfold sysV
  rw [hn] at h25 ⊢
  clear hT hG hs hE hl hLL hr hR hn hnn hL
  have q1 : decide ((25 : Int) < (n : Int)) = false := by simp; omega
  go_enter Tryz.func4, Tryz.ntmps4
  have HB0 := Lib.hid (heap_alloc_new w (.cells #[.int .i64 (n : Nat), .int .i64 s.m, .int .i64 s.start, .slice ao L cap] 24))
  go_upto_region 8 with (go_at_call 14; refine (HL.out _ ((Up.refl w).alloc _)).mono ?_; rintro r w1 ⟨av, cv, rfl, hu1, hcell⟩; (have c0 := (four_cells ((hu1.block _ (by simp)).trans HB0.out)).1.1); (have HU1 := Lib.hid (((Up.refl w).alloc (.cells #[.int .i64 (n : Nat), .int .i64 s.m, .int .i64 s.start, .slice ao L cap] 24)).trans hu1)); (have HC := Lib.hid hcell); clear hu1 hcell)
  go_wp2_with fail
  go_loopw [5] (fun i wr => ∃ p : Nat, i = .int .i64 p ∧ p ≤ n ∧ Up w1 wr) (fun i _ => n - (intOf i).toNat)
  case atStart => exact ⟨0, rfl, Nat.zero_le _, Up.refl _⟩
  case round =>
    obtain ⟨p, rfl, hp, hu⟩ := hrel
    have c1 := hu.cell c0
    by_cases hlt : p < n
    · obtain ⟨g, rfl, hg⟩ := HC.out (by omega)
      obtain ⟨gp, cp, d1, hgp⟩ := hg p hlt
      have d2 := hgp p hlt
      rw [Rd.rank_self] at d2
      have e1 := hu.cell d1
      have e2 := hu.cell d2
      clear hg hgp d1 d2
      go_wp2_with fail
      go_quiet (fail)
      go_wp2_with fail
      go_roundw
      case rel => exact ⟨p + 1, by go_num, by omega, hu.drewN _⟩
      case measure => simp [intOf]; omega
    · obtain rfl : p = n := by omega
      rename World => w2
      have HU2 := Lib.hid hu
      clear hu hp hlt
      go_wp2_with fail
      go_loopw [6] (fun i wr => ∃ x : Nat, i = .int .i64 x ∧ x ≤ p ∧ Up w2 wr) (fun i _ => p - (intOf i).toNat)
      case atStart => exact ⟨0, rfl, Nat.zero_le _, Up.refl _⟩
      case round =>
        obtain ⟨x, rfl, hx, hu⟩ := hrel
        rename World => w3
        have HU23 := Lib.hid hu
        have HU3 := Lib.hid (HU2.out.trans hu)
        have c3 := HU3.out.cell c0
        clear hu
        by_cases hlx : x < p
        · go_wp2_with fail
          go_loopw [7] (fun i wr => ∃ y : Nat, i = .int .i64 y ∧ y ≤ p ∧ Up w3 wr) (fun i _ => p - (intOf i).toNat)
          case atStart => exact ⟨0, rfl, Nat.zero_le _, Up.refl _⟩
          case round =>
            obtain ⟨y, rfl, hy, hu⟩ := hrel
            rename World => w4
            have HU4 := Lib.hid (HU3.out.trans hu)
            have HU34 := Lib.hid hu
            have c4 := HU4.out.cell c0
            clear hu
            by_cases hly : y < p
            · obtain ⟨g, rfl, hg⟩ := HC.out (by omega)
              obtain ⟨gx, cx, dx, hgx⟩ := hg x hlx
              obtain ⟨gy, cy, dy, hgy⟩ := hg y hly
              have HGX := Lib.hid hgx
              have HGY := Lib.hid hgy
              have e1 := HU4.out.cell dx
              have e2 := HU4.out.cell dy
              have e3 := HU4.out.cell (hgx y hly)
              have e4 := HU4.out.cell (hgy x hlx)
              rw [Rd.rank_comm s y x] at e4
              have hz := Rd.rank_ne_zero s x y
              obtain ⟨X, hX⟩ : ∃ X, X = Rd.rank s x y := ⟨_, rfl⟩
              rw [← hX] at e3 e4 hz
              have HX := Lib.hid hX
              have q2 : (X == (0 : Int)) = false := by simpa using hz
              clear hg hgx hgy hX hz dx dy
              go_wp2_with fail
              go_quiet (fail)
              go_wp2_with fail
              go_loopw [8] (fun i wr => ∃ z : Nat, i = .int .i64 z ∧ z ≤ p ∧ Up w4 wr) (fun i _ => p - (intOf i).toNat)
              case atStart => exact ⟨0, rfl, Nat.zero_le _, (Up.refl _).drewN _⟩
              case round =>
                obtain ⟨z, rfl, hz, hu⟩ := hrel
                have hu5 := HU4.out.trans hu
                have c5 := hu5.cell c0
                by_cases hlz : z < p
                · have f1 := hu.cell e1
                  have f2 := hu.cell e2
                  have f3 := hu5.cell (HGX.out z hlz)
                  have f4 := hu5.cell (HGY.out z hlz)
                  have f5 := hu.cell e3
                  have hf := HF.out x y z (by omega)
                  rw [← HX.out] at hf
                  obtain ⟨A, hA⟩ : ∃ A, A = Rd.rank s x z := ⟨_, rfl⟩
                  obtain ⟨B, hB⟩ : ∃ B, B = Rd.rank s y z := ⟨_, rfl⟩
                  rw [← hA] at f3 hf
                  rw [← hB] at f4 hf
                  clear hA hB
                  have q3 : decide (Rd.far A < min (Rd.far X) (Rd.far B)) = false := by simpa using hf
                  clear hf
                  go_wp2_with fail
                  go_quiet (first
                    | (go_at_call 15; exact Calls.quiet_of_same (farI_any _ _)))
                  go_wp2_with fail
                  go_roundw
                  case rel => exact ⟨z + 1, by go_num, by omega, hu.drewN _⟩
                  case measure => simp [intOf]; omega
                · obtain rfl : z = p := by omega
                  go_wp2_with fail
                  go_roundw
                  case rel => exact ⟨y + 1, by go_num, by omega, HU34.out.trans hu⟩
                  case measure => simp [intOf]; omega
            · obtain rfl : y = p := by omega
              go_wp2_with fail
              go_roundw
              case rel => exact ⟨x + 1, by go_num, by omega, HU23.out.trans HU34.out⟩
              case measure => simp [intOf]; omega
        · obtain rfl : x = p := by omega
          go_wp2_with (go_at_call 10; refine (HA.out _ (HU1.out.trans HU3.out)).mono ?_; rintro r w9 ⟨rfl, hu9⟩)
          go_ret
          exact ⟨rfl, (HU1.out.trans HU3.out).trans hu9⟩

/-- THE STATEMENT, WALKED. -/
theorem far_any {s : Sy.Lts} {se : Value} {a : Addr} {w : World} (hs : Ls3 w se s.es) (hl : s.es.length ≤ maxLen) (hE : w.cell? ⟨0, 0, none⟩ = some (.iface 299 (.pointer (some a)))) (hT : Tab w) (hG : ErrT w) :
    Calls Tryz.prog 4 #[sysV s se] w (Good w) := by
  by_cases hg : 25 < s.n ∨ 200 < s.es.length
  · exact far_out s se a w hg hT hG hs hE hl
  · cases hr : Sy.right s
    · exact far_bad s se a w (by omega) (by omega) hr hT hG hs hE hl
    · exact far_ok s se a w (by omega) (by omega) hr hT hG hs hE hl

end Go.Proofs.YtpmdjicaefmbnaaGreatDoor
