/- Walk: Bound. Walks: the document's cap1, Bound. -/
import Derived.Test.YtkcdkfkgjjpaaaaGreatDoorLst
import Derived.Test.YtkcdkfkgjjpaaaaGreatDoorDtPlain

namespace Go.Proofs.YtkcdkfkgjjpaaaaGreatDoor
open Go.RowKit
set_option linter.unusedVariables false
set_option linter.unusedSimpArgs false

theorem bd_mul {d : Int} {b : Nat} (h1 : 1 ≤ d) (h5 : d ≤ 5001) (h : b < 5001) : 0 ≤ d * ((b : Int) + 1) ∧ d * ((b : Int) + 1) ≤ 25010001 := by
  have a := Int.mul_le_mul_of_nonneg_right h5 (show (0 : Int) ≤ (b : Int) + 1 by omega)
  have c := Int.mul_nonneg (show (0 : Int) ≤ d by omega) (show (0 : Int) ≤ (b : Int) + 1 by omega)
  omega

theorem bd_step {d : Int} {j b : Nat} (h1 : 1 ≤ d) (hb : b = min (Dt.bnd d.toNat j) 5001) : (if 5001 < 1 + d * ((b : Int) + 1) then 5001 else 1 + d * ((b : Int) + 1)) = ((min (Dt.bnd d.toNat (j + 1)) 5001 : Nat) : Int) := by
  rw [← Dt.bnd_round d.toNat j b hb]
  have e : d * ((b : Int) + 1) = ((d.toNat * (b + 1) : Nat) : Int) := by
    rw [Int.natCast_mul, Int.toNat_of_nonneg (by omega)]; simp
  rw [e]
  split <;> omega

theorem ret_intD {a b : Int} (h : a = b) : Ending.returned (.int .i64 a) = .returned (.int .i64 b) := by rw [h]

set_option maxHeartbeats 1000000 in
set_option maxRecDepth 100000 in
theorem bound_any (k d : Int) (w : World) (hk : k ≤ 9223372036854775807) : Calls Tryz.prog 10 #[.int .i64 k, .int .i64 d] w fun r w' => r = .returned (.int .i64 (Dt.bound k d)) ∧ w = w' := by
  by_cases h1 : k < 1
  · have q1 : decide (k < 1) = true := by simp [h1]
    have HV : Hid (Dt.bound k d = 1) := Lib.hid (by rw [Dt.bound, if_pos h1])
    go_enter Tryz.func10, Tryz.ntmps10
    go_wp2_with fail
    go_ret
    exact ⟨ret_intD (by rw [HV.out]; rfl), rfl⟩
  · have q1 : decide (k < 1) = false := by simp [h1]
    by_cases h2 : d < 1
    · have q2 : decide (d < 1) = true := by simp [h2]
      have HV : Hid (Dt.bound k d = 3) := Lib.hid (by rw [Dt.bound, if_neg h1, if_pos h2])
      go_enter Tryz.func10, Tryz.ntmps10
      go_wp2_with fail
      go_ret
      exact ⟨ret_intD (by rw [HV.out]; rfl), rfl⟩
    · have q2 : decide (d < 1) = false := by simp [h2]
      have HV : Hid (Dt.bound k d = min (Dt.bnd d.toNat k.toNat) 5001) := Lib.hid (by rw [Dt.bound, if_neg h1, if_neg h2])
      go_enter Tryz.func10, Tryz.ntmps10
      go_wp2_with fail
      go_loopw [0, 5] (fun i n wr => ∃ j b : Nat, j ≤ k.toNat ∧ i = .int .i64 (k - (j : Int)) ∧ n = .int .i64 (b : Int) ∧ Hid (b = min (Dt.bnd d.toNat j) 5001) ∧ b ≤ 5001 ∧ wr = w) (fun i _ _ => (intOf i).toNat)
      case atStart => exact ⟨0, 1, by omega, by simp, rfl, Lib.hid (by simp [Dt.bnd]), by omega, rfl⟩
      case round =>
        obtain ⟨j, b, hj, rfl, rfl, HB, hb, rfl⟩ := hrel
        by_cases hlt : j < k.toNat
        · have q3 : decide (0 < k - (j : Int)) = true := by simp; omega
          by_cases hn : b < 5001
          · have q4 : decide ((b : Int) < 5001) = true := by simp; omega
            by_cases h5 : 5001 < d
            · have q5 : decide (5001 < d) = true := by simp [h5]
              go_wp2_with fail
              go_ret
              refine ⟨ret_intD ?_, rfl⟩
              rw [HV.out]
              obtain ⟨m, hm⟩ : ∃ m, k.toNat = m + 1 := ⟨k.toNat - 1, by omega⟩
              rw [hm, Dt.bnd_cut _ _ (by omega)]; rfl
            · have q5 : decide (5001 < d) = false := by simp [h5]
              have hwr : IntKind.i64.wrap (k - (j : Int) - 1) = k - (j : Int) - 1 := IntWalk.i64_in _ (by omega)
              obtain ⟨m1, m2⟩ := bd_mul (by omega) (by omega) hn
              have HS := Lib.hid (bd_step (j := j) (show 1 ≤ d by omega) HB.out)
              go_wp2_with fail
              go_roundw
              case rel => exact ⟨j + 1, min (Dt.bnd d.toNat (j + 1)) 5001, by omega, by go_num, congrArg (Value.int .i64) HS.out, Lib.hid rfl, Nat.min_le_right _ _, trivial⟩
              case measure => simp [intOf]; omega
          · have q4 : decide ((b : Int) < 5001) = false := by simp; omega
            have HE : Hid (b = Dt.bound k d) := Lib.hid (by
              have hb1 := HB.out
              have := Dt.bnd_stay (d := d.toNat) (show 1 ≤ d.toNat by omega) (show 5001 ≤ Dt.bnd d.toNat j by omega) hj
              rw [HV.out]; omega)
            go_wp2_with fail
            go_ret
            exact ⟨ret_intD (by rw [HE.out]), rfl⟩
        · have q3 : decide (0 < k - (j : Int)) = false := by simp; omega
          have HE : Hid (b = Dt.bound k d) := Lib.hid (by
            have hb1 := HB.out
            have e : j = k.toNat := by omega
            rw [HV.out, hb1, e])
          go_wp2_with fail
          go_ret
          exact ⟨ret_intD (by rw [HE.out]), rfl⟩

end Go.Proofs.YtkcdkfkgjjpaaaaGreatDoor

namespace Go.Proofs.YtkcdkfkgjjpaaaaGreatDoor
open Go.RowKit
set_option linter.unusedVariables false
set_option linter.unusedSimpArgs false

def capV (v : Int) : Int := if 5000 < v then 5001 else v

theorem refCap_any (v : Int) (w : World) : Calls Tryz.prog 31 #[.int .i64 v] w fun r w' => r = .returned (.int .i64 (capV v)) ∧ w = w' := by
  by_cases h : 5000 < v
  · have q : decide (5000 < v) = true := by simp [h]
    have HV : Hid (capV v = 5001) := Lib.hid (by unfold capV; rw [if_pos h])
    go_enter Tryz.func31, Tryz.ntmps31
    go_wp2_with fail
    go_ret
    exact ⟨ret_intD (by rw [HV.out]), rfl⟩
  · have q : decide (5000 < v) = false := by simp [h]
    have HV : Hid (capV v = v) := Lib.hid (by unfold capV; rw [if_neg h])
    go_enter Tryz.func31, Tryz.ntmps31
    go_wp2_with fail
    go_ret
    exact ⟨ret_intD (by rw [HV.out]), rfl⟩

theorem capV_deg {d : Int} (h : 1 ≤ d) : capV d = ((min d.toNat 5001 : Nat) : Int) := by unfold capV; split <;> omega

theorem capV_step {e j b : Nat} (hb : b = min (Dt.bnd e j) 5001) : capV (1 + (e : Int) * ((b : Int) + 1)) = ((min (Dt.bnd e (j + 1)) 5001 : Nat) : Int) := by
  rw [← Dt.bnd_round e j b hb]
  have h : (e : Int) * ((b : Int) + 1) = ((e * (b + 1) : Nat) : Int) := by rw [Int.natCast_mul]; simp
  rw [h]
  unfold capV
  split <;> omega

set_option maxHeartbeats 1000000 in
set_option maxRecDepth 100000 in
theorem refBound_any (k d : Int) (w : World) (hk : k ≤ 9223372036854775807) : Calls Tryz.prog 11 #[.int .i64 k, .int .i64 d] w fun r w' => r = .returned (.int .i64 (Dt.bound k d)) ∧ w = w' := by
  by_cases h1 : k < 1
  · have q1 : decide (k < 1) = true := by simp [h1]
    have HV : Hid (Dt.bound k d = 1) := Lib.hid (by rw [Dt.bound, if_pos h1])
    go_enter Tryz.func11, Tryz.ntmps11
    go_wp2_with fail
    go_ret
    exact ⟨ret_intD (by rw [HV.out]; rfl), rfl⟩
  · have q1 : decide (k < 1) = false := by simp [h1]
    by_cases h2 : d < 1
    · have q2 : decide (d < 1) = true := by simp [h2]
      have HV : Hid (Dt.bound k d = 3) := Lib.hid (by rw [Dt.bound, if_neg h1, if_pos h2])
      go_enter Tryz.func11, Tryz.ntmps11
      go_wp2_with fail
      go_ret
      exact ⟨ret_intD (by rw [HV.out]; rfl), rfl⟩
    · have q2 : decide (d < 1) = false := by simp [h2]
      obtain ⟨e, he⟩ : ∃ e, e = min d.toNat 5001 := ⟨_, rfl⟩
      have HV : Hid (Dt.bound k d = min (Dt.bnd e k.toNat) 5001) := Lib.hid (by rw [Dt.bound, if_neg h1, if_neg h2, he, Dt.bnd_cut_eq])
      have HC : Hid (∀ W, Calls Tryz.prog 31 #[.int .i64 d] W fun r w' => r = .returned (.int .i64 (e : Int)) ∧ W = w') := Lib.hid (fun W => by
        have := refCap_any d W
        rw [capV_deg (by omega), ← he] at this; exact this)
      have HC2 : Hid (∀ v W, Calls Tryz.prog 31 #[.int .i64 v] W fun r w' => r = .returned (.int .i64 (capV v)) ∧ W = w') := Lib.hid refCap_any
      have he1 : 1 ≤ e := by omega
      have he2 : e ≤ 5001 := by omega
      clear he
      go_enter Tryz.func11, Tryz.ntmps11
      go_wp2_with (go_at_call 31; refine (HC.out _).mono ?_; rintro r y ⟨rfl, rfl⟩)
      go_loopw [6, 7] (fun n i wr => ∃ j b : Nat, j ≤ k.toNat ∧ i = .int .i64 (j : Int) ∧ n = .int .i64 (b : Int) ∧ Hid (b = min (Dt.bnd e j) 5001) ∧ b ≤ 5001 ∧ wr = w) (fun _ i _ => k.toNat - (intOf i).toNat)
      case atStart => exact ⟨0, 1, by omega, by simp, rfl, Lib.hid (by simp [Dt.bnd]), by omega, rfl⟩
      case round =>
        obtain ⟨j, b, hj, rfl, rfl, HB, hb, rfl⟩ := hrel
        by_cases hlt : j < k.toNat
        · have q3 : decide ((j : Int) < k) = true := by simp; omega
          by_cases hn : b < 5001
          · have q4 : decide ((b : Int) ≤ 5000) = true := by simp; omega
            have hwr : IntKind.i64.wrap ((j : Int) + 1) = (j : Int) + 1 := IntWalk.i64_in _ (by omega)
            obtain ⟨m1, m2⟩ := bd_mul (d := (e : Int)) (by omega) (by omega) hn
            have HS := Lib.hid (capV_step (j := j) HB.out)
            go_wp2_with (go_at_call 31; refine (HC2.out _ _).mono ?_; rintro r y ⟨rfl, rfl⟩)
            go_roundw
            case rel => exact ⟨j + 1, min (Dt.bnd e (j + 1)) 5001, by omega, by go_num, congrArg (Value.int .i64) HS.out, Lib.hid rfl, Nat.min_le_right _ _, trivial⟩
            case measure => simp [intOf]; omega
          · have q4 : decide ((b : Int) ≤ 5000) = false := by simp; omega
            have HE : Hid (b = Dt.bound k d) := Lib.hid (by
              have hb1 := HB.out
              have := Dt.bnd_stay (d := e) he1 (show 5001 ≤ Dt.bnd e j by omega) hj
              rw [HV.out]; omega)
            go_wp2_with fail
            go_ret
            exact ⟨ret_intD (by rw [HE.out]), rfl⟩
        · have q3 : decide ((j : Int) < k) = false := by simp; omega
          have HE : Hid (b = Dt.bound k d) := Lib.hid (by
            have hb1 := HB.out
            have e : j = k.toNat := by omega
            rw [HV.out, hb1, e])
          go_wp2_with fail
          go_ret
          exact ⟨ret_intD (by rw [HE.out]), rfl⟩

end Go.Proofs.YtkcdkfkgjjpaaaaGreatDoor
