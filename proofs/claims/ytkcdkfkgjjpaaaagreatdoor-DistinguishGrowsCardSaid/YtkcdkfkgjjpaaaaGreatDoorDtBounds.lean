/- Walks: the statements DistinguishBounds, DistinguishGrows. -/
import Derived.Test.YtkcdkfkgjjpaaaaGreatDoorDtCmp
import Derived.Test.YtkcdkfkgjjpaaaaGreatDoorDtBd
namespace Go.Proofs.YtkcdkfkgjjpaaaaGreatDoor
open Go.RowKit Go.Maps
set_option linter.unusedVariables false
set_option linter.unusedSimpArgs false

/-- What a statement leaves. -/
def GoodD (w : World) (r : Ending) (w' : World) : Prop := r = .returned (.bool true) ∧ Below w.heap.size w w'

theorem wf_le {n : Int} (h : (Lit.int .i64 n).wf = true) : n ≤ 9223372036854775807 := by
  simp only [Lit.wf, Bool.and_eq_true, decide_eq_true_eq] at h
  have e : IntKind.i64.max = 9223372036854775807 := by decide
  rw [e] at h
  exact h.2

set_option maxHeartbeats 4000000 in
set_option maxRecDepth 100000 in
theorem bounds_any (k d : Int) (hk : k ≤ 9223372036854775807) {w : World} {a b i n m : Addr} (hC : CmpSent w a b i n m) (hT : Tab w) (hG : ErrT w) :
    Calls Tryz.prog 3 #[.int .i64 k, .int .i64 d] w (GoodD w) := by
  have HA := Lib.hid (aliveD_any hT hG hC)
  obtain ⟨z, hz⟩ : ∃ z, z = Dt.bound k d := ⟨_, rfl⟩
  have HB := Lib.hid (fun W => bound_any k d W hk)
  have HR := Lib.hid (fun W => refBound_any k d W hk)
  rw [← hz] at HB HR
  clear hC hT hG hk hz
  go_enter Tryz.func3, Tryz.ntmps3
  go_wp2_with (first
    | (go_at_call 9; refine HA.out.mono ?_; rintro r w1 ⟨rfl, hu1⟩)
    | (go_at_call 10; (with_reducible refine (HB.out _).mono ?_); rintro r w2 ⟨rfl, rfl⟩)
    | (go_at_call 11; (with_reducible refine (HR.out _).mono ?_); rintro r w2 ⟨rfl, rfl⟩))
  go_ret
  exact ⟨ret_bool (by simp), hu1⟩

set_option maxHeartbeats 8000000 in
set_option maxRecDepth 100000 in
theorem grows_any (k d : Int) (hk : k ≤ 9223372036854775807) {w : World} {a b i n m : Addr} (hC : CmpSent w a b i n m) (hT : Tab w) (hG : ErrT w) :
    Calls Tryz.prog 4 #[.int .i64 k, .int .i64 d] w (GoodD w) := by
  have HA := Lib.hid (aliveD_any hT hG hC)
  obtain ⟨z, hz⟩ : ∃ z : Int, z = (Dt.bound k d : Nat) := ⟨_, rfl⟩
  have HB := Lib.hid (fun W => bound_any k d W hk)
  rw [← hz] at HB
  have z1 : 1 ≤ z := by rw [hz]; have := Dt.bound_pos k d; omega
  have z2 : z ≤ 5001 := by rw [hz]; have := Dt.bound_le k d; omega
  clear hC hT hG
  by_cases hin : k ≤ 1099511627776 ∧ d ≤ 1099511627776 ∧ -1099511627776 ≤ k ∧ -1099511627776 ≤ d
  · obtain ⟨i1, i2, i3, i4⟩ := hin
    have q1 : decide (1099511627776 < k) = false := by simp; omega
    have q2 : decide (1099511627776 < d) = false := by simp; omega
    have q3 : decide (k < -1099511627776) = false := by simp; omega
    have q4 : decide (d < -1099511627776) = false := by simp; omega
    obtain ⟨y, hy⟩ : ∃ y : Int, y = (Dt.bound (k + 1) d : Nat) := ⟨_, rfl⟩
    obtain ⟨x, hx⟩ : ∃ x : Int, x = (Dt.bound k (d + 1) : Nat) := ⟨_, rfl⟩
    have HBy := Lib.hid (fun W => bound_any (k + 1) d W (by omega))
    have HBx := Lib.hid (fun W => bound_any k (d + 1) W hk)
    rw [← hy] at HBy
    rw [← hx] at HBx
    have y1 : z ≤ y := by rw [hz, hy]; have := Dt.bound_depth k d; omega
    have y2 : y ≤ 5001 := by rw [hy]; have := Dt.bound_le (k + 1) d; omega
    have x2 : x ≤ 5001 := by rw [hx]; have := Dt.bound_le k (d + 1); omega
    have HX : Hid (¬ d < 1 → z ≤ x) := Lib.hid (fun h => by rw [hz, hx]; have := Dt.bound_degree k d h; omega)
    have HZ : Hid (¬ 1 ≤ k → z = 1) := Lib.hid (fun h => by rw [hz, Dt.bound_one k d h]; rfl)
    have p1 : decide (z < 1) = false := by simp; omega
    have p2 : decide (y < z) = false := by simp; omega
    have p3 : decide ((5001 : Int) < x) = false := by simp; omega
    have p4 : decide ((5001 : Int) < y) = false := by simp; omega
    have hcs : (decide (d < 1) = true ∨ decide (d < 1) = false ∧ decide (z ≤ x) = true) ∧ (decide (1 ≤ k) = true ∨ decide (1 ≤ k) = false ∧ z = 1) := by
      constructor
      · by_cases h : d < 1
        · exact .inl (by simpa using h)
        · exact .inr ⟨by simpa using h, by have := HX.out h; simpa using this⟩
      · by_cases h : 1 ≤ k
        · exact .inl (by simpa using h)
        · exact .inr ⟨by simpa using h, HZ.out h⟩
    clear hk hz hy hx y1 y2 x2 z1 z2 HX HZ
    obtain ⟨h1, h2⟩ := hcs
    rcases h1 with h1 | ⟨h1, h1'⟩ <;> rcases h2 with h2 | ⟨h2, h2'⟩
    all_goals
      try subst h2'
      go_enter Tryz.func4, Tryz.ntmps4
      go_wp2_with (first
        | (go_at_call 9; refine HA.out.mono ?_; rintro r w1 ⟨rfl, hu1⟩)
        | (go_at_call 10; (with_reducible refine (HB.out _).mono ?_); rintro r w2 ⟨rfl, rfl⟩)
        | (go_at_call 10; (with_reducible refine (HBy.out _).mono ?_); rintro r w2 ⟨rfl, rfl⟩)
        | (go_at_call 10; (with_reducible refine (HBx.out _).mono ?_); rintro r w2 ⟨rfl, rfl⟩))
      go_ret
      exact ⟨ret_bool (by simp), hu1⟩
  · have hcs : (decide (1099511627776 < k) = true) ∨ (decide (1099511627776 < k) = false ∧ decide (1099511627776 < d) = true) ∨ (decide (1099511627776 < k) = false ∧ decide (1099511627776 < d) = false ∧ decide (k < -1099511627776) = true) ∨ (decide (1099511627776 < k) = false ∧ decide (1099511627776 < d) = false ∧ decide (k < -1099511627776) = false ∧ decide (d < -1099511627776) = true) := by
      simp only [decide_eq_true_eq, decide_eq_false_iff_not]
      omega
    have p1 : decide ((1 : Int) ≤ z) = true := by simp; omega
    have p2 : decide (z ≤ (5001 : Int)) = true := by simp; omega
    clear hk hz hin
    rcases hcs with q1 | ⟨q1, q2⟩ | ⟨q1, q2, q3⟩ | ⟨q1, q2, q3, q4⟩
    all_goals
      go_enter Tryz.func4, Tryz.ntmps4
      go_wp2_with (first
        | (go_at_call 9; refine HA.out.mono ?_; rintro r w1 ⟨rfl, hu1⟩)
        | (go_at_call 10; (with_reducible refine (HB.out _).mono ?_); rintro r w2 ⟨rfl, rfl⟩))
      go_ret
      exact ⟨ret_bool (by simp), hu1⟩

end Go.Proofs.YtkcdkfkgjjpaaaaGreatDoor
