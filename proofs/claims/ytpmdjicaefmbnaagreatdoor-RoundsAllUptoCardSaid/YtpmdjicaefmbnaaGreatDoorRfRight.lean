/- The document's own answer: is a system right; the order of edges. -/
import Derived.Test.YtpmdjicaefmbnaaGreatDoorSyW2
namespace Go.Proofs.YtpmdjicaefmbnaaGreatDoor
open Go.RowKit
set_option linter.unusedVariables false
set_option linter.unusedSimpArgs false

set_option maxHeartbeats 8000000 in
set_option maxRecDepth 100000 in
theorem refRight_any (s : Sy.Lts) (se : Value) (w : World) (hs : Ls3 w se s.es) (hl : s.es.length ≤ maxLen) :
    Calls Tryz.prog 53 #[sysV s se] w fun r w' => r = .returned (.bool (Sy.right s)) ∧ Up w w' := by
  obtain ⟨ao, cap, g, off, rfl, ha, hc⟩ := hs
  obtain ⟨n, m, st, es⟩ := s
  simp only at ha hc hl ⊢
  unfold sysV
  simp only
  obtain ⟨k, hk⟩ : ∃ k, k = es.length := ⟨_, rfl⟩
  rw [← hk] at ha hl ⊢
  have HA := Lib.hid ha
  have HC := Lib.hid hc
  have HK := Lib.hid hk
  unfold maxLen at hl
  clear ha hc hk
  by_cases hbad : n < 0 ∨ 1000 < n ∨ m < 1 ∨ 201 < m ∨ st < 0 ∨ 0 < st ∧ n ≤ st ∨ 10000 < k
  · have HW : Hid (Sy.right ⟨n, m, st, es⟩ = false) := Lib.hid (wrong_num (by simp only; rw [← HK.out]; exact hbad))
    rw [HW.out]
    have hcs : (decide (n < 0) = true) ∨ (decide (n < 0) = false ∧ decide (1000 < n) = true) ∨ (decide (n < 0) = false ∧ decide (1000 < n) = false ∧ decide (m < 1) = true) ∨ (decide (n < 0) = false ∧ decide (1000 < n) = false ∧ decide (m < 1) = false ∧ decide (201 < m) = true) ∨
        (decide (n < 0) = false ∧ decide (1000 < n) = false ∧ decide (m < 1) = false ∧ decide (201 < m) = false ∧ 10000 < k) ∨
        (decide (n < 0) = false ∧ decide (1000 < n) = false ∧ decide (m < 1) = false ∧ decide (201 < m) = false ∧ decide ((10000 : Int) < (k : Int)) = false ∧ (n == 0) = true ∧ (st != 0) = true) ∨
        (decide (n < 0) = false ∧ decide (1000 < n) = false ∧ decide (m < 1) = false ∧ decide (201 < m) = false ∧ decide ((10000 : Int) < (k : Int)) = false ∧ (n == 0) = false ∧ decide (0 < n) = true ∧ decide (st < 0) = true) ∨
        (decide (n < 0) = false ∧ decide (1000 < n) = false ∧ decide (m < 1) = false ∧ decide (201 < m) = false ∧ decide ((10000 : Int) < (k : Int)) = false ∧ (n == 0) = false ∧ decide (0 < n) = true ∧ decide (st < 0) = false ∧ decide (n ≤ st) = true) := by
      simp only [decide_eq_true_eq, decide_eq_false_iff_not, beq_iff_eq, bne_iff_ne, beq_eq_false_iff_ne, ne_eq]
      omega
    clear hbad HW
    rcases hcs with q1 | ⟨q1, q2⟩ | ⟨q1, q2, q3⟩ | ⟨q1, q2, q3, q4⟩ | ⟨q1, q2, q3, q4, q5⟩ | ⟨q1, q2, q3, q4, q5, q6, q7⟩ | ⟨q1, q2, q3, q4, q5, q6, q7, q8⟩ | ⟨q1, q2, q3, q4, q5, q6, q7, q8, q9⟩
    all_goals
      go_enter Tryz.func53, Tryz.ntmps53
      go_wp2_with fail
      go_ret
      exact ⟨rfl, (Up.refl w).alloc _⟩
  · have hn1 : 0 ≤ n := by omega
    have hn2 : n ≤ 1000 := by omega
    have hm1 : 1 ≤ m := by omega
    have hm2 : m ≤ 201 := by omega
    have hs1 : 0 ≤ st := by omega
    have HS2 : Hid (0 < st → st < n) := Lib.hid (by omega)
    have hk2 : k ≤ 10000 := by omega
    have q1 : decide (n < 0) = false := by simp; omega
    have q2 : decide (1000 < n) = false := by simp; omega
    have q3 : decide (m < 1) = false := by simp; omega
    have q4 : decide (201 < m) = false := by simp; omega
    have q5 : decide ((10000 : Int) < (k : Int)) = false := by simp; omega
    have hcs : ((n == 0) = true ∧ (st != 0) = false ∧ decide (0 < n) = false) ∨ ((n == 0) = false ∧ decide (0 < n) = true ∧ decide (st < 0) = false ∧ decide (n ≤ st) = false) := by
      simp only [decide_eq_true_eq, decide_eq_false_iff_not, beq_iff_eq, bne_eq_false_iff_eq, beq_eq_false_iff_ne, ne_eq]
      omega
    clear hbad
    obtain ⟨A, hA⟩ : ∃ A, A = Obj.cells #[.int .i64 n, .int .i64 m, .int .i64 st, .slice ao k cap] 24 := ⟨_, rfl⟩
    obtain ⟨w3, hw3⟩ : ∃ w3, w3 = w.alloc A := ⟨_, rfl⟩
    have hu3 : Up w w3 := by rw [hw3]; exact (Up.refl w).alloc _
    have hb3 : w3.heap[w.heap.size]? = some A := by rw [hw3]; exact heap_alloc_new w A
    have HU3 := Lib.hid hu3
    have HB3 := Lib.hid hb3
    have HW3 := Lib.hid hw3
    have HAA := Lib.hid hA
    clear hu3 hb3 hw3 hA
    rcases hcs with ⟨q6, q7, q8⟩ | ⟨q6, q7, q8, q9⟩
    all_goals
      go_enter Tryz.func53, Tryz.ntmps53
      go_wp2_with fail
      go_loopw [3] (fun i wr => ∃ j : Nat, j ≤ k ∧ i = .int .i64 j ∧ Up w3 wr ∧ Hid (∀ i, i < j → Sy.okEdge ⟨n, m, 0, []⟩ (es.getD i (0, 0, 0)) = true)) (fun i _ => k - (intOf i).toNat)
      case atStart => exact ⟨0, Nat.zero_le _, rfl, by rw [HW3.out, HAA.out]; exact Up.refl _, fun i hi => by omega⟩
      case round =>
        obtain ⟨j, hj, rfl, hU, HE⟩ := hrel
        have hb := HAA.out ▸ (hU.block _ (lt_of_block' HB3.out)).trans HB3.out
        obtain ⟨⟨b0, b1, b2, b3⟩, -⟩ := (show (wr.cell? ⟨w.heap.size, 0, none⟩ = some (.int .i64 n) ∧ wr.cell? ⟨w.heap.size, 1, none⟩ = some (.int .i64 m) ∧ wr.cell? ⟨w.heap.size, 2, none⟩ = some (.int .i64 st) ∧ wr.cell? ⟨w.heap.size, 3, none⟩ = some (.slice ao k cap)) ∧ True from ⟨⟨by simp [World.cell?, hb], by simp [World.cell?, hb], by simp [World.cell?, hb], by simp [World.cell?, hb]⟩, trivial⟩)
        clear hb
        by_cases hlt : j < k
        · obtain rfl := HA.out (by omega)
          have hj' : j < es.length := by rw [← HK.out]; exact hlt
          have hcc := HC.out j hj'
          obtain ⟨x, hx⟩ : ∃ x, x = es.getD j (0, 0, 0) := ⟨_, rfl⟩
          rw [← hx] at hcc
          obtain ⟨x1, x2, x3⟩ := x
          have HEJ : Hid (es.getD j (0, 0, 0) = (x1, x2, x3)) := hx.symm
          clear hx
          obtain ⟨hc0, hc1, hc2⟩ := hcc
          simp only at hc0 hc1 hc2
          have d0 := (HU3.out.trans hU).cell hc0
          have d1 := (HU3.out.trans hU).cell hc1
          have d2 := (HU3.out.trans hU).cell hc2
          have e0 := ((Up.refl wr).alloc (.cells #[.int .i64 x1, .int .i64 x2, .int .i64 x3] 72)).cell b0
          have e1 := ((Up.refl wr).alloc (.cells #[.int .i64 x1, .int .i64 x2, .int .i64 x3] 72)).cell b1
          clear hc0 hc1 hc2
          have hcs : (decide (x1 < 0) = true) ∨ (decide (x1 < 0) = false ∧ decide (n ≤ x1) = true) ∨ (decide (x1 < 0) = false ∧ decide (n ≤ x1) = false ∧ decide (x3 < 0) = true) ∨ (decide (x1 < 0) = false ∧ decide (n ≤ x1) = false ∧ decide (x3 < 0) = false ∧ decide (n ≤ x3) = true) ∨
              (decide (x1 < 0) = false ∧ decide (n ≤ x1) = false ∧ decide (x3 < 0) = false ∧ decide (n ≤ x3) = false ∧ decide (x2 < 0) = true) ∨ (decide (x1 < 0) = false ∧ decide (n ≤ x1) = false ∧ decide (x3 < 0) = false ∧ decide (n ≤ x3) = false ∧ decide (x2 < 0) = false ∧ decide (m ≤ x2) = true) ∨
              (decide (x1 < 0) = false ∧ decide (n ≤ x1) = false ∧ decide (x3 < 0) = false ∧ decide (n ≤ x3) = false ∧ decide (x2 < 0) = false ∧ decide (m ≤ x2) = false) := by
            simp only [decide_eq_true_eq, decide_eq_false_iff_not]
            omega
          have HOK : Hid ((0 ≤ x1 ∧ 0 ≤ x3 ∧ 0 ≤ x2 ∧ x1 < n ∧ x3 < n ∧ x2 < m) → Sy.okEdge ⟨n, m, 0, []⟩ (es.getD j (0, 0, 0)) = true) := Lib.hid (fun h => by rw [HEJ.out]; unfold Sy.okEdge; simpa using h)
          have HNO : Hid (¬ (0 ≤ x1 ∧ 0 ≤ x3 ∧ 0 ≤ x2 ∧ x1 < n ∧ x3 < n ∧ x2 < m) → Sy.right ⟨n, m, st, es⟩ = false) := Lib.hid (fun h => wrong_edge (i := j) hj' (by rw [HEJ.out]; unfold Sy.okEdge; simp only [h, decide_false]))
          rcases hcs with p1 | ⟨p1, p2⟩ | ⟨p1, p2, p3⟩ | ⟨p1, p2, p3, p4⟩ | ⟨p1, p2, p3, p4, p5⟩ | ⟨p1, p2, p3, p4, p5, p6⟩ | ⟨p1, p2, p3, p4, p5, p6⟩
          rotate_left 6
          · have hok := HOK.out (by simp only [decide_eq_true_eq, decide_eq_false_iff_not] at p1 p2 p3 p4 p5 p6; omega)
            have HOKJ := Lib.hid hok
            clear hok
            go_wp2_with fail
            go_roundw
            case rel => exact ⟨j + 1, by omega, by go_num, hU.alloc _, fun i hi => by
              by_cases hij : i = j
              · subst hij; exact HOKJ.out
              · exact HE.out i (by omega)⟩
            case measure => simp [intOf]; omega
          all_goals
            have HBAD := Lib.hid (HNO.out (by simp only [decide_eq_true_eq, decide_eq_false_iff_not] at *; omega))
            go_wp2_with fail
            go_ret
            exact ⟨ret_bool HBAD.out.symm, HU3.out.trans (hU.alloc _)⟩
        · obtain rfl : j = k := by omega
          have HR := Lib.hid (right_all (s := ⟨n, m, st, es⟩) ⟨hn1, hn2, hm1, hm2, hs1, HS2.out, by simp only; rw [← HK.out]; exact hk2⟩ (fun i hi => HE.out i (by rw [HK.out]; exact hi)))
          go_wp2_with fail
          go_ret
          exact ⟨ret_bool HR.out.symm, HU3.out.trans hU⟩

set_option maxHeartbeats 4000000 in
theorem refLess_any (a b : Sy.Edge) (w : World) :
    Calls Tryz.prog 177 #[.agg #[.int .i64 a.1, .int .i64 a.2.1, .int .i64 a.2.2], .agg #[.int .i64 b.1, .int .i64 b.2.1, .int .i64 b.2.2]] w fun r w' => r = .returned (.bool (Sy.lt3 a b)) ∧ Up w w' := by
  obtain ⟨a1, a2, a3⟩ := a
  obtain ⟨b1, b2, b3⟩ := b
  simp only
  have hcs : ((a1 != b1) = true ∧ Sy.lt3 (a1, a2, a3) (b1, b2, b3) = decide (a1 < b1)) ∨ ((a1 != b1) = false ∧ (a2 != b2) = true ∧ Sy.lt3 (a1, a2, a3) (b1, b2, b3) = decide (a2 < b2)) ∨ ((a1 != b1) = false ∧ (a2 != b2) = false ∧ Sy.lt3 (a1, a2, a3) (b1, b2, b3) = decide (a3 < b3)) := by
    unfold Sy.lt3
    simp only [bne_iff_ne, bne_eq_false_iff_eq, decide_eq_decide]
    omega
  rcases hcs with ⟨q1, e⟩ | ⟨q1, q2, e⟩ | ⟨q1, q2, e⟩
  all_goals
    rw [e]
    clear e
    go_enter Tryz.func177, Tryz.ntmps177
    go_wp2_with fail
    go_ret
    exact ⟨rfl, ((Up.refl w).alloc _).alloc _⟩

end Go.Proofs.YtpmdjicaefmbnaaGreatDoor
