/- Walks over the document's own store: sum. -/
import Derived.Test.YtiiieailimphnaaGreatDoorTmR1
namespace Go.Proofs.YtiiieailimphnaaGreatDoor
open Go.RowKit
set_option linter.unusedVariables false
set_option linter.unusedSimpArgs false

namespace Tm
def sumN (l : List Int) : Nat → Int
  | 0 => 0
  | j + 1 => sumN l j + 3 * l.getD j 0
def sumP (l : List (Int × Int)) : Nat → Int
  | 0 => 0
  | j + 1 => sumP l j + 5 * (l.getD j (0, 0)).1 + 11 * (l.getD j (0, 0)).2
def sum0 (t : T) : Int := t.kind + 31 * t.a + 17 * t.b + 7 * t.label
/-- The row in which a term is kept. -/
def refSum (t : T) : Int := (sum0 t + sumN t.names t.names.length + sumP t.pairs t.pairs.length) % 512

theorem refSum_lt (t : T) : 0 ≤ refSum t ∧ refSum t < 512 := by unfold refSum; omega

theorem sumN_le {l : List Int} (h : ∀ x ∈ l, 0 ≤ x ∧ x < 100) : ∀ j, j ≤ l.length → 0 ≤ sumN l j ∧ sumN l j ≤ 300 * (j : Int) := by
  intro j
  induction j with
  | zero => intro _; simp [sumN]
  | succ j ih =>
    intro hj
    have := ih (by omega)
    have hx := h (l.getD j 0) (by simp [List.getD, show j < l.length by omega])
    simp only [sumN]; omega

theorem sumP_le {l : List (Int × Int)} (h : ∀ p ∈ l, 0 ≤ p.1 ∧ p.1 < 100 ∧ 0 ≤ p.2 ∧ p.2 < 100) : ∀ j, j ≤ l.length → 0 ≤ sumP l j ∧ sumP l j ≤ 1600 * (j : Int) := by
  intro j
  induction j with
  | zero => intro _; simp [sumP]
  | succ j ih =>
    intro hj
    have := ih (by omega)
    have hx := h (l.getD j (0, 0)) (by simp [List.getD, show j < l.length by omega])
    simp only [sumP]; omega
end Tm

theorem wrap_small {x : Int} (h : 0 ≤ x ∧ x ≤ 10000000) : IntKind.i64.wrap x = x := IntWalk.i64_in _ (by omega)

/-- What sum leaves. -/
def RefSum (t : Tm.T) (w : World) (r : Ending) (w' : World) : Prop := r = .returned (.int .i64 (Tm.refSum t)) ∧ Up w w'

set_option maxHeartbeats 8000000 in
set_option maxRecDepth 100000 in
theorem refsum_any {t : Tm.T} {nv pv : Value} {w : World} {n : Nat} (h : TRead w t nv pv) (hm : t.may n = true) (hn : n ≤ 1000) :
    Calls Tryz.prog 86 #[.agg #[.int .i64 t.kind, .int .i64 t.label, .int .i64 t.a, .int .i64 t.b, nv, pv]] w (RefSum t w) := by
  obtain ⟨b1, b2, b3, b4, b5, b6, b7, b8, b9, b10, b11, b12⟩ := Tm.may_small hm hn
  obtain ⟨o1, c1, g1, f1, rfl, ha1, hx1⟩ := h.n
  obtain ⟨o2, c2, g2, f2, rfl, ha2, hx2⟩ := h.p
  unfold IntsAt at hx1
  unfold PairsAt at hx2
  have HSN := Lib.hid (Tm.sumN_le b11)
  have HSP := Lib.hid (Tm.sumP_le b12)
  have HMN : Hid (∀ j, j < t.names.length → 0 ≤ t.names.getD j 0 ∧ t.names.getD j 0 < 100) := Lib.hid (fun j hj => b11 _ (by simp [List.getD, hj]))
  have HMP : Hid (∀ j, j < t.pairs.length → 0 ≤ (t.pairs.getD j (0, 0)).1 ∧ (t.pairs.getD j (0, 0)).1 < 100 ∧ 0 ≤ (t.pairs.getD j (0, 0)).2 ∧ (t.pairs.getD j (0, 0)).2 < 100) := Lib.hid (fun j hj => b12 _ (by simp [List.getD, hj]))
  obtain ⟨z, hz⟩ : ∃ z, z = Tm.refSum t := ⟨_, rfl⟩
  obtain ⟨s0, hs0⟩ : ∃ s, s = Tm.sum0 t := ⟨_, rfl⟩
  have HZ : Hid (z = (s0 + Tm.sumN t.names t.names.length + Tm.sumP t.pairs t.pairs.length) % 512) := Lib.hid (by rw [hz, Tm.refSum, hs0])
  have HZZ := Lib.hid hz
  obtain ⟨n1, hn1⟩ : ∃ n, n = t.names.length := ⟨_, rfl⟩
  obtain ⟨n2, hn2⟩ : ∃ n, n = t.pairs.length := ⟨_, rfl⟩
  have HN1 := Lib.hid hn1
  have HN2 := Lib.hid hn2
  rw [← hn1] at ha1 hx1 b9
  rw [← hn2] at ha2 hx2 b10
  rw [← hn1, ← hn2]
  have HX1 := Lib.hid hx1
  have HX2 := Lib.hid hx2
  have HA1 := Lib.hid ha1
  have HA2 := Lib.hid ha2
  obtain ⟨k, hk⟩ : ∃ x, x = t.kind := ⟨_, rfl⟩
  obtain ⟨la, hla⟩ : ∃ x, x = t.label := ⟨_, rfl⟩
  obtain ⟨a, hta⟩ : ∃ x, x = t.a := ⟨_, rfl⟩
  obtain ⟨b, htb⟩ : ∃ x, x = t.b := ⟨_, rfl⟩
  have hs : k + 31 * a + 17 * b + 7 * la = s0 := by rw [hs0, Tm.sum0, hk, hla, hta, htb]
  rw [← hk] at b1 b2
  rw [← hla] at b3 b4
  rw [← hta] at b5 b6
  rw [← htb] at b7 b8
  rw [← hk, ← hla, ← hta, ← htb]
  have q1 : IntKind.i64.wrap (31 * a) = 31 * a := wrap_small (by omega)
  have q2 : IntKind.i64.wrap (k + 31 * a) = k + 31 * a := wrap_small (by omega)
  have q3 : IntKind.i64.wrap (17 * b) = 17 * b := wrap_small (by omega)
  have q4 : IntKind.i64.wrap (k + 31 * a + 17 * b) = k + 31 * a + 17 * b := wrap_small (by omega)
  have q5 : IntKind.i64.wrap (7 * la) = 7 * la := wrap_small (by omega)
  have q6 : IntKind.i64.wrap (k + 31 * a + 17 * b + 7 * la) = s0 := by rw [hs]; exact wrap_small (by omega)
  have hs1 : 0 ≤ s0 ∧ s0 ≤ 100000 := by omega
  have hnew := heap_alloc_new w (.cells #[.int .i64 k, .int .i64 la, .int .i64 a, .int .i64 b, .slice o1 n1 c1, .slice o2 n2 c2] 35 (0, 0))
  have HU0 := Lib.hid ((Up.refl w).alloc (.cells #[.int .i64 k, .int .i64 la, .int .i64 a, .int .i64 b, .slice o1 n1 c1, .slice o2 n2 c2] 35 (0, 0)))
  obtain ⟨w2, hw2⟩ : ∃ x, w.alloc (.cells #[.int .i64 k, .int .i64 la, .int .i64 a, .int .i64 b, .slice o1 n1 c1, .slice o2 n2 c2] 35 (0, 0)) = x := ⟨_, rfl⟩
  have HW2 := Lib.hid hw2
  rw [hw2] at hnew HU0
  obtain ⟨K, hK⟩ : ∃ k, k = w.heap.size := ⟨_, rfl⟩
  rw [← hK] at hnew
  have HK := Lib.hid hK
  have HC : Hid (∀ W, Up w2 W → W.heap[K]? = some (.cells #[.int .i64 k, .int .i64 la, .int .i64 a, .int .i64 b, .slice o1 n1 c1, .slice o2 n2 c2] 35 (0, 0))) := Lib.hid (fun W hW => (hW.block _ (lt_of_block' hnew)).trans hnew)
  clear h hm hn hx1 hx2 ha1 ha2 b11 b12 hs0 hz hn1 hn2 hk hla hta htb hs hnew hw2 hK
  go_enter Tryz.func86, Tryz.ntmps86
  go_wp2_with fail
  rw [HW2.out, ← HK.out]
  clear q1 q2 q3 q4 q5 q6
  go_loopw [3, 4] (fun v i wr => ∃ j : Nat, j ≤ n1 ∧ i = .int .i64 j ∧ v = .int .i64 (s0 + Tm.sumN t.names j) ∧ Up w2 wr) (fun _ i _ => n1 - (intOf i).toNat)
  case atStart => exact ⟨0, Nat.zero_le _, rfl, by simp [Tm.sumN], Up.refl _⟩
  case round =>
    obtain ⟨j, hj, rfl, rfl, hU⟩ := hrel
    obtain ⟨d0, d1, d2, d3, d4, d5, -⟩ := six_cells (HC.out _ hU)
    obtain ⟨s, hs⟩ : ∃ s, s = s0 + Tm.sumN t.names j := ⟨_, rfl⟩
    have hs2 : 0 ≤ s ∧ s ≤ 200000 := by have := HSN.out j (by rw [← HN1.out]; exact hj); omega
    rw [← hs]
    have HS := Lib.hid hs
    clear hs
    by_cases hlt : j < n1
    · obtain rfl := HA1.out (by omega)
      have cx := (HU0.out.trans hU).cell (HX1.out j hlt)
      obtain ⟨x, hx⟩ : ∃ x, x = t.names.getD j 0 := ⟨_, rfl⟩
      rw [← hx] at cx
      have hx2 : 0 ≤ x ∧ x < 100 := by rw [hx]; exact HMN.out j (by rw [← HN1.out]; exact hlt)
      have HXE := Lib.hid hx
      have q1 : IntKind.i64.wrap (3 * x) = 3 * x := wrap_small (by omega)
      have q2 : IntKind.i64.wrap (s + 3 * x) = s + 3 * x := wrap_small (by omega)
      clear hx
      go_wp2_with fail
      go_roundw
      case rel => exact ⟨j + 1, by omega, by go_num, by rw [HS.out, HXE.out, Tm.sumN, Int.add_assoc], hU⟩
      case measure => simp [intOf] <;> omega
    · obtain rfl : n1 = j := by omega
      have HU := Lib.hid hU
      clear hU
      go_wp2_with fail
      clear d0 d1 d2 d3 d4 d5
      go_loopw [3, 5] (fun v i w5 => ∃ j : Nat, j ≤ n2 ∧ i = .int .i64 j ∧ v = .int .i64 (s + Tm.sumP t.pairs j) ∧ Up wr w5) (fun _ i _ => n2 - (intOf i).toNat)
      case atStart => exact ⟨0, Nat.zero_le _, rfl, by simp [Tm.sumP], Up.refl _⟩
      case round =>
        obtain ⟨j, hj, rfl, rfl, hU5⟩ := hrel
        have hUx := HU.out.trans hU5
        obtain ⟨d0, d1, d2, d3, d4, d5, -⟩ := six_cells (HC.out _ hUx)
        obtain ⟨s', hs'⟩ : ∃ s', s' = s + Tm.sumP t.pairs j := ⟨_, rfl⟩
        have hs3 : 0 ≤ s' ∧ s' ≤ 400000 := by have := HSP.out j (by rw [← HN2.out]; exact hj); omega
        rw [← hs']
        have HS' := Lib.hid hs'
        have HUX := Lib.hid hUx
        have HU5 := Lib.hid hU5
        clear hs'
        by_cases hlt : j < n2
        · obtain rfl := HA2.out (by omega)
          have cx := (HU0.out.trans hUx).cell (HX2.out j hlt).1
          have cy := (HU0.out.trans hUx).cell (HX2.out j hlt).2
          obtain ⟨x, hx⟩ : ∃ x, x = (t.pairs.getD j (0, 0)).1 := ⟨_, rfl⟩
          obtain ⟨y, hy⟩ : ∃ x, x = (t.pairs.getD j (0, 0)).2 := ⟨_, rfl⟩
          rw [← hx] at cx
          rw [← hy] at cy
          have hxy : 0 ≤ x ∧ x < 100 ∧ 0 ≤ y ∧ y < 100 := by rw [hx, hy]; exact HMP.out j (by rw [← HN2.out]; exact hlt)
          have HXE := Lib.hid hx
          have HYE := Lib.hid hy
          have q1 : IntKind.i64.wrap (5 * x) = 5 * x := wrap_small (by omega)
          have q2 : IntKind.i64.wrap (s' + 5 * x) = s' + 5 * x := wrap_small (by omega)
          have q3 : IntKind.i64.wrap (11 * y) = 11 * y := wrap_small (by omega)
          have q4 : IntKind.i64.wrap (s' + 5 * x + 11 * y) = s' + 5 * x + 11 * y := wrap_small (by omega)
          clear hx hy hUx hU5
          go_wp2_with fail
          go_quiet (fail)
          go_wp2_with fail
          go_roundw
          case rel => exact ⟨j + 1, by omega, by go_num, by rw [HS'.out, HXE.out, HYE.out, Tm.sumP]; congr 1; omega, HU5.out.drewN _⟩
          case measure => simp [intOf] <;> omega
        · obtain rfl : n2 = j := by omega
          have HF : Hid (s' % 512 = z) := Lib.hid (by rw [HZ.out, HS'.out, HS.out, ← HN1.out, ← HN2.out])
          have hf : Int.tmod s' 512 = z := by rw [Int.tmod_eq_emod_of_nonneg hs3.1]; exact HF.out
          have hz2 : 0 ≤ z ∧ z < 512 := by rw [HZZ.out]; exact Tm.refSum_lt t
          have qz : IntKind.i64.wrap z = z := wrap_small (by omega)
          clear hUx hU5
          go_wp2_with fail
          go_ret
          exact ⟨ret_int (by first | exact HZZ.out | (rw [← HZZ.out]; simp_all) ), HU0.out.trans HUX.out⟩

end Go.Proofs.YtiiieailimphnaaGreatDoor
