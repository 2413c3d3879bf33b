/- Walks over the document's own store: SameTerm. -/
import Derived.Test.YtiiieailimphnaaGreatDoorTmUp
import Derived.BigQuiet
namespace Go.Proofs.YtiiieailimphnaaGreatDoor
open Go.RowKit
set_option linter.unusedVariables false
set_option linter.unusedSimpArgs false

/-- Two terms that are alike but for the elements of their lists. -/
def headR (a b : Tm.T) : Bool := decide (a.kind = b.kind) && decide (a.label = b.label) && decide (a.a = b.a) && decide (a.b = b.b) && decide (a.names.length = b.names.length) && decide (a.pairs.length = b.pairs.length)

theorem headR_eq {a b : Tm.T} : a = b ↔ headR a b = true ∧ a.names = b.names ∧ a.pairs = b.pairs := by
  rw [term_eq]
  simp only [headR, Bool.and_eq_true, decide_eq_true_eq]
  constructor
  · rintro ⟨h1, h2, h3, h4, h5, h6⟩
    exact ⟨⟨⟨⟨⟨⟨h1, h2⟩, h3⟩, h4⟩, by rw [h5]⟩, by rw [h6]⟩, h5, h6⟩
  · rintro ⟨⟨⟨⟨⟨⟨h1, h2⟩, h3⟩, h4⟩, -⟩, -⟩, h5, h6⟩
    exact ⟨h1, h2, h3, h4, h5, h6⟩

set_option maxHeartbeats 8000000 in
set_option maxRecDepth 100000 in
theorem refsame_any {a b : Tm.T} {na pa nb pb : Value} {w : World} (ha : TRead w a na pa) (hb : TRead w b nb pb) (la : a.names.length ≤ 9223372036854775807) (lb : b.names.length ≤ 9223372036854775807) (ma : a.pairs.length ≤ 9223372036854775807) (mb : b.pairs.length ≤ 9223372036854775807) :
    Calls Tryz.prog 118 #[.agg #[.int .i64 a.kind, .int .i64 a.label, .int .i64 a.a, .int .i64 a.b, na, pa], .agg #[.int .i64 b.kind, .int .i64 b.label, .int .i64 b.a, .int .i64 b.b, nb, pb]] w (Eql w (decide (a = b))) := by
  have hEQ := headR_eq (a := a) (b := b)
  obtain ⟨o1, c1, g1, f1, rfl, ha1, hx1⟩ := ha.n
  obtain ⟨o2, c2, g2, f2, rfl, ha2, hx2⟩ := ha.p
  obtain ⟨o3, c3, g3, f3, rfl, ha3, hx3⟩ := hb.n
  obtain ⟨o4, c4, g4, f4, rfl, ha4, hx4⟩ := hb.p
  unfold IntsAt at hx1 hx3
  unfold PairsAt at hx2 hx4
  obtain ⟨hd, hhd⟩ : ∃ hd, hd = headR a b := ⟨_, rfl⟩
  rw [← hhd] at hEQ
  have hHD := hhd
  unfold headR at hHD
  obtain ⟨n1, hn1⟩ : ∃ n, n = a.names.length := ⟨_, rfl⟩
  obtain ⟨n2, hn2⟩ : ∃ n, n = a.pairs.length := ⟨_, rfl⟩
  obtain ⟨n3, hn3⟩ : ∃ n, n = b.names.length := ⟨_, rfl⟩
  obtain ⟨n4, hn4⟩ : ∃ n, n = b.pairs.length := ⟨_, rfl⟩
  rw [← hn1, ← hn2, ← hn3, ← hn4] at hHD
  rw [← hn1] at ha1 hx1 la
  rw [← hn2] at ha2 hx2 ma
  rw [← hn3] at ha3 hx3 lb
  rw [← hn4] at ha4 hx4 mb
  rw [← hn1, ← hn2, ← hn3, ← hn4]
  have HEQ := Lib.hid hEQ
  have HHD := Lib.hid hHD
  have HX1 := Lib.hid hx1
  have HX2 := Lib.hid hx2
  have HX3 := Lib.hid hx3
  have HX4 := Lib.hid hx4
  have HA1 := Lib.hid ha1
  have HA2 := Lib.hid ha2
  have HA3 := Lib.hid ha3
  have HA4 := Lib.hid ha4
  have HN1 := Lib.hid hn1
  have HN2 := Lib.hid hn2
  have HN3 := Lib.hid hn3
  have HN4 := Lib.hid hn4
  obtain ⟨h1, h2⟩ := two_up (w := w) (A := .cells #[.int .i64 a.kind, .int .i64 a.label, .int .i64 a.a, .int .i64 a.b, .slice o1 n1 c1, .slice o2 n2 c2] 35 (0, 0)) (B := .cells #[.int .i64 b.kind, .int .i64 b.label, .int .i64 b.a, .int .i64 b.b, .slice o3 n3 c3, .slice o4 n4 c4] 35 (0, 0)) (Up.refl _)
  have hU0 := ((Up.refl w).alloc (.cells #[.int .i64 a.kind, .int .i64 a.label, .int .i64 a.a, .int .i64 a.b, .slice o1 n1 c1, .slice o2 n2 c2] 35 (0, 0))).alloc (.cells #[.int .i64 b.kind, .int .i64 b.label, .int .i64 b.a, .int .i64 b.b, .slice o3 n3 c3, .slice o4 n4 c4] 35 (0, 0))
  clear ha hb hEQ hHD hx1 hx2 hx3 hx4 ha1 ha2 ha3 ha4 hn1 hn2 hn3 hn4 hhd
  go_enter Tryz.func118, Tryz.ntmps118
  go_upto_region 1 with fail
  obtain ⟨w2, hw2⟩ : ∃ x, (w.alloc (.cells #[.int .i64 a.kind, .int .i64 a.label, .int .i64 a.a, .int .i64 a.b, .slice o1 n1 c1, .slice o2 n2 c2] 35 (0, 0))).alloc (.cells #[.int .i64 b.kind, .int .i64 b.label, .int .i64 b.a, .int .i64 b.b, .slice o3 n3 c3, .slice o4 n4 c4] 35 (0, 0)) = x := ⟨_, rfl⟩
  rw [hw2] at h1 h2 hU0 ⊢
  obtain ⟨k1, hk1⟩ : ∃ k, k = w.heap.size := ⟨_, rfl⟩
  obtain ⟨k2, hk2⟩ : ∃ k, k = w.heap.size + 1 := ⟨_, rfl⟩
  rw [← hk2] at h2 ⊢
  rw [← hk1] at h1 ⊢
  have HK : Hid (∀ W, Up w2 W → W.heap[k1]? = some (.cells #[.int .i64 a.kind, .int .i64 a.label, .int .i64 a.a, .int .i64 a.b, .slice o1 n1 c1, .slice o2 n2 c2] 35 (0, 0)) ∧ W.heap[k2]? = some (.cells #[.int .i64 b.kind, .int .i64 b.label, .int .i64 b.a, .int .i64 b.b, .slice o3 n3 c3, .slice o4 n4 c4] 35 (0, 0))) := Lib.hid (fun W hW => ⟨(hW.block _ (lt_of_block' h1)).trans h1, (hW.block _ (lt_of_block' h2)).trans h2⟩)
  have HU0 := Lib.hid hU0
  clear hw2 hk1 hk2 hU0
  go_cut [50] (BoolUp (!hd) w2)
  case first =>
    as_aux_lemma =>
      obtain ⟨a0, a1, a2, a3, a4, a5, -⟩ := six_cells h1
      obtain ⟨b0, b1, b2, b3, b4, b5, -⟩ := six_cells h2
      obtain ⟨t1, r1⟩ : ∃ t, (a.kind != b.kind) = t := ⟨_, rfl⟩
      obtain ⟨t2, r2⟩ : ∃ t, (a.label != b.label) = t := ⟨_, rfl⟩
      obtain ⟨t3, r3⟩ : ∃ t, (a.a != b.a) = t := ⟨_, rfl⟩
      obtain ⟨t4, r4⟩ : ∃ t, (a.b != b.b) = t := ⟨_, rfl⟩
      obtain ⟨t5, r5⟩ : ∃ t, ((n1 : Int) != (n3 : Int)) = t := ⟨_, rfl⟩
      obtain ⟨t6, r6⟩ : ∃ t, ((n2 : Int) != (n4 : Int)) = t := ⟨_, rfl⟩
      have HT : Hid (hd = (!t1 && !t2 && !t3 && !t4 && !t5 && !t6)) := Lib.hid (by
        rw [HHD.out, ← r1, ← r2, ← r3, ← r4, ← r5, ← r6]
        simp [bne, Int.natCast_inj, Bool.beq_eq_decide_eq])
      go_wp2_with fail
      all_goals go_meet
      all_goals refine ⟨?_, Up.refl _⟩
      all_goals (rw [HT.out]; simp_all; done)
  case rest =>
  obtain ⟨rfl, hU3⟩ := hcut
  obtain ⟨w3, rfl⟩ : ∃ x, x = wc := ⟨_, rfl⟩
  have HU3 := Lib.hid (HU0.out.trans hU3)
  have HK3 : Hid (∀ W, Up w3 W → W.heap[k1]? = some (.cells #[.int .i64 a.kind, .int .i64 a.label, .int .i64 a.a, .int .i64 a.b, .slice o1 n1 c1, .slice o2 n2 c2] 35 (0, 0)) ∧ W.heap[k2]? = some (.cells #[.int .i64 b.kind, .int .i64 b.label, .int .i64 b.a, .int .i64 b.b, .slice o3 n3 c3, .slice o4 n4 c4] 35 (0, 0))) := Lib.hid (fun W hW => HK.out W (hU3.trans hW))
  clear h1 h2 HK HU0 hU3
  cases hd
  · have HQ : Hid (false = decide (a = b)) := Lib.hid (by
      by_cases hab : a = b
      · have := (HEQ.out.1 hab).1; cases this
      · rw [decide_eq_false hab])
    go_wp2_with fail
    go_ret
    exact ⟨ret_bool HQ.out, HU3.out⟩
  have hl : n1 = n3 ∧ n2 = n4 := by
    have := HHD.out
    simp at this
    exact ⟨this.1.2, this.2⟩
  obtain ⟨rfl, rfl⟩ := hl
  clear HHD
  go_wp2_with fail
  go_loopw [5] (fun i wr => ∃ j : Nat, j ≤ n1 ∧ i = .int .i64 j ∧ Up w3 wr ∧ Hid (∀ k, k < j → a.names.getD k 0 = b.names.getD k 0)) (fun i _ => n1 - (intOf i).toNat)
  case atStart => exact ⟨0, Nat.zero_le _, rfl, Up.refl _, fun k hk => by omega⟩
  case round =>
    obtain ⟨j, hj, rfl, hU, HE⟩ := hrel
    obtain ⟨a0, a1, a2, a3, a4, a5, -⟩ := six_cells (HK3.out _ hU).1
    obtain ⟨b0, b1, b2, b3, b4, b5, -⟩ := six_cells (HK3.out _ hU).2
    by_cases hlt : j < n1
    · obtain rfl := HA1.out (by omega)
      obtain rfl := HA3.out (by omega)
      have cx := (HU3.out.trans hU).cell (HX1.out j hlt)
      have cy := (HU3.out.trans hU).cell (HX3.out j hlt)
      obtain ⟨x, hxe⟩ : ∃ x, x = a.names.getD j 0 := ⟨_, rfl⟩
      obtain ⟨y, hye⟩ : ∃ y, y = b.names.getD j 0 := ⟨_, rfl⟩
      rw [← hxe] at cx
      rw [← hye] at cy
      have HXE := Lib.hid hxe
      have HYE := Lib.hid hye
      clear hxe hye
      by_cases hxy : x = y
      · have HQ : Hid (a.names.getD j 0 = b.names.getD j 0) := Lib.hid (by rw [← HXE.out, ← HYE.out]; exact hxy)
        subst hxy
        have q2 : (x != x) = false := by simp
        go_wp2_with fail
        go_quiet (fail)
        go_wp2_with fail
        go_roundw
        case rel => exact ⟨j + 1, by omega, by go_num, hU.drewN _, fun k hk => by
          by_cases hkj : k = j
          · rw [hkj]; exact HQ.out
          · exact HE.out k (by omega)⟩
        case measure => simp [intOf] <;> omega
      · have HQ : Hid (false = decide (a = b)) := Lib.hid (by rw [decide_eq_false (fun e => hxy (by rw [HXE.out, HYE.out, e]))])
        have q2 : (x != y) = true := by simpa using hxy
        clear hxy
        go_wp2_with fail
        go_quiet (fail)
        go_wp2_with fail
        go_ret
        exact ⟨ret_bool HQ.out, (HU3.out.trans hU).drewN _⟩
    · obtain rfl : n1 = j := by omega
      have HNE : Hid (a.names = b.names) := Lib.hid (take_all 0 HN1.out.symm HN3.out.symm HE.out)
      have HUU := Lib.hid hU
      go_wp2_with fail
      clear a0 a1 a2 a3 a4 a5 b0 b1 b2 b3 b4 b5 HE HX1 HX3 HA1 HA3
      go_loopw [6] (fun i w5 => ∃ j : Nat, j ≤ n2 ∧ i = .int .i64 j ∧ Up wr w5 ∧ Hid (∀ k, k < j → a.pairs.getD k (0, 0) = b.pairs.getD k (0, 0))) (fun i _ => n2 - (intOf i).toNat)
      case atStart => exact ⟨0, Nat.zero_le _, rfl, Up.refl _, fun k hk => by omega⟩
      case round =>
        obtain ⟨j, hj, rfl, hU5, HE⟩ := hrel
        rename_i w5 _ _
        have hUx := HUU.out.trans hU5
        obtain ⟨a0, a1, a2, a3, a4, a5, -⟩ := six_cells (HK3.out _ hUx).1
        obtain ⟨b0, b1, b2, b3, b4, b5, -⟩ := six_cells (HK3.out _ hUx).2
        by_cases hlt : j < n2
        · obtain rfl := HA2.out (by omega)
          obtain rfl := HA4.out (by omega)
          have cx := HX2.out j hlt
          have cy := HX4.out j hlt
          have cx0 := (HU3.out.trans hUx).cell cx.1
          have cx1 := (HU3.out.trans hUx).cell cx.2
          have cy0 := (HU3.out.trans hUx).cell cy.1
          have cy1 := (HU3.out.trans hUx).cell cy.2
          obtain ⟨x0, hx0⟩ : ∃ x, x = (a.pairs.getD j (0, 0)).1 := ⟨_, rfl⟩
          obtain ⟨x1, hx1⟩ : ∃ x, x = (a.pairs.getD j (0, 0)).2 := ⟨_, rfl⟩
          obtain ⟨y0, hy0⟩ : ∃ x, x = (b.pairs.getD j (0, 0)).1 := ⟨_, rfl⟩
          obtain ⟨y1, hy1⟩ : ∃ x, x = (b.pairs.getD j (0, 0)).2 := ⟨_, rfl⟩
          rw [← hx0] at cx0
          rw [← hx1] at cx1
          rw [← hy0] at cy0
          rw [← hy1] at cy1
          have HX0 := Lib.hid hx0
          have HX1 := Lib.hid hx1
          have HY0 := Lib.hid hy0
          have HY1 := Lib.hid hy1
          have he := pair_eq x0 x1 y0 y1
          have HUX := Lib.hid hU5
          clear hx0 hx1 hy0 hy1 cx cy hUx
          by_cases hxy : (x0, x1) = (y0, y1)
          · have HQ : Hid (a.pairs.getD j (0, 0) = b.pairs.getD j (0, 0)) := Lib.hid (by have h1 := Prod.mk.inj hxy; exact Prod.ext (by rw [← HX0.out, ← HY0.out]; exact h1.1) (by rw [← HX1.out, ← HY1.out]; exact h1.2))
            obtain ⟨rfl, rfl⟩ := Prod.mk.inj hxy
            simp only [beq_self_eq_true, Bool.and_self] at he
            clear hxy
            go_wp2_with fail
            go_quiet (fail)
            go_wp2_with fail
            go_roundw
            case rel => exact ⟨j + 1, by omega, by go_num, HUX.out.drewN _, fun k hk => by
              by_cases hkj : k = j
              · rw [hkj]; exact HQ.out
              · exact HE.out k (by omega)⟩
            case measure => simp [intOf] <;> omega
          · have HQ : Hid (false = decide (a = b)) := Lib.hid (by rw [decide_eq_false (fun e => hxy (by rw [HX0.out, HX1.out, HY0.out, HY1.out, e]))])
            have hb : (x0 == y0 && x1 == y1) = false := by
              cases hq : (x0 == y0 && x1 == y1)
              · rfl
              · simp only [Bool.and_eq_true, beq_iff_eq] at hq
                exact absurd (by rw [hq.1, hq.2]) hxy
            rw [hb] at he
            clear hb hxy
            go_wp2_with fail
            go_quiet (fail)
            go_wp2_with fail
            go_ret
            exact ⟨ret_bool HQ.out, ((HU3.out.trans HUU.out).trans HUX.out).drewN _⟩
        · obtain rfl : n2 = j := by omega
          have HQ : Hid (true = decide (a = b)) := Lib.hid (by rw [decide_eq_true (HEQ.out.2 ⟨by first | trivial | rfl, HNE.out, take_all (0, 0) HN2.out.symm HN4.out.symm HE.out⟩)])
          clear a0 a1 a2 a3 a4 a5 b0 b1 b2 b3 b4 b5
          have HUX := Lib.hid hUx
          clear hUx hU5
          obtain ⟨a0, a1, a2, a3, a4, a5, -⟩ := six_cells (HK3.out _ HUX.out).1
          go_wp2_with fail
          go_ret
          exact ⟨ret_bool HQ.out, HU3.out.trans HUX.out⟩

end Go.Proofs.YtiiieailimphnaaGreatDoor
