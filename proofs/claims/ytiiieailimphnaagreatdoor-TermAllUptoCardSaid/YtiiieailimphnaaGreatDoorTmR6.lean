/- Walks over the document's own store: Find. -/
import Derived.Test.YtiiieailimphnaaGreatDoorTmRMem
import Derived.Test.YtiiieailimphnaaGreatDoorTmR4
import Derived.Test.YtiiieailimphnaaGreatDoorQuiet
namespace Go.Proofs.YtiiieailimphnaaGreatDoor
open Go.RowKit
set_option linter.unusedVariables false
set_option linter.unusedSimpArgs false

/-- What Find leaves. -/
def FindDone (s : List Tm.T) (t : Tm.T) (w : World) (r : Ending) (w' : World) : Prop := r = .returned (.int .i64 (Tm.find s t)) ∧ Up w w'

theorem ints_row {w : World} {v : Value} {l : List Nat} (h : w.ownsRow 0 3 1 v l.length (ints l)) : ∃ g cap ao, v = .slice ao l.length cap ∧ (0 < l.length → ao = some ⟨g, 0, none⟩) ∧ ∀ i, i < l.length → w.cell? ⟨g, i, none⟩ = some (.int .i64 (l.getD i 0 : Nat)) := by
  rcases owns_cases h with ⟨rfl, h0, _⟩ | ⟨g, cap, rfl, hr, _⟩
  · exact ⟨0, 0, none, by rw [h0], fun h => by omega, fun i hi => by omega⟩
  · exact ⟨g, cap, _, rfl, fun _ => rfl, fun i hi => hr.cell (ints_get hi)⟩

set_option maxHeartbeats 8000000 in
set_option maxRecDepth 100000 in
theorem find_any {F : Nat → Prop} {s : List Tm.T} {t : Tm.T} {nv pv : Value} {w : World} {R : Nat} (hR : Rs F w R s) (h : TRead w t nv pv) (hm : t.may s.length = true) (hs : s.length ≤ 1000) :
    Calls Tryz.prog 85 #[.pointer (some ⟨R, 0, none⟩), .agg #[.int .i64 t.kind, .int .i64 t.label, .int .i64 t.a, .int .i64 t.b, nv, pv]] w (FindDone s t w) := by
  have hsm := Tm.may_small hm hs
  obtain ⟨zn, hzn⟩ : ∃ k : Nat, Tm.refSum t = (k : Int) := ⟨(Tm.refSum t).toNat, by have := (Tm.refSum_lt t).1; omega⟩
  have hz : zn < 512 := by have := (Tm.refSum_lt t).2; omega
  obtain ⟨ao, cap, c0, cr, ct⟩ := hR.at
  obtain ⟨vr, cv, hrow⟩ := cr zn hz
  obtain ⟨g2, cap2, ao2, rfl, ha2, hx2⟩ := ints_row hrow
  have hinv := hR.inv
  have HFA := Lib.hid (fun (i : Nat) (hi : i < s.length) => Tm.find_at hinv.nd hi)
  have HFN := Lib.hid (Tm.find_not (s := s) hzn)
  have HMEM : Hid (∀ i, i < (Tm.rowOf s zn).length → (Tm.rowOf s zn).getD i 0 < s.length) := Lib.hid (fun i hi => (Tm.rowOf_mem.1 (show (Tm.rowOf s zn).getD i 0 ∈ Tm.rowOf s zn by simp [List.getD, hi])).1)
  obtain ⟨o1, q1, g4, f1, e1, -⟩ := h.n
  obtain ⟨o2, q2, g5, f2, e2, -⟩ := h.p
  subst e1 e2
  have HSUM : Hid (∀ W, Up w W → Calls Tryz.prog 86 #[.agg #[.int .i64 t.kind, .int .i64 t.label, .int .i64 t.a, .int .i64 t.b, .slice o1 t.names.length q1, .slice o2 t.pairs.length q2]] W fun r w' => r = .returned (.int .i64 (zn : Nat)) ∧ Up W w') := Lib.hid (fun W hW => (refsum_any (h.up hW) hm hs).mono fun r w' ⟨e, hu⟩ => ⟨by rw [e, hzn], hu⟩)
  have HSAME : Hid (∀ (i : Nat) (hi : i < s.length), ∃ g p1 k1 p2 k2, ao = some ⟨g, 0, none⟩ ∧ ∀ W, Up w W → (∀ j u, j < 6 → (tcells (s.getD i Tm.nilT) (.slice p1 (s.getD i Tm.nilT).names.length k1) (.slice p2 (s.getD i Tm.nilT).pairs.length k2))[j]? = some u → W.cell? ⟨g, i * 6 + j, none⟩ = some u) ∧
      Calls Tryz.prog 118 #[.agg #[.int .i64 (s.getD i Tm.nilT).kind, .int .i64 (s.getD i Tm.nilT).label, .int .i64 (s.getD i Tm.nilT).a, .int .i64 (s.getD i Tm.nilT).b, .slice p1 (s.getD i Tm.nilT).names.length k1, .slice p2 (s.getD i Tm.nilT).pairs.length k2], .agg #[.int .i64 t.kind, .int .i64 t.label, .int .i64 t.a, .int .i64 t.b, .slice o1 t.names.length q1, .slice o2 t.pairs.length q2]] W (Eql W (decide (s.getD i Tm.nilT = t)))) := Lib.hid (fun i hi => by
    obtain ⟨g, nv, pv, e, hc, ho⟩ := ct i hi
    obtain ⟨p1, k1, rfl⟩ := owns_shape' ho.n
    obtain ⟨p2, k2, rfl⟩ := owns_shape' ho.p
    have hsi := Tm.may_small (hinv.may_mem (show s.getD i Tm.nilT ∈ s by simp [List.getD, hi])) hs
    exact ⟨g, p1, k1, p2, k2, e, fun W hW => ⟨fun j u hj hu => hW.cell (hc j u hj hu), refsame_any (ho.read.up hW) (h.up hW) (by omega) (by omega) (by omega) (by omega)⟩⟩)
  obtain ⟨m, hmm⟩ : ∃ m, m = (Tm.rowOf s zn).length := ⟨_, rfl⟩
  have hml : m ≤ 1000 := by rw [hmm]; exact Nat.le_trans (Tm.rowOf_len s zn) hs
  rw [← hmm] at ha2 hx2 HMEM cv
  have HMM := Lib.hid hmm
  have HROW : Hid (∀ i, i ∈ Tm.rowOf s zn → ∃ j, j < m ∧ (Tm.rowOf s zn).getD j 0 = i) := Lib.hid (fun i hi => by
    obtain ⟨j, hj, e⟩ := List.mem_iff_getElem.1 hi
    exact ⟨j, by rw [hmm]; exact hj, by simp [List.getD, hj, e]⟩)
  obtain ⟨n, hn⟩ : ∃ n, n = s.length := ⟨_, rfl⟩
  rw [← hn] at c0 hs
  have HN := Lib.hid hn
  have HA2 := Lib.hid ha2
  obtain ⟨l1, hl1⟩ : ∃ l, l = t.names.length := ⟨_, rfl⟩
  obtain ⟨l2, hl2⟩ : ∃ l, l = t.pairs.length := ⟨_, rfl⟩
  rw [← hl1, ← hl2] at HSUM HSAME ⊢
  have hU1 := (Up.refl w).alloc (.cells #[.int .i64 t.kind, .int .i64 t.label, .int .i64 t.a, .int .i64 t.b, .slice o1 l1 q1, .slice o2 l2 q2] 35 (0, 0))
  have hnew := heap_alloc_new w (.cells #[.int .i64 t.kind, .int .i64 t.label, .int .i64 t.a, .int .i64 t.b, .slice o1 l1 q1, .slice o2 l2 q2] 35 (0, 0))
  obtain ⟨w1, hw1⟩ : ∃ x, w.alloc (.cells #[.int .i64 t.kind, .int .i64 t.label, .int .i64 t.a, .int .i64 t.b, .slice o1 l1 q1, .slice o2 l2 q2] 35 (0, 0)) = x := ⟨_, rfl⟩
  have HW1 := Lib.hid hw1
  rw [hw1] at hU1 hnew
  obtain ⟨K, hK⟩ : ∃ k, k = w.heap.size := ⟨_, rfl⟩
  rw [← hK] at hnew
  have HK := Lib.hid hK
  have HU1 := Lib.hid hU1
  have HC : Hid (∀ W, Up w1 W → W.cell? ⟨R, 0, none⟩ = some (.slice ao n cap) ∧ W.cell? ⟨R, 1 + zn, none⟩ = some (.slice ao2 m cap2) ∧ W.heap[K]? = some (.cells #[.int .i64 t.kind, .int .i64 t.label, .int .i64 t.a, .int .i64 t.b, .slice o1 l1 q1, .slice o2 l2 q2] 35 (0, 0)) ∧ ∀ i, i < m → W.cell? ⟨g2, i, none⟩ = some (.int .i64 ((Tm.rowOf s zn).getD i 0 : Nat))) :=
    Lib.hid (fun W hW => ⟨(hU1.trans hW).cell c0, (hU1.trans hW).cell cv, (hW.block _ (lt_of_block' hnew)).trans hnew, fun i hi => (hU1.trans hW).cell (hx2 i hi)⟩)
  have hzi : (zn : Int) < 512 := by omega
  clear hR h hm hsm c0 cr ct cv hrow ha2 hx2 hmm hn hl1 hl2 hw1 hK hnew hinv hzn hU1
  go_enter Tryz.func85, Tryz.ntmps85
  go_wp2_with fail
  rw [HW1.out, ← HK.out]
  refine wp_region_quiet_in (fun w' => Up w1 w') (by kernel_rfl) (by kernel_rfl) (Up.drew (Up.refl _)) ?_
  iterate 8
    refine WQ.step (fun K hK => ?_)
    go_simp
    apply Exists.intro
    refine ⟨?_, hK _ ?_⟩
    (intro w' hw'
     first
       | rfl
       | ((go_at_call 86); (with_reducible refine (HSUM.out _ (HU1.out.trans hw')).mono ?_); rintro e w3 ⟨rfl, hb2⟩; exact ⟨rfl, Up.trans hw' hb2⟩)
       | (obtain ⟨c0, cv, hk, -⟩ := HC.out w' hw'
          obtain ⟨d0, d1, d2, d3, d4, d5, -⟩ := six_cells hk
          go_simp; first | done | rfl | exact ⟨rfl, rfl⟩))
    clear hK K
  refine WQ.nil ?_
  intro w7 hU7
  have HU7 := Lib.hid hU7
  clear hU7
  go_wp2_with fail
  go_loopw [6] (fun i wr => ∃ j : Nat, j ≤ m ∧ i = .int .i64 j ∧ Up w7 wr ∧ Hid (∀ k, k < j → s.getD ((Tm.rowOf s zn).getD k 0) Tm.nilT ≠ t)) (fun i _ => m - (intOf i).toNat)
  case atStart => exact ⟨0, Nat.zero_le _, rfl, Up.refl _, fun k hk => by omega⟩
  case round =>
    obtain ⟨j, hj, rfl, hU, HE⟩ := hrel
    have HUr := Lib.hid (HU7.out.trans hU)
    have HUr2 := Lib.hid hU
    clear hU
    by_cases hlt : j < m
    · obtain rfl := HA2.out (by omega)
      have HCX := Lib.hid ((HC.out _ HUr.out).2.2.2 j hlt)
      have hil := HMEM.out j hlt
      obtain ⟨ix, hix⟩ : ∃ i, i = (Tm.rowOf s zn).getD j 0 := ⟨_, rfl⟩
      rw [← hix] at HCX hil
      have HIX := Lib.hid hix
      have HFX := HFA.out ix hil
      obtain ⟨g, p1, k1, p2, k2, rfl, hsx⟩ := HSAME.out ix hil
      have hixn : ix < n := by rw [HN.out]; exact hil
      obtain ⟨u, hu⟩ : ∃ u, u = s.getD ix Tm.nilT := ⟨_, rfl⟩
      rw [← hu] at hsx HFX
      have HUE := Lib.hid hu
      obtain ⟨l3, hl3⟩ : ∃ l, l = u.names.length := ⟨_, rfl⟩
      obtain ⟨l4, hl4⟩ : ∃ l, l = u.pairs.length := ⟨_, rfl⟩
      obtain ⟨bb, hbb⟩ : ∃ b, b = decide (u = t) := ⟨_, rfl⟩
      rw [← hl3, ← hl4, ← hbb] at hsx
      have HBB := Lib.hid hbb
      have HSX := Lib.hid hsx
      have HFX := Lib.hid HFX
      have hixi : (ix : Int) < (n : Int) := by omega
      have KC : Hid (∀ W, Up wr W → (W.cell? ⟨R, 0, none⟩ = some (.slice (some ⟨g, 0, none⟩) n cap) ∧ W.cell? ⟨g2, j, none⟩ = some (.int .i64 (ix : Nat)) ∧ W.heap[K]? = some (.cells #[.int .i64 t.kind, .int .i64 t.label, .int .i64 t.a, .int .i64 t.b, .slice o1 l1 q1, .slice o2 l2 q2] 35 (0, 0))) ∧
          W.cell? ⟨g, ix * 6, none⟩ = some (.int .i64 u.kind) ∧ W.cell? ⟨g, ix * 6 + 1, none⟩ = some (.int .i64 u.label) ∧ W.cell? ⟨g, ix * 6 + 2, none⟩ = some (.int .i64 u.a) ∧ W.cell? ⟨g, ix * 6 + 3, none⟩ = some (.int .i64 u.b) ∧ W.cell? ⟨g, ix * 6 + 4, none⟩ = some (.slice p1 l3 k1) ∧ W.cell? ⟨g, ix * 6 + 5, none⟩ = some (.slice p2 l4 k2)) := Lib.hid (fun W hW => by
        have h1 := HC.out W (HUr.out.trans hW)
        have h2 := (HSX.out W (HU1.out.trans (HUr.out.trans hW))).1
        exact ⟨⟨h1.1, hW.cell HCX.out, h1.2.2.1⟩, h2 0 _ (by omega) rfl, h2 1 _ (by omega) rfl, h2 2 _ (by omega) rfl, h2 3 _ (by omega) rfl, h2 4 _ (by omega) rfl, h2 5 _ (by omega) rfl⟩)
      have KS : Hid (∀ W, Up wr W → Calls Tryz.prog 118 #[.agg #[.int .i64 u.kind, .int .i64 u.label, .int .i64 u.a, .int .i64 u.b, .slice p1 l3 k1, .slice p2 l4 k2], .agg #[.int .i64 t.kind, .int .i64 t.label, .int .i64 t.a, .int .i64 t.b, .slice o1 l1 q1, .slice o2 l2 q2]] W (Eql W bb)) := Lib.hid (fun W hW => (HSX.out W (HU1.out.trans (HUr.out.trans hW))).2)
      clear hix hil hsx hu hl3 hl4 hbb
      go_wp2_with fail
      refine wp_region_quiet_in (fun w' => Up wr w') (by kernel_rfl) (by kernel_rfl) (Up.drew (Up.refl _)) ?_
      iterate 12
        refine WQ.step (fun K' hK => ?_)
        go_simp
        apply Exists.intro
        refine ⟨?_, hK _ ?_⟩
        (intro w' hw'
         first
           | rfl
           | ((go_at_call 118); (with_reducible refine (KS.out _ hw').mono ?_); rintro e w3 ⟨rfl, hb2⟩; exact ⟨rfl, Up.trans hw' hb2⟩)
           | (obtain ⟨⟨c0, cx, hk⟩, y0, y1, y2, y3, y4, y5⟩ := KC.out w' hw'
              obtain ⟨d0, d1, d2, d3, d4, d5, -⟩ := six_cells hk
              go_simp; first | done | rfl | exact ⟨rfl, rfl⟩))
        clear hK K'
      refine WQ.nil ?_
      intro w9 hU9
      have HU9 := Lib.hid hU9
      obtain ⟨⟨-, cx, -⟩, -⟩ := KC.out w9 hU9
      clear hU9
      cases bb
      · have HNE : Hid (u ≠ t) := Lib.hid (fun e => by have := HBB.out; rw [decide_eq_true e] at this; cases this)
        go_wp2_with fail
        go_roundw
        case rel => exact ⟨j + 1, by omega, by go_num, HUr2.out.trans HU9.out, fun k hk => by
          by_cases hkj : k = j
          · rw [hkj, ← HIX.out, ← HUE.out]; exact HNE.out
          · exact HE.out k (by omega)⟩
        case measure => simp [intOf] <;> omega
      · have HF : Hid (Tm.find s t = (ix : Int)) := Lib.hid (by rw [← of_decide_eq_true HBB.out.symm]; exact HFX.out)
        go_wp2_with fail
        go_ret
        exact ⟨ret_int HF.out.symm, HU1.out.trans (HUr.out.trans HU9.out)⟩
    · obtain rfl : m = j := by omega
      have HF : Hid (Tm.find s t = -1) := Lib.hid (HFN.out (fun i hi => by
        obtain ⟨k, hk, e⟩ := HROW.out i hi
        rw [← e]; exact HE.out k hk))
      go_wp2_with fail
      go_ret
      exact ⟨ret_int HF.out.symm, HU1.out.trans HUr.out⟩

end Go.Proofs.YtiiieailimphnaaGreatDoor
