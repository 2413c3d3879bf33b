/- Walks: the book's lists of integers, marked: putInts. -/
import Derived.Test.YtfkhaldheclheaaGreatDoorBookL
import Derived.RegionTactic
import Derived.BigRegion
namespace Go.Proofs.YtfkhaldheclheaaGreatDoor
open Go.RowKit
set_option linter.unusedVariables false
set_option linter.unusedSimpArgs false

/-- The book's lists of integers lie in vi, which stands in the book's first field. -/
structure BookI (w : World) (bk : Nat) (vi : Value) (vs : List Value) : Prop where
  c0 : w.cell? ⟨bk, 0, none⟩ = some vi
  ri : w.ownsRow 0 22 1 vi vs.length vs

/-- In the loops: what may have turned since w. -/
structure PutSt (w wr : World) (vs : List Value) (C : Nat → List Int) : Prop where
  el : Els wr vs C
  tur : Turned (InV vs) w wr

theorem PutSt.up {w wr w' : World} {vs : List Value} {C : Nat → List Int} (h : PutSt w wr vs C) (hu : Up wr w') : PutSt w w' vs C :=
  ⟨h.el.up hu, h.tur.trans (T := fun _ => False) ⟨hu.os, hu.tape, hu.output, hu.size, fun k hk _ => hu.block k hk⟩ (fun _ _ h => h.elim)⟩

theorem PutSt.set {w wr : World} {vs : List Value} {C : Nat → List Int} (h : PutSt w wr vs C) (ha : Apt vs) {i g cap k : Nat} (hi : i < vs.length) (hv : nth vs i = .slice (some ⟨g, 0, none⟩) (C i).length cap) (x : Int) :
    PutSt w (wr.setCell ⟨g, k, none⟩ (.int .i64 x)) vs (upd C i ((C i).set k x)) :=
  ⟨h.el.set ha hi hv x, h.tur.setCell (p := ⟨g, k, none⟩) (.inl ⟨i, hi, by rw [hv]; rfl⟩) _⟩

/-- The contents behind i rounds. -/
def putC (C : Nat → List Int) (i j : Nat) : List Int := if j < i then marks j 0 (C j).length else C j

theorem putC_zero (C : Nat → List Int) : putC C 0 = C := by funext j; simp [putC]
theorem putC_at (C : Nat → List Int) (i : Nat) : putC C i i = C i := by simp [putC]
theorem putC_len (C : Nat → List Int) (i j : Nat) : (putC C i j).length = (C j).length := by unfold putC; split <;> simp [marks_len]
theorem putC_succ (C : Nat → List Int) (i : Nat) : upd (putC C i) i (marks i 0 (C i).length) = putC C (i + 1) := by
  funext j
  by_cases h : j = i
  · subst h; simp [upd, putC]
  · simp only [upd, h, if_false, putC]
    by_cases h2 : j < i
    · rw [if_pos h2, if_pos (by omega)]
    · rw [if_neg h2, if_neg (by omega)]

theorem upd_upd (C : Nat → List Int) (i : Nat) (x y : List Int) : upd (upd C i x) i y = upd C i y := by
  funext j; simp only [upd]; split <;> rfl

/-- What stays of the book while its lists turn. -/
structure PutEnv (w : World) (bk : Nat) (ao : Option Addr) (ci g : Nat) (vs : List Value) : Prop where
  c0 : ∀ wr, Turned (InV vs) w wr → wr.cell? ⟨bk, 0, none⟩ = some (.slice ao vs.length ci)
  el : ∀ wr i, Turned (InV vs) w wr → i < vs.length → ao = some ⟨g, 0, none⟩ ∧ wr.cell? ⟨g, i, none⟩ = some (nth vs i)

theorem BookI.env {w : World} {bk : Nat} {vi : Value} {vs : List Value} {C : Nat → List Int} {bc : Array Value} (h : BookI w bk vi vs) (he : Els w vs C) (hb : w.heap[bk]? = some (.cells bc 40 (0, 0))) :
    ∃ ao ci g, vi = .slice ao vs.length ci ∧ PutEnv w bk ao ci g vs := by
  have hnb : ¬ InV vs bk := he.ne_box hb (by decide)
  rcases owns_cases h.ri with ⟨rfl, h0, _⟩ | ⟨g, ci, rfl, hr, _⟩
  · refine ⟨none, 0, 0, by rw [h0], fun wr ht => ?_, fun wr i ht hi => ?_⟩
    · rw [h0]; exact ht.cell h.c0 hnb
    · omega
  · refine ⟨_, ci, g, rfl, fun wr ht => ht.cell h.c0 hnb, fun wr i ht hi => ⟨rfl, ?_⟩⟩
    exact ht.cell (hr.cell (nth_get hi)) (he.ne h.ri (by decide) rfl)

set_option maxHeartbeats 4000000 in
set_option maxRecDepth 100000 in
theorem putInts_any {w : World} {bk : Nat} {vi : Value} {vs : List Value} {C : Nat → List Int} {bc : Array Value} (h : BookI w bk vi vs) (he : Els w vs C) (ha : Apt vs) (hb : w.heap[bk]? = some (.cells bc 40 (0, 0))) (hm : vs.length ≤ 400) (hC : ∀ i, i < vs.length → (C i).length ≤ 1000000) :
    Calls Tryz.prog 49 #[.pointer (some ⟨bk, 0, none⟩)] w fun r w' => r = .returned (.tuple #[]) ∧ PutSt w w' vs (putC C vs.length) := by
  obtain ⟨ao, ci, g, rfl, hen⟩ := h.env he hb
  have HE := Lib.hid hen
  have H0 : Hid (PutSt w w vs (putC C 0)) := by rw [putC_zero]; exact ⟨he, Turned.refl _ _⟩
  obtain ⟨m, hmm⟩ : ∃ m, m = vs.length := ⟨_, rfl⟩
  have HM := Lib.hid hmm
  have HC := Lib.hid hC
  have HA := Lib.hid ha
  rw [← hmm] at hm ⊢
  have c00 := hen.c0 w (Turned.refl _ _)
  rw [← hmm] at c00
  clear h he ha hb hmm hC hen
  go_enter Tryz.func49, Tryz.ntmps49
  go_wp2_with fail
  go_loopw [2] (fun i wr => ∃ k : Nat, k ≤ m ∧ i = .int .i64 k ∧ PutSt w wr vs (putC C k)) (fun i _ => m - (intOf i).toNat)
  case atStart => exact ⟨0, Nat.zero_le _, rfl, H0.out⟩
  case round =>
    clear H0
    obtain ⟨k, hk, rfl, hP⟩ := hrel
    have d0 := HE.out.c0 wr hP.tur
    rw [← HM.out] at d0
    by_cases hlt : k < m
    · have hkv : k < vs.length := by rw [← HM.out]; exact hlt
      obtain ⟨rfl, d1⟩ := HE.out.el wr k hP.tur hkv
      have hel := hP.el k hkv
      rw [putC_at] at hel
      have hcl := HC.out k hkv
      obtain ⟨n, hn⟩ : ∃ n, n = (C k).length := ⟨_, rfl⟩
      rw [← hn] at hel hcl
      obtain ⟨vo, vc, hv⟩ := owns_shape' hel
      have qk : (k : Int) < (m : Int) := by omega
      rw [hv] at d1
      have HN := Lib.hid hn
      have HV := Lib.hid hv
      have HP := Lib.hid hP
      have HEL := Lib.hid hel
      obtain ⟨wo, hwo⟩ : ∃ wo, wo = wr := ⟨_, rfl⟩
      rw [← hwo] at d0 d1 HP HEL ⊢
      clear hP hn hv hel c00 hwo
      go_wp2_with (go_at_call 101; refine (markInts_any k 0 n _ (by omega) (by omega) hcl).mono ?_; rintro r w1 ⟨mv, rfl, hmo, hup⟩)
      rw [marks_len] at hmo
      obtain ⟨mo, mc, rfl⟩ := owns_shape' hmo
      have hml : (marks k 0 n).length = (C k).length := by rw [marks_len, HN.out]
      have HS0 : Hid (PutSt w w1 vs (upd (putC C k) k (mix (marks k 0 n) (C k) 0))) := by
        have e : upd (putC C k) k (mix (marks k 0 n) (C k) 0) = putC C k := by
          funext j
          by_cases hj : j = k
          · subst hj; rw [upd_same, mix_zero, putC_at]
          · rw [upd_other hj]
        rw [e]; exact HP.out.up hup
      have HMO := Lib.hid hmo
      have HML := Lib.hid hml
      clear hmo hml d0 d1
      go_wp2_with fail
      go_loopw [4] (fun j wr => ∃ kk : Nat, kk ≤ n ∧ j = .int .i64 kk ∧ PutSt w wr vs (upd (putC C k) k (mix (marks k 0 n) (C k) kk)) ∧ wr.ownsRow wo.heap.size 3 1 (.slice mo n mc) n ((marks k 0 n).map (Value.int .i64))) (fun j _ => n - (intOf j).toNat)
      case atStart => exact ⟨0, Nat.zero_le _, rfl, HS0.out, HMO.out⟩
      case round =>
        clear HS0 HMO
        obtain ⟨kk, hkk, rfl, hQ, hmr⟩ := hrel
        by_cases hlt2 : kk < n
        · have e0 := HE.out.c0 wr hQ.tur
          rw [← HM.out] at e0
          obtain ⟨_, e1⟩ := HE.out.el wr k hQ.tur hkv
          have hel := hQ.el k hkv
          rw [upd_same, mix_len HML.out (by rw [← HN.out]; exact hkk), ← HN.out, HV.out] at hel
          rcases owns_cases hel with ⟨_, h0, _⟩ | ⟨gv, cv, hvv, hrv, _⟩
          · omega
          simp only [Value.slice.injEq, true_and] at hvv
          obtain ⟨rfl, rfl⟩ := hvv
          rw [HV.out] at e1
          rcases owns_cases hmr with ⟨_, h0, _⟩ | ⟨gm, cm, hvv, hrm, _⟩
          · omega
          simp only [Value.slice.injEq, true_and] at hvv
          obtain ⟨rfl, rfl⟩ := hvv
          rw [Nat.mul_one] at hrv hrm
          have hgm : wo.heap.size ≤ gm := (hmr.lt gm rfl).1
          have hgv : gv < wo.heap.size := by have := HEL.out; rw [HV.out] at this; exact owns_lt this rfl
          obtain ⟨x, hx⟩ : ∃ x, x = (marks k 0 n).getD kk 0 := ⟨_, rfl⟩
          have e2 : wr.cell? ⟨gm, kk, none⟩ = some (.int .i64 x) := hrm.cell (by rw [hx]; simp [List.getD, marks_len, hlt2])
          have hmixl := mix_len HML.out (k := kk) (by rw [← HN.out]; exact hkk)
          rw [← HN.out] at hmixl
          have e3 : wr.cell? ⟨gv, kk, none⟩ = some (.int .i64 ((mix (marks k 0 n) (C k) kk).getD kk 0)) := hrv.cell (by simp [List.getD, hmixl, hlt2])
          have f3 := hrv.free kk
          obtain ⟨y, hy⟩ : ∃ y, y = (mix (marks k 0 n) (C k) kk).getD kk 0 := ⟨_, rfl⟩
          rw [← hy] at e3
          have qkk : (kk : Int) < (n : Int) := by omega
          have HX := Lib.hid hx
          have HQ := Lib.hid hQ
          have HMR := Lib.hid hmr
          clear hx hy hQ hmr hel hrv hrm hmixl
          go_wp2_with fail
          go_region
          go_wp2_with fail
          go_roundw
          case rel =>
            refine ⟨kk + 1, by omega, by go_num, ?_, ?_⟩
            · have hnew := HQ.out.set HA.out (k := kk) hkv (g := gv) (cap := vc) (by rw [HV.out, upd_same, mix_len HML.out (by rw [← HN.out]; exact hkk), ← HN.out]) x
              have hms := mix_set HML.out (k := kk) (by rw [← HN.out]; exact hlt2)
              rw [← HX.out] at hms
              rw [upd_same, upd_upd, hms] at hnew
              exact hnew.up (by repeat (first | (with_reducible exact Up.refl _) | (with_reducible apply Up.drew) | (with_reducible apply Up.drewN)))
            · exact owns_keep HMR.out (fun g' hg' => Below.heap_setCell _ _ _ _ (by simp only [Value.ownBlock, Option.some.injEq] at hg'; simp only [ne_eq]; omega))
          case measure => simp [intOf]; omega
        · obtain rfl : kk = n := by omega
          go_wp2_with fail
          go_roundw
          case rel =>
            refine ⟨k + 1, by omega, by go_num, ?_⟩
            have := hQ
            rw [HN.out, mix_all (by rw [marks_len]), putC_succ] at this
            exact this
          case measure => simp [intOf]; omega
    · obtain rfl : k = m := by omega
      go_wp2_with fail
      go_end0
      exact ⟨rfl, hP⟩

end Go.Proofs.YtfkhaldheclheaaGreatDoor
