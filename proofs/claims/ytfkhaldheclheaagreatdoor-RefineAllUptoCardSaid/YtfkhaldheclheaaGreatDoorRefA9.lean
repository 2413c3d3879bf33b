/- Walks: the game that looks behind every step, whole, where nothing is too long. Printed by mkall.py. -/
import Derived.Test.YtfkhaldheclheaaGreatDoorRefG12
import Derived.Test.YtfkhaldheclheaaGreatDoorBookApart
namespace Go.Proofs.YtfkhaldheclheaaGreatDoor
open Go.RowKit
set_option linter.unusedVariables false
set_option linter.unusedSimpArgs false

theorem InGame.apart {w0 W : World} {a na b nb bk : Nat} (h : InGame w0 W a na b nb bk) :
    Calls Tryz.prog 15 #[.pointer (some ⟨bk, 0, none⟩)] W fun r w' => r = .returned (.bool true) ∧ Below w0.heap.size w0 w' := by
  obtain ⟨sa, sb, Fa, Fb, BF, hG⟩ := h
  obtain ⟨vi, vw, es, hb, hl, hBF⟩ := hG.ta.bo
  refine (apart_any hb hl).mono ?_
  rintro r w' ⟨rfl, hT⟩
  exact ⟨rfl, hG.ta.bel.trans (hT.newOnly (fun k hk => hG.ta.newb k ((hBF k).2 (hb.inV hk))) hG.ta.bel.size)⟩

set_option maxHeartbeats 16000000 in
set_option maxRecDepth 100000 in
theorem play_short_each {w : World} {n : Int} {ao bo : Option Addr} {l : List Int} {os : List (Int × Int)} {m g off g2 off2 c1 c2 : Nat} {a1 a2 ai : Addr} (h : Handed w ao bo l os m g off g2 off2) (hS : Sts w a1 a2 ai) (h4 : m ≤ 400) (h11 : l.length ≤ 1100) :
    Calls Tryz.prog 5 #[.int .i64 n, .slice ao l.length c1, .slice bo m c2, .bool true] w (PlayDone w) := by
  obtain ⟨ok, na, sA, HOK⟩ : ∃ (ok : Bool) (na : Nat) (sA : Rf.St), Hid ((ok = true ∧ n = (na : Int) ∧ na ≤ 1000 ∧ sA = Rf.ofSt (List.replicate na 0)) ∨ (ok = false ∧ (n < 0 ∨ 1000 < n) ∧ na = 0 ∧ sA = noSt)) := by
    by_cases h0 : n < 0 ∨ 1000 < n
    · exact ⟨false, 0, noSt, .inr ⟨rfl, h0, rfl, rfl⟩⟩
    · obtain ⟨k, rfl⟩ := Int.eq_ofNat_of_zero_le (show 0 ≤ n by omega)
      exact ⟨true, k, _, .inl ⟨rfl, rfl, by omega, rfl⟩⟩
  obtain ⟨fits, nb, sB, HFI⟩ : ∃ (fits : Bool) (nb : Nat) (sB : Rf.St), Hid ((fits = true ∧ l.length ≤ 1000 ∧ nb = l.length ∧ sB = Rf.ofSt l) ∨ (fits = false ∧ 1000 < l.length ∧ nb = 0 ∧ sB = noSt)) := by
    by_cases h0 : l.length ≤ 1000
    · exact ⟨true, _, _, .inl ⟨rfl, h0, rfl, rfl⟩⟩
    · exact ⟨false, 0, noSt, .inr ⟨rfl, by omega, rfl, rfl⟩⟩
  have IA : Hid (Rf.Inv sA na ∧ na ≤ 1000) := by
    rcases HOK.out with ⟨_, _, h1, rfl⟩ | ⟨_, _, rfl, rfl⟩
    · have := Rf.of_inv (List.replicate na 0); rw [List.length_replicate] at this; exact ⟨this, h1⟩
    · exact ⟨noSt_inv, by omega⟩
  have IB : Hid (Rf.Inv sB nb ∧ nb ≤ 1000) := by
    rcases HFI.out with ⟨_, h1, rfl, rfl⟩ | ⟨_, _, rfl, rfl⟩
    · exact ⟨Rf.of_inv l, h1⟩
    · exact ⟨noSt_inv, by omega⟩
  have HH := Lib.hid h
  have HS := Lib.hid hS
  obtain ⟨nl, hnl⟩ : ∃ k, k = l.length := ⟨_, rfl⟩
  rw [← hnl] at h11 ⊢
  have HNL := Lib.hid hnl
  clear h hS hnl
  have q4 : decide ((400 : Int) < (m : Int)) = false := by simp; omega
  have q5 : decide ((1100 : Int) < (nl : Int)) = false := by simp; omega
  go_enter Tryz.func5, Tryz.ntmps5
  go_upto_region 6 with (go_at_call 6; refine (alive_true _).mono ?_; rintro r w1 ⟨rfl, hb1⟩)
  have hu1 : Up w w1 := hb1
  have hbk : BookNil (w1.alloc (.cells #[.slice none 0 0, .slice none 0 0, .slice none 0 0, .slice none 0 0, .slice none 0 0, .slice none 0 0, .slice none 0 0, .slice none 0 0, .slice none 0 0, .slice none 0 0, .slice none 0 0, .slice none 0 0, .slice none 0 0, .slice none 0 0, .slice none 0 0, .slice none 0 0, .slice none 0 0, .slice none 0 0, .slice none 0 0, .slice none 0 0, .slice none 0 0, .slice none 0 0] 40)) w1.heap.size := heap_alloc_new w1 _
  have hux : Up w (w1.alloc (.cells #[.slice none 0 0, .slice none 0 0, .slice none 0 0, .slice none 0 0, .slice none 0 0, .slice none 0 0, .slice none 0 0, .slice none 0 0, .slice none 0 0, .slice none 0 0, .slice none 0 0, .slice none 0 0, .slice none 0 0, .slice none 0 0, .slice none 0 0, .slice none 0 0, .slice none 0 0, .slice none 0 0, .slice none 0 0, .slice none 0 0, .slice none 0 0, .slice none 0 0] 40)) := hu1.alloc _
  obtain ⟨x1, hx1⟩ : ∃ x1, w1.alloc (.cells #[.slice none 0 0, .slice none 0 0, .slice none 0 0, .slice none 0 0, .slice none 0 0, .slice none 0 0, .slice none 0 0, .slice none 0 0, .slice none 0 0, .slice none 0 0, .slice none 0 0, .slice none 0 0, .slice none 0 0, .slice none 0 0, .slice none 0 0, .slice none 0 0, .slice none 0 0, .slice none 0 0, .slice none 0 0, .slice none 0 0, .slice none 0 0, .slice none 0 0] 40) = x1 := ⟨_, rfl⟩
  rw [hx1] at hbk hux ⊢
  have hk1 := hu1.size
  have hkl := lt_of_block hbk
  obtain ⟨bk, hbke⟩ : ∃ bk, bk = w1.heap.size := ⟨_, rfl⟩
  rw [← hbke] at hbk hkl hk1 ⊢
  have HBK := Lib.hid hbk
  clear hb1 hu1 hx1 hbke hbk
  have hS1 := HS.out.below hux
  go_cut [10, 11] (NewR x1 a1 ok sA)
  case first =>
    rcases HOK.out with ⟨rfl, hn, hn1, hs⟩ | ⟨rfl, hn, _, _⟩
    · subst hn
      go_wp2_with (go_at_call 7; refine (new_ok na _ hn1).mono ?_; rintro r x2 ⟨B, ve, vp, vi, vb, rfl, hP, hF, hb⟩)
      go_meet
      exact ⟨hb, .inl ⟨rfl, rfl, B, ve, vp, vi, vb, rfl, by rw [hs]; exact hP, hF⟩⟩
    · have hc := hS1.arg.var
      go_wp2_with (go_at_call 7; refine (new_bad n _ _ _ hn hc).mono ?_; rintro r x2 ⟨rfl, rfl⟩)
      go_meet
      exact ⟨(Up.refl _).alloc _, .inr ⟨rfl, rfl, _, rfl, FaultAt.of_alloc _ _ _⟩⟩
  case rest =>
  obtain ⟨x2, rfl⟩ : ∃ x, x = wc := ⟨_, rfl⟩
  obtain ⟨hu2, hA⟩ := hcut
  have HA := Lib.hid hA
  have hux2 := hux.trans hu2
  clear hA
  go_upto_region 7 with fail
  go_cut [12, 13] (RefR x2 ok na sA)
  case first =>
    rcases HOK.out with ⟨rfl, hn, hn1, hs⟩ | ⟨rfl, hn, hna, hs⟩
    · subst hn
      obtain ⟨z, hz⟩ : ∃ z, z = if 0 < na then 1 else 0 := ⟨_, rfl⟩
      have hRN := refNew na x2 hn1
      rw [← hz] at hRN
      have HZ := Lib.hid hz
      replace hRN := Lib.hid hRN
      clear hz
      go_wp2_with (go_at_call 8; refine hRN.out.mono ?_; rintro r x3 ⟨vB, vM, rfl, hB, hM, hu⟩; (obtain ⟨vBa, vBc, rfl⟩ := owns_shape' hB); (obtain ⟨vMa, vMc, rfl⟩ := owns_shape' hM))
      go_meet
      refine refR_of true hu ?_ ?_ ?_
      · rw [hs, Rf.new_inn]; exact hB
      · have := Rf.of_marks (List.replicate na 0)
        rw [List.length_replicate] at this
        rw [hs, this]; exact hM
      · rw [hs, Rf.new_blocks, HZ.out]
    · go_wp2_with (go_at_call 8; refine (refNew_bad n _ hn).mono ?_; rintro r x3 ⟨rfl, hu⟩)
      go_meet
      subst hna hs
      exact refR_of false hu (World.ownsRow_nil _ _ _ _) (World.ownsRow_nil _ _ _ _) rfl
  case rest =>
  obtain ⟨x3, rfl⟩ : ∃ x, x = wc := ⟨_, rfl⟩
  obtain ⟨hu3, rfl, ra, rfl, hra, hRA⟩ := hcut
  have HRA := Lib.hid hRA
  have hux3 := hux2.trans hu3
  have hS3 := HS.out.below hux3
  clear hRA
  go_upto_region 8 with fail
  go_cut [14, 15] (NewR x3 a1 fits sB)
  case first =>
    rcases HFI.out with ⟨rfl, h1, _, hs⟩ | ⟨rfl, h1, _, _⟩
    · have hh := HH.out
      go_wp2_with (go_at_call 9; refine (of_any' g off nl c1 ao (fun h0 => hh.hao (by rw [← HNL.out]; exact h0)) l _ HNL.out.symm (by rw [HNL.out]; exact h1) (fun k hk => hh.hwf k (by rw [← HNL.out]; exact hk)) (fun k hk => hux3.cell (hh.hcl k (by rw [← HNL.out]; exact hk)))).mono ?_; rintro r x4 ⟨B, ve, vp, vi, vb, rfl, hP, hF, hb⟩)
      go_meet
      exact ⟨hb, .inl ⟨rfl, rfl, B, ve, vp, vi, vb, rfl, by rw [hs]; exact hP, hF⟩⟩
    · have hc := hS3.arg.var
      have hl0 := HH.out.hl
      rw [← HNL.out] at h1 hl0
      go_wp2_with (go_at_call 9; refine (of_bad ao nl c1 _ _ _ h1 hl0 hc).mono ?_; rintro r x4 ⟨f, rfl, hf⟩)
      go_meet
      exact ⟨hf.bel, .inr ⟨rfl, rfl, f, rfl, hf⟩⟩
  case rest =>
  obtain ⟨x4, rfl⟩ : ∃ x, x = wc := ⟨_, rfl⟩
  obtain ⟨hu4, hB⟩ := hcut
  have HB := Lib.hid hB
  have hux4 := hux3.trans hu4
  clear hB
  go_upto_region 9 with fail
  go_cut [16, 17] (RefR x4 fits nb sB)
  case first =>
    rcases HFI.out with ⟨rfl, h1, h2, hs⟩ | ⟨rfl, h1, hna, hs⟩
    · have hh := HH.out
      have hL : Lst x4 (.slice ao nl c1) l := ⟨ao, c1, g, off, by rw [HNL.out], hh.hao, fun i hi => hux4.cell (hh.hcl i hi)⟩
      go_wp2_with (go_at_call 10; refine (refOf h1 hL).mono ?_; rintro r x5 ⟨vB, vM, rfl, hB, hM, hu⟩; (obtain ⟨vBa, vBc, rfl⟩ := owns_shape' hB); (obtain ⟨vMa, vMc, rfl⟩ := owns_shape' hM))
      go_meet
      subst h2 hs
      refine refR_of true hu hB ?_ ?_
      · rw [Rf.of_marks]; exact hM
      · rw [show (Rf.ofSt l).blocks.length = (Cn.seen l).length from Rf.outer_blocks _ _ _]
    · have hl0 := HH.out.hl
      rw [← HNL.out] at h1 hl0
      go_wp2_with (go_at_call 10; refine (refOf_bad ao nl c1 _ h1 hl0).mono ?_; rintro r x5 ⟨rfl, hu⟩)
      go_meet
      subst hna hs
      exact refR_of false hu (World.ownsRow_nil _ _ _ _) (World.ownsRow_nil _ _ _ _) rfl
  case rest =>
  obtain ⟨x5, rfl⟩ : ∃ x, x = wc := ⟨_, rfl⟩
  obtain ⟨hu5, rfl, rb, rfl, hrb, hRB⟩ := hcut
  have HRB := Lib.hid hRB
  have hux5 := hux4.trans hu5
  clear hRB
  go_upto_region 11 with (go_at_call 11; refine (bad_any 1 _).mono ?_; rintro r x6 ⟨rfl, hu6⟩)
  have hd := heap_alloc_new x6 (.cells #[.int .i64 1, .int .i64 0, .int .i64 0, .string layersRef] 54)
  have hu7 : Up x5 (x6.alloc (.cells #[.int .i64 1, .int .i64 0, .int .i64 0, .string layersRef] 54)) := hu6.alloc _
  obtain ⟨x7, hx7⟩ : ∃ x7, x6.alloc (.cells #[.int .i64 1, .int .i64 0, .int .i64 0, .string layersRef] 54) = x7 := ⟨_, rfl⟩
  rw [hx7] at hd hu7 ⊢
  obtain ⟨bd, hbd⟩ : ∃ bd, bd = x6.heap.size := ⟨_, rfl⟩
  rw [← hbd] at hd ⊢
  have HD : Hid (∀ y, Up x7 y → y.cell? ⟨bd, 0, none⟩ = some (.int .i64 1) ∧ y.cell? ⟨bd, 1, none⟩ = some (.int .i64 0) ∧ y.cell? ⟨bd, 2, none⟩ = some (.int .i64 0) ∧ y.cell? ⟨bd, 3, none⟩ = some (.string layersRef)) := fun y hy =>
    ⟨hy.cell (by simp [World.cell?, hd]), hy.cell (by simp [World.cell?, hd]), hy.cell (by simp [World.cell?, hd]), hy.cell (by simp [World.cell?, hd])⟩
  clear hd hx7 hbd hu6
  have hux7 := hux5.trans hu7
  go_cut [85] (UpFalse x7)
  case first =>
    obtain ⟨D0, D1, D2, D3⟩ := HD.out x7 (Up.refl _)
    have HA2 := HA.out
    have HB2 := HB.out
    rcases HA2 with ⟨rfl, rfl, -⟩ | ⟨rfl, -, f, rfl, hf⟩
    · rcases HB2 with ⟨rfl, rfl, -⟩ | ⟨rfl, -, f', rfl, hf'⟩
      · clear HA HB
        go_wp2_with fail
        go_meet
        exact ⟨rfl, Up.refl _⟩
      · have HT2 : Hid (∀ w2, Up x7 w2 → _) := fun w2 hu => fault_told hS3 (Up.refl _) hf' w2 ((hu5.trans hu7).trans hu)
        clear hf' HA HB
        go_wp2_with (go_at_call 12; (with_reducible refine (HT2.out _ ?_).mono ?_); (exact Up.refl _); rintro r y1 ⟨rfl, hv1⟩)
        go_meet
        exact ⟨rfl, hv1⟩
    · have HT1 : Hid (∀ w2, Up x7 w2 → _) := fun w2 hu => fault_told hS1 (Up.refl _) hf w2 ((hu3.trans (hu4.trans (hu5.trans hu7))).trans hu)
      clear hf
      rcases HB2 with ⟨rfl, rfl, -⟩ | ⟨rfl, -, f', rfl, hf'⟩
      · clear HA HB
        go_wp2_with (go_at_call 12; (with_reducible refine (HT1.out _ ?_).mono ?_); (exact Up.refl _); rintro r y1 ⟨rfl, hv1⟩)
        go_meet
        exact ⟨rfl, hv1⟩
      · have HT2 : Hid (∀ w2, Up x7 w2 → _) := fun w2 hu => fault_told hS3 (Up.refl _) hf' w2 ((hu5.trans hu7).trans hu)
        clear hf' HA HB
        go_wp2_with (first
          | (go_at_call 12; (with_reducible refine (HT1.out _ ?_).mono ?_); (exact Up.refl _); rintro r y1 ⟨rfl, hv1⟩; (obtain ⟨E0, E1, E2, E3⟩ := HD.out y1 hv1))
          | (go_at_call 12; (with_reducible refine (HT2.out _ ?_).mono ?_); (exact hv1); rintro r y2 ⟨rfl, hv2⟩))
        go_meet
        exact ⟨rfl, hv1.trans hv2⟩
  case rest =>
  obtain ⟨x8, rfl⟩ : ∃ x, x = wc := ⟨_, rfl⟩
  obtain ⟨rfl, hu8⟩ := hcut
  have hux8 := hux7.trans hu8
  go_upto_if 87 with fail
  have HRA8 : Hid (HasR na sA (fun k => x2.heap.size ≤ k ∧ k < x3.heap.size) ra x8) := (HRA.out.mono (fun k h1 h2 => ⟨h2, h1⟩)).up (hu4.trans (hu5.trans (hu7.trans hu8)))
  have HRB8 : Hid (HasR nb sB (fun k => x4.heap.size ≤ k ∧ k < x5.heap.size) rb x8) := (HRB.out.mono (fun k h1 h2 => ⟨h2, h1⟩)).up (hu7.trans hu8)
  have hrl : ra < x3.heap.size := by obtain ⟨_, _, hb, _⟩ := HRA.out; exact lt_of_block hb
  have hrl' : rb < x5.heap.size := by obtain ⟨_, _, hb, _⟩ := HRB.out; exact lt_of_block hb
  have s2 := hu2.size
  have s3 := hu3.size
  have s4 := hu4.size
  have s5 := hu5.size
  have s7 := hu7.size
  have s8 := hu8.size
  go_cut [10] (PlT x8 na sA (fun k => x1.heap.size ≤ k ∧ k < x2.heap.size) (fun k => x2.heap.size ≤ k ∧ k < x3.heap.size) ra)
  case first =>
    rcases HA.out with ⟨rfl, -, hP⟩ | ⟨rfl, -, -⟩
    · have HP1 : Hid (HasP sA (fun k => x1.heap.size ≤ k ∧ k < x2.heap.size) u10 x8) := (hP.mono (fun k h1 h2 => ⟨h2, h1⟩)).up (hu3.trans (hu4.trans (hu5.trans (hu7.trans hu8))))
      clear hP
      go_wp2_with fail
      go_meet
      exact plT_yes HP1.out HRA8.out
    · rcases HOK.out with ⟨h, _⟩ | ⟨_, _, hna, hs⟩
      · cases h
      · subst hna hs
        obtain ⟨vB, vM, hb, e1, e2, _⟩ := HRA8.out
        obtain ⟨y0, y1, rfl⟩ := owns_shape' e1
        obtain ⟨y2, y3, rfl⟩ := owns_shape' e2
        have HBX := Lib.hid hb
        have k0 : x8.cell? ⟨ra, 0, none⟩ = some (.slice y0 0 y1) := by simp [World.cell?, hb]
        have k1 : x8.cell? ⟨ra, 1, none⟩ = some (.slice y2 0 y3) := by simp [World.cell?, hb]
        have k2 : x8.cell? ⟨ra, 2, none⟩ = some (.int .i64 (noSt.blocks.length : Nat)) := by simp [World.cell?, hb]
        have f0 : x8.frozen? ⟨ra, 0, none⟩ = false := by simp [World.frozen?, hb]
        have f1 : x8.frozen? ⟨ra, 1, none⟩ = false := by simp [World.frozen?, hb]
        have f2 : x8.frozen? ⟨ra, 2, none⟩ = false := by simp [World.frozen?, hb]
        have hrl8 := lt_of_block hb
        clear hb e1 e2
        go_wp2_with fail
        go_meet
        exact plT_no HBX.out
  case rest =>
  obtain ⟨x9, rfl⟩ : ∃ x, x = wc := ⟨_, rfl⟩
  have HPA := Lib.hid hcut
  clear hcut
  go_upto_if 92 with fail
  have s9 : x8.heap.size ≤ x9.heap.size := HPA.out.1.size
  have HRB9 : Hid (HasR nb sB (fun k => x4.heap.size ≤ k ∧ k < x5.heap.size) rb x9) := HRB8.out.keepT HPA.out.1 (by omega) (fun k _ hk => by omega)
  go_cut [14] (PlT x9 nb sB (fun k => x3.heap.size ≤ k ∧ k < x4.heap.size) (fun k => x4.heap.size ≤ k ∧ k < x5.heap.size) rb)
  case first =>
    rcases HB.out with ⟨rfl, -, hP⟩ | ⟨rfl, -, -⟩
    · have HP1 : Hid (HasP sB (fun k => x3.heap.size ≤ k ∧ k < x4.heap.size) u14 x9) := ((hP.mono (fun k h1 h2 => ⟨h2, h1⟩)).up (hu5.trans (hu7.trans hu8))).keepT HPA.out.1 (fun k _ hk => by omega)
      clear hP
      go_wp2_with fail
      go_meet
      exact plT_yes HP1.out HRB9.out
    · rcases HFI.out with ⟨h, _⟩ | ⟨_, _, hna, hs⟩
      · cases h
      · subst hna hs
        obtain ⟨vB, vM, hb, e1, e2, _⟩ := HRB9.out
        obtain ⟨y0, y1, rfl⟩ := owns_shape' e1
        obtain ⟨y2, y3, rfl⟩ := owns_shape' e2
        have HBX := Lib.hid hb
        have k0 : x9.cell? ⟨rb, 0, none⟩ = some (.slice y0 0 y1) := by simp [World.cell?, hb]
        have k1 : x9.cell? ⟨rb, 1, none⟩ = some (.slice y2 0 y3) := by simp [World.cell?, hb]
        have k2 : x9.cell? ⟨rb, 2, none⟩ = some (.int .i64 (noSt.blocks.length : Nat)) := by simp [World.cell?, hb]
        have f0 : x9.frozen? ⟨rb, 0, none⟩ = false := by simp [World.frozen?, hb]
        have f1 : x9.frozen? ⟨rb, 1, none⟩ = false := by simp [World.frozen?, hb]
        have f2 : x9.frozen? ⟨rb, 2, none⟩ = false := by simp [World.frozen?, hb]
        have hrl8 := lt_of_block hb
        clear hb e1 e2
        go_wp2_with fail
        go_meet
        exact plT_no HBX.out
  case rest =>
  obtain ⟨x10, rfl⟩ : ∃ x, x = wc := ⟨_, rfl⟩
  obtain ⟨A, B, y0, y2, y4, y6, y1, y3, y5, y7, hRy⟩ := game_ready (l1 := x1.heap.size) (l2 := x2.heap.size) (l3 := x3.heap.size) (l4 := x4.heap.size) (l5 := x5.heap.size) IA.out IB.out hux8 hux.size s2 s3 s4 s5 (Nat.le_trans s7 s8) hra hrl hrb hrl'
    (HBK.out.up (hu2.trans (hu3.trans (hu4.trans (hu5.trans (hu7.trans hu8)))))) hk1 hkl HPA.out hcut
  obtain rfl := hRy.va
  obtain rfl := hRy.vb
  have ca0 := hRy.ca0
  have ca1 := hRy.ca1
  have ca2 := hRy.ca2
  have cb0 := hRy.cb0
  have cb1 := hRy.cb1
  have cb2 := hRy.cb2
  have HG := Lib.hid hRy.go
  have hral : ra < x10.heap.size := World.block_lt_of_cell? x10 _ ca0
  have hrbl : rb < x10.heap.size := World.block_lt_of_cell? x10 _ cb0
  clear hRy hcut HPA HRA HRB HRA8 HRB8 HRB9 HA HB HD hu2 hu3 hu4 hu5 hu7 hu8 hux2 hux3 hux4 hux5 hux7 s2 s3 s4 s5 s7 s8 s9 hra hrb hrl hrl'
  go_upto_region 17 with fail
  go_cut [19, 20] (BoxR w na nb bk)
  case first =>
    go_region
    all_goals go_wp2_with fail
    all_goals go_meet
    all_goals exact ⟨_, _, rfl, rfl, HG.out _ _ _ (by repeat (first | (with_reducible exact Up.refl _) | (with_reducible apply Up.drew) | (with_reducible apply Up.drewN) | (with_reducible apply Up.alloc)))
      (by repeat (first | ((with_reducible apply heapNew); (simp; done)) | (with_reducible apply heapUp) | (with_reducible apply heapDrew)))
      (by repeat (first | ((with_reducible apply heapNew); (simp; done)) | (with_reducible apply heapUp) | (with_reducible apply heapDrew))) (by omega) (by omega) (by omega)⟩
  case rest =>
  obtain ⟨a, b, rfl, rfl, hG⟩ := hcut
  clear ca0 ca1 ca2 cb0 cb1 cb2 hral hrbl HG hS1 hS3 hk1 hkl HBK hux hux8
  go_wp2_with fail
  go_loopw [21] (fun i wr => ∃ k : Nat, k ≤ m ∧ i = .int .i64 k ∧ InGame w wr a na b nb bk) (fun i _ => m - (intOf i).toNat)
  case atStart => exact ⟨0, Nat.zero_le _, rfl, hG⟩
  case round =>
    clear hG
    obtain ⟨k, hk, rfl, hI⟩ := hrel
    have hm0 := HH.out.hm
    by_cases hlt : k < m
    · obtain rfl := HH.out.hbo (by omega)
      obtain ⟨kd, hkd⟩ : ∃ d, d = (os.getD k (0, 0)).1 := ⟨_, rfl⟩
      obtain ⟨N, hN⟩ : ∃ d, d = (os.getD k (0, 0)).2 := ⟨_, rfl⟩
      have o0 := HH.out.ho0 k hlt
      have o1 := HH.out.ho1 k hlt
      rw [← hkd] at o0
      rw [← hN] at o1
      have HO : Hid (∀ W, InGame w W a na b nb bk → W.cell? ⟨g2, off2 + k * 2, none⟩ = some (.int .i64 kd) ∧ W.cell? ⟨g2, off2 + k * 2 + 1, none⟩ = some (.int .i64 N)) := fun W h => ⟨Below.cellUp h.bel (cell_lt o0) o0, Below.cellUp h.bel (cell_lt o1) o1⟩
      have HSa : Hid (∀ W, InGame w W a na b nb bk → Calls Tryz.prog 13 #[.pointer (some ⟨a, 0, none⟩), .agg #[.int .i64 kd, .int .i64 N]] W fun r w' => r = .returned (.bool true) ∧ InGame w w' a na b nb bk) := fun W h => h.step kd N HS.out
      have HSb : Hid (∀ W, InGame w W a na b nb bk → Calls Tryz.prog 13 #[.pointer (some ⟨b, 0, none⟩), .agg #[.int .i64 kd, .int .i64 N]] W fun r w' => r = .returned (.bool true) ∧ InGame w w' a na b nb bk) := fun W h => h.stepB kd N HS.out
      have HLa : Hid (∀ W, InGame w W a na b nb bk → _) := fun W h => h.looks
      have HLb : Hid (∀ W, InGame w W a na b nb bk → _) := fun W h => h.looksB
      obtain ⟨p0, p1⟩ := HO.out _ hI
      have qlt : (k : Int) < (m : Int) := by omega
      clear hkd hN o0 o1
      go_wp2_with fail
      with_reducible refine (HSa.out _ hI).mono ?_
      rintro r W1 ⟨rfl, hI1⟩
      obtain ⟨p2, p3⟩ := HO.out _ hI1
      go_wp2_with fail
      · with_reducible refine (HSb.out _ hI1).mono ?_
        rintro r W2 ⟨rfl, hI2⟩
        go_wp2_with fail
        with_reducible refine (HLa.out _ hI2).mono ?_
        rintro r W3 ⟨rfl, hI3⟩
        go_wp2_with fail
        with_reducible refine (HLb.out _ hI3).mono ?_
        rintro r W4 ⟨rfl, hI4⟩
        go_wp2_with fail
        go_roundw
        case rel => exact ⟨k + 1, by omega, by go_num, hI4⟩
        case measure => simp [intOf]; omega
      · with_reducible refine (HLa.out _ hI1).mono ?_
        rintro r W3 ⟨rfl, hI3⟩
        go_wp2_with fail
        with_reducible refine (HLb.out _ hI3).mono ?_
        rintro r W4 ⟨rfl, hI4⟩
        go_wp2_with fail
        go_roundw
        case rel => exact ⟨k + 1, by omega, by go_num, hI4⟩
        case measure => simp [intOf]; omega
    · obtain rfl : k = m := by omega
      have HLa : Hid (∀ W, InGame w W a na b nb bk → _) := fun W h => h.looks
      have HLb : Hid (∀ W, InGame w W a na b nb bk → _) := fun W h => h.looksB
      have HAp : Hid (∀ W, InGame w W a na b nb bk → _) := fun W h => h.apart
      go_wp2_with (first
        | (go_at_call 14; (with_reducible refine (HLa.out _ hI).mono ?_); rintro r W1 ⟨rfl, hI1⟩)
        | (go_at_call 14; (with_reducible refine (HLb.out _ hI1).mono ?_); rintro r W2 ⟨rfl, hI2⟩)
        | (go_at_call 15; (with_reducible refine (HAp.out _ hI2).mono ?_); rintro r W3 ⟨rfl, hb3⟩))
      go_ret
      exact ⟨rfl, hb3⟩

theorem all_any {w : World} {n : Int} {ao bo : Option Addr} {l : List Int} {os : List (Int × Int)} {m g off g2 off2 c1 c2 : Nat} {a1 a2 ai : Addr} (h : Handed w ao bo l os m g off g2 off2) (hS : Sts w a1 a2 ai) :
    Calls Tryz.prog 4 #[.int .i64 n, .slice ao l.length c1, .slice bo m c2] w (PlayDone w) := by
  have HP : Hid (Calls Tryz.prog 5 #[.int .i64 n, .slice ao l.length c1, .slice bo m c2, .bool true] w (PlayDone w)) := by
    by_cases hb : 400 < m ∨ 1100 < l.length
    · exact play_long true h hb
    · exact play_short_each h hS (by omega) (by omega)
  obtain ⟨nl, hnl⟩ : ∃ k, k = l.length := ⟨_, rfl⟩
  rw [← hnl] at HP ⊢
  clear h hS hnl
  go_enter Tryz.func4, Tryz.ntmps4
  go_wp2_with (go_at_call 5; refine HP.out.mono ?_; rintro r w1 ⟨rfl, hb⟩)
  go_ret
  exact ⟨rfl, hb⟩

end Go.Proofs.YtfkhaldheclheaaGreatDoor

