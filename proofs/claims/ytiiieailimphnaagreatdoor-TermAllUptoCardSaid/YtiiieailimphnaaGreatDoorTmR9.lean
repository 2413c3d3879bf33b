/- Walk over the document's own store: Put of a term that is new. -/
import Derived.Test.YtiiieailimphnaaGreatDoorTmR8
namespace Go.Proofs.YtiiieailimphnaaGreatDoor
open Go.RowKit Go.Maps
set_option linter.unusedVariables false
set_option linter.unusedSimpArgs false

set_option maxHeartbeats 8000000 in
set_option maxRecDepth 100000 in
theorem refput_new {F : Nat → Prop} {w : World} {R : Nat} {s : List Tm.T} {t : Tm.T} {nv pv : Value} (hR : Rs F w R s) (h : TRead w t nv pv) (hm : t.may s.length = true) (hs : s.length ≤ 1000) (hin : t ∉ s) :
    Calls Tryz.prog 22 #[.pointer (some ⟨R, 0, none⟩), .agg #[.int .i64 t.kind, .int .i64 t.label, .int .i64 t.a, .int .i64 t.b, nv, pv]] w (RefPut F w R s t) := by
  obtain ⟨i0, hi, hz0, hz1, hz2⟩ := info_parts Tryz.intInfo'
  obtain ⟨j0, hj, yz0, yz1, yz2⟩ := info_parts Tryz.pairInfo
  have hsm := Tm.may_small hm hs
  obtain ⟨ao, cap, c0, -, -⟩ := hR.at
  have HMAY : Hid (∀ W, Up w W → Calls Tryz.prog 84 #[.pointer (some ⟨R, 0, none⟩), .agg #[.int .i64 t.kind, .int .i64 t.label, .int .i64 t.a, .int .i64 t.b, nv, pv]] W (Eql W true)) := Lib.hid (fun W hW => by
    have := refmay_any (h.up hW) (hW.cell c0) (by omega) (by omega)
    rw [hm] at this; exact this)
  have HFIND : Hid (∀ W, Up w W → Calls Tryz.prog 85 #[.pointer (some ⟨R, 0, none⟩), .agg #[.int .i64 t.kind, .int .i64 t.label, .int .i64 t.a, .int .i64 t.b, nv, pv]] W fun r w' => r = .returned (.int .i64 (-1)) ∧ Up W w') := Lib.hid (fun W hW => (find_any (hR.up hW) (h.up hW) hm hs).mono fun r w' ⟨e, hu⟩ => ⟨by rw [e, Tm.find, if_neg hin], hu⟩)
  obtain ⟨zn, hzn⟩ : ∃ k : Nat, Tm.refSum t = (k : Int) := ⟨(Tm.refSum t).toNat, by have := (Tm.refSum_lt t).1; omega⟩
  have hz : zn < 512 := by have := (Tm.refSum_lt t).2; omega
  have HSUM : Hid (∀ W v1 v2, TRead W t v1 v2 → Calls Tryz.prog 86 #[.agg #[.int .i64 t.kind, .int .i64 t.label, .int .i64 t.a, .int .i64 t.b, v1, v2]] W fun r w' => r = .returned (.int .i64 (zn : Nat)) ∧ Up W w') := Lib.hid (fun W v1 v2 hW => (refsum_any hW hm hs).mono fun r w' ⟨e, hu⟩ => ⟨by rw [e, hzn], hu⟩)
  have HRS := Lib.hid hR
  have HM := Lib.hid (⟨hm, hin, hzn⟩ : t.may s.length = true ∧ t ∉ s ∧ Tm.refSum t = (zn : Int))
  obtain ⟨o1, q1, g1, f1, e1, ha1, hx1⟩ := h.n
  obtain ⟨o2, q2, g2, f2, e2, ha2, hx2⟩ := h.p
  subst e1 e2
  have HX1 : Hid (∀ W, Up w W → ∀ ad, o1 = some ad → ∀ j u, (vals t.names)[j]? = some u → W.cell? (ad.add j) = some u) := Lib.hid (fun W hW ad e j u hu => by
    have hjl : j < t.names.length := by have := (List.getElem?_eq_some_iff.1 hu).1; rwa [vals_length] at this
    have := ha1 (by omega)
    rw [e] at this; cases this
    exact hW.cell (vals_at hx1 j u hu))
  have HX2 : Hid (∀ W, Up w W → ∀ ad, o2 = some ad → ∀ j u, (cellsP t.pairs)[j]? = some u → W.cell? (ad.add j) = some u) := Lib.hid (fun W hW ad e j u hu => by
    have hjl : j < t.pairs.length * 2 := by have := (List.getElem?_eq_some_iff.1 hu).1; rwa [cellsP_length] at this
    have := ha2 (by omega)
    rw [e] at this; cases this
    exact hW.cell (cellsP_at hx2 j u hu))
  have HN1 : Hid (o1 = none → t.names.length = 0) := Lib.hid (fun e => by
    rcases Nat.eq_zero_or_pos t.names.length with h | h
    · exact h
    · have := ha1 h; rw [e] at this; cases this)
  have HN2 : Hid (o2 = none → t.pairs.length = 0) := Lib.hid (fun e => by
    rcases Nat.eq_zero_or_pos t.pairs.length with h | h
    · exact h
    · have := ha2 h; rw [e] at this; cases this)
  obtain ⟨l1, hl1⟩ : ∃ l, l = t.names.length := ⟨_, rfl⟩
  obtain ⟨l2, hl2⟩ : ∃ l, l = t.pairs.length := ⟨_, rfl⟩
  rw [← hl1] at HN1
  rw [← hl2] at HN2
  rw [← hl1, ← hl2] at HMAY HFIND ⊢
  have hl100 : l1 ≤ 100 ∧ l2 ≤ 100 := by omega
  have HL1 : Hid ((vals t.names).length = l1 * 1) := Lib.hid (by rw [vals_length, hl1, Nat.mul_one])
  have HL2 : Hid ((cellsP t.pairs).length = l2 * 2) := Lib.hid (by rw [cellsP_length, hl2])
  have HLL := Lib.hid (⟨hl1, hl2⟩ : l1 = t.names.length ∧ l2 = t.pairs.length)
  have hnew := heap_alloc_new w (.cells #[.int .i64 t.kind, .int .i64 t.label, .int .i64 t.a, .int .i64 t.b, .slice o1 l1 q1, .slice o2 l2 q2] 35 (0, 0))
  have HU0 := Lib.hid ((Up.refl w).alloc (.cells #[.int .i64 t.kind, .int .i64 t.label, .int .i64 t.a, .int .i64 t.b, .slice o1 l1 q1, .slice o2 l2 q2] 35 (0, 0)))
  have HN := Lib.hid hnew
  clear hR h hm hin hsm c0 hl1 hl2 hnew ha1 ha2 hx1 hx2 hzn
  go_enter Tryz.func22, Tryz.ntmps22
  go_wp2_with fail
  (with_reducible refine (HMAY.out _ HU0.out).mono ?_)
  rintro e w1 ⟨rfl, hU1⟩
  have hk1 := (hU1.block _ (lt_of_block' HN.out)).trans HN.out
  obtain ⟨d0, d1, d2, d3, d4, d5, -⟩ := six_cells hk1
  have HK1 := Lib.hid hk1
  have HU1 := Lib.hid (HU0.out.trans hU1)
  clear hU1 hk1
  go_wp2_with fail
  (with_reducible refine (HFIND.out _ HU1.out).mono ?_)
  rintro e w2 ⟨rfl, hU2⟩
  have hk2 := (hU2.block _ (lt_of_block' HK1.out)).trans HK1.out
  have HU2 := Lib.hid (HU1.out.trans hU2)
  clear d0 d1 d2 d3 d4 d5 hU2
  obtain ⟨d0, d1, d2, d3, d4, d5, df⟩ := six_cells hk2
  have HK2 := Lib.hid hk2
  clear hk2
  go_upto_region 7 with (at_builtin; refine wpList_append_fresh _ rfl _ _ 29 rfl 3 i0 _ 1 8 Tryz.underlying29 hi hz0 hz1 hz2 rfl (by decide) rfl o1 l1 q1 rfl (vals t.names) HN1.out HL1.out (HX1.out _ HU2.out) (vals_oneCell _) (by unfold maxLen; omega) (by omega) ?_; intro v1 w3 hown1 hU3; (obtain ⟨p1, k1, rfl⟩ := owns_shape' hown1); (have hk3 := (Below.block hU3 _ (lt_of_block' HK2.out)).trans HK2.out); (obtain ⟨m0, m1, m2, m3, m4, m5, mf⟩ := six_cells hk3))
  have hlt2 := lt_of_block' HK2.out
  have hk4 := six_set4 hk3 (.slice p1 l1 k1)
  have hU4 : Up w (w3.setCell ⟨w.heap.size, 4, none⟩ (.slice p1 l1 k1)) := (HU2.out.trans hU3).setCell (Nat.le_refl _) _
  have hown4 : (w3.setCell ⟨w.heap.size, 4, none⟩ (.slice p1 l1 k1)).ownsRow w2.heap.size 3 1 (.slice p1 l1 k1) l1 (vals t.names) := owns_keep hown1 (fun g hg => Below.heap_setCell w3 ⟨w.heap.size, 4, none⟩ _ g (by have := (hown1.lt g hg).1; simp only; omega))
  obtain ⟨w4, hw4⟩ : ∃ x, w3.setCell ⟨w.heap.size, 4, none⟩ (.slice p1 l1 k1) = x := ⟨_, rfl⟩
  rw [hw4] at hk4 hU4 hown4 ⊢
  have HU4 := Lib.hid hU4
  have HK4 := Lib.hid hk4
  have HO4 := Lib.hid hown4
  have HW2 : Hid (w.heap.size < w2.heap.size) := Lib.hid hlt2
  clear d0 d1 d2 d3 d4 d5 df m0 m1 m2 m3 m4 m5 mf hw4 hU4 hown4 hown1 hU3 hk3 hlt2
  obtain ⟨d0, d1, d2, d3, d4, d5, df⟩ := six_cells hk4
  clear hk4
  go_upto_region 8 with (at_builtin; refine wpList_append_fresh _ rfl _ _ 33 rfl 75 j0 _ 2 16 Tryz.underlying33 hj yz0 yz1 yz2 rfl (by decide) rfl o2 l2 q2 rfl (cellsP t.pairs) HN2.out HL2.out (HX2.out _ HU4.out) (cellsP_oneCell _) (by unfold maxLen; omega) (by omega) ?_; intro v2 w5 hown5 hU5; (obtain ⟨p2, k2, rfl⟩ := owns_shape' hown5); (have hk5 := (Below.block hU5 _ (lt_of_block' HK4.out)).trans HK4.out); (obtain ⟨m0, m1, m2, m3, m4, m5, mf⟩ := six_cells hk5))
  have hlt4 := lt_of_block' HK4.out
  have hk6 := six_set5 hk5 (.slice p2 l2 k2)
  have hU6 : Up w (w5.setCell ⟨w.heap.size, 5, none⟩ (.slice p2 l2 k2)) := (HU4.out.trans hU5).setCell (Nat.le_refl _) _
  have hown6 : (w5.setCell ⟨w.heap.size, 5, none⟩ (.slice p2 l2 k2)).ownsRow w4.heap.size 75 2 (.slice p2 l2 k2) l2 (cellsP t.pairs) := owns_keep hown5 (fun g hg => Below.heap_setCell w5 ⟨w.heap.size, 5, none⟩ _ g (by have := (hown5.lt g hg).1; simp only; omega))
  have hown6n : (w5.setCell ⟨w.heap.size, 5, none⟩ (.slice p2 l2 k2)).ownsRow w2.heap.size 3 1 (.slice p1 l1 k1) l1 (vals t.names) := owns_keep (Up.owns hU5 HO4.out) (fun g hg => Below.heap_setCell w5 ⟨w.heap.size, 5, none⟩ _ g (by have := (HO4.out.lt g hg).1; have := HW2.out; simp only; omega))
  obtain ⟨w6, hw6⟩ : ∃ x, w5.setCell ⟨w.heap.size, 5, none⟩ (.slice p2 l2 k2) = x := ⟨_, rfl⟩
  rw [hw6] at hk6 hU6 hown6 hown6n ⊢
  have HU6 := Lib.hid hU6
  have HK6 := Lib.hid hk6
  have HNO : Hid (w6.ownsRow (w.heap.size + 1) 3 1 (.slice p1 l1 k1) l1 (vals t.names)) := Lib.hid (owns_base hown6n HW2.out)
  have HPO : Hid (w6.ownsRow (w.heap.size + 1) 75 2 (.slice p2 l2 k2) l2 (cellsP t.pairs)) := Lib.hid (owns_base hown6 hlt4)
  clear d0 d1 d2 d3 d4 d5 df m0 m1 m2 m3 m4 m5 mf hw6 hU6 hown6 hown6n hown5 hU5 hk5 hlt4 HO4 HU4 HK4 HU2 HK2 HU1 HK1 HU0 HN HN1 HN2 HL1 HL2 HX1 HX2 HMAY HFIND hi hz0 hz1 hz2 hj yz0 yz1 yz2
  obtain ⟨t0, hti, tz0, tz1, tz2⟩ := info_parts Tryz.termInfo
  obtain ⟨vl, rows, ts, hts, hA, hF⟩ := HRS.out
  have HLT0 := Lib.hid (fun (k : Nat) (hk : RFoot R vl rows ts k) => hA.lt hk)
  have hA6 := hA.keep (w' := w6) (fun k hk => HU6.out.block k (hA.lt hk))
  have hle : ts.length = s.length := by rw [← hts, List.length_map]
  obtain ⟨aoL, capL, hvl⟩ := owns_shape' hA6.row
  obtain ⟨n, hn⟩ : ∃ n, n = ts.length := ⟨_, rfl⟩
  have hn1 : n ≤ 1000 := by omega
  rw [← hn] at hvl
  have hrow6 := hA6.row
  rw [hvl, ← hn] at hrow6
  obtain ⟨cs, hbx, hcs, hcs0, hcsr⟩ := hA6.box
  rw [hvl] at hcs0
  have c0 : w6.cell? ⟨R, 0, none⟩ = some (.slice aoL n capL) := by simp only [World.cell?, hbx]; exact hcs0
  have hRl := lt_of_block' hbx
  have hnR : (Value.slice aoL n capL).ownBlock ≠ some R := fun e => by
    obtain ⟨cur, hh⟩ := owns_type hrow6 e
    rw [hbx] at hh
    simp only [Option.some.injEq, Obj.cells.injEq] at hh
    exact absurd hh.2.1 (by decide)
  have HNR := Lib.hid hnR
  have HBX := Lib.hid hbx
  have HCS := Lib.hid (⟨hcs, hcs0, hcsr⟩ : cs.size = 513 ∧ cs[0]? = some (.slice aoL n capL) ∧ ∀ j, j < 512 → cs[1 + j]? = some (rows j))
  have HROW := Lib.hid hrow6
  have HA6 := Lib.hid hA6
  have HTS := Lib.hid hts
  have HNE := Lib.hid hn
  have HFF := Lib.hid hF
  have HVL := Lib.hid hvl
  have hKl := lt_of_block' HK6.out
  obtain ⟨x0, x1, x2, x3, x4, x5, -⟩ := six_cells HK6.out
  clear hts hA hF hA6 hle hvl hrow6 hbx hcs hcs0 hcsr hnR hn
  go_cut [] (Mid8 w6 R cs (.slice aoL n capL) n (cellsT ts ++ tcells t (.slice p1 l1 k1) (.slice p2 l2 k2)))
  case first =>
    go_region_law (refine step_append_ownT rfl _ _ 22 rfl 0 35 t0 _ 6 80 Tryz.underlying22 hti tz0 tz1 tz2 rfl (by decide) (.slice aoL n capL) n _ rfl (HROW.out.drew.alloc _) ⟨w6.heap.size, 0, none⟩ 1 1 (tcells t (.slice p1 l1 k1) (.slice p2 l2 k2)) rfl rfl (cells_new6 _ _ _ _ _ _ _ _) (by intro u hu; simp [tcells] at hu; rcases hu with rfl | rfl | rfl | rfl | rfl | rfl <;> rfl) (by unfold maxLen; omega) (by omega) (Nat.zero_le _) ?_; intro v' w7 hown7 hgrow7 hat7; (obtain ⟨ao7, c7, rfl⟩ := owns_shape' hown7); (have hbx7 : w7.heap[R]? = some (.cells cs 32 (0, 0)) := (World.grownBy.block hgrow7 R (by show R < (w6.alloc _).heap.size; rw [World.size_alloc]; omega) (fun e => HNR.out e.symm)).trans ((Below.heap_alloc w6 _ R hRl).trans HBX.out)); (have c70 : w7.cell? ⟨R, 0, none⟩ = some (.slice aoL n capL) := by (simp only [World.cell?, hbx7]; exact HCS.out.2.1)); (have cf7 : w7.frozen? ⟨R, 0, none⟩ = false := by simp [World.frozen?, hbx7]); (replace hown7 := Lib.hid hown7); (replace hgrow7 := Lib.hid hgrow7); (replace hat7 := Lib.hid hat7); (replace hbx7 := Lib.hid hbx7))
    all_goals go_wp2_with fail
    all_goals go_meet
    all_goals exact mid8_of hRl HNR.out hbx7.out hown7.out hgrow7.out hat7.out
  case rest =>
  obtain ⟨w7, rfl⟩ : ∃ x, x = wc := ⟨_, rfl⟩
  obtain ⟨ao7, c7, hbx7, hrow7, hT7, hat7⟩ := hcut
  have hKR : w.heap.size ≠ R := fun e => by
    have h1 := HK6.out
    rw [e, HBX.out] at h1
    simp only [Option.some.injEq, Obj.cells.injEq] at h1
    exact absurd h1.2.1 (by decide)
  have hKv : (Value.slice aoL n capL).ownBlock ≠ some w.heap.size := fun e => by
    have h1 := HLT0.out w.heap.size (.inr (.inl (by rw [HVL.out]; exact e)))
    omega
  have hK7 : w7.heap[w.heap.size]? = some (.cells #[.int .i64 t.kind, .int .i64 t.label, .int .i64 t.a, .int .i64 t.b, .slice p1 l1 k1, .slice p2 l2 k2] 35 (0, 0)) := (hT7.block _ hKl (fun e => e.elim hKR hKv)).trans HK6.out
  -- the row
  have hz0' := HA6.out.rws zn hz
  rw [HTS.out] at hz0'
  obtain ⟨aoz, capz, hvz⟩ := owns_shape' hz0'
  obtain ⟨m, hmr⟩ : ∃ m, m = (Tm.rowOf s zn).length := ⟨_, rfl⟩
  have hm1 : m ≤ 1000 := by have := Tm.rowOf_len s zn; omega
  rw [← hmr] at hvz hz0'
  rw [hvz] at hz0'
  have hzR : (Value.slice aoz m capz).ownBlock ≠ some R := fun e => by
    obtain ⟨cur, hh⟩ := owns_type hz0' e
    rw [HBX.out] at hh
    simp only [Option.some.injEq, Obj.cells.injEq] at hh
    exact absurd hh.2.1 (by decide)
  have hz7 : w7.ownsRow 0 3 1 (.slice aoz m capz) m (ints (Tm.rowOf s zn)) := owns_keep hz0' (fun k hk => hT7.block k (owns_lt hz0' hk) (fun e => by
    rcases e with rfl | e
    · exact hzR hk
    · exact owns_apart hz0' HROW.out (by decide) hk e))
  have HZR := Lib.hid hzR
  have HVZ := Lib.hid hvz
  have HMR := Lib.hid hmr
  have hl17 : l1 = t.names.length := HLL.out.1
  have hl27 : l2 = t.pairs.length := HLL.out.2
  have hn7 : w7.ownsRow (w.heap.size + 1) 3 1 (.slice p1 l1 k1) l1 (vals t.names) := owns_keep HNO.out (fun k hk => hT7.block k (owns_lt HNO.out hk) (fun e => by
    have h1 := (HNO.out.lt k hk).1
    rcases e with rfl | e
    · have := HLT0.out _ (.inl rfl); omega
    · have := HLT0.out k (.inr (.inl (by rw [HVL.out]; exact e))); omega))
  have hp7 : w7.ownsRow (w.heap.size + 1) 75 2 (.slice p2 l2 k2) l2 (cellsP t.pairs) := owns_keep HPO.out (fun k hk => hT7.block k (owns_lt HPO.out hk) (fun e => by
    have h1 := (HPO.out.lt k hk).1
    rcases e with rfl | e
    · have := HLT0.out _ (.inl rfl); omega
    · have := HLT0.out k (.inr (.inl (by rw [HVL.out]; exact e))); omega))
  have hr7 : TRead w7 t (.slice p1 l1 k1) (.slice p2 l2 k2) := by
    refine ⟨owns_lst (n := l1) hn7, owns_lsp (n := l2) hp7⟩
  have hb70 : (cs.setIfInBounds 0 (.slice ao7 (n + 1) c7))[0]? = some (.slice ao7 (n + 1) c7) := Array.getElem?_setIfInBounds_self_of_lt (by rw [HCS.out.1]; omega)
  have hb7z : (cs.setIfInBounds 0 (.slice ao7 (n + 1) c7))[1 + zn]? = some (.slice aoz m capz) := by
    rw [Array.getElem?_setIfInBounds_ne (by omega), ← hvz]
    exact HCS.out.2.2 zn hz
  have HALL : Hid (∀ W, Up w7 W → W.heap[w.heap.size]? = some (.cells #[.int .i64 t.kind, .int .i64 t.label, .int .i64 t.a, .int .i64 t.b, .slice p1 l1 k1, .slice p2 l2 k2] 35 (0, 0)) ∧
      TRead W t (.slice p1 l1 k1) (.slice p2 l2 k2) ∧ W.heap[R]? = some (.cells (cs.setIfInBounds 0 (.slice ao7 (n + 1) c7)) 32 (0, 0)) ∧
      W.cell? ⟨R, 0, none⟩ = some (.slice ao7 (n + 1) c7) ∧ W.cell? ⟨R, 1 + zn, none⟩ = some (.slice aoz m capz) ∧ W.frozen? ⟨R, 1 + zn, none⟩ = false ∧ W.ownsRow 0 3 1 (.slice aoz m capz) m (ints (Tm.rowOf s zn)) ∧ R < W.heap.size) := Lib.hid (fun W hW => by
    have hbW := (hW.block _ (lt_of_block' hbx7)).trans hbx7
    refine ⟨(hW.block _ (lt_of_block' hK7)).trans hK7, hr7.up hW, hbW, ?_, ?_, ?_, hW.owns hz7, lt_of_block' hbW⟩
    · simp only [World.cell?, hbW]; exact hb70
    · simp only [World.cell?, hbW]; exact hb7z
    · simp [World.frozen?, hbW])
  have HEND : Hid (∀ w9, Mid9 w7 R cs (.slice ao7 (n + 1) c7) zn (.slice aoz m capz) m (ints (Tm.rowOf s zn) ++ [.int .i64 (n : Nat)]) w9 → RefPut F w R s t (.returned (.int .i64 (n : Nat))) w9) := Lib.hid (fun w9 h9 => by
    rw [← hvz, hmr] at h9
    have := HA6.out
    exact refput_end (v1 := .slice p1 l1 k1) (v2 := .slice p2 l2 k2) this HLT0.out HU6.out HTS.out HFF.out (by rw [HVL.out]; exact HCS.out) HNE.out HM.out.1 HM.out.2.1 hz HM.out.2.2 (by rw [← hl17]; exact HNO.out) (by rw [← hl27]; exact HPO.out) hrow7
      (by rw [HVL.out]; exact hT7) (by rw [HVL.out]; exact hat7) h9)
  obtain ⟨i0, hi, hz0, hz1, hz2⟩ := info_parts Tryz.intInfo'
  have hwrap : IntKind.i64.wrap (((n + 1 : Nat) : Int) - 1) = (n : Int) := (IntWalk.i64_in _ (by omega)).trans (by omega)
  have hRl7 := lt_of_block' hbx7
  have hzi : (zn : Int) < 512 := by omega
  have hwn : IntKind.i64.wrap (n : Int) = (n : Int) := IntWalk.i64_in _ (by omega)
  obtain ⟨kk, rr, bb, r0, rz, fz, oz, -⟩ := HALL.out w7 (Up.refl _)
  obtain ⟨y0, y1, y2, y3, y4, y5, -⟩ := six_cells kk
  have HTR7 := Lib.hid rr
  have HOZ7 := Lib.hid oz
  have HBB7 := Lib.hid bb
  have HZC := Lib.hid hb7z
  have HKL7 : Hid (w.heap.size < w7.heap.size) := Lib.hid (lt_of_block' kk)
  clear hvz hz0' hzR hmr hn7 hp7 hr7 hb70 hb7z hbx7 hrow7 hT7 hat7 hK7 kk rr bb oz x0 x1 x2 x3 x4 x5 c0 hl17 hl27 hti tz0 tz1 tz2 hRl hKl hKR hKv
  go_upto_region 9 with fail
  go_cut [] (Mid9 w7 R cs (.slice ao7 (n + 1) c7) zn (.slice aoz m capz) m (ints (Tm.rowOf s zn) ++ [.int .i64 (n : Nat)]))
  case first =>
    have HU8 := Lib.hid (Up.drew (Up.refl w7))
    have hRl8 : R < w7.heap.size := hRl7
    have hKl8 : w.heap.size < w7.heap.size := HKL7.out
    have oz := Lib.hid HOZ7.out
    have bb := Lib.hid HBB7.out
    go_region_law (first
      | (refine step_append_ownT rfl _ _ 29 rfl 0 3 i0 _ 1 8 Tryz.underlying29 hi hz0 hz1 hz2 rfl (by decide) (.slice aoz m capz) m _ rfl (oz.out.alloc _) _ 1 1 [.int .i64 (n : Nat)] rfl rfl (cells_new1 _ _ _) (by intro u hu; simp at hu; subst hu; rfl) (by unfold maxLen; omega) (by omega) (Nat.zero_le _) ?_; intro v' w9 hown9 hgrow9 hat9; (obtain ⟨ao9, c9, rfl⟩ := owns_shape' hown9); (have hbx9 : w9.heap[R]? = some (.cells (cs.setIfInBounds 0 (.slice ao7 (n + 1) c7)) 32 (0, 0)) := (World.grownBy.block hgrow9 R (by show R < (w8.alloc _).heap.size; rw [World.size_alloc]; have := lt_of_block' bb.out; omega) (fun e => HZR.out e.symm)).trans ((Below.heap_alloc w8 _ R (lt_of_block' bb.out)).trans bb.out)); (have c9z : w9.cell? ⟨R, 1 + zn, none⟩ = some (.slice aoz m capz) := by (simp only [World.cell?, hbx9]; exact HZC.out)); (have cf9 : w9.frozen? ⟨R, 1 + zn, none⟩ = false := by simp [World.frozen?, hbx9]); (replace hown9 := Lib.hid hown9); (replace hgrow9 := Lib.hid hgrow9); (replace hat9 := Lib.hid hat9); (replace hbx9 := Lib.hid hbx9); clear r0 rz fz y0 y1 y2 y3 y4 y5)
      | (refine step_append_ownT rfl _ _ 29 rfl 0 3 i0 _ 1 8 Tryz.underlying29 hi hz0 hz1 hz2 rfl (by decide) (.slice aoz m capz) m _ rfl (oz.out) _ 1 1 [.int .i64 (n : Nat)] rfl rfl (HNW.out) (by intro u hu; simp at hu; subst hu; rfl) (by unfold maxLen; omega) (by omega) (Nat.zero_le _) ?_; intro v' w9 hown9 hgrow9 hat9; (obtain ⟨ao9, c9, rfl⟩ := owns_shape' hown9); (have hbx9 : w9.heap[R]? = some (.cells (cs.setIfInBounds 0 (.slice ao7 (n + 1) c7)) 32 (0, 0)) := (World.grownBy.block hgrow9 R (lt_of_block' bb.out) (fun e => HZR.out e.symm)).trans bb.out); (have c9z : w9.cell? ⟨R, 1 + zn, none⟩ = some (.slice aoz m capz) := by (simp only [World.cell?, hbx9]; exact HZC.out)); (have cf9 : w9.frozen? ⟨R, 1 + zn, none⟩ = false := by simp [World.frozen?, hbx9]); (replace hown9 := Lib.hid hown9); (replace hgrow9 := Lib.hid hgrow9); (replace hat9 := Lib.hid hat9); (replace hbx9 := Lib.hid hbx9); clear r0 rz fz y0 y1 y2 y3 y4 y5)
      | (go_simp; go_at_call 86; (with_reducible refine (HSUM.out _ _ _ (HTR7.out.up (HU8.out))).mono ?_); rintro r w8 ⟨rfl, hu8⟩; (try (replace HNW := Lib.hid (fun j u hj => hu8.cell (HNW.out j u hj)))); (replace HU8 := Lib.hid ((HU8.out).trans hu8)); clear hu8 r0 rz fz y0 y1 y2 y3 y4 y5 oz bb hRl8 hKl8; (obtain ⟨kk, -, bb, r0, rz, fz, oz, hRl8⟩ := HALL.out w8 HU8.out); (have hKl8 : w.heap.size < w8.heap.size := lt_of_block' kk); (obtain ⟨y0, y1, y2, y3, y4, y5, -⟩ := six_cells kk); (replace oz := Lib.hid oz); (replace bb := Lib.hid bb); clear kk)
      | (go_simp; go_at_call 86; (with_reducible refine (HSUM.out _ _ _ (HTR7.out.up (HU8.out.alloc _))).mono ?_); rintro r w8 ⟨rfl, hu8⟩; (have HNW := Lib.hid (fun j u hj => hu8.cell (cells_new1 _ (.int .i64 (n : Nat)) _ j u hj))); (replace HU8 := Lib.hid ((HU8.out.alloc _).trans hu8)); clear hu8 r0 rz fz y0 y1 y2 y3 y4 y5 oz bb hRl8 hKl8; (obtain ⟨kk, -, bb, r0, rz, fz, oz, hRl8⟩ := HALL.out w8 HU8.out); (have hKl8 : w.heap.size < w8.heap.size := lt_of_block' kk); (obtain ⟨y0, y1, y2, y3, y4, y5, -⟩ := six_cells kk); (replace oz := Lib.hid oz); (replace bb := Lib.hid bb); clear kk)
      | (go_simp; go_at_call 86; (with_reducible refine (HSUM.out _ _ _ (HTR7.out.up (((Up.refl w7).alloc _).drew))).mono ?_); rintro r w8 ⟨rfl, hu8⟩; (have HNW := Lib.hid (fun j u hj => hu8.cell (cells_new1 w7 (.int .i64 (n : Nat)) _ j u hj))); (replace HU8 := Lib.hid ((((Up.refl w7).alloc _).drew).trans hu8)); clear hu8 r0 rz fz y0 y1 y2 y3 y4 y5 oz bb hRl8 hKl8; (obtain ⟨kk, -, bb, r0, rz, fz, oz, hRl8⟩ := HALL.out w8 HU8.out); (have hKl8 : w.heap.size < w8.heap.size := lt_of_block' kk); (obtain ⟨y0, y1, y2, y3, y4, y5, -⟩ := six_cells kk); (replace oz := Lib.hid oz); (replace bb := Lib.hid bb); clear kk))
    all_goals go_wp2_with fail
    all_goals go_meet
    all_goals first
      | exact mid9_of hRl7 HZR.out (HU8.out.alloc _) hbx9.out hown9.out hgrow9.out hat9.out
      | exact mid9_of hRl7 HZR.out HU8.out hbx9.out hown9.out hgrow9.out hat9.out
  case rest =>
  obtain ⟨w9, rfl⟩ : ∃ x, x = wc := ⟨_, rfl⟩
  obtain ⟨v9, hbx9, hown9, hT9, hat9⟩ := id hcut
  have HFIN := Lib.hid (HEND.out _ hcut)
  have r09 : w9.cell? ⟨R, 0, none⟩ = some (.slice ao7 (n + 1) c7) := by
    simp only [World.cell?, hbx9]
    show ((cs.setIfInBounds 0 (.slice ao7 (n + 1) c7)).setIfInBounds (1 + zn) v9)[0]? = _
    rw [Array.getElem?_setIfInBounds_ne (by omega)]
    exact Array.getElem?_setIfInBounds_self_of_lt (by rw [HCS.out.1]; omega)
  clear hcut hbx9 hown9 hT9 hat9 r0 rz fz y0 y1 y2 y3 y4 y5
  go_wp2_with fail
  go_ret
  exact HFIN.out
end Go.Proofs.YtiiieailimphnaaGreatDoor
