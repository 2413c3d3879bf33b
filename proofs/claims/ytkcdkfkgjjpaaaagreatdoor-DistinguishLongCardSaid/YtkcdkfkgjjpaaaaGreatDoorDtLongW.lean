/- Walks: distinguish.Formula where it tells one, the statement DistinguishLong. -/
import Derived.Test.YtkcdkfkgjjpaaaaGreatDoorDtCmp
import Derived.Test.YtkcdkfkgjjpaaaaGreatDoorFmHold
namespace Go.Proofs.YtkcdkfkgjjpaaaaGreatDoor
open Go.RowKit Go.Sort Go.Maps
set_option linter.unusedVariables false
set_option linter.unusedSimpArgs false

set_option maxHeartbeats 4000000 in
set_option maxRecDepth 100000 in
theorem formulaTop_ok (s : Sy.Lts) (se : Value) (p q : Nat) (a b i n m : Addr) (w : World) (hT : Tab w) (hG : ErrT w) (hs : Ls3 w se s.es) (hC : CmpSent w a b i n m) (hl : s.es.length ≤ maxLen) (hr : Sy.right s = true) (ht : There s p q) (h3 : s.n ≤ 300) (h0 : 0 ≤ Rd.rank s p q) (hlong : (Dt.F s p q).length ≤ 5000) :
    Calls Tryz.prog 25 #[sysV s se, .int .i64 (p : Nat), .int .i64 (q : Nat)] w fun r w' => Up w w' ∧ ∃ ao cap, r = .returned (.tuple #[.slice ao (Dt.F s p q).length cap, .nilIface]) ∧ w'.ownsRow w.heap.size 71 2 (.slice ao (Dt.F s p q).length cap) (Dt.F s p q).length (cells2 (Dt.F s p q)) := by
  obtain ⟨ao, cap, rfl⟩ := ls3_shape hs
  have HK : Hid (∀ W, Up w W → Calls Tryz.prog 45 #[.agg #[.int .i64 s.n, .int .i64 s.m, .int .i64 s.start, .slice ao s.es.length cap], .int .i64 (p : Nat), .int .i64 (q : Nat)] W (AskForm s p q W (.iface 354 (.pointer (some n))) (.iface 354 (.pointer (some m))))) :=
    Lib.hid (fun W hW => ask_form s (.slice ao s.es.length cap) p q a b i n m W (hT.up hW) (hW.cell hG) (hs.up hW) (hC.up hW) hl hr ht h3)
  have HYES := Lib.hid (And.intro h0 hlong)
  obtain ⟨L, hL⟩ : ∃ L, L = s.es.length := ⟨_, rfl⟩
  rw [← hL] at HK
  unfold sysV
  rw [← hL]
  have HU0 : Hid (∀ A, Up w (w.alloc A)) := Lib.hid (fun A => (Up.refl w).alloc A)
  clear hT hG hs hC hl hr ht h3 h0 hL hlong
  go_enter Tryz.func25, Tryz.ntmps25
  go_wp2_with (first
    | (go_at_call 45; refine (HK.out _ (HU0.out _)).mono ?_; rintro r w2 ⟨hu2, tb, rfl, hfm⟩; (have HU2 := Lib.hid ((HU0.out _).trans hu2)); (have HFM := Lib.hid hfm); clear hu2 hfm)
    | fail)
  refine HFM.out.mono ?_
  rintro r w3 ⟨hu3, ⟨h1, -⟩ | ⟨-, h1, -⟩ | ⟨-, -, fo, fc, rfl, hown⟩⟩
  · exact absurd h1 (by have := HYES.out.1; omega)
  · exact absurd h1 (by have := HYES.out.2; omega)
  have hu3' : Up w w3 := (HU0.out _).trans hu3
  have HU3 := Lib.hid hu3'
  obtain ⟨K, hK⟩ : ∃ K, K = (Dt.F s p q).length := ⟨_, rfl⟩
  rw [← hK] at hown ⊢
  have HO3 := Lib.hid hown
  have HKK := Lib.hid hK
  clear hu3 hu3' hown hK
  go_wp2_with fail
  go_ret2
  have e := HKK.out
  subst e
  exact ⟨HU3.out, fo, fc, rfl, owns_base HO3.out (by rw [World.size_alloc]; omega)⟩

/-- A ladder under way. -/
structure LadAt (w wr : World) (n : Nat) (ev : Value) (l : List Sy.Edge) : Prop where
  up : Up w wr
  box : wr.heap[w.heap.size]? = some (.cells #[.int .i64 (2 * (n : Int) + 1), .int .i64 3, .int .i64 0, ev] 27 (0, 0))
  row : wr.ownsRow (w.heap.size + 1) 67 3 ev l.length (cells3 l)

theorem LadAt.mid {w wr w2 : World} {n : Nat} {ev : Value} {l : List Sy.Edge} {o : Obj} (h : LadAt w wr n ev l) (hg : (wr.alloc o).grownBy w2 ev.ownBlock) :
    w2.heap[w.heap.size]? = some (.cells #[.int .i64 (2 * (n : Int) + 1), .int .i64 3, .int .i64 0, ev] 27 (0, 0)) := by
  have hev : ∀ k, ev.ownBlock = some k → w.heap.size + 1 ≤ k := fun k hk => (h.row.lt k hk).1
  have hlt := lt_of_block' h.box
  exact ((hg.block w.heap.size (by simp; omega) (fun e => by have := hev _ e.symm; omega)).trans (Below.heap_alloc wr o _ hlt)).trans h.box

theorem LadAt.push {w wr w2 : World} {n : Nat} {ev v' : Value} {l : List Sy.Edge} {e : Sy.Edge} {o : Obj} (h : LadAt w wr n ev l) (hg : (wr.alloc o).grownBy w2 ev.ownBlock) (ho : w2.ownsRow (w.heap.size + 1) 67 3 v' (l.length + 1) (cells3 l ++ tri e)) :
    LadAt w (w2.setCell ⟨w.heap.size, 3, none⟩ v') n v' (l ++ [e]) := by
  have hev : ∀ k, ev.ownBlock = some k → w.heap.size + 1 ≤ k := fun k hk => (h.row.lt k hk).1
  have hlt := lt_of_block' h.box
  have hb2 := h.mid hg
  refine ⟨(((h.up.alloc o).grown hg (fun k hk => by have := hev k hk; omega))).setCell (Nat.le_refl _) _, ?_, ?_⟩
  · simp [World.setCell, Array.getElem?_modify, hb2]
  · rw [List.length_append, cells3_append]
    have e3 : cells3 [e] = tri e := by simp [cells3]
    rw [e3]
    exact owns_keep ho (fun k hk => Below.heap_setCell w2 ⟨w.heap.size, 3, none⟩ v' k (fun e => by have := (ho.lt k hk).1; simp only at e; omega))

theorem Tryz.edgeInfoD : (Tryz.prog.info? 67).map (fun i => (i.zero, i.size, i.bytes)) = some (some (.agg #[.int .i64 0, .int .i64 0, .int .i64 0]), 3, 24) := by kernel_rfl

theorem cells_newD3 (w : World) (a b c : Value) (e : TypeId) : ∀ j u, [a, b, c][j]? = some u → (w.alloc (.cells #[a, b, c] e)).cell? ((⟨w.heap.size, 0, none⟩ : Addr).add j) = some u := by
  intro j u hj
  have h := heap_alloc_new w (.cells #[a, b, c] e)
  have e : ∀ i : Nat, ((⟨w.heap.size, 0, none⟩ : Addr).add i) = ⟨w.heap.size, i, none⟩ := fun i => by unfold Addr.add; split <;> simp_all
  rw [e]
  unfold World.cell?
  simp only [h]
  match j, hj with
  | 0, hj => exact hj
  | 1, hj => exact hj
  | 2, hj => exact hj

/-- What the ladder's formula comes to. -/
theorem lad_facts {n : Nat} (h1 : 1 ≤ n) (h2 : n ≤ 40) : Sy.right (Dt.lad n) = true ∧ There (Dt.lad n) ((0 : Nat) : Int) ((n + 1 : Nat) : Int) ∧ (Dt.lad n).n ≤ 300 ∧ 0 ≤ Rd.rank (Dt.lad n) 0 (n + 1) ∧ (Dt.F (Dt.lad n) 0 (n + 1)).length = n + 1 ∧
    Dt.exec Dt.deep (Dt.F (Dt.lad n) 0 (n + 1)) [] = some [(n : Int)] := by
  have hR := Dt.lad_right h1 h2
  have hk := Dt.rank_long h1
  have hF := Dt.F_long h1 h2
  refine ⟨(Sy.right_iff _).2 hR, ?_, ?_, by rw [hk]; omega, by rw [hF]; simp, ?_⟩
  · unfold There
    simp only [Dt.lad]
    omega
  · simp only [Dt.lad]; omega
  · have h := (Dt.F_deep hR (by simp only [Dt.lad]; omega) 0 (n + 1) (by rw [Dt.lad_n]; omega) (by rw [Dt.lad_n]; omega) (by rw [hk]; omega)).run
    rw [hk] at h
    exact h

set_option maxHeartbeats 8000000 in
set_option maxRecDepth 100000 in
theorem long_out (k : Int) (hk : ¬ (1 ≤ k ∧ k ≤ 40)) {w : World} {a b i n m : Addr} (hC : CmpSent w a b i n m) (hT : Tab w) (hG : ErrT w) :
    Calls Tryz.prog 7 #[.int .i64 k] w (GoodD w) := by
  have HA := Lib.hid (aliveD_any hT hG hC)
  have hcs : decide (k < 1) = true ∨ decide (k < 1) = false ∧ decide (40 < k) = true := by
    simp only [decide_eq_true_eq, decide_eq_false_iff_not]
    omega
  clear hC hT hG hk
  rcases hcs with q1 | ⟨q1, q2⟩
  all_goals
    go_enter Tryz.func7, Tryz.ntmps7
    go_wp2_with (go_at_call 9; refine HA.out.mono ?_; rintro r w1 ⟨rfl, hu1⟩)
    go_ret
    exact ⟨rfl, hu1⟩

theorem cells2_first (l : List (Int × Int)) (i : Nat) (hi : i < l.length) : (cells2 l)[i * 2]? = some (.int .i64 (l.getD i (0, 0)).1) := by
  have h3 := flat_get (enc := two) two_len l i 0 hi (by omega)
  rw [Nat.add_zero] at h3
  have e : cells2 l = l.flatMap two := rfl
  rw [e, h3]
  simp [two, List.getD, hi]

/-- What Formula tells of the ladder. -/
def LadForm (N : Nat) (w : World) (r : Ending) (w' : World) : Prop :=
  Up w w' ∧ ∃ g c, r = .returned (.tuple #[.slice (some ⟨g, 0, none⟩) (N + 1) c, .nilIface]) ∧ w'.cell? ⟨g, 0, none⟩ = some (.int .i64 1) ∧ w'.cell? ⟨g, N * 2, none⟩ = some (.int .i64 4) ∧ Ls2 w' (.slice (some ⟨g, 0, none⟩) (N + 1) c) (Dt.F (Dt.lad N) 0 (N + 1))

theorem lad_form (N : Nat) (h1 : 1 ≤ N) (h2 : N ≤ 40) {W : World} {ev : Value} {a b i n m : Addr} (hC : CmpSent W a b i n m) (hT : Tab W) (hG : ErrT W) (hs : Ls3 W ev (Dt.rungs N N)) :
    Calls Tryz.prog 25 #[.agg #[.int .i64 (2 * (N : Int) + 1), .int .i64 3, .int .i64 0, ev], .int .i64 0, .int .i64 ((N : Int) + 1)] W (LadForm N W) := by
  obtain ⟨f1, f2, f3, f4, f5, f6⟩ := lad_facts h1 h2
  have hml : (Dt.lad N).es.length ≤ maxLen := by
    have h := Dt.rungs_len N N
    show (Dt.rungs N N).length ≤ maxLen
    unfold maxLen
    omega
  have h := formulaTop_ok (Dt.lad N) ev 0 (N + 1) a b i n m W hT hG hs hC hml f1 f2 f3 f4 (by rw [f5]; omega)
  have e : ((N + 1 : Nat) : Int) = (N : Int) + 1 := by push_cast; rfl
  rw [e] at h
  refine Calls.mono h ?_
  rintro r w' ⟨hu, ao, cap, rfl, hown⟩
  have hFe := Dt.F_long h1 h2
  rcases owns_cases hown with ⟨_, h0, _⟩ | ⟨g, c, e2, hrow, _⟩
  · rw [f5] at h0; omega
  · have c0 : w'.cell? ⟨g, 0, none⟩ = some (.int .i64 1) := hrow.cell (i := 0) (by rw [hFe]; rfl)
    have c1 : w'.cell? ⟨g, N * 2, none⟩ = some (.int .i64 4) := by
      refine hrow.cell (i := N * 2) ?_
      rw [cells2_first _ N (by rw [f5]; omega), hFe]
      obtain ⟨k, rfl⟩ : ∃ k, N = k + 1 := ⟨N - 1, by omega⟩
      simp [List.getD]
    rw [e2] at hown
    have hls := owns_ls2 hown
    rw [f5] at e2 hls
    simp only [Value.slice.injEq] at e2
    obtain ⟨rfl, -, rfl⟩ := e2
    exact ⟨hu, g, cap, by rw [f5], c0, c1, hls⟩

set_option maxHeartbeats 8000000 in
set_option maxRecDepth 100000 in
theorem long_in (N : Nat) (h1 : 1 ≤ N) (h2 : N ≤ 40) {w : World} {a b i n m : Addr} (hC : CmpSent w a b i n m) (hT : Tab w) (hG : ErrT w) :
    Calls Tryz.prog 7 #[.int .i64 (N : Nat)] w (GoodD w) := by
  obtain ⟨i0, hi, hz0, hz1, hz2⟩ := info_parts Tryz.edgeInfoD
  have HA : Hid (∀ W, Up w W → Calls Tryz.prog 9 #[] W fun r w' => r = .returned (.bool true) ∧ Up W w') := Lib.hid (fun W hW => aliveD_any (hT.up hW) (hW.cell hG) (hC.up hW))
  have HF : Hid (∀ W ev, Up w W → Ls3 W ev (Dt.rungs N N) → Calls Tryz.prog 25 #[.agg #[.int .i64 (2 * (N : Int) + 1), .int .i64 3, .int .i64 0, ev], .int .i64 0, .int .i64 ((N : Int) + 1)] W (LadForm N W)) := Lib.hid (fun W ev hW hls => lad_form N h1 h2 (hC.up hW) (hT.up hW) (hW.cell hG) hls)
  have q1 : decide ((N : Int) < 1) = false := by simp; omega
  have q2 : decide ((40 : Int) < (N : Int)) = false := by simp; omega
  have HFE := Lib.hid (Dt.F_long h1 h2)
  have HFL := Lib.hid (lad_facts h1 h2).2.2.2.2.1
  have HEX := Lib.hid (lad_facts h1 h2).2.2.2.2.2
  clear hC hT hG
  go_enter Tryz.func7, Tryz.ntmps7
  go_wp2_with fail
  have L0 : LadAt w (w.alloc (.cells #[.int .i64 (2 * (N : Int) + 1), .int .i64 3, .int .i64 0, .slice none 0 0] 27)) N (.slice none 0 0) [] := ⟨(Up.refl w).alloc _, heap_alloc_new w _, World.ownsRow_nil _ _ _ _⟩
  go_loopw [4] (fun i wr => ∃ (j : Nat) (ev : Value), i = .int .i64 j ∧ j ≤ N ∧ Hid (LadAt w wr N ev (Dt.rungs N j))) (fun i _ => N - (intOf i).toNat)
  case atStart => exact ⟨0, _, rfl, Nat.zero_le _, Lib.hid (by rw [Dt.rungs_zero]; exact L0)⟩
  case round =>
    obtain ⟨j, ev, rfl, hj, HR⟩ := hrel
    have hbx := HR.out.box
    obtain ⟨⟨x0, x1, x2, x3⟩, xf0, xf1, xf2, xf3⟩ := four_cells hbx
    obtain ⟨eo, ec, hev⟩ := owns_shape' HR.out.row
    have hrl := Dt.rungs_len N j
    obtain ⟨K, hK⟩ : ∃ K, K = (Dt.rungs N j).length := ⟨_, rfl⟩
    rw [← hK] at hev hrl
    subst hev
    by_cases hlt : j < N
    · have HR2 : Hid (LadAt w wr N (.slice eo K ec) (Dt.rungs N j)) := HR
      have HKK := Lib.hid hK
      have HROWK : Hid (wr.ownsRow (w.heap.size + 1) 67 3 (.slice eo K ec) K (cells3 (Dt.rungs N j))) := Lib.hid (by have h := HR2.out.row; rw [← hK] at h; exact h)
      clear hbx hK HR
      go_upto_region 8 with (at_builtin; refine wpList_append_lies _ rfl _ _ 25 rfl (w.heap.size + 1) 67 i0 (.agg #[.int .i64 0, .int .i64 0, .int .i64 0]) 3 24 Tryz.underlying25 hi hz0 hz1 hz2 rfl (by decide) _ K _ rfl (HROWK.out.alloc _) ⟨wr.heap.size, 0, none⟩ 1 1 [.int .i64 ((j : Int)), .int .i64 1, .int .i64 ((j : Int) + 1)] rfl rfl (cells_newD3 _ _ _ _ _) (tri_one ((j : Int), 1, (j : Int) + 1)) (by omega) (by unfold maxLen; omega) (by omega) (by have := lt_of_block' HR2.out.box; simp only [World.size_alloc]; omega) _ rfl ?_; intro g1 c1 y1 y1O y1G y1N y1T; (obtain ⟨⟨y10, y11, y12, y13⟩, y1f0, y1f1, y1f2, y1f3⟩ := four_cells (HR2.out.mid y1G)); (have Hy1O := Lib.hid y1O); (have Hy1G := Lib.hid y1G); clear y1O y1G y1N y1T)
      have HO1 : Hid (y1.ownsRow (w.heap.size + 1) 67 3 (.slice (some ⟨g1, 0, none⟩) (K + 1) c1) ((Dt.rungs N j).length + 1) (cells3 (Dt.rungs N j) ++ tri ((j : Int), 1, (j : Int) + 1))) := Lib.hid (by rw [← HKK.out]; exact Hy1O.out)
      have L1 := HR2.out.push Hy1G.out HO1.out
      have hl1 : (Dt.rungs N j ++ [((j : Int), (1 : Int), (j : Int) + 1)]).length = K + 1 := by rw [List.length_append, ← HKK.out]; rfl
      obtain ⟨⟨z0, z1, z2, z3⟩, zf0, zf1, zf2, zf3⟩ := four_cells L1.box
      have HL1 := Lib.hid L1
      have HLL := Lib.hid hl1
      have HROWY : Hid ((y1.setCell ⟨w.heap.size, 3, none⟩ (.slice (some ⟨g1, 0, none⟩) (K + 1) c1)).ownsRow (w.heap.size + 1) 67 3 (.slice (some ⟨g1, 0, none⟩) (K + 1) c1) (K + 1) (cells3 (Dt.rungs N j ++ [((j : Int), (1 : Int), (j : Int) + 1)]))) := Lib.hid (by have h := L1.row; rw [hl1] at h; exact h)
      obtain ⟨Y, hY⟩ : ∃ Y, Y = y1.setCell ⟨w.heap.size, 3, none⟩ (.slice (some ⟨g1, 0, none⟩) (K + 1) c1) := ⟨_, rfl⟩
      rw [← hY] at HL1 HROWY z0 z1 z2 z3 zf0 zf1 zf2 zf3 ⊢
      clear L1 hl1 x0 x1 x2 x3 xf0 xf1 xf2 xf3 y10 y11 y12 y13 y1f0 y1f1 y1f2 y1f3 hY Hy1O Hy1G HO1
      by_cases hlast : j + 1 < N
      · have HS : Hid (Dt.rungs N (j + 1) = Dt.rungs N j ++ [((j : Int), (1 : Int), (j : Int) + 1)] ++ [((N : Int) + 1 + j, (1 : Int), (N : Int) + 2 + j)]) := Lib.hid (by rw [Dt.rungs_succ]; simp [Dt.rung, hlast])
        have q3 : decide ((j : Int) + 1 < (N : Int)) = true := by simp; omega
        clear hlast
        go_wp2_with (at_builtin; refine wpList_append_lies _ rfl _ _ 25 rfl (w.heap.size + 1) 67 i0 (.agg #[.int .i64 0, .int .i64 0, .int .i64 0]) 3 24 Tryz.underlying25 hi hz0 hz1 hz2 rfl (by decide) _ (K + 1) _ rfl (HROWY.out.alloc _) ⟨Y.heap.size, 0, none⟩ 1 1 [.int .i64 ((N : Int) + 1 + j), .int .i64 1, .int .i64 ((N : Int) + 2 + j)] rfl rfl (cells_newD3 _ _ _ _ _) (tri_one ((N : Int) + 1 + j, 1, (N : Int) + 2 + j)) (by omega) (by unfold maxLen; omega) (by omega) (by have := lt_of_block' HL1.out.box; simp only [World.size_alloc]; omega) _ rfl ?_; intro g2 c2 y2 y2O y2G y2N y2T; (obtain ⟨⟨y20, y21, y22, y23⟩, y2f0, y2f1, y2f2, y2f3⟩ := four_cells (HL1.out.mid y2G)); (have Hy2O := Lib.hid y2O); (have Hy2G := Lib.hid y2G); clear y2O y2G y2N y2T)
        have HO2 : Hid (y2.ownsRow (w.heap.size + 1) 67 3 (.slice (some ⟨g2, 0, none⟩) (K + 1 + 1) c2) ((Dt.rungs N j ++ [((j : Int), (1 : Int), (j : Int) + 1)]).length + 1) (cells3 (Dt.rungs N j ++ [((j : Int), (1 : Int), (j : Int) + 1)]) ++ tri ((N : Int) + 1 + j, 1, (N : Int) + 2 + j))) := Lib.hid (by rw [HLL.out]; exact Hy2O.out)
        have L2 := Lib.hid (HL1.out.push Hy2G.out HO2.out)
        go_roundw
        case rel => exact ⟨j + 1, _, by go_num, by omega, by rw [HS.out]; exact L2⟩
        case measure => simp [intOf]; omega
      · have HS : Hid (Dt.rungs N (j + 1) = Dt.rungs N j ++ [((j : Int), (1 : Int), (j : Int) + 1)]) := Lib.hid (by rw [Dt.rungs_succ]; simp [Dt.rung, hlast])
        have q3 : decide ((j : Int) + 1 < (N : Int)) = false := by simp; omega
        clear hlast
        go_wp2_with fail
        go_roundw
        case rel => exact ⟨j + 1, _, by go_num, by omega, by rw [HS.out]; exact HL1⟩
        case measure => simp [intOf]; omega
    · obtain rfl : j = N := by omega
      have HLS := Lib.hid (owns_ls3 HR.out.row)
      have HUP := Lib.hid HR.out.up
      have HCF := Lib.hid (HF.out wr _ HUP.out HLS.out)
      have HDP : Hid (∀ W v, Ls2 W v (Dt.F (Dt.lad j) 0 (j + 1)) → Calls Tryz.prog 26 #[v] W fun r w' => r = .returned (.int .i64 (j : Nat)) ∧ Up W w') := Lib.hid (fun W v hv => depthTop_any hv (by rw [HFL.out]; omega) HEX.out)
      clear HF HR hbx hK HEX HFE HFL HLS
      go_wp2_with (first
        | (go_at_call 25; refine HCF.out.mono ?_; rintro r w2 ⟨hu2, gf, cf, rfl, c0, c1, hls2⟩; (have HL2 := Lib.hid hls2); (have HU2 := Lib.hid (HUP.out.trans hu2)); clear hls2 hu2)
        | (go_at_call 9; refine (HA.out _ HU2.out).mono ?_; rintro r w3 ⟨rfl, hu3⟩; (have d0 := hu3.cell c0); (have d1 := hu3.cell c1); (have HU3 := Lib.hid hu3); clear c0 c1 hu3)
        | (go_at_call 26; refine (HDP.out _ _ (HL2.out.up HU3.out)).mono ?_; rintro r w4 ⟨rfl, hu4⟩))
      go_ret
      exact ⟨ret_bool (by simp), (HU2.out.trans HU3.out).trans hu4⟩

theorem long_any (k : Int) {w : World} {a b i n m : Addr} (hC : CmpSent w a b i n m) (hT : Tab w) (hG : ErrT w) :
    Calls Tryz.prog 7 #[.int .i64 k] w (GoodD w) := by
  by_cases hk : 1 ≤ k ∧ k ≤ 40
  · obtain ⟨N, rfl⟩ : ∃ N : Nat, k = (N : Nat) := ⟨k.toNat, by omega⟩
    exact long_in N (by omega) (by omega) hC hT hG
  · exact long_out k hk hC hT hG

end Go.Proofs.YtkcdkfkgjjpaaaaGreatDoor
