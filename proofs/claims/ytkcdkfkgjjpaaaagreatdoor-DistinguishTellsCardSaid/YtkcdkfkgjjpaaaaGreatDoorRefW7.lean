/- Walks: refine.Of. Walks: refine.New; a block's row. -/
import Derived.Test.YtkcdkfkgjjpaaaaGreatDoorRefOb
import Derived.Test.YtkcdkfkgjjpaaaaGreatDoorCanonW
import Derived.Deep.RegionWith
import Derived.Deep.DeepCutAuto
import Derived.BigRegion
import Derived.BigQuiet
import Derived.Deep.QuietTactic

namespace Go.Proofs.YtkcdkfkgjjpaaaaGreatDoor
open Go.RowKit Go.Maps
set_option linter.unusedVariables false
set_option linter.unusedSimpArgs false

theorem Tryz.blockInfo : (Tryz.prog.info? 320).map (fun i => (i.zero, i.size, i.bytes)) = some (some (.agg #[.int .i64 0, .int .i64 0, .int .i64 0]), 3, 24) := by kernel_rfl

/-- What the statement that makes the partition leaves. -/
def MadeBox (w : World) (n : Nat) (l : List Int) (v : Value) (w' : World) : Prop :=
  ∃ Bx gi gp : Nat, v = .pointer (some ⟨Bx, 0, none⟩) ∧ w'.heap[Bx]? = some (.cells #[.slice none 0 0, .slice (some ⟨gp, 0, none⟩) n n, .slice (some ⟨gi, 0, none⟩) n n, .slice none 0 0] 277 (0, 0)) ∧
    Row w' gi 3 n (ints (Cn.canon l)) ∧ Row w' gp 3 n (ints (List.replicate n 0)) ∧ gi ≠ gp ∧ w.heap.size ≤ gi ∧ w.heap.size ≤ gp ∧ w.heap.size ≤ Bx ∧ Below w.heap.size w w'

theorem zero_row (w : World) (n : Nat) (Z : Array Value) (hZ : Z = madeCells (Value.int .i64 0).cells (n * 1)) : Row (w.alloc (.cells Z 3)) w.heap.size 3 n (ints (List.replicate n 0)) := by
  refine ⟨Z, heap_alloc_new w _, by rw [hZ, size_madeCells]; omega, by simp [ints], ?_⟩
  have e : Z.toList = ints (List.replicate n 0) := by
    rw [hZ, Nat.mul_one, ints_zero]; exact toList_madeCells_one _ _
  rw [e, List.take_of_length_le (Nat.le_refl _)]

set_option maxHeartbeats 4000000 in
set_option maxRecDepth 100000 in
theorem of_any' (g off n cap : Nat) (ao : Option Addr) (hao : 0 < n → ao = some ⟨g, off, none⟩) (l : List Int) (w : World) (hl : l.length = n) (hn : n ≤ 1000)
    (hwf : ∀ k, k < n → (Lit.int .i64 (l.getD k 0)).wf = true) (hc : ∀ k, k < n → w.cell? ⟨g, off + k, none⟩ = some (.int .i64 (l.getD k 0))) :
    Calls Tryz.prog 219 #[.slice ao n cap] w (NewPart w (Rf.ofSt l)) := by
  obtain ⟨i0, hi, hz0, hz1, hz2⟩ := info_parts Tryz.intInfo
  have hgb : 0 < n → g < w.heap.size := fun h => World.block_lt_of_cell? w _ (hc 0 h)
  obtain ⟨Z, hZ⟩ : ∃ Z, Z = madeCells (Value.int .i64 0).cells (n * 1) := ⟨_, rfl⟩
  have hmk : ∀ w, (Instr.makeSlice 35 (.int .i64 (n : Int)) (.int .i64 (n : Int))).run Tryz.prog w = .ok (.slice (some ⟨w.heap.size, 0, none⟩) n n) (w.alloc (.cells Z 3)) := by
    intro w
    have h := run_make (P := Tryz.prog) w 35 3 i0 (.int .i64 0) Tryz.underlying35 hi hz0 .i64 .i64 n n (by omega) (by omega) (by rw [hz2]; omega) (by omega)
    rw [h, hZ, hz1]; simp
  have HC : Hid (∀ k, k < n → w.drew.cell? ⟨g, off + k, none⟩ = some (.int .i64 (l.getD k 0))) := hc
  have HCA : Hid (∀ k, k < n → (w.alloc (.cells Z 3)).drew.cell? ⟨g, off + k, none⟩ = some (.int .i64 (l.getD k 0))) := by
    intro k hk
    show (w.alloc _).cell? _ = _
    rw [World.cell?_alloc_lt _ _ _ (hgb (by omega))]; exact hc k hk
  have HZ := Lib.hid hZ
  have HL := Lib.hid hl
  have HAO := Lib.hid hao
  clear hao
  have HWF := Lib.hid hwf
  clear hZ hl hwf hc
  have hd : decide (1000 < (n : Int)) = false := by simp; omega
  go_enter Tryz.func219, Tryz.ntmps219
  go_upto_region 3 with fail
  go_cut [4] (MadeBox w n l)
  case first =>
    go_region_with (go_at_call 194; refine (canon_any' g off n cap _ HAO.out l _ HL.out (by omega) HWF.out (by first | exact HC.out | exact HCA.out)).mono ?_; rintro e w1 ⟨rfl, hrow, hbel⟩)
    all_goals go_wp2_with fail
    all_goals go_meet
    · have hb : Below w.heap.size w w1 := (Below.refl _ _).drew.trans hbel
      have hsz := hbel.size
      have hlt := hrow.lt
      have hsd : w.drew.heap.size = w.heap.size := rfl
      rw [hsd] at hrow hlt hsz
      refine ⟨w1.heap.size + 1, w.heap.size + 1, w1.heap.size, rfl, ?_, (hrow.alloc _).alloc _, (zero_row w1 n Z HZ.out).alloc _, by omega, by omega, by omega, by omega, (hb.alloc (by omega) _).alloc (by simp; omega) _⟩
      have := heap_alloc_new (w1.alloc (.cells Z 3)) (.cells #[.slice none 0 0, .slice (some ⟨w1.heap.size, 0, none⟩) n n, .slice (some ⟨w.heap.size + 1, 0, none⟩) n n, .slice none 0 0] 277)
      rw [World.size_alloc] at this
      exact this
    · have hz := zero_row w n Z HZ.out
      have hsz := hbel.size
      have hlt := hrow.lt
      have hsd : (w.alloc (.cells Z 3)).drew.heap.size = w.heap.size + 1 := by show (w.alloc _).heap.size = _; simp
      rw [hsd] at hrow hlt hsz hbel
      have hb : Below w.heap.size w w1 := (((Below.refl _ _).alloc (Nat.le_refl _) _).drew).trans (hbel.mono (by omega))
      have hz' : Row w1 w.heap.size 3 n (ints (List.replicate n 0)) := hz.keep (hbel.block _ (by omega))
      exact ⟨w1.heap.size, w.heap.size + 1 + 1, w.heap.size, rfl, heap_alloc_new w1 _, hrow.alloc _, hz'.alloc _, by omega, by omega, by omega, by omega, hb.alloc (by omega) _⟩
  case rest =>
    obtain ⟨Bx, gi, gp, rfl, hbox, hri, hrp, hne, hgi, hgp, hBx, hbel⟩ := hcut
    obtain ⟨j0, hj, hy0, hy1, hy2⟩ := info_parts Tryz.blockInfo
    have hcc : ∀ k, k < n → wc.cell? ⟨g, off + k, none⟩ = some (.int .i64 (l.getD k 0)) := fun k hk => (hbel.cell (p := ⟨g, off + k, none⟩) (hgb (by omega))).trans ((show w.cell? ⟨g, off + k, none⟩ = _ from HC.out k hk))
    have HCC := Lib.hid hcc
    have hsn := Cn.seen_len l
    have hsn' : (Cn.seen l).length ≤ n := by rw [HL.out] at hsn; exact hsn
    clear hcc hsn hmk
    go_wp2_with fail
    refine (together_any' g off n cap _ HAO.out l _ HL.out (by omega) HWF.out HCC.out).mono ?_
    rintro e w2 ⟨rfl, hb2⟩
    have hx2 : w2.heap[Bx]? = some (.cells #[.slice none 0 0, .slice (some ⟨gp, 0, none⟩) n n, .slice (some ⟨gi, 0, none⟩) n n, .slice none 0 0] 277 (0, 0)) := (hb2.block _ (lt_of_block hbox)).trans hbox
    obtain ⟨nb, hnb⟩ : ∃ nb, nb = (Cn.seen l).length := ⟨_, rfl⟩
    rw [← hnb] at hsn' ⊢
    have HNB := Lib.hid hnb
    clear hnb
    have hgi2 := hri.lt
    have hgp2 := hrp.lt
    have hBx2 := lt_of_block hbox
    have hs2 := hb2.size
    have hri2 := hri.keep (hb2.block _ hgi2)
    have hrp2 := hrp.keep (hb2.block _ hgp2)
    have hbel2 : Below w.heap.size w w2 := hbel.trans (hb2.mono hbel.size)
    have hBi : Bx ≠ gi := by
      intro e; obtain ⟨cur, hh, _⟩ := hri; rw [← e, hbox] at hh; simp at hh
    have hBp : Bx ≠ gp := by
      intro e; obtain ⟨cur, hh, _⟩ := hrp; rw [← e, hbox] at hh; simp at hh
    clear hbox hri hrp hbel
    go_wp2_with (at_make; refine wpList_make_full _ rfl _ _ 275 rfl 0 320 j0 _ 3 Tryz.underlying275 hj hy0 hy1 _ _ _ _ nb rfl rfl rfl rfl (by rw [hy2]; omega) (by unfold maxLen; omega) (Nat.zero_le _) ?_; intro w3 hown3 hgrow3; (have hx3 : w3.heap[Bx]? = some (.cells #[.slice none 0 0, .slice (some ⟨gp, 0, none⟩) n n, .slice (some ⟨gi, 0, none⟩) n n, .slice none 0 0] 277 (0, 0)) := (hgrow3.block _ (lt_of_block hx2) (by simp)).trans hx2); (have hx33 : w3.cell? ⟨Bx, 3, none⟩ = some (.slice none 0 0) := by simp [World.cell?, hx3]); (have hf33 : w3.frozen? ⟨Bx, 3, none⟩ = false := by simp [World.frozen?, hx3]))
    obtain ⟨inn, hinn⟩ : ∃ inn, inn = Cn.canon l := ⟨_, rfl⟩
    rw [← hinn] at hri2
    have HINN := Lib.hid hinn
    have hinl : inn.length = n := by rw [hinn, Cn.canon_len, HL.out]
    clear hinn
    have hs3 := hgrow3.size
    have hgb3 : w2.heap.size < w3.heap.size := (Row.of hown3).1.lt
    have hB : OfB w Bx gi gp w2.heap.size w3.heap.size := ⟨hne, by omega, by omega, hBi, hBp, by omega, by omega, by omega, by omega, by omega, by omega, by omega, by have := hbel2.size; omega, by omega⟩
    have hR0 : OfR w (w3.setCell ⟨Bx, 3, none⟩ (.slice (some ⟨w2.heap.size, 0, none⟩) nb nb)) Bx gi gp w2.heap.size w3.heap.size n nb inn (.slice none 0 0) (Rf.outer inn n 0).1 ((Rf.outer inn n 0).2 ++ List.replicate (nb - 0) (0, 0, 0)) := by
      refine ⟨by simp [World.setCell, Array.getElem?_modify, hx3], World.ownsRow_nil _ _ _ _, (hrp2.keep (hgrow3.block _ (by omega) (by simp))).other (fun e => hBp e.symm) _, (hri2.keep (hgrow3.block _ (by omega) (by simp))).other (fun e => hBi e.symm) _, ?_, (hbel2.grown hgrow3 hbel2.size (by simp)).setCell hBx _, by simp⟩
      have h := (Row.of hown3).1
      rw [madeCells_blocks] at h
      simpa [Rf.outer] using h.other (a := ⟨Bx, 3, none⟩) (show w2.heap.size ≠ Bx by omega) _
    obtain ⟨S0, hS0⟩ : ∃ S0, S0 = w3.heap.size := ⟨_, rfl⟩
    obtain ⟨gb, hgbe⟩ : ∃ gb, gb = w2.heap.size := ⟨_, rfl⟩
    rw [← hS0, ← hgbe] at hB hR0
    rw [← hgbe]
    clear hx3 hx33 hf33 hown3 hgrow3 hx2 hri2 hrp2 hbel2 hb2 hs3 hgb3 hs2 hgi2 hgp2 hBx2 hBi hBp hS0 hgbe hgi hgp hBx hne
    go_loopw [31] (fun i wr => ∃ (b : Nat) (ve : Value), b ≤ nb ∧ i = .int .i64 b ∧ OfR w wr Bx gi gp gb S0 n nb inn ve (Rf.outer inn n b).1 ((Rf.outer inn n b).2 ++ List.replicate (nb - b) (0, 0, 0)))
      (fun i _ => nb - (intOf i).toNat)
    case atStart => exact ⟨0, _, Nat.zero_le _, rfl, hR0⟩
    case round =>
      clear hR0
      obtain ⟨b, ve, hb, rfl, hR⟩ := hrel
      by_cases hlt : b < nb
      · obtain ⟨ao, c, rfl⟩ := owns_shape hR.el
        have hmn : (Rf.outer inn n b).1.1.length ≤ n := by
          have := Rf.outer_le l b (by rw [← HNB.out]; omega)
          rw [← HINN.out, HL.out] at this; exact this
        obtain ⟨m, hm⟩ : ∃ m, m = (Rf.outer inn n b).1.1.length := ⟨_, rfl⟩
        obtain ⟨bl, hbl⟩ : ∃ bl, bl = (Rf.outer inn n b).2 ++ List.replicate (nb - b) (0, 0, 0) := ⟨_, rfl⟩
        rw [← hm] at hR hmn
        rw [← hbl] at hR
        have HM := Lib.hid hm
        have HBL := Lib.hid hbl
        have hbll : bl.length = nb := by rw [hbl, List.length_append, Rf.outer_blocks, List.length_replicate]; omega
        clear hm hbl
        have c0 : wr.cell? ⟨Bx, 0, none⟩ = some (.slice ao m c) := by simp [World.cell?, hR.box]
        have c2 : wr.cell? ⟨Bx, 2, none⟩ = some (.slice (some ⟨gi, 0, none⟩) n n) := by simp [World.cell?, hR.box]
        have c3 : wr.cell? ⟨Bx, 3, none⟩ = some (.slice (some ⟨gb, 0, none⟩) nb nb) := by simp [World.cell?, hR.box]
        have cb := hR.bk.cell (cellsB_get0 bl b (by omega))
        have fb := hR.bk.free (b * 3)
        go_wp2_with fail
        go_region
        have hR1 := (hR.setB hB (b * 3) (.int .i64 (m : Nat)) _ (cellsB_set0 bl b m (by omega))).drew
        obtain ⟨wx, hwx⟩ : ∃ wx, (wr.setCell ⟨gb, b * 3, none⟩ (.int .i64 (m : Nat))).drew = wx := ⟨_, rfl⟩
        rw [hwx] at hR1
        rw [hwx]
        clear hwx c0 c2 c3 cb fb
        have c2 : wx.cell? ⟨Bx, 2, none⟩ = some (.slice (some ⟨gi, 0, none⟩) n n) := by simp [World.cell?, hR1.box]
        go_wp2_with fail
        obtain ⟨q, hq⟩ : ∃ q, q = (Rf.outer inn n b).1 := ⟨_, rfl⟩
        rw [← hq] at hR1
        have HQ := Lib.hid hq
        have hmq : m = q.1.length := by rw [hq]; exact HM.out
        obtain ⟨bl1, hbl1⟩ : ∃ x, x = bl.set b (m, (bl.getD b (0, 0, 0)).2.1, (bl.getD b (0, 0, 0)).2.2) := ⟨_, rfl⟩
        rw [← hbl1] at hR1
        have HBL1 := Lib.hid hbl1
        have hbll1 : bl1.length = nb := by rw [hbl1, List.length_set, hbll]
        rw [hmq] at hR1
        have HMQ := Lib.hid hmq
        clear hq hbl1 hmq hR c2
        go_loopw [51] (fun i wr => ∃ (k : Nat) (ve : Value), k ≤ n ∧ i = .int .i64 k ∧ OfR w wr Bx gi gp gb S0 n nb inn ve (Rf.inner inn b k q) bl1)
          (fun i _ => n - (intOf i).toNat)
        case atStart => exact ⟨0, _, Nat.zero_le _, rfl, hR1⟩
        case round =>
          clear hR1
          obtain ⟨k, ve, hk, rfl, hR⟩ := hrel
          by_cases hkn : k < n
          · obtain ⟨x, hx⟩ : ∃ x, x = inn.getD k 0 := ⟨_, rfl⟩
            have ci := hR.ir.cell (ints_get (l := inn) (i := k) (by omega))
            rw [← hx] at ci
            have HX := Lib.hid hx
            clear hx
            by_cases hxb : x = b
            · obtain ⟨ao1, c1, rfl⟩ := owns_shape hR.el
              have hmn1 : (Rf.inner inn b k q).1.length ≤ n := by
                have := Rf.inner_le l b k (by rw [← HNB.out]; omega) (by rw [HL.out]; exact hk)
                rw [← HINN.out, HL.out, ← HQ.out] at this; exact this
              obtain ⟨q1, hq1⟩ : ∃ q1, q1 = Rf.inner inn b k q := ⟨_, rfl⟩
              rw [← hq1] at hR hmn1
              obtain ⟨m1, hm1⟩ : ∃ m1, m1 = q1.1.length := ⟨_, rfl⟩
              rw [← hm1] at hR hmn1
              have HQ1 := Lib.hid hq1
              have HM1 := Lib.hid hm1
              clear hq1 hm1
              have hxb' : ((x : Int) == (b : Int)) = true := by simp; omega
              have d0 : wr.cell? ⟨Bx, 0, none⟩ = some (.slice ao1 m1 c1) := by simp [World.cell?, hR.box]
              have d1 : wr.cell? ⟨Bx, 1, none⟩ = some (.slice (some ⟨gp, 0, none⟩) n n) := by simp [World.cell?, hR.box]
              have hpl : q1.2.length = n := by rw [HQ1.out, (Rf.inner_len _ _ _ _).1, HQ.out, Rf.outer_place]
              have dp := hR.pl.cell (ints_get (l := q1.2) (i := k) (by omega))
              have fp := hR.pl.free k
              have HXB := Lib.hid hxb
              have HPL := Lib.hid hpl
              clear hxb hpl
              go_wp2_with fail
              go_region
              have hR2 := (hR.setP hB k m1).drew
              obtain ⟨wy, hwy⟩ : ∃ wy, (wr.setCell ⟨gp, k, none⟩ (.int .i64 (m1 : Nat))).drew = wy := ⟨_, rfl⟩
              rw [hwy] at hR2
              rw [hwy]
              clear hwy d0 d1 dp fp ci hR
              have d0 : wy.cell? ⟨Bx, 0, none⟩ = some (.slice ao1 m1 c1) := by simp [World.cell?, hR2.box]
              have hel := hR2.el
              have hlt : (q1.1, q1.2.set k m1).1.length = m1 := HM1.out.symm
              rw [hlt] at hel
              have hS := hR2.s0
              have hBS := hB.l4
              go_wp2_with (at_builtin; (refine wpList_append_own _ rfl _ _ 35 rfl S0 3 i0 (.int .i64 0) 1 8 Tryz.underlying35 hi hz0 hz1 hz2 rfl (by decide) _ m1 _ rfl (hel.alloc _) ⟨wy.heap.size, 0, none⟩ 1 1 [.int .i64 (k : Nat)] rfl rfl (cell_one_new _ _ _) (ints_oneCell .i64 [(k : Int)]) (by unfold maxLen; omega) (by omega) (by simp; omega) ?_); intro v' w1 hown' hgrow' hnil'; clear hnil'; (obtain ⟨ao2, c2, rfl⟩ := owns_shape hown'); (have hbx1 : w1.heap[Bx]? = some (.cells #[.slice ao1 m1 c1, .slice (some ⟨gp, 0, none⟩) n n, .slice (some ⟨gi, 0, none⟩) n n, .slice (some ⟨gb, 0, none⟩) nb nb] 277 (0, 0)) := (hgrow'.block Bx (by simp; omega) (by intro e; have := (hel.lt Bx e.symm).1; omega)).trans ((Below.heap_alloc _ _ _ (by omega)).trans hR2.box)); (have hc1 : w1.cell? ⟨Bx, 0, none⟩ = some (.slice ao1 m1 c1) := by simp [World.cell?, hbx1]); (have hf1 : w1.frozen? ⟨Bx, 0, none⟩ = false := by simp [World.frozen?, hbx1]))
              rw [← hlt] at hown'
              have hR3 := hR2.push hB k hown' hgrow'
              rw [hlt] at hR3
              go_roundw
              case rel => exact ⟨k + 1, _, by omega, by go_num, by rw [Rf.inner_succ, ← HQ1.out, Rf.pushE, if_pos (by rw [← HX.out]; exact HXB.out), ← HM1.out]; exact hR3⟩
              case measure => simp [intOf]; omega
            · have hxb' : ((x : Int) == (b : Int)) = false := by simp; omega
              go_wp2_with fail
              go_roundw
              case rel => exact ⟨k + 1, ve, by omega, by go_num, by rw [Rf.inner_succ, Rf.pushE, if_neg (by rw [← HX.out]; exact hxb)]; exact hR⟩
              case measure => simp [intOf]; omega
          · obtain rfl : k = n := by omega
            obtain ⟨ao1, c1, rfl⟩ := owns_shape hR.el
            have hmn1 : (Rf.inner inn b k q).1.length ≤ k := by
              have := Rf.inner_le l b k (by rw [← HNB.out]; omega) (by rw [HL.out]; exact hk)
              rw [← HINN.out, HL.out, ← HQ.out] at this; exact this
            obtain ⟨q1, hq1⟩ : ∃ q1, q1 = Rf.inner inn b k q := ⟨_, rfl⟩
            rw [← hq1] at hR hmn1
            obtain ⟨m1, hm1⟩ : ∃ m1, m1 = q1.1.length := ⟨_, rfl⟩
            rw [← hm1] at hR hmn1
            have HQ1 := Lib.hid hq1
            have HM1 := Lib.hid hm1
            clear hq1 hm1
            have d0 : wr.cell? ⟨Bx, 0, none⟩ = some (.slice ao1 m1 c1) := by simp [World.cell?, hR.box]
            have d3 : wr.cell? ⟨Bx, 3, none⟩ = some (.slice (some ⟨gb, 0, none⟩) nb nb) := by simp [World.cell?, hR.box]
            have db := hR.bk.cell (cellsB_get1 bl1 b (by omega))
            have fb := hR.bk.free (b * 3 + 1)
            go_wp2_with fail
            go_region
            have hR2 := (hR.setB hB (b * 3 + 1) (.int .i64 (m1 : Nat)) _ (cellsB_set1 bl1 b m1 (by omega))).drew
            have hnext := blocks_next _ b nb m m1 (Rf.outer_blocks inn k b) hlt bl bl1 HBL.out HBL1.out
            have hfull : Rf.outer inn k (b + 1) = (q1, (Rf.outer inn k b).2 ++ [(m, m1, 0)]) := by
              rw [Rf.outer, ← HQ.out, ← HQ1.out, ← HM1.out, ← HMQ.out]
            rw [hnext] at hR2
            have HF := Lib.hid hfull
            clear hnext hfull d0 d3 db fb hR
            go_wp2_with fail
            go_roundw
            case rel => exact ⟨b + 1, _, by omega, by go_num, by rw [HF.out]; exact hR2⟩
            case measure => simp [intOf]; omega
      · obtain rfl : b = nb := by omega
        go_wp2_with fail
        go_ret2
        have hbl : (Rf.outer inn n b).2 ++ List.replicate (b - b) (0, 0, 0) = (Rf.outer inn n b).2 := by simp
        rw [hbl] at hR
        have hP := hR.part (s := Rf.ofSt l) hB hn (by omega) (by rw [HINN.out, HNB.out, ← HL.out]; rfl) (by rw [HINN.out, HNB.out, ← HL.out]; rfl) HINN.out.symm (by rw [HINN.out, HNB.out, ← HL.out]; rfl)
          (Rf.outer_place _ _ _) hinl (Rf.outer_blocks _ _ _)
        exact ⟨Bx, ve, _, _, _, rfl, hP.1, hP.2, hR.bel⟩

theorem of_any (g off n cap : Nat) (l : List Int) (w : World) (hl : l.length = n) (hn : n ≤ 1000)
    (hwf : ∀ k, k < n → (Lit.int .i64 (l.getD k 0)).wf = true) (hc : ∀ k, k < n → w.cell? ⟨g, off + k, none⟩ = some (.int .i64 (l.getD k 0))) :
    Calls Tryz.prog 219 #[.slice (some ⟨g, off, none⟩) n cap] w (NewPart w (Rf.ofSt l)) :=
  of_any' g off n cap _ (fun _ => rfl) l w hl hn hwf hc

end Go.Proofs.YtkcdkfkgjjpaaaaGreatDoor

namespace Go.Proofs.YtkcdkfkgjjpaaaaGreatDoor
open Go.RowKit Go.Maps
set_option linter.unusedVariables false
set_option linter.unusedSimpArgs false

set_option maxHeartbeats 1000000 in
set_option maxRecDepth 100000 in
theorem new_bad (n : Int) (xt : TypeId) (xv : Value) (w : World) (h : n < 0 ∨ 1000 < n) (hg : w.cell? ⟨6, 0, none⟩ = some (.iface xt xv)) :
    Calls Tryz.prog 186 #[.int .i64 n] w fun r w' =>
      r = .returned (.tuple #[.pointer none, .iface 103 (.pointer (some ⟨w.heap.size, 0, none⟩))]) ∧ w.alloc (.cells #[.string layerRef, .int .i64 0, .int .i64 0, .iface xt xv] 116) = w' := by
  by_cases h0 : n < 0
  · go_enter Tryz.func186, Tryz.ntmps186
    go_wp2_with (go_at_call 99; refine (faultNew _ _ _ _).mono ?_; rintro e w' ⟨rfl, rfl⟩)
    go_ret2
    exact ⟨rfl, rfl⟩
  · have h1 : 1000 < n := by omega
    have h2 : 0 ≤ n := by omega
    clear h
    go_enter Tryz.func186, Tryz.ntmps186
    go_wp2_with (go_at_call 99; refine (faultNew _ _ _ _).mono ?_; rintro e w' ⟨rfl, rfl⟩)
    go_ret2
    exact ⟨rfl, rfl⟩

theorem zeros_getD (n k : Nat) : (List.replicate n (0 : Int)).getD k 0 = 0 := by
  simp only [List.getD, List.getElem?_replicate]; split <;> rfl

set_option maxHeartbeats 1000000 in
set_option maxRecDepth 100000 in
theorem new_ok (n : Nat) (w : World) (h : n ≤ 1000) :
    Calls Tryz.prog 186 #[.int .i64 n] w (NewPart w (Rf.ofSt (List.replicate n 0))) := by
  obtain ⟨i0, hi, hz0, hz1, hz2⟩ := info_parts Tryz.intInfo
  go_enter Tryz.func186, Tryz.ntmps186
  go_wp2_with (at_make; refine wpList_make_full _ rfl _ _ 35 rfl 0 3 i0 (.int .i64 0) 1 Tryz.underlying35 hi hz0 hz1 _ _ _ _ n rfl rfl rfl rfl (by rw [hz2]; omega) (by unfold maxLen; omega) (Nat.zero_le _) ?_; intro w1 hown hgrow)
  have hrow := (Row.of hown).1
  have hb1 : Below w.heap.size w w1 := (Below.refl _ _).grown hgrow (Nat.le_refl _) (by simp)
  refine (of_any w.heap.size 0 n n (List.replicate n 0) w1 (by simp) h (by intro k hk; rw [zeros_getD]; decide) ?_).mono ?_
  · intro k hk
    rw [zeros_getD, Nat.zero_add]
    refine hrow.cell ?_
    show ((madeCells #[Value.int .i64 0] (n * 1)).toList)[k]? = _
    rw [Nat.mul_one, toList_madeCells_one]; simp [hk]
  · rintro e w2 ⟨B, ve, vp, vi, vb, rfl, hP, hF, hb2⟩
    go_wp2
    go_ret2
    exact ⟨B, ve, vp, vi, vb, rfl, hP, fun k hk => Nat.le_trans hb1.size (hF k hk), hb1.trans (hb2.mono hb1.size)⟩

end Go.Proofs.YtkcdkfkgjjpaaaaGreatDoor
