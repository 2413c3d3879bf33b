/- The document's own answer: of each state its steps. The document's own answer: the classes of all rounds. -/
import Derived.Test.YtpmdjicaefmbnaaGreatDoorRfSort
import Derived.Test.YtpmdjicaefmbnaaGreatDoorRdRanks
import Derived.Test.YtpmdjicaefmbnaaGreatDoorRfNext
import Derived.Test.YtpmdjicaefmbnaaGreatDoorCanonRef

namespace Go.Proofs.YtpmdjicaefmbnaaGreatDoor
open Go.RowKit Go.Maps
set_option linter.unusedVariables false
set_option linter.unusedSimpArgs false

/-- The steps of a state among edges. -/
def outRow (l : List Sy.Edge) (p : Nat) : List (Int × Int) := (l.filter fun e => e.1 == (p : Int)).map (·.2)

theorem outRow_take (l : List Sy.Edge) (p i : Nat) (h : i < l.length) : outRow (l.take (i + 1)) p = if (l.getD i (0, 0, 0)).1 = (p : Int) then outRow (l.take i) p ++ [(l.getD i (0, 0, 0)).2] else outRow (l.take i) p := by
  have e : l.getD i (0, 0, 0) = l[i] := by simp [List.getD, h]
  rw [List.take_succ_eq_append_getElem h, e]
  unfold outRow
  rw [List.filter_append, List.map_append]
  split
  · rename_i hx; simp [List.filter_cons, hx]
  · rename_i hx; simp [List.filter_cons, hx]

theorem outRow_steps (s : Sy.Lts) (p : Nat) : outRow (Sy.sorted s) p = Sy.steps s p := rfl

theorem outRow_len (l : List Sy.Edge) (p : Nat) : (outRow l p).length ≤ l.length := by
  unfold outRow; rw [List.length_map]; exact List.length_filter_le _ _

/-- Rows of steps under way. -/
structure OutAt (w2 wr : World) (O n : Nat) (vs : List Value) (f : Nat → List (Int × Int)) : Prop where
  tn : Turned (fun k => k = O) w2 wr
  lt : O < w2.heap.size
  len : vs.length = n
  row : Row wr O 80 n vs
  own : ∀ p, p < n → wr.ownsRow w2.heap.size 88 2 (vs.getD p undef) (f p).length (cells2 (f p))
  apart : ∀ p q g, p < n → q < n → p ≠ q → (vs.getD p undef).ownBlock = some g → (vs.getD q undef).ownBlock ≠ some g

theorem OutAt.push {w2 wr wq w4 : World} {O n p : Nat} {vs : List Value} {f f' : Nat → List (Int × Int)} {v' : Value} {o : Obj} {x : Int × Int} (h : OutAt w2 wr O n vs f) (hp : p < n) (hu : Up wr wq)
    (hown : w4.ownsRow w2.heap.size 88 2 v' ((f p).length + 1) (cells2 (f p) ++ [.int .i64 x.1, .int .i64 x.2])) (hg : (wq.alloc o).grownBy w4 (vs.getD p undef).ownBlock)
    (hat : v'.ownBlock = (vs.getD p undef).ownBlock ∨ v'.ownBlock = some (wq.alloc o).heap.size) (hf : f' p = f p ++ [x]) (hf' : ∀ q, q ≠ p → f' q = f q) :
    OutAt w2 (w4.setCell ⟨O, p, none⟩ v') O n (vs.set p v') f' := by
  have hu2 : Up wr (wq.alloc o) := hu.alloc o
  have hva : ∀ k, (vs.getD p undef).ownBlock = some k → w2.heap.size ≤ k := fun k hk => ((h.own p hp).lt k hk).1
  have hOb : w4.heap[O]? = wr.heap[O]? := (hg.block O (Nat.lt_of_lt_of_le h.row.lt hu2.size) (fun e => by have := hva O e.symm; have := h.lt; omega)).trans (hu2.block O h.row.lt)
  have hget : ∀ q, q ≠ p → (vs.set p v').getD q undef = vs.getD q undef := fun q hq => by simp [List.getD, List.getElem?_set, Ne.symm hq]
  have hgetp : (vs.set p v').getD p undef = v' := by simp [List.getD, h.len, hp]
  have hT4 : Turned (fun k => k = O) w2 w4 := (h.tn.trans (hu2.turnS (S := fun k => k = O)) (fun _ _ h => h)).grown hg (fun k hk => .inr (hva k hk))
  refine ⟨hT4.setCell (.inl rfl) _, h.lt, by rw [List.length_set, h.len], (h.row.keep hOb).set p v', fun q hq => ?_, fun q r g hq hr hqr hgq hgr => ?_⟩
  · by_cases he : q = p
    · subst he
      rw [hgetp, hf]
      have e1 : (f q ++ [x]).length = (f q).length + 1 := by simp
      have e2 : cells2 (f q ++ [x]) = cells2 (f q) ++ [.int .i64 x.1, .int .i64 x.2] := by rw [cells2_append]; rfl
      rw [e1, e2]
      exact owns_keep hown (fun g hg' => Below.heap_setCell w4 ⟨O, q, none⟩ v' g (by have := (hown.lt g hg').1; have := h.lt; simp only; omega))
    · rw [hget q he, hf' q he]
      refine owns_keep (h.own q hq) (fun g hg' => ?_)
      have h1 := (h.own q hq).lt g hg'
      have h2 : w4.heap[g]? = wr.heap[g]? := (hg.block g (Nat.lt_of_lt_of_le h1.2 hu2.size) (fun e => h.apart p q g hp hq (Ne.symm he) e.symm hg')).trans (hu2.block g h1.2)
      exact (Below.heap_setCell w4 ⟨O, p, none⟩ v' g (by have := h1.1; have := h.lt; simp only; omega)).trans h2
  · by_cases he : q = p
    · subst he
      rw [hgetp] at hgq
      rw [hget r (Ne.symm hqr)] at hgr
      rcases hat with h1 | h1
      · rw [h1] at hgq; exact h.apart q r g hq hr hqr hgq hgr
      · rw [h1, Option.some.injEq] at hgq
        have h2 := ((h.own r hr).lt g hgr).2
        have h3 := hu2.size
        omega
    · rw [hget q he] at hgq
      by_cases he2 : r = p
      · subst he2
        rw [hgetp] at hgr
        rcases hat with h1 | h1
        · rw [h1] at hgr; exact h.apart q r g hq hr hqr hgq hgr
        · rw [h1, Option.some.injEq] at hgr
          have h2 := ((h.own q hq).lt g hgq).2
          have h3 := hu2.size
          omega
      · rw [hget r he2] at hgr
        exact h.apart q r g hq hr hqr hgq hgr

/-- What Out leaves. -/
def OutDone (s : Sy.Lts) (n : Nat) (w : World) (r : Ending) (w' : World) : Prop :=
  Up w w' ∧ ∃ O vs, r = .returned (.slice (some ⟨O, 0, none⟩) n n) ∧ w.heap.size ≤ O ∧ Row w' O 80 n vs ∧ vs.length = n ∧ ∀ p, p < n → Ls2 w' (vs.getD p undef) (Sy.steps s p)

theorem Tryz.stepRowInfo : (Tryz.prog.info? 80).map (fun i => (i.zero, i.size, i.bytes)) = some (some (.slice none 0 0), 1, 24) := by kernel_rfl

set_option maxHeartbeats 8000000 in
set_option maxRecDepth 100000 in
theorem refOut_any {s : Sy.Lts} {se : Value} {w : World} (hR : Sy.Right s) (hs : Ls3 w se s.es) (hcp : CapOk se) (n : Nat) (hn : s.n = (n : Int)) :
    Calls Tryz.prog 56 #[sysV s se] w (OutDone s n w) := by
  obtain ⟨i0, hi, hz0, hz1, hz2⟩ := info_parts Tryz.stepRowInfo
  obtain ⟨j0, hj, gz0, gz1, gz2⟩ := info_parts Tryz.stepsInfo
  obtain ⟨ao, cap, rfl⟩ := ls3_shape hs
  have hn1 : n ≤ 1000 := by have := hR.n1; omega
  have HS : Hid (∀ W, Up w W → Calls Tryz.prog 126 #[.slice ao s.es.length cap] W (GotEdges W (Sy.sorted s))) := Lib.hid (fun W hu => refSorted_any _ (hs.up hu) hcp (by have := hR.len; omega))
  have HE : Hid (∀ e ∈ Sy.sorted s, 0 ≤ e.1 ∧ e.1 < (n : Int)) := Lib.hid (fun e he => by
    have := hR.ok e ((Sy.mem_sorted s e).1 he)
    rw [← hn]; exact ⟨this.1, this.2.2.2.1⟩)
  have hL1 : (Sy.sorted s).length ≤ 10000 := Nat.le_trans (Sy.norm_len s.es) hR.len
  obtain ⟨L, hLe⟩ : ∃ L, L = Sy.sorted s := ⟨_, rfl⟩
  rw [← hLe] at HS HE hL1
  have HL := Lib.hid hLe
  have HNN := Lib.hid hn
  obtain ⟨k, hk⟩ : ∃ k, k = s.es.length := ⟨_, rfl⟩
  rw [← hk] at HS ⊢
  unfold sysV
  rw [hn]
  clear hR hs hcp hn hLe hk
  obtain ⟨nl, hnl⟩ : ∃ nl, nl = L.length := ⟨_, rfl⟩
  rw [← hnl] at hL1
  have HNL := Lib.hid hnl
  obtain ⟨wA, hwA⟩ : ∃ wA, wA = w.alloc (.cells #[.int .i64 (n : Nat), .int .i64 s.m, .int .i64 s.start, .slice ao k cap] 24) := ⟨_, rfl⟩
  have huA : Up w wA := by rw [hwA]; exact (Up.refl w).alloc _
  have hbA : wA.heap[w.heap.size]? = some (.cells #[.int .i64 (n : Nat), .int .i64 s.m, .int .i64 s.start, .slice ao k cap] 24 (0, 0)) := by rw [hwA]; exact heap_alloc_new w _
  obtain ⟨⟨b0, -, -, b3⟩, -⟩ := four_cells hbA
  have HUA := Lib.hid huA
  clear huA hbA hnl
  go_enter Tryz.func56, Tryz.ntmps56
  go_upto_region 1 with fail
  rw [← hwA]
  clear hwA
  go_upto_region 2 with (at_make; refine wpList_make_full _ rfl _ _ 42 rfl wA.heap.size 80 i0 (.slice none 0 0) 1 Tryz.underlying42 hi hz0 hz1 _ _ _ _ n rfl rfl rfl rfl (by rw [hz2]; omega) (by unfold maxLen; omega) (Nat.le_refl _) ?_; intro w1 hown hgrow)
  obtain ⟨hrow, -, -, -⟩ := Row.of hown
  have e : (madeCells (Value.slice none 0 0).cells (n * 1)).toList = List.replicate n (Value.slice none 0 0) := by rw [Nat.mul_one]; exact toList_madeCells_one _ _
  rw [e, Nat.mul_one] at hrow
  have hu1 : Up wA w1 := (Up.refl wA).grown hgrow (fun k hk => by cases hk)
  have b3' := hu1.cell b3
  have hO1 := hrow.lt
  have HROW := Lib.hid hrow
  have HU1 := Lib.hid hu1
  clear e hrow hgrow hu1 hown b0 b3
  go_upto_region 3 with (go_at_call 126; refine (HS.out _ (HUA.out.trans HU1.out)).mono ?_; rintro r w2 ⟨a2, c2, rfl, ho2, hu2⟩)
  have HX : Hid (∀ j, j < nl → ∃ gl, a2 = some ⟨gl, 0, none⟩ ∧ wA.heap.size ≠ gl ∧ w2.cell? ⟨gl, j * 3, none⟩ = some (.int .i64 (L.getD j (0, 0, 0)).1) ∧ w2.cell? ⟨gl, j * 3 + 1, none⟩ = some (.int .i64 (L.getD j (0, 0, 0)).2.1) ∧ w2.cell? ⟨gl, j * 3 + 2, none⟩ = some (.int .i64 (L.getD j (0, 0, 0)).2.2)) := Lib.hid (fun j hj => by
    have hbs := fun g hg => (ho2.lt g hg).1
    rcases owns_cases ho2 with ⟨-, h1, -⟩ | ⟨gl, cl, he, hrl, -⟩
    · have := HNL.out; omega
    · have hb := hbs gl (by rw [he]; rfl)
      simp only [Value.slice.injEq, true_and] at he
      obtain ⟨c1, c2', c3⟩ := tri_at hrl j (j * 3) rfl (by rw [← HNL.out]; exact hj) _ _ _ rfl
      exact ⟨gl, he.1, by omega, c1, c2', c3⟩)
  rw [← HNL.out]
  have hH0 : OutAt w2 w2 wA.heap.size n (List.replicate n (.slice none 0 0)) (outRow (L.take 0)) := by
    have hget : ∀ p, p < n → (List.replicate n (Value.slice none 0 0)).getD p undef = .slice none 0 0 := fun p hp => by simp [List.getD, hp]
    refine ⟨Turned.refl _ _, Nat.lt_of_lt_of_le hO1 hu2.size, by simp, HROW.out.keep (hu2.block _ hO1), fun p hp => ?_, fun p q g hp hq _ hg => ?_⟩
    · rw [hget p hp]; exact World.ownsRow_nil _ _ _ _
    · rw [hget p hp] at hg; cases hg
  have HU2 := Lib.hid (HUA.out.trans (HU1.out.trans hu2))
  have HUA2 := Lib.hid (HU1.out.trans hu2)
  obtain ⟨O, hO⟩ : ∃ O, O = wA.heap.size := ⟨_, rfl⟩
  have HOE := Lib.hid hO
  rw [← hO] at hH0 HX
  have H0 := Lib.hid hH0
  clear hu2 ho2 hH0 hO1 b3'
  go_wp2_with fail
  rw [← hO]
  clear hO
  go_loopw [5] (fun i wr => ∃ (j : Nat) (vs : List Value), i = .int .i64 j ∧ j ≤ nl ∧ Hid (OutAt w2 wr O n vs (outRow (L.take j)))) (fun i _ => nl - (intOf i).toNat)
  case atStart => exact ⟨0, _, rfl, Nat.zero_le _, H0⟩
  case round =>
    obtain ⟨j, vs, rfl, hjn, HR0⟩ := hrel
    by_cases hlt : j < nl
    · obtain ⟨gl, rfl, hne, c1, c2', c3⟩ := HX.out j hlt
      have hjl : j < L.length := by rw [← HNL.out]; exact hlt
      obtain ⟨x, hx⟩ : ∃ x, L.getD j (0, 0, 0) = x := ⟨_, rfl⟩
      have hok := HE.out x (by rw [← hx, ← getD_of (0, 0, 0) hjl]; exact List.getElem_mem hjl)
      have HF : Hid (∀ p, outRow (L.take (j + 1)) p = if x.1 = (p : Int) then outRow (L.take j) p ++ [x.2] else outRow (L.take j) p) := Lib.hid (fun p => by rw [outRow_take L p j hjl, hx])
      rw [hx] at c1 c2' c3
      have hglt : gl < w2.heap.size := World.block_lt_of_cell? w2 _ c1
      obtain ⟨x1, x2, x3⟩ := x
      simp only at hok c1 c2' c3 HF
      obtain ⟨p, hp⟩ : ∃ p : Nat, x1 = (p : Int) := ⟨x1.toNat, by omega⟩
      subst hp
      have hpn : p < n := by omega
      have hgl := fun (k : Nat) (v : Value) (hv : w2.cell? ⟨gl, k, none⟩ = some v) => HR0.out.tn.cell hv (fun e => hne e.symm)
      have d1 := hgl _ _ c1
      have d2 := hgl _ _ c2'
      have d3 := hgl _ _ c3
      have hv : vs[p]? = some (vs.getD p undef) := by simp [List.getD, show p < vs.length by rw [HR0.out.len]; exact hpn]
      have d4 := HR0.out.row.cell hv
      have hsz := HR0.out.tn.size
      have HOW := Lib.hid (HR0.out.own p hpn)
      obtain ⟨m, hm⟩ : ∃ m, m = (outRow (L.take j) p).length := ⟨_, rfl⟩
      have hml : m ≤ 10000 := by have := outRow_len (L.take j) p; rw [← hm, List.length_take] at this; omega
      rw [← hm] at HOW
      obtain ⟨av, cv, hav⟩ := owns_shape' HOW.out
      have HAV := Lib.hid hav
      rw [hav] at d4 HOW
      have HM := Lib.hid hm
      clear hx hok c1 c2' c3 hv hav hm hgl hjl
      go_upto_region 6 with fail
      refine wp_region_ord 28 [(0, true), (1, true), (2, true), (3, true), (4, true), (5, true), (6, true), (7, true), (8, true), (9, true), (10, true), (11, true), (12, true), (13, true), (14, true), (15, true), (16, true), (17, true), (18, true), (19, true), (20, true), (21, true), (22, true), (23, true), (24, true), (25, false), (26, false), (27, true)] (fun x => x.cell? ⟨gl, j * 3, none⟩ = some (.int .i64 (p : Nat)) ∧ x.cell? ⟨gl, j * 3 + 1, none⟩ = some (.int .i64 x2) ∧ x.cell? ⟨gl, j * 3 + 2, none⟩ = some (.int .i64 x3) ∧ x.cell? ⟨O, p, none⟩ = some (.slice av m cv)) (by kernel_rfl) (by kernel_rfl) (fun _ _ _ _ _ h => h) ⟨d1, d2, d3, d4⟩ ?_
      iterate 25
        refine WO.still rfl rfl (fun K hK => ?_)
        apply Exists.intro
        refine ⟨?_, hK _ ?_⟩
        · intro w' hS
          obtain ⟨s1, s2, s3, s4⟩ := hS
          go_simp
          first | done | rfl | exact ⟨rfl, rfl⟩
        clear hK K
      refine WO.act rfl rfl (fun K hK => ?_)
      go_simp
      have hu3 : Up wr (wr.drew.alloc (.cells #[.int .i64 x2, .int .i64 x3] 88)) := ((Up.refl wr).drew).alloc _
      refine hK _ _ ⟨hu3.cell d1, hu3.cell d2, hu3.cell d3, hu3.cell d4⟩ ?_
      clear hK K
      refine WO.act rfl rfl (fun K hK => ?_)
      refine wp_append_own (.tmp 31) (.tmp 43) 80 rfl w2.heap.size 88 j0 (.agg #[.int .i64 0, .int .i64 0]) 2 16 Tryz.underlying80 hj gz0 gz1 gz2 rfl (by decide) (.slice av m cv) m _ rfl (Up.owns (w := wr) hu3 HOW.out) _ 1 1 [.int .i64 x2, .int .i64 x3] rfl rfl (cells_new2 _ _ _ _) (two_one (x2, x3)) (by unfold maxLen; omega) (by omega) (Nat.le_trans HR0.out.tn.size hu3.size) ?_
      intro v' w4 hown4 hgrow4 hat4
      have hg4 : (wr.drew.alloc (.cells #[.int .i64 x2, .int .i64 x3] 88)).grownBy w4 (Value.slice av m cv).ownBlock := ⟨hgrow4.os, hgrow4.tape, hgrow4.output, hgrow4.size, hgrow4.block⟩
      have hneO : (Value.slice av m cv).ownBlock ≠ some O := fun e => by have := (HOW.out.lt O e).1; have := HR0.out.lt; omega
      have hnegl : (Value.slice av m cv).ownBlock ≠ some gl := fun e => by
        have h1 := (HOW.out.lt gl e).1
        omega
      have f1 := grown_cell hg4 (hu3.cell d1) hnegl
      have f2 := grown_cell hg4 (hu3.cell d2) hnegl
      have f3 := grown_cell hg4 (hu3.cell d3) hnegl
      have f4 := grown_cell hg4 (hu3.cell d4) hneO
      have hb4 : w4.heap[O]? = wr.heap[O]? := (hg4.block O (Nat.lt_of_lt_of_le HR0.out.row.lt hu3.size) (fun e => hneO e.symm)).trans (hu3.block O HR0.out.row.lt)
      have hf4 : w4.frozen? ⟨O, p, none⟩ = false := (HR0.out.row.keep hb4).free p
      obtain ⟨a4, c4, hv4⟩ := owns_shape' hown4
      subst hv4
      have HP : Hid (OutAt w2 (w4.setCell ⟨O, p, none⟩ (.slice a4 (m + 1) c4)) O n (vs.set p (.slice a4 (m + 1) c4)) (outRow (L.take (j + 1)))) := Lib.hid (by
        refine HR0.out.push (x := (x2, x3)) (o := .cells #[.int .i64 x2, .int .i64 x3] 88) hpn ((Up.refl wr).drew) ?_ ?_ ?_ ?_ ?_
        · rw [← HM.out]; exact hown4
        · rw [HAV.out]; exact hg4
        · rw [HAV.out]; exact hat4
        · rw [HF.out, if_pos rfl]
        · intro q hq; rw [HF.out, if_neg (by omega)])
      refine hK _ _ ⟨f1, f2, f3, f4⟩ ?_
      clear hK K hown4 hgrow4 hat4 hg4 hb4 f1 f2 f3
      refine WO.still rfl rfl (fun K hK => ?_)
      apply Exists.intro
      refine ⟨?_, hK _ ?_⟩
      · intro w' hS
        go_simp
        first | done | rfl | exact ⟨rfl, rfl⟩
      clear hK K
      refine WO.last rfl rfl (fun K hK => ?_)
      go_simp
      refine hK _ _ ?_
      clear hK K
      go_wp2_with fail
      go_roundw
      case rel => exact ⟨j + 1, _, by go_num, by omega, HP⟩
      case measure => simp [intOf]; omega
    · obtain rfl : j = nl := by omega
      go_wp2_with fail
      go_ret
      have hle : w.heap.size ≤ O := by rw [HOE.out]; exact HUA.out.size
      refine ⟨up_turned HU2.out hle HR0.out.tn, O, vs, rfl, hle, HR0.out.row, HR0.out.len, fun p hp => ?_⟩
      have h := HR0.out.own p hp
      rw [show L.take j = L by rw [HNL.out, List.take_length], HL.out] at h
      exact owns_ls2 h

end Go.Proofs.YtpmdjicaefmbnaaGreatDoor

namespace Go.Proofs.YtpmdjicaefmbnaaGreatDoor
open Go.RowKit Go.Maps
set_option linter.unusedVariables false
set_option linter.unusedSimpArgs false

theorem cn_seen (l : List Int) : Cn.seen l = Rd.seen l := by
  unfold Cn.seen Rd.seen
  congr 1

theorem cls_ints (c : List Nat) : (Cn.seen (c.map Int.ofNat)).length = Rd.cls c := by
  rw [cn_seen, Rd.seen_map Int.ofNat c (fun a _ b _ h => Int.ofNat.inj h), List.length_map]; rfl

theorem tog_any {w : World} {v : Value} {c : List Nat} (hv : Lst w v (c.map Int.ofNat)) (hl : c.length ≤ 1000) :
    Calls Tryz.prog 58 #[v] w fun r w' => r = .returned (.int .i64 (Rd.cls c : Nat)) ∧ Up w w' := by
  refine (togRef (by rw [List.length_map]; omega) hv).mono ?_
  rintro r w' ⟨rfl, hu⟩
  exact ⟨by rw [cls_ints], hu⟩

/-- Rounds under way. -/
def RdsAt (s : Sy.Lts) (n b : Nat) (w : World) (v4 v5 : Value) (wr : World) : Prop :=
  ∃ (k : Nat) (vs : List Value) (ao : Option Addr) (cap : Nat), k ≤ Rd.last s ∧ v4 = .slice ao n cap ∧ Hid (Up w wr ∧ Lst wr v4 ((Rd.R s k).map Int.ofNat) ∧ RowsOf b wr vs (firsts s (k + 1)) ∧ b ≤ wr.heap.size) ∧ wr.ownsRow b 34 1 v5 (k + 1) vs

/-- What Rounds leaves. -/
def RdsGot (s : Sy.Lts) (w : World) (r : Ending) (w' : World) : Prop :=
  ∃ ao cap vs, r = .returned (.slice ao (Rd.last s + 1) cap) ∧ Up w w' ∧ w'.ownsRow w.heap.size 34 1 (.slice ao (Rd.last s + 1) cap) (Rd.last s + 1) vs ∧ RowsOf w.heap.size w' vs (Rd.rounds s)

set_option maxHeartbeats 8000000 in
set_option maxRecDepth 100000 in
theorem refRounds_any {s : Sy.Lts} {se : Value} {w : World} (hR : Sy.Right s) (hs : Ls3 w se s.es) (hcp : CapOk se) :
    Calls Tryz.prog 18 #[sysV s se] w (RdsGot s w) := by
  obtain ⟨i0, hi, hz0, hz1, hz2⟩ := info_parts Tryz.sliceInfoD
  obtain ⟨j0, hj, gz0, gz1, gz2⟩ := info_parts Tryz.intsInfo
  obtain ⟨ao, cap, rfl⟩ := ls3_shape hs
  obtain ⟨n, hn⟩ : ∃ n : Nat, s.n = (n : Nat) := ⟨s.n.toNat, by have := hR.n0; omega⟩
  have hn1 : n ≤ 1000 := by have := hR.n1; omega
  have hnn : s.n.toNat = n := by rw [hn]; rfl
  have HNN := Lib.hid hnn
  have HR := Lib.hid hR
  have hOUT : ∀ W, Up w W → Calls Tryz.prog 56 #[.agg #[.int .i64 s.n, .int .i64 s.m, .int .i64 s.start, .slice ao s.es.length cap]] W (OutDone s n W) := fun W hu => refOut_any hR (hs.up hu) hcp n hn
  rw [hn] at hOUT
  obtain ⟨L, hL⟩ : ∃ L, L = s.es.length := ⟨_, rfl⟩
  rw [← hL] at hOUT ⊢
  have HOUT := Lib.hid hOUT
  have HLAST : Hid (Rd.last s + 1 ≤ 1001) := Lib.hid (by have := rounds_small hR; rwa [Rd.rounds_len] at this)
  unfold sysV
  rw [hn]
  clear hR hs hcp hn hnn hOUT hL
  have hb0 := heap_alloc_new w (.cells #[.int .i64 (n : Nat), .int .i64 s.m, .int .i64 s.start, .slice ao L cap] 24)
  have HB0 := Lib.hid hb0
  have HUA : Hid (Up w (w.alloc (.cells #[.int .i64 (n : Nat), .int .i64 s.m, .int .i64 s.start, .slice ao L cap] 24))) := Lib.hid ((Up.refl w).alloc _)
  clear hb0
  go_enter Tryz.func18, Tryz.ntmps18
  go_upto_region 2 with (go_at_call 56; refine (HOUT.out _ HUA.out).mono ?_; rintro r w1 ⟨hu1, O, ovs, rfl, hO, hrow, hol, hols⟩; (have c0 := (four_cells ((hu1.block _ (by simp)).trans HB0.out)).1.1); (have HU1 := Lib.hid (HUA.out.trans hu1)); (have HST : Hid (StepsRd s w1 O n) := Lib.hid (fun p hp => ⟨ovs.getD p undef, hrow.cell (by simp [List.getD, show p < ovs.length by rw [hol]; exact hp]), hols p hp⟩)); clear hu1 hO hrow hol hols)
  go_upto_region 3 with (at_make; refine wpList_make_full _ rfl _ _ 34 rfl w1.heap.size 3 j0 (.int .i64 0) 1 Tryz.underlying34 hj gz0 gz1 _ _ _ _ n rfl rfl rfl rfl (by rw [gz2]; omega) (by unfold maxLen; omega) (Nat.le_refl _) ?_; intro w2 hown2 hgrow2)
  have hu2 : Up w1 w2 := (Up.refl w1).grown hgrow2 (fun k hk => by cases hk)
  have hown3 : w2.ownsRow w1.heap.size 3 1 (.slice (some ⟨w1.heap.size, 0, none⟩) n n) (Rd.R s 0).length (ivs ((Rd.R s 0).map Int.ofNat)) := by
    have e : (madeCells (Value.int .i64 0).cells (n * 1)).toList = ivs ((Rd.R s 0).map Int.ofNat) := by
      rw [Nat.mul_one, show ivs ((Rd.R s 0).map Int.ofNat) = List.replicate n (Value.int .i64 0) by simp [Rd.R, ivs, HNN.out]]; exact toList_madeCells_one _ _
    have h := hown2
    rw [e] at h
    rw [Rd.R_len, HNN.out]; exact h
  obtain ⟨hall0, hrows0⟩ := start_rows hu2 hown3
  have hu3 := hu2.alloc (.cells #[.slice (some ⟨w1.heap.size, 0, none⟩) n n] 34)
  obtain ⟨w3, hw3⟩ : ∃ w3, w3 = w2.alloc (.cells #[.slice (some ⟨w1.heap.size, 0, none⟩) n n] 34) := ⟨_, rfl⟩
  rw [← hw3] at hall0 hrows0 hu3
  have hl0 : Lst w3 (.slice (some ⟨w1.heap.size, 0, none⟩) n n) ((Rd.R s 0).map Int.ofNat) := by
    have h := gotInts_lst (l := (Rd.R s 0).map Int.ofNat) (by rw [List.length_map]; exact hown3)
    rw [hw3]; exact h.up ((Up.refl w2).alloc _)
  have H0 : Hid (Up w w3 ∧ Lst w3 (.slice (some ⟨w1.heap.size, 0, none⟩) n n) ((Rd.R s 0).map Int.ofNat) ∧ RowsOf w1.heap.size w3 [.slice (some ⟨w1.heap.size, 0, none⟩) n n] (firsts s (0 + 1)) ∧ w1.heap.size ≤ w3.heap.size) := Lib.hid ⟨HU1.out.trans hu3, hl0, hrows0, hu3.size⟩
  have HALL := Lib.hid hall0
  have HU3 := Lib.hid hu3
  have hw1s : w.heap.size ≤ w1.heap.size := HU1.out.size
  clear hown2 hgrow2 hu2 hown3 hall0 hrows0 hu3 hl0 c0
  go_wp2_with fail
  rw [← hw3]
  clear hw3
  go_loopw [4, 5] (fun v4 v5 wr => RdsAt s n w1.heap.size w1 v4 v5 wr) (fun _ v5 _ => 1002 - sliceLen v5)
  case atStart => exact ⟨0, _, _, _, Nat.zero_le _, rfl, Lib.hid ⟨HU3.out, H0.out.2.1, H0.out.2.2.1, H0.out.2.2.2⟩, HALL.out⟩
  case round =>
    obtain ⟨k, vs, a4, c4, hk, rfl, HI, hown⟩ := hrel
    obtain ⟨a5, c5, hsh⟩ := owns_shape' hown
    subst hsh
    have HO := Lib.hid hown
    clear hown
    have HNX : Hid (∀ W, Up wr W → Calls Tryz.prog 57 #[.slice (some ⟨O, 0, none⟩) n n, .slice a4 n c4] W fun r w' => ∃ a6 c6, r = .returned (.slice a6 n c6) ∧ w'.ownsRow W.heap.size 3 1 (.slice a6 n c6) (Rd.R s (k + 1)).length (ivs ((Rd.R s (k + 1)).map Int.ofNat)) ∧ Up W w') := Lib.hid (fun W hu =>
      (refNext_any HR.out HNN.out (HST.out.up (HI.out.1.trans hu)) (HI.out.2.1.up hu) (by rw [Rd.R_len, HNN.out]) (Rd.R_small s k (by rw [HNN.out]; exact hn1))).mono (by
        rintro r w' ⟨a6, c6, rfl, ho, hu6⟩
        have e : ((Rd.next s (Rd.R s k)).map Int.ofNat).length = n := by rw [List.length_map, Rd.next_len, Rd.R_len, HNN.out]
        rw [e] at ho ⊢
        exact ⟨a6, c6, rfl, by rw [Rd.R_len, HNN.out]; exact ho, hu6⟩))
    have HT0 : Hid (∀ W, Up wr W → Calls Tryz.prog 58 #[.slice a4 n c4] W fun r w' => r = .returned (.int .i64 (Rd.cls (Rd.R s k) : Nat)) ∧ Up W w') := Lib.hid (fun W hu => tog_any (HI.out.2.1.up hu) (by rw [Rd.R_len, HNN.out]; exact hn1))
    obtain ⟨t0, ht0⟩ : ∃ t0, t0 = Rd.cls (Rd.R s k) := ⟨_, rfl⟩
    obtain ⟨t1, ht1⟩ : ∃ t1, t1 = Rd.cls (Rd.R s (k + 1)) := ⟨_, rfl⟩
    rw [← ht0] at HT0
    have HSM : Hid (t1 = t0 ↔ Rd.R s (k + 1) = Rd.R s k) := Lib.hid (by rw [ht0, ht1]; exact Rd.next_same s k)
    have HT1E := Lib.hid ht1
    clear ht0 ht1
    by_cases htt : t1 = t0
    · have q1 : ((t1 : Int) == (t0 : Int)) = true := by simp [htt]
      have hkl := last_eq hk (HSM.out.1 htt)
      have HKL := Lib.hid hkl
      clear htt hkl
      go_wp2_with (first
        | (go_at_call 57; refine (HNX.out _ (Up.refl _)).mono ?_; rintro r w6 ⟨a6, c6, rfl, ho6, hu6⟩; (have HT1 : Hid (∀ W, Up w6 W → Calls Tryz.prog 58 #[.slice a6 n c6] W fun r w' => r = .returned (.int .i64 (t1 : Nat)) ∧ Up W w') := Lib.hid (fun W hu => by rw [HT1E.out]; exact tog_any ((gotInts_lst (l := (Rd.R s (k + 1)).map Int.ofNat) (by rw [List.length_map]; exact ho6)).up hu) (by rw [Rd.R_len, HNN.out]; exact hn1))); clear ho6)
        | (go_at_call 58; (with_reducible refine (HT1.out _ (Up.refl _)).mono ?_); rintro r w7 ⟨rfl, hu7⟩)
        | (go_at_call 58; (with_reducible refine (HT0.out _ (hu6.trans hu7)).mono ?_); rintro r w8 ⟨rfl, hu8⟩))
      go_ret
      have hu := (hu6.trans hu7).trans hu8
      obtain rfl := HKL.out
      refine ⟨a5, c5, vs, rfl, (HU1.out.trans HI.out.1).trans hu, owns_base (hu.owns HO.out) hw1s, ?_⟩
      rw [← firsts_all]
      exact (HI.out.2.2.1.up hu).base hw1s
    · have q1 : ((t1 : Int) == (t0 : Int)) = false := by simp; omega
      have hkl := last_ne hk (fun e => htt (HSM.out.2 e))
      have hk1 : k + 1 ≤ 1001 := by have := HLAST.out; omega
      clear htt
      go_upto_region 8 with (first
        | (go_at_call 57; refine (HNX.out _ (Up.refl _)).mono ?_; rintro r w6 ⟨a6, c6, rfl, ho6, hu6⟩; (have HO6 := Lib.hid ho6); (have HT1 : Hid (∀ W, Up w6 W → Calls Tryz.prog 58 #[.slice a6 n c6] W fun r w' => r = .returned (.int .i64 (t1 : Nat)) ∧ Up W w') := Lib.hid (fun W hu => by rw [HT1E.out]; exact tog_any ((gotInts_lst (l := (Rd.R s (k + 1)).map Int.ofNat) (by rw [List.length_map]; exact HO6.out)).up hu) (by rw [Rd.R_len, HNN.out]; exact hn1))); clear ho6)
        | (go_at_call 58; (with_reducible refine (HT1.out _ (Up.refl _)).mono ?_); rintro r w7 ⟨rfl, hu7⟩)
        | (go_at_call 58; (with_reducible refine (HT0.out _ (hu6.trans hu7)).mono ?_); rintro r w8 ⟨rfl, hu8⟩))
      have HU68 := Lib.hid (hu7.trans hu8)
      have HU8 := Lib.hid ((hu6.trans hu7).trans hu8)
      have hsz8 : w1.heap.size ≤ w8.heap.size := Nat.le_trans HI.out.2.2.2 HU8.out.size
      clear hu6 hu7 hu8
      go_wp2_with (at_builtin; (refine wpList_append_own _ rfl _ _ 26 rfl w1.heap.size 34 i0 (.slice none 0 0) 1 24 Tryz.underlying26 hi hz0 hz1 hz2 rfl (by decide) _ (k + 1) _ rfl (Up.owns (w := wr) (HU8.out.alloc _) HO.out) ⟨w8.heap.size, 0, none⟩ 1 1 [.slice a6 n c6] rfl rfl (cell_one_new _ _ _) (one_cell_sl _ _ _) (by unfold maxLen; omega) (by omega) (by simp; omega) ?_); intro v9 w9 hown9 hgrow9 hnil9; clear hnil9)
      have how := (HU8.out.owns HO.out).alloc (.cells #[.slice a6 n c6] 34)
      have hg9 : (w8.alloc (.cells #[.slice a6 n c6] 34)).grownBy w9 (Value.slice a5 (k + 1) c5).ownBlock := hgrow9
      have hr8 : RowsOf w1.heap.size w8 (vs ++ [.slice a6 n c6]) (firsts s (k + 1 + 1)) := by
        rw [firsts_succ]
        exact (HI.out.2.2.1.snoc (w := w8) HU8.out HI.out.2.2.2 (HU68.out.owns HO6.out))
      have hr9 : RowsOf w1.heap.size w9 (vs ++ [.slice a6 n c6]) (firsts s (k + 1 + 1)) := RowsOf.grown (hr8.up ((Up.refl _).alloc _)) how (by decide) hg9
      have hl9 : Lst w9 (.slice a6 n c6) ((Rd.R s (k + 1)).map Int.ofNat) := by
        have h := hr9.2.1 (k + 1) (by simp [firsts])
        have e1 : (vs ++ [Value.slice a6 n c6]).getD (k + 1) undef = .slice a6 n c6 := by
          have hvl : vs.length = k + 1 := by rw [HI.out.2.2.1.1]; simp [firsts]
          rw [← hvl]; exact getD_snoc_new _ _ _
        have e2 : (firsts s (k + 1 + 1)).getD (k + 1) [] = Rd.R s (k + 1) := by simp [firsts, List.getD]
        rw [e1, e2] at h
        exact gotInts_lst (l := (Rd.R s (k + 1)).map Int.ofNat) (by rw [List.length_map]; exact h)
      have hu9 : Up w1 w9 := ((HI.out.1.trans HU8.out).alloc _).grown hg9 (fun j hj => (how.lt j hj).1)
      have H9 := Lib.hid (And.intro hu9 (And.intro hl9 (And.intro hr9 hu9.size)))
      have HO9 := Lib.hid hown9
      obtain ⟨a9, c9, hv9⟩ := owns_shape' hown9
      subst hv9
      clear how hg9 hr8 hr9 hl9 hu9 hown9 hgrow9
      go_roundw
      case rel => exact ⟨k + 1, _, a6, c6, hkl, rfl, H9, HO9.out⟩
      case measure => simp [sliceLen]; omega

end Go.Proofs.YtpmdjicaefmbnaaGreatDoor
