/- Walk: (*teller).tells. Walk: (*teller).put. Contracts of (*teller).of and .may; a list of numbers of the call's own beside a teller. Walk: (*teller).may. Walk: (*teller).of. Walk: (*teller).formula. -/
import Derived.Test.YtkcdkfkgjjpaaaaGreatDoorDtMem
import Derived.Maps.OwnOps
import Derived.StillTailTactics
import Derived.Deep.CutBlock

namespace Go.Proofs.YtkcdkfkgjjpaaaaGreatDoor
open Go.RowKit Go.Maps
set_option linter.unusedVariables false
set_option linter.unusedSimpArgs false

theorem byL_bound {s : Sy.Lts} (hR : Sy.Right s) (q : Nat) (l : Int) : ∀ z ∈ Rd.byL (Sy.steps s q) l, 0 ≤ z ∧ z < (s.n.toNat : Int) := fun z hz => by
  have := steps_ok hR q _ (Rd.byL_mem hz)
  exact ⟨this.2.2.1, this.2.2.2⟩

theorem byL_small {s : Sy.Lts} (hR : Sy.Right s) (q : Nat) (l : Int) : (Rd.byL (Sy.steps s q) l).length ≤ 10000 := by
  have h1 := Rd.byL_len (Sy.steps s q) l
  have h2 := Sy.norm_len (lt := Sy.lt3) s.es
  have h3 := hR.len
  have h4 : (Sy.steps s q).length ≤ (Sy.norm Sy.lt3 s.es).length := by
    unfold Sy.steps Sy.sorted
    rw [List.length_map]
    exact List.length_filter_le (fun e : Sy.Edge => e.1 == (q : Int)) (Sy.norm Sy.lt3 s.es)
  omega

set_option maxHeartbeats 4000000 in
set_option maxRecDepth 100000 in
theorem tells_any {w : World} {tb B p q : Nat} {k : Int} {x : Int × Int} {rv : Value} {s : Sy.Lts} (h0 : w.cell? ⟨tb, 0, none⟩ = some (.pointer (some ⟨B, 0, none⟩))) (h1 : w.cell? ⟨tb, 1, none⟩ = some rv) (hg : GraphAt w B s) (hr : RkRead w rv s) (hR : Sy.Right s)
    (hx : x ∈ Sy.steps s p) (hq : q < s.n.toNat) :
    Calls Tryz.prog 174 #[.pointer (some ⟨tb, 0, none⟩), .agg #[.int .i64 x.1, .int .i64 x.2], .int .i64 (q : Nat), .int .i64 k] w fun r w' => r = .returned (.bool (Dt.tells s x q k)) ∧ Up w w' := by
  have hxo := steps_ok hR p x hx
  rw [tells_iff]
  obtain ⟨l, t⟩ := x
  obtain ⟨tn, rfl⟩ : ∃ tn : Nat, t = (tn : Int) := ⟨t.toNat, by simp only at hxo; omega⟩
  simp only [Int.toNat_natCast] at hxo ⊢
  have htn : tn < s.n.toNat := by omega
  obtain ⟨K, hK⟩ : ∃ K, K = Rd.byL (Sy.steps s q) l := ⟨_, rfl⟩
  have hKb := byL_bound hR q l
  have hKl := byL_small hR q l
  rw [← hK] at hKb hKl ⊢
  obtain ⟨m, hm⟩ : ∃ m, m = K.length := ⟨_, rfl⟩
  obtain ⟨N, hN⟩ : ∃ N, N = s.n.toNat := ⟨_, rfl⟩
  obtain ⟨wb, hwb⟩ : ∃ wb, wb = w.alloc (.cells #[.int .i64 l, .int .i64 (tn : Nat)] 92) := ⟨_, rfl⟩
  have hub : Up w wb := by rw [hwb]; exact (Up.refl w).alloc _
  have hbb : wb.heap[w.heap.size]? = some (.cells #[.int .i64 l, .int .i64 (tn : Nat)] 92 (0, 0)) := by rw [hwb]; exact heap_alloc_new w _
  obtain ⟨b0, b1⟩ := two_cells hbb
  obtain ⟨ao, cap, g, off, hrv, ha, hrx⟩ := hr.up hub
  obtain rfl := ha (by omega)
  obtain ⟨h, ro, rc, c1, hrow⟩ := hrx tn htn
  have HROW : Hid (∀ z, z < N → wb.cell? ⟨h, ro + z, none⟩ = some (.int .i64 (Rd.rank s tn z))) := Lib.hid (by rw [hN]; exact hrow)
  rw [← hN] at hrv c1 htn hKb
  have HBY : Hid (∀ W, Up wb W → Calls Tryz.prog 206 #[.pointer (some ⟨B, 0, none⟩), .int .i64 (q : Nat), .int .i64 l] W (GotInts W K)) := Lib.hid (fun W hW => by rw [hK]; exact by_in l ((hg.up hub).up hW) hR hq)
  have d0 := hub.cell h0
  have d1 := hub.cell h1
  rw [hrv] at d1
  have hN1 : N ≤ 1000 := by have := hR.n1; omega
  have HWB := Lib.hid hwb
  have HUB := Lib.hid hub
  have HM := Lib.hid hm
  have HKB := Lib.hid hKb
  have hml : m ≤ 10000 := by omega
  obtain ⟨F, hF⟩ : ∃ F : Int → Bool, F = fun z => decide (0 ≤ Rd.rank s tn z.toNat) && decide (Rd.rank s tn z.toNat < k) := ⟨_, rfl⟩
  have HF := Lib.hid hF
  have HFE : Hid (∀ z : Nat, F (z : Int) = (decide (0 ≤ Rd.rank s tn z) && decide (Rd.rank s tn z < k))) := Lib.hid (fun z => by rw [hF]; simp)
  rw [← hF]
  clear h0 h1 hg hr hR hub hbb hrx hrow hx hxo hq hK hKb hKl hm hN hwb hrv hF ha
  go_enter Tryz.func174, Tryz.ntmps174
  go_upto_region 1 with fail
  rw [← HWB.out]
  go_region_held3 (fun y => y.cell? ⟨tb, 0, none⟩ = some (.pointer (some ⟨B, 0, none⟩)) ∧ y.cell? ⟨w.heap.size, 0, none⟩ = some (.int .i64 l) ∧ Up wb y)
    ((refine held_of d0 b0 ?_; first
      | exact (Up.refl _).drew
      | exact Up.trans (held_up (by assumption)) (by assumption)
      | exact Up.drew (held_up (by assumption))
      | assumption))
    (first | (go_at_call 206; refine (HBY.out _ (held_up (by assumption))).mono ?_; rintro r y1 ⟨ao, cap, rfl, ho1, hu1⟩; (have k1 : Up wb y1 := Up.trans (held_up (by assumption)) hu1)))
  rw [← HM.out]
  have hls : ∀ i, i < m → ∃ z : Nat, K.getD i 0 = (z : Int) ∧ z < N := fun i hi => by
    have hi2 : i < K.length := by rw [← HM.out]; exact hi
    have h1 := HKB.out (K.getD i 0) (by simp only [List.getD, List.getElem?_eq_getElem hi2, Option.getD_some]; exact List.getElem_mem hi2)
    exact ⟨(K.getD i 0).toNat, by omega, by omega⟩
  have hcell : ∀ i, i < m → ∃ g2, ao = some ⟨g2, 0, none⟩ ∧ y1.cell? ⟨g2, i, none⟩ = some (.int .i64 (K.getD i 0)) := fun i hi => by
    have hi2 : i < K.length := by rw [← HM.out]; exact hi
    rcases owns_cases ho1 with ⟨_, h0, _⟩ | ⟨g2, cap2, e, hr2, _⟩
    · omega
    · simp only [Value.slice.injEq] at e
      exact ⟨g2, e.1, hr2.cell (by simp [ivs, List.getD, hi2])⟩
  have HLS := Lib.hid hls
  have HCELL := Lib.hid hcell
  have d1y := k1.cell d1
  have b1y := k1.cell b1
  have c1y := k1.cell c1
  have HROWY : Hid (∀ z, z < N → y1.cell? ⟨h, ro + z, none⟩ = some (.int .i64 (Rd.rank s tn z))) := Lib.hid (fun z hz => k1.cell (HROW.out z hz))
  have HUY := Lib.hid (HUB.out.trans k1)
  clear hls hcell ho1 hu1 k1 d0 b0 b1 c1 d1
  go_wp2_with fail
  go_loopw [21] (fun i wr => ∃ j : Nat, i = .int .i64 j ∧ j ≤ m ∧ Up y1 wr ∧ Hid (∀ i, i < j → F (K.getD i 0) = true)) (fun i _ => m - (intOf i).toNat)
  case atStart => exact ⟨0, rfl, Nat.zero_le _, Up.refl _, Lib.hid (fun i hi => by omega)⟩
  case round =>
    obtain ⟨j, rfl, hj, hu, HJ⟩ := hrel
    by_cases hlt : j < m
    · obtain ⟨z, hz, hzN⟩ := HLS.out j hlt
      obtain ⟨g2, rfl, cz⟩ := HCELL.out j hlt
      rw [hz] at cz
      have e1 := hu.cell cz
      have e2 := hu.cell d1y
      have e3 := hu.cell b1y
      have e4 := hu.cell c1y
      have e5 := hu.cell (HROWY.out z hzN)
      have hFz := HFE.out z
      rw [← hz] at hFz
      obtain ⟨rk, hrk⟩ : ∃ rk, rk = Rd.rank s tn z := ⟨_, rfl⟩
      rw [← hrk] at e5 hFz
      have HFZ := Lib.hid hFz
      have HZ := Lib.hid hz
      clear hz cz hFz hrk d1y b1y c1y
      go_upto_region 4 with fail
      refine wp_region_ord 11 [(0, true), (1, true), (2, true), (3, true), (4, true), (5, true), (6, true), (7, true), (8, true), (9, true), (10, true)] (fun w' => w' = wr.drew) (by kernel_rfl) (by kernel_rfl) (fun _ _ _ _ _ h => h) rfl ?_
      iterate 11
        refine WO.still rfl rfl (fun KK hK => ?_)
        apply Exists.intro
        refine ⟨?_, hK _ ?_⟩
        · rintro w' rfl
          go_simp
          first | done | rfl | exact ⟨rfl, rfl⟩
        clear hK KK
      refine WO.last rfl rfl (fun KK hK => ?_)
      go_simp
      refine hK _ _ ?_
      clear hK KK
      by_cases hneg : rk < 0
      · have q1 : decide (rk < 0) = true := by simpa using hneg
        have HE : Hid (K.all F = false) := Lib.hid (by
          rw [Bool.eq_false_iff]
          intro h
          have h2 := List.all_eq_true.1 h (K.getD j 0) (by have := HM.out; simp only [List.getD, List.getElem?_eq_getElem (show j < K.length by omega), Option.getD_some]; exact List.getElem_mem _)
          rw [HFZ.out] at h2
          simp at h2
          omega)
        clear hneg
        go_wp2_with fail
        go_ret
        exact ⟨ret_bool HE.out.symm, (HUY.out.trans hu).drew⟩
      · have q1 : decide (rk < 0) = false := by simpa using hneg
        by_cases hge : k ≤ rk
        · have q2 : decide (k ≤ rk) = true := by simpa using hge
          have HE : Hid (K.all F = false) := Lib.hid (by
            rw [Bool.eq_false_iff]
            intro h
            have h2 := List.all_eq_true.1 h (K.getD j 0) (by have := HM.out; simp only [List.getD, List.getElem?_eq_getElem (show j < K.length by omega), Option.getD_some]; exact List.getElem_mem _)
            rw [HFZ.out] at h2
            simp at h2
            omega)
          clear hneg hge
          go_wp2_with fail
          go_ret
          exact ⟨ret_bool HE.out.symm, (HUY.out.trans hu).drew⟩
        · have q2 : decide (k ≤ rk) = false := by simpa using hge
          have HJ2 : Hid (∀ i, i < j + 1 → F (K.getD i 0) = true) := Lib.hid (fun i hi => by
            rcases Nat.lt_succ_iff_lt_or_eq.1 hi with h1 | rfl
            · exact HJ.out i h1
            · rw [HFZ.out]; simp; omega)
          clear hneg hge
          go_wp2_with fail
          go_roundw
          case rel => exact ⟨j + 1, by go_num, by omega, hu.drew, HJ2⟩
          case measure => simp [intOf]; omega
    · obtain rfl : j = m := by omega
      have HE : Hid (K.all F = true) := Lib.hid (by
        rw [List.all_eq_true]
        intro x hx
        obtain ⟨i, hi, rfl⟩ := List.getElem_of_mem hx
        have := HJ.out i (by rw [HM.out]; exact hi)
        simpa [List.getD, hi] using this)
      clear d1y b1y c1y
      go_wp2_with fail
      go_ret
      exact ⟨ret_bool HE.out.symm, HUY.out.trans hu⟩

end Go.Proofs.YtkcdkfkgjjpaaaaGreatDoor

namespace Go.Proofs.YtkcdkfkgjjpaaaaGreatDoor
open Go.RowKit Go.Maps
set_option linter.unusedVariables false
set_option linter.unusedSimpArgs false

/-! ### Plain: sizes, keys -/

/-- A part's size, of the first of its parts. -/
def szTo (ts : List (List Dt.Nd)) (l : List Nat) : Nat := l.foldl (fun a k => min (a + Dt.size (ts.getD k [])) 5001) 1

theorem szTo_snoc (ts : List (List Dt.Nd)) (l : List Nat) (k : Nat) : szTo ts (l ++ [k]) = min (szTo ts l + Dt.size (ts.getD k [])) 5001 := by simp [szTo]

theorem szTo_made (ts : List (List Dt.Nd)) (x : Dt.Nd) (l : List Nat) : szTo ts l = Dt.size (Dt.made ts x l) := by
  refine Sy.snoc_ind (p := fun l => szTo ts l = Dt.size (Dt.made ts x l)) ?_ ?_ l
  · simp [szTo, Dt.made, Dt.size]
  · intro l k ih
    rw [szTo_snoc, ih]
    simp only [Dt.made, Dt.size, List.map_append, List.flatten_append, List.length_append, List.map_cons, List.map_nil, List.flatten_cons, List.flatten_nil, List.append_nil, List.length_cons, List.length_nil]
    omega

theorem szTo_le (ts : List (List Dt.Nd)) (l : List Nat) : szTo ts l ≤ 5001 := by
  rw [szTo_made ts (1, 0)]; unfold Dt.size; omega

theorem take_snoc {l : List Nat} {k : Nat} (h : k < l.length) : l.take (k + 1) = l.take k ++ [l.getD k 0] := by
  rw [List.take_succ_eq_append_getElem h]; simp [List.getD, h]

/-! ### Bytes -/

theorem Gathered.int {w0 w : World} {l : List UInt8} {v : Value} (h : Gathered w0 w l v) (hT : Tab w0) (i : Int) (h0 : -9223372036854775808 ≤ i) (h1 : i ≤ 9223372036854775807) (hl : l.length ≤ 1000000) :
    Calls Tryz.prog 208 #[v, .int .i64 i, .int .i64 10] w fun r w' => ∃ v', r = .returned v' ∧ Gathered w0 w' (l ++ Lib.itoa i) v' := by
  refine (appendInt_any w0.heap.size l.length i h0 h1 v (Lib.byteCells l) w h.own h.up.size (by omega) (hT.below h.up (Nat.le_refl _))).mono fun r w' ⟨v', he, ho, hb, _⟩ => ⟨v', he, Below.trans h.up hb, ?_⟩
  rw [List.length_append, Lib.byteCells_append]; exact ho

theorem Gathered.blank {w0 w w2 : World} {l : List UInt8} {v v2 : Value} {o : Obj} (h : Gathered w0 w l v) (h2 : w2.ownsRow w0.heap.size 5 1 v2 (l.length + 1) (Lib.byteCells l ++ [Value.int .u8 32])) (hg : (w.alloc o).grownBy w2 v.ownBlock) :
    Gathered w0 w2 (l ++ [32]) v2 := by
  refine ⟨Up.grown (h.up.alloc o) hg (fun g hk => (h.own.lt g hk).1), ?_⟩
  rw [List.length_append, Lib.byteCells_append]; exact h2


/-! ### What is left -/

/-- A number is told of a formula; the teller went on. -/
def NumDone (w0 : World) (tb B : Nat) (rv : Value) (ma mk : Nat) (s : Sy.Lts) (d e : Nat) (w : World) (vp : Value) (rs : List DRow) (T : Dt.Tl) (f : List Dt.Nd) (r : Ending) (w' : World) : Prop :=
  ∃ (n : Nat) (vp' : Value) (rs' : List DRow) (T' : Dt.Tl), r = .returned (.int .i64 (n : Nat)) ∧ TelTo w0 tb B rv ma mk s d e w vp rs T w' vp' rs' T' ∧ n < T'.ps.length ∧ T'.ts.getD n [] = f

theorem Tryz.strLaw : Keyed Tryz.prog 9 := string_keyed Tryz.underlying9
theorem Tryz.intZeroP (w : World) : (zeroValue 3).run Tryz.prog w = .ok (.int .i64 0) w := by kernel_rfl
theorem Tryz.partInfoD : (Tryz.prog.info? 163).map (fun i => (i.zero, i.size, i.bytes)) = some (some (.agg #[.int .i64 0, .int .i64 0, .slice none 0 0, .int .i64 0]), 4, 48) := by kernel_rfl

theorem one_new (w : World) (x : Value) (e : TypeId) : ∀ j u, [x][j]? = some u → (w.alloc (.cells #[x] e)).cell? ((⟨w.heap.size, 0, none⟩ : Addr).add j) = some u := by
  intro j u hj
  have h := heap_alloc_new w (.cells #[x] e)
  match j, hj with
  | 0, hj =>
    simp only [List.getElem?_cons_zero, Option.some.injEq] at hj
    subst hj
    have e : ((⟨w.heap.size, 0, none⟩ : Addr).add 0) = ⟨w.heap.size, 0, none⟩ := by simp [Addr.add]
    rw [e]
    unfold World.cell?
    simp only [h]
    rfl

theorem cells_newD4 (w : World) (a b c d : Value) (e : TypeId) : ∀ j u, [a, b, c, d][j]? = some u → (w.alloc (.cells #[a, b, c, d] e)).cell? ((⟨w.heap.size, 0, none⟩ : Addr).add j) = some u := by
  intro j u hj
  have h := heap_alloc_new w (.cells #[a, b, c, d] e)
  have e : ∀ i : Nat, ((⟨w.heap.size, 0, none⟩ : Addr).add i) = ⟨w.heap.size, i, none⟩ := fun i => by unfold Addr.add; split <;> simp_all
  rw [e]
  unfold World.cell?
  simp only [h]
  match j, hj with
  | 0, hj => exact hj
  | 1, hj => exact hj
  | 2, hj => exact hj
  | 3, hj => exact hj

theorem one_partD (a b : Int) (ao : Option Addr) (n c : Nat) (d : Int) : ∀ u ∈ [Value.int .i64 a, .int .i64 b, .slice ao n c, .int .i64 d], u.oneCell' = true := by
  intro u hu
  simp only [List.mem_cons, List.not_mem_nil, or_false] at hu
  rcases hu with rfl | rfl | rfl | rfl <;> rfl

theorem one_byte : ∀ u ∈ [Value.int .u8 32], u.oneCell' = true := by
  intro u hu
  simp only [List.mem_singleton] at hu
  subst hu; rfl

theorem keyOf_keyT (y : Dt.Part) (h : (Dt.keyT y).length ≤ 1000000) : keyOf Tryz.prog 9 (.string ⟨(Dt.keyT y).toArray⟩) = some (.string (Dt.keyT y)) := by
  rw [Go.WideMaps.keyOf_string_mk Tryz.underlying9 (by show (Dt.keyT y).toArray.size ≤ _; unfold maxLen; simp; omega)]

/-- What the parts' map tells. -/
theorem TlAt.look {w : World} {tb ma mk : Nat} {gv rv vp : Value} {rs : List DRow} {T : Dt.Tl} (h : TlAt w tb gv rv vp ma mk rs T) (hn : T.ps.Nodup) {y : Dt.Part} (hy : (Dt.keyT y).length ≤ 1000000) :
    (y ∈ T.ps → ∃ i : Nat, i < T.ps.length ∧ T.ps.getD i ((0, 0), []) = y ∧ (Instr.lookup 157 (.map (some ma)) (.string ⟨(Dt.keyT y).toArray⟩) true).run Tryz.prog w = .ok (.tuple #[.int .i64 (i : Nat), .bool true]) w) ∧
    (y ∉ T.ps → ∃ c : Int, (Instr.lookup 157 (.map (some ma)) (.string ⟨(Dt.keyT y).toArray⟩) true).run Tryz.prog w = .ok (.tuple #[.int .i64 c, .bool false]) w) := by
  obtain ⟨v, ps, hrun, hv⟩ := h.ats.look_ok Tryz.strLaw Tryz.underlying157 (Tryz.intZeroP w) (plainElem_int Tryz.underlying3 (by decide)) (keyOf_keyT y hy)
  obtain ⟨c, rfl, hc, hwc⟩ := plainElem_int_inv Tryz.underlying3 hv
  have hat := congrArg Prod.fst hc
  rw [Dt.atOf_has hn] at hrun
  constructor
  · intro hin
    obtain ⟨i, hi, he, hz⟩ := Dt.atOf_get hn hin
    refine ⟨i, hi, he, ?_⟩
    rw [hz] at hat
    simp only [DataW.lit.injEq, Lit.int.injEq, true_and] at hat
    rw [decide_eq_true hin] at hrun
    rw [hat]; exact hrun
  · intro hout
    exact ⟨c, by rw [decide_eq_false hout] at hrun; exact hrun⟩

/-- A part that stands there. -/
theorem put_old {w0 w w' : World} {tb B ma mk : Nat} {rv vp : Value} {rs : List DRow} {s : Sy.Lts} {T : Dt.Tl} {x : Dt.Nd} {l : List Nat} {i : Nat} (h : Tel w0 tb B rv ma mk s w vp rs T) (hu : Up w w') (hi : i < T.ps.length) (he : T.ps.getD i ((0, 0), []) = (x, l)) :
    NumDone w0 tb B rv ma mk s 0 1 w vp rs T (Dt.made T.ts x l) (.returned (.int .i64 (i : Nat))) w' := by
  refine ⟨i, vp, rs, T, rfl, (h.same hu).mono (Nat.le_refl _) (by omega), hi, ?_⟩
  rw [h.ok.tab.eq i hi, he]

/-- A part that is new. -/
theorem put_new {w0 w W W2 w3 w4 : World} {tb B ma mk : Nat} {rv vp v' lv : Value} {rs : List DRow} {s : Sy.Lts} {T : Dt.Tl} {x : Dt.Nd} {l : List Nat} {o : Obj} (h : Tel w0 tb B rv ma mk s w vp rs T) (hW : Up w W)
    (hlv : W.ownsRow w.heap.size 3 1 lv l.length (ints l)) (hx : Dt.Is x) (hl : l.length = Dt.ar x) (hk : ∀ k ∈ l, k < T.ps.length) (hn : (x, l) ∉ T.ps)
    (hm : W2.ownsMap (H := Unit) Tryz.prog 9 (plainElem Tryz.prog 3) ma (rs.length + 1) ((Dt.mp (Dt.atOf T.ps)).put (.string (Dt.keyT (x, l))) (.lit (.int .i64 (rs.length : Nat))))) (hg : W.grownBy W2 (some ma))
    (hu : Up W2 w3) (hrow : w4.ownsRow 0 163 4 v' (rs.length + 1) (cellsD rs ++ [.int .i64 x.1, .int .i64 x.2, lv, .int .i64 ((szTo T.ts l : Nat) : Int)]))
    (hg4 : (w3.alloc o).grownBy w4 vp.ownBlock) (hloc : v'.ownBlock = vp.ownBlock ∨ v'.ownBlock = some (w3.alloc o).heap.size) :
    NumDone w0 tb B rv ma mk s 0 1 w vp rs T (Dt.made T.ts x l) (.returned (.int .i64 (rs.length : Nat))) (w4.setCell ⟨tb, 2, none⟩ v') := by
  have hs := hW.size
  have hlt : ∀ k, lv.ownBlock = some k → ¬ TTurn tb ma mk vp k := fun k hk ht => by
    have h1 := (hlv.lt k hk).1
    have h2 := h.tl.lt (.inl ht)
    omega
  rw [szTo_made T.ts x] at hrow
  obtain ⟨p1, p2, p3⟩ := (h.tl.up hW).pushed (y := (x, l)) (f := Dt.made T.ts x l) hm hg hu (owns_base hlv (Nat.zero_le _)) hlt hrow hg4 hloc
  obtain ⟨q1, q2⟩ := Dt.Tl.push (C := 10003) h.ok hx hl hk hn
  have ht : Turned (TTurn tb ma mk vp) w (w4.setCell ⟨tb, 2, none⟩ v') := hW.turnS.trans p2 (fun _ _ hh => hh)
  refine ⟨rs.length, v', _, _, rfl, ⟨⟨p1, q1, h.turned ht, fun k hk => ?_⟩, q2, ht, fun k hk => ?_, fun k hk => ?_⟩, ?_, ?_⟩
  · have hw0 := h.up.size
    rcases hk with rfl | hk | rfl | rfl
    · exact h.lo _ (.inl rfl)
    · rcases p3 k hk with h1 | h1
      · exact h.lo k (.inr (.inl h1))
      · omega
    · exact h.lo _ (.inr (.inr (.inl rfl)))
    · exact h.lo _ (.inr (.inr (.inr rfl)))
  · rcases p3 k hk with h1 | h1
    · exact .inl h1
    · right; omega
  · rcases hk with (rfl | hk | rfl | rfl) | ⟨y, hy, hk⟩
    · exact .inl (.inl (.inl rfl))
    · rcases p3 k hk with h1 | h1
      · exact .inl (.inl (.inr (.inl h1)))
      · right; omega
    · exact .inl (.inl (.inr (.inr (.inl rfl))))
    · exact .inl (.inl (.inr (.inr (.inr rfl))))
    · rcases List.mem_append.1 hy with hy | hy
      · exact .inl (.inr ⟨y, hy, hk⟩)
      · rw [List.mem_singleton] at hy
        subst hy
        exact .inr (hlv.lt k hk).1
  · show rs.length < (T.ps ++ [(x, l)]).length
    rw [List.length_append, ← h.tl.len]; simp
  · show (T.ts ++ [Dt.made T.ts x l]).getD rs.length [] = _
    rw [h.tl.len, ← h.ok.tab.len]; exact Dt.getD_snoc_len _ _ _

theorem tailT_le {l : List Nat} (h : ∀ k ∈ l, k ≤ 1000000000000) : (Dt.tailT l).length ≤ 22 * l.length := by
  induction l with
  | nil => simp [Dt.tailT]
  | cons x l ih =>
    have h1 := Lib.itoa_length_le (x : Int) (by omega) (by have := h x List.mem_cons_self; omega)
    have h2 := ih (fun y hy => h y (List.mem_cons_of_mem _ hy))
    have e : Dt.tailT (x :: l) = 32 :: Lib.itoa (x : Int) ++ Dt.tailT l := by simp [Dt.tailT]
    rw [e]
    simp only [List.length_append, List.length_cons]
    omega

set_option maxHeartbeats 8000000 in
set_option maxRecDepth 100000 in
theorem put_any {w0 w w1 : World} {tb B ma mk : Nat} {rv vp lv : Value} {rs : List DRow} {s : Sy.Lts} {T : Dt.Tl} {op lb : Int} {l : List Nat} (h : Tel w0 tb B rv ma mk s w vp rs T) (hT : Tab w0) (hu : Up w w1)
    (hlv : w1.ownsRow w.heap.size 3 1 lv l.length (ints l)) (hx : Dt.Is (op, lb)) (hl : l.length = Dt.ar (op, lb)) (hk : ∀ k ∈ l, k < T.ps.length) (hps : T.ps.length ≤ 1000000000000) (hlb : 0 ≤ lb ∧ lb ≤ 1000) :
    Calls Tryz.prog 176 #[.pointer (some ⟨tb, 0, none⟩), .agg #[.int .i64 op, .int .i64 lb], lv] w1 (NumDone w0 tb B rv ma mk s 0 1 w vp rs T (Dt.made T.ts (op, lb) l)) := by
  obtain ⟨i0, hi, hz0, hz1, hz2⟩ := info_parts Tryz.byteInfo
  obtain ⟨j0, hjj, gz0, gz1, gz2⟩ := info_parts Tryz.partInfoD
  have hop : 1 ≤ op ∧ op ≤ 4 := by unfold Dt.Is at hx; simp only at hx; omega
  have hm2 : l.length ≤ 2 := by rw [hl]; unfold Dt.ar; split <;> (try split) <;> omega
  have hlen := h.tl.len
  obtain ⟨wb, hwb⟩ : ∃ wb, wb = w1.alloc (.cells #[.int .i64 op, .int .i64 lb] 71) := ⟨_, rfl⟩
  have hub : Up w1 wb := by rw [hwb]; exact (Up.refl w1).alloc _
  have hbb : wb.heap[w1.heap.size]? = some (.cells #[.int .i64 op, .int .i64 lb] 71 (0, 0)) := by rw [hwb]; exact heap_alloc_new w1 _
  have hub0 := hu.trans hub
  have hTb : Tab wb := hT.up (h.up.trans hub0)
  have htlb := h.tl.up hub0
  have g0 : Gathered wb wb [] (.slice none 0 0) := ⟨Up.refl _, World.ownsRow_nil _ _ _ _⟩
  have h1 := g0.int hTb op (by omega) (by omega) (by simp)
  rw [List.nil_append] at h1
  obtain ⟨ao, cp, hvp⟩ := owns_shape' h.tl.row
  obtain ⟨N, hN⟩ : ∃ N, N = rs.length := ⟨_, rfl⟩
  rw [← hN] at hvp hlen
  subst hvp
  have HP : Hid (∀ k, k < N → ∃ g, ao = some ⟨g, 0, none⟩ ∧ wb.cell? ⟨g, k * 4 + 3, none⟩ = some (.int .i64 ((Dt.size (T.ts.getD k []) : Nat) : Int))) := Lib.hid (fun k hk' => by
    obtain ⟨g, cap, plv, e1, _, _, _, _, e2, _⟩ := htlb.part (i := k) (by rw [← hlen]; exact hk')
    simp only [Value.slice.injEq] at e1
    exact ⟨g, e1.1, e2⟩)
  obtain ⟨b0, b1⟩ := two_cells hbb
  have t2 : wb.cell? ⟨tb, 2, none⟩ = some (.slice ao N cp) := by simp [World.cell?, htlb.box]
  have t3 : wb.cell? ⟨tb, 3, none⟩ = some (.map (some ma)) := by simp [World.cell?, htlb.box]
  have HLV := Lib.hid (owns_lsn hlv rfl)
  obtain ⟨lo, lc, hlve⟩ := owns_shape' hlv
  obtain ⟨m, hm⟩ : ∃ m, m = l.length := ⟨_, rfl⟩
  rw [← hm] at hlve hm2
  subst hlve
  have H1 := Lib.hid h1
  have HTB := Lib.hid hTb
  have HWB := Lib.hid hwb
  have H := Lib.hid h
  have HU0 := Lib.hid hub0
  have HUB := Lib.hid hub
  have HLV2 := Lib.hid hlv
  have HX := Lib.hid hx
  have HL := Lib.hid hl
  have HK := Lib.hid hk
  have HM := Lib.hid hm
  have HN := Lib.hid hN
  have HBB := Lib.hid hbb
  have HU := Lib.hid hu
  have HLEN := Lib.hid hlen
  clear h1 g0 hTb hwb htlb h hub0 hub hlv hx hl hk hm hN hbb hT hu hlen
  go_enter Tryz.func176, Tryz.ntmps176
  go_wp2_with fail
  rw [← HWB.out]
  (with_reducible refine H1.out.mono ?_)
  rintro r w2 ⟨v2, rfl, g2⟩
  have hla := Lib.itoa_length_le op (by omega) (by omega)
  have hlb2 := Lib.itoa_length_le lb (by omega) (by omega)
  have htl := fun j => tailT_le (l := l.take j) (fun k hk => by have := HK.out k (List.mem_of_mem_take hk); omega)
  have htl2 : ∀ j, (Dt.tailT (l.take j)).length ≤ 44 := fun j => by
    have h1 := htl j
    have h2 : (l.take j).length ≤ 2 := by rw [List.length_take, ← HM.out]; omega
    omega
  have HLA : Hid ((Lib.itoa op).length ≤ 40) := Lib.hid (by omega)
  have HLB : Hid ((Lib.itoa lb).length ≤ 40) := Lib.hid (by omega)
  have HTL := Lib.hid htl2
  have hb1 := g2.up.cell b1
  have g2d : Gathered wb w2.drew (Lib.itoa op) v2 := ⟨g2.up.drew, g2.own⟩
  clear hla hlb2 htl htl2
  go_upto_region 2 with fail
  refine wp_region_ord 6 [(0, true), (3, true), (4, true), (1, false), (2, false), (5, false)] (fun w' => w'.cell? ⟨w1.heap.size, 1, none⟩ = some (.int .i64 lb)) (by kernel_rfl) (by kernel_rfl) (fun _ _ _ _ _ h => h) hb1 ?_
  generalize w2.drew = W2 at g2d ⊢
  iterate 3
    refine WO.still rfl rfl (fun K hK => ?_)
    apply Exists.intro
    refine ⟨?_, hK _ ?_⟩
    · intro w' hS
      go_simp
      first | done | rfl | exact ⟨rfl, rfl⟩
    clear hK K
  refine WO.act rfl rfl (fun K hK => ?_)
  go_simp
  refine hK _ _ ?_ ?_
  · exact (g2d.up.alloc _).cell b1
  clear hK K
  refine WO.act rfl rfl (fun K hK => ?_)
  refine wp_append_own (.tmp 16) (.tmp 17) 269 rfl wb.heap.size 5 i0 (.int .u8 0) 1 1 Tryz.underlying269 hi hz0 hz1 hz2 rfl (by decide) v2 _ _ rfl (g2d.own.alloc _) _ 1 1 [.int .u8 32] rfl rfl (one_new _ _ _) one_byte (by have := HLA.out; unfold maxLen; omega) (by have := HLA.out; omega) (by have := g2d.up.size; simp only [World.size_alloc]; omega) ?_
  intro v3 x3 hown3 hgrow3 hat3
  have g3 : Gathered wb x3 (Lib.itoa op ++ [32]) v3 := g2d.blank hown3 hgrow3
  refine hK _ _ (g3.up.cell b1) ?_
  clear hK K hown3 hgrow3 hat3
  refine WO.act rfl rfl (fun K hK => ?_)
  go_simp
  refine (g3.int HTB.out lb (by omega) (by omega) (by have := HLA.out; rw [List.length_append, List.length_singleton]; omega)).mono ?_
  rintro r x4 ⟨v4, rfl, g4⟩
  refine hK _ _ (g4.up.cell b1) ?_
  clear hK K g3 g2d g2 hb1
  refine WO.last rfl rfl (fun K hK => ?_)
  go_simp
  refine hK _ _ ?_
  clear hK K
  have HHD : Hid ((Lib.itoa op ++ [32] ++ Lib.itoa lb).length ≤ 90) := Lib.hid (by
    have h1 := HLA.out
    have h2 := HLB.out
    simp only [List.length_append, List.length_singleton]; omega)
  have HKEY : Hid ((Lib.itoa op ++ [32] ++ Lib.itoa lb) ++ Dt.tailT l = Dt.keyT ((op, lb), l)) := Lib.hid (by simp [Dt.keyT])
  obtain ⟨hd, hhd⟩ : ∃ hd, hd = Lib.itoa op ++ [32] ++ Lib.itoa lb := ⟨_, rfl⟩
  rw [← hhd] at g4 HHD HKEY
  clear hhd
  have HG4 := Lib.hid g4
  clear g4
  go_wp2_with fail
  go_loopw [24, 7, 8] (fun i b z wr => ∃ j : Nat, i = .int .i64 j ∧ j ≤ m ∧ z = .int .i64 ((szTo T.ts (l.take j) : Nat) : Int) ∧ Hid (Gathered wb wr (hd ++ Dt.tailT (l.take j)) b)) (fun i _ _ _ => m - (intOf i).toNat)
  case atStart => exact ⟨0, rfl, Nat.zero_le _, rfl, by simpa [Dt.tailT] using HG4⟩
  case round =>
    obtain ⟨j, rfl, hj, rfl, HR⟩ := hrel
    by_cases hlt : j < m
    · have hjl : j < l.length := by rw [← HM.out]; exact hlt
      obtain ⟨lg, loff, rfl⟩ : ∃ lg loff, lo = some ⟨lg, loff, none⟩ := by
        obtain ⟨_, _, lg, loff, e, ha, _⟩ := HLV.out
        simp only [Value.slice.injEq] at e
        exact ⟨lg, loff, by rw [e.1]; exact ha (by omega)⟩
      obtain ⟨q, hq⟩ : ∃ q, q = l.getD j 0 := ⟨_, rfl⟩
      have cq := HLV.out.cell hjl
      rw [← hq] at cq
      have hqn : q < N := by
        rw [HLEN.out, hq]
        refine HK.out _ ?_
        simp only [List.getD, List.getElem?_eq_getElem hjl, Option.getD_some]; exact List.getElem_mem hjl
      have hqs : (q : Int) ≤ 1000000000000 := by have := HLEN.out; omega
      obtain ⟨gq, rfl, dq⟩ := HP.out q hqn
      have hR := HR.out
      have e1 := hR.up.cell (HUB.out.cell cq)
      have hsn := take_snoc hjl
      rw [← hq] at hsn
      have HS1 : Hid (szTo T.ts (l.take (j + 1)) = min (szTo T.ts (l.take j) + Dt.size (T.ts.getD q [])) 5001) := Lib.hid (by rw [hsn, szTo_snoc])
      have HS2 : Hid (hd ++ Dt.tailT (l.take (j + 1)) = hd ++ Dt.tailT (l.take j) ++ [32] ++ Lib.itoa (q : Int)) := Lib.hid (by rw [hsn, Dt.tailT_snoc]; simp)
      have hz1' := szTo_le T.ts (l.take j)
      have hz2' : Dt.size (T.ts.getD q []) ≤ 5001 := by unfold Dt.size; omega
      obtain ⟨z1, hze1⟩ : ∃ z1, z1 = szTo T.ts (l.take j) := ⟨_, rfl⟩
      obtain ⟨z2, hze2⟩ : ∃ z2, z2 = Dt.size (T.ts.getD q []) := ⟨_, rfl⟩
      rw [← hze1] at hz1' HS1 ⊢
      rw [← hze2] at hz2' HS1 dq
      obtain ⟨L, hLe⟩ : ∃ L, L = hd ++ Dt.tailT (l.take j) := ⟨_, rfl⟩
      have hLl : L.length ≤ 200 := by
        have h1 := HHD.out
        have h2 := HTL.out j
        rw [hLe, List.length_append]; omega
      rw [← hLe] at hR HS2
      have HLL := Lib.hid hLl
      have HRR := Lib.hid hR
      have hbs : Hid (wb.heap.size ≤ wr.heap.size) := Lib.hid hR.up.size
      clear cq hq hjl hR hsn hze1 hze2 hLe hLl HR HG4
      go_wp2_with (first
        | (at_builtin; refine wpList_append_own _ rfl _ _ 269 rfl wb.heap.size 5 i0 (.int .u8 0) 1 1 Tryz.underlying269 hi hz0 hz1 hz2 rfl (by decide) _ _ _ rfl (HRR.out.own.alloc _) ⟨wr.heap.size, 0, none⟩ 1 1 [.int .u8 32] rfl rfl (one_new _ _ _) one_byte (by have := HLL.out; unfold maxLen; omega) (by have := HLL.out; omega) (by have := hbs.out; simp only [World.size_alloc]; omega) ?_; intro v5 w5 hown5 hgrow5 hnil5; (have G5 := Lib.hid (HRR.out.blank hown5 hgrow5)); clear hown5 hgrow5 hnil5)
        | (go_at_call 208; refine (G5.out.int HTB.out (q : Int) (by omega) (by omega) (by have := HLL.out; rw [List.length_append, List.length_singleton]; omega)).mono ?_; rintro r w6 ⟨v6, rfl, g6⟩; (have f2 := g6.up.cell t2); (have f3 := g6.up.cell dq); (have G6 := Lib.hid g6); clear g6))
      go_roundw
      case rel => exact ⟨j + 1, by go_num, by omega, by rw [HS1.out]; congr 1; omega, by rw [HS2.out]; exact G6⟩
      case measure => simp [intOf]; omega
    · obtain rfl : j = m := by omega
      have htk : l.take j = l := by rw [HM.out, List.take_length]
      have hG := HR.out
      rw [htk, HKEY.out] at hG
      have hkl : (Dt.keyT ((op, lb), l)).length ≤ 1000000 := by
        have h1 := HHD.out
        have h2 := HTL.out j
        rw [htk] at h2
        rw [← HKEY.out, List.length_append]; omega
      have HSZ : Hid (szTo T.ts (l.take j) = szTo T.ts l) := Lib.hid (by rw [htk])
      obtain ⟨z, hz⟩ : ∃ z, z = szTo T.ts (l.take j) := ⟨_, rfl⟩
      rw [← hz] at HSZ ⊢
      have hnd : T.ps.Nodup := H.out.ok.tab.once
      have hGd : Gathered wb wr.drew (Dt.keyT ((op, lb), l)) _ := ⟨hG.up.drew, hG.own⟩
      obtain ⟨ka, kn, kc, hsh, hcv⟩ := hGd.string
      obtain ⟨W, hW⟩ : ∃ W, wr.drew = W := ⟨_, rfl⟩
      rw [hW] at hcv hGd
      have huW : Up w W := HU0.out.trans hGd.up
      have htlW := H.out.tl.up huW
      have hlook := htlW.look hnd hkl
      have t2W := hGd.up.cell t2
      have t3W := hGd.up.cell t3
      obtain ⟨ks, hks⟩ : ∃ ks : ByteArray, ks = ⟨(Dt.keyT ((op, lb), l)).toArray⟩ := ⟨_, rfl⟩
      rw [← hks] at hcv hlook
      have HKS := Lib.hid hks
      have HKL := Lib.hid hkl
      have HUW := Lib.hid huW
      have HTW := Lib.hid htlW
      have HGD := Lib.hid hGd
      clear htk hG HR HG4 hz hnd hGd huW htlW hks hkl
      by_cases hin : ((op, lb), l) ∈ T.ps
      · obtain ⟨i, hi2, hi3, hlk⟩ := hlook.1 hin
        have HI2 := Lib.hid hi2
        have HI3 := Lib.hid hi3
        clear hlook hin hi2 hi3
        subst hsh
        go_upto_region 10 with fail
        refine wp_region_ord 11 [(0, true), (1, true), (2, true), (3, true), (4, true), (5, true), (6, true), (7, true), (8, true), (9, true), (10, true)] (fun w' => w' = wr.drew) (by kernel_rfl) (by kernel_rfl) (fun _ _ _ _ _ h => h) rfl ?_
        rw [hW]
        iterate 11
          refine WO.still rfl rfl (fun KK hK => ?_)
          apply Exists.intro
          refine ⟨?_, hK _ ?_⟩
          · rintro w' rfl
            go_simp
            first | done | rfl | exact ⟨rfl, rfl⟩
          clear hK KK
        refine WO.last rfl rfl (fun KK hK => ?_)
        go_simp
        refine hK _ _ ?_
        clear hK KK
        go_wp2_with fail
        go_ret
        exact put_old H.out HUW.out HI2.out HI3.out
      · obtain ⟨c, hlk⟩ := hlook.2 hin
        have HIN := Lib.hid hin
        clear hlook hin
        subst hsh
        go_upto_region 10 with fail
        refine wp_region_ord 11 [(0, true), (1, true), (2, true), (3, true), (4, true), (5, true), (6, true), (7, true), (8, true), (9, true), (10, true)] (fun w' => w' = wr.drew) (by kernel_rfl) (by kernel_rfl) (fun _ _ _ _ _ h => h) rfl ?_
        rw [hW]
        iterate 11
          refine WO.still rfl rfl (fun KK hK => ?_)
          apply Exists.intro
          refine ⟨?_, hK _ ?_⟩
          · rintro w' rfl
            go_simp
            first | done | rfl | exact ⟨rfl, rfl⟩
          clear hK KK
        refine WO.last rfl rfl (fun KK hK => ?_)
        go_simp
        refine hK _ _ ?_
        clear hK KK hlk hcv hW
        go_upto_region 13 with fail
        have hcv2 : (convert 269 9 (.slice ka kn kc)).run Tryz.prog W.drew = .ok (.string ks) W.drew := by
          obtain ⟨_, _, _, e, hc⟩ := (show Gathered wb W.drew _ _ from ⟨HGD.out.up.drew, HGD.out.own⟩).string
          rw [e, HKS.out]; exact hc
        have t2' : W.drew.cell? ⟨tb, 2, none⟩ = some (.slice ao N cp) := t2W
        have t3' : W.drew.cell? ⟨tb, 3, none⟩ = some (.map (some ma)) := t3W
        have hmap : W.drew.ownsMap (H := Unit) Tryz.prog 9 (plainElem Tryz.prog 3) ma N (Dt.mp (Dt.atOf T.ps)) := by rw [HN.out]; exact HTW.out.ats.drew
        have hNl : N ≤ 1000000000000 := by have := HLEN.out; omega
        have hkey : keyOf Tryz.prog 9 (.string ks) = some (.string (Dt.keyT ((op, lb), l))) := by rw [HKS.out]; exact keyOf_keyT _ HKL.out
        have HKEY2 := Lib.hid hkey
        clear hkey
        obtain ⟨X, hX⟩ : ∃ X, X = W.drew := ⟨_, rfl⟩
        have hux : Up W X := by rw [hX]; exact (Up.refl W).drew
        go_still_tail 7, (by kernel_rfl)
        change wpList _ _ _ _ _ W.drew
        rw [← hX] at hcv2 t2' t3' hmap ⊢
        go_wp2_with (at_mapUpdate; refine wpList_mapUpdate_own _ rfl _ _ _ 157 rfl 9 3 Tryz.strLaw Tryz.underlying157 _ ma N _ rfl hmap (by unfold maxLen; omega) _ _ _ rfl rfl HKEY2.out _ [] (plainElem_int Tryz.underlying3 (WalkArith.wf_i64 (by omega))) ?_; intro x5 hown5 hgrow5)
        have huX : Up w X := HUW.out.trans hux
        have htlX := H.out.tl.up huX
        obtain ⟨n1, n2, n3, n4, n5⟩ := htlX.heads
        have hnode : X.heap[w1.heap.size]? = some (.cells #[.int .i64 op, .int .i64 lb] 71 (0, 0)) := (hux.block _ (Nat.lt_of_lt_of_le (lt_of_block' HBB.out) HGD.out.up.size)).trans ((HGD.out.up.block _ (lt_of_block' HBB.out)).trans HBB.out)
        have hm1 : ma ≠ w1.heap.size := map_neD hmap hnode
        have hvl : ∀ g, (Value.slice ao N cp).ownBlock = some g → g < w.heap.size := fun g hg => H.out.tl.lt (.inl (.inr (.inl hg)))
        have hww1 : w.heap.size ≤ w1.heap.size := HU.out.size
        have hv1 : (Value.slice ao N cp).ownBlock ≠ some w1.heap.size := fun e => by have := hvl _ e; omega
        have hbx5 := (hgrow5.block tb (lt_of_block' htlX.box) (fun e => n1 (by simpa using e.symm))).trans htlX.box
        have hnd5 := (hgrow5.block w1.heap.size (lt_of_block' hnode) (fun e => hm1 (by simpa using e.symm))).trans hnode
        have hrow5 : x5.ownsRow 0 163 4 (.slice ao N cp) N (cellsD rs) := by
          have h1 := htlX.row
          rw [← HN.out] at h1
          exact owns_keep h1 (fun g hg => hgrow5.block g (owns_lt h1 hg) (fun e => n4 (by rw [hg, e])))
        obtain ⟨c0, c1⟩ := two_cells hnd5
        have c2 : x5.cell? ⟨tb, 2, none⟩ = some (.slice ao N cp) := by simp [World.cell?, hbx5]
        have HBX5 := Lib.hid hbx5
        have HROW5 := Lib.hid hrow5
        have HOWN5 := Lib.hid hown5
        have HGR5 := Lib.hid hgrow5
        have HNV : Hid ((Value.slice ao N cp).ownBlock ≠ some tb ∧ (Value.slice ao N cp).ownBlock ≠ some w1.heap.size) := Lib.hid ⟨n3, hv1⟩
        have HUX := Lib.hid huX
        have HHX := Lib.hid hux
        clear huX htlX n1 n2 n3 n4 n5 hnode hm1 hvl hv1 hbx5 hnd5 hrow5 hown5 hgrow5 hux hcv2 t2' t3' hmap hX t2W t3W
        go_upto_region 14 with fail
        have hS0 := And.intro c2 (And.intro c0 c1)
        refine wp_region_ord 13 [(0, true), (1, true), (2, true), (3, true), (4, true), (5, true), (6, true), (7, true), (8, true), (9, false), (10, false), (11, true), (12, true)] (fun w' => w'.cell? ⟨tb, 2, none⟩ = some (.slice ao N cp) ∧ w'.cell? ⟨w1.heap.size, 0, none⟩ = some (.int .i64 op) ∧ w'.cell? ⟨w1.heap.size, 1, none⟩ = some (.int .i64 lb)) (by kernel_rfl) (by kernel_rfl) (fun _ _ _ _ _ h => h) hS0 ?_
        iterate 9
          refine WO.still rfl rfl (fun KK hK => ?_)
          apply Exists.intro
          refine ⟨?_, hK _ ?_⟩
          · rintro w' ⟨s1, s2, s3⟩
            go_simp
            first | done | rfl | exact ⟨rfl, rfl⟩
          clear hK KK
        refine WO.act rfl rfl (fun K hK => ?_)
        go_simp
        have hu' := (Up.refl x5.drew).alloc (.cells #[.int .i64 op, .int .i64 lb, .slice lo j lc, .int .i64 (z : Int)] 163)
        refine hK _ _ ?_ ?_
        · exact ⟨hu'.cell hS0.1, hu'.cell hS0.2.1, hu'.cell hS0.2.2⟩
        clear hK K
        refine WO.act rfl rfl (fun K hK => ?_)
        refine wp_append_own (.tmp 73) (.tmp 78) 159 rfl 0 163 j0 (.agg #[.int .i64 0, .int .i64 0, .slice none 0 0, .int .i64 0]) 4 48 Tryz.underlying159 hjj gz0 gz1 gz2 rfl (by decide) (.slice ao N cp) N _ rfl (Up.owns (w := x5.drew) ((Up.refl _).alloc _) HROW5.out) _ 1 1 [.int .i64 op, .int .i64 lb, .slice lo j lc, .int .i64 (z : Int)] rfl rfl (cells_newD4 _ _ _ _ _ _) (one_partD _ _ _ _ _ _) (by unfold maxLen; omega) (by omega) (Nat.zero_le _) ?_
        intro v' x9 hown9 hgrow9 hat9
        obtain ⟨a9, c9, rfl⟩ := owns_shape' hown9
        have hg9 : (x5.drew.alloc (.cells #[.int .i64 op, .int .i64 lb, .slice lo j lc, .int .i64 (z : Int)] 163)).grownBy x9 (Value.slice ao N cp).ownBlock := ⟨hgrow9.os, hgrow9.tape, hgrow9.output, hgrow9.size, hgrow9.block⟩
        have hS9 := And.intro (grown_cell hg9 (hu'.cell hS0.1) HNV.out.1) (And.intro (grown_cell hg9 (hu'.cell hS0.2.1) HNV.out.2) (grown_cell hg9 (hu'.cell hS0.2.2) HNV.out.2))
        refine hK _ _ hS9 ?_
        clear hK K
        have hbl5 := lt_of_block' HBX5.out
        have hbx9 := (hg9.block tb (by show tb < (x5.drew.alloc _).heap.size; rw [World.size_alloc]; exact Nat.lt_succ_of_lt hbl5) (fun e => HNV.out.1 e.symm)).trans ((hu'.block tb hbl5).trans HBX5.out)
        have k2 := hS9.1
        have kf : x9.frozen? ⟨tb, 2, none⟩ = false := by simp [World.frozen?, hbx9]
        have HO9 := Lib.hid hown9
        have HG9 := Lib.hid hg9
        have HA9 := Lib.hid hat9
        clear hown9 hg9 hat9 hgrow9 hu' hS9 hbx9 hbl5
        iterate 2
          refine WO.still rfl rfl (fun KK hK => ?_)
          apply Exists.intro
          refine ⟨?_, hK _ ?_⟩
          · rintro w' ⟨s1, s2, s3⟩
            go_simp
            first | done | rfl | exact ⟨rfl, rfl⟩
          clear hK KK
        refine WO.last rfl rfl (fun K hK => ?_)
        go_simp
        refine hK _ _ ?_
        clear hK K
        go_wp2_with fail
        go_ret
        have hlvX := Up.owns (HUB.out.trans (HGD.out.up.trans HHX.out)) HLV2.out
        have e := HN.out
        subst e
        have hrow9 := HO9.out
        rw [HSZ.out] at hrow9
        have hm5 := HOWN5.out
        exact put_new H.out HUX.out hlvX HX.out HL.out HK.out HIN.out hm5 HGR5.out ((Up.refl x5).drew) hrow9 HG9.out HA9.out

end Go.Proofs.YtkcdkfkgjjpaaaaGreatDoor

namespace Go.Proofs.YtkcdkfkgjjpaaaaGreatDoor
open Go.RowKit Go.Maps
set_option linter.unusedVariables false
set_option linter.unusedSimpArgs false

def layerDist : ByteArray := { data := #[100, 105, 115, 116, 105, 110, 103, 117, 105, 115, 104] }

/-- What a teller leans on. -/
structure Lean0 (w0 : World) (B : Nat) (rv : Value) (s : Sy.Lts) : Prop where
  g : GraphAt w0 B s
  r : RkRead w0 rv s
  tab : Tab w0
  right : Sy.Right s
  n : s.n.toNat ≤ 300

/-- All that the teller has came by pairs that it knows, and by e more. -/
def Root (s : Sy.Lts) (e : Nat) (T : Dt.Tl) : Prop := ∃ d, (Dt.Tl.mk [] [] []).To s 10003 d e T

theorem Root.go {s : Sy.Lts} {e d e' : Nat} {T U : Dt.Tl} (h : Root s e T) (k : T.To s 10003 d e' U) : Root s (e + e') U := by
  obtain ⟨d0, h⟩ := h
  exact ⟨_, h.trans k⟩

theorem Root.small {s : Sy.Lts} {e : Nat} {T : Dt.Tl} (h : Root s e T) (hT : T.Ok s) (hn : s.n.toNat ≤ 300) (he : e ≤ 20000) : T.ps.length ≤ 1000000000 := by
  obtain ⟨d, h⟩ := h
  have h1 := h.many2 hT
  have h2 : s.n.toNat * s.n.toNat ≤ 300 * 300 := Nat.mul_le_mul hn hn
  have h3 := Nat.mul_le_mul_right 10003 h2
  omega

def OfAt (w0 : World) (tb B : Nat) (rv : Value) (ma mk : Nat) (s : Sy.Lts) (p q : Nat) : Prop :=
  ∀ (w : World) (vp : Value) (rs : List DRow) (T : Dt.Tl), Tel w0 tb B rv ma mk s w vp rs T → Root s 0 T →
    Calls Tryz.prog 114 #[.pointer (some ⟨tb, 0, none⟩), .int .i64 (p : Nat), .int .i64 (q : Nat)] w (NumDone w0 tb B rv ma mk s (Dt.fuel s p q + 1) 0 w vp rs T (Dt.F s p q))

theorem Tel.foot_lt {w0 w : World} {tb B ma mk : Nat} {rv vp : Value} {rs : List DRow} {s : Sy.Lts} {T : Dt.Tl} (h : Tel w0 tb B rv ma mk s w vp rs T) {k : Nat} (hk : TFoot tb ma mk vp rs k) : k < w.heap.size := h.tl.lt hk

/-- A list of the call's own grew beside the teller. -/
theorem TelTo.grown {w0 w wr w4 : World} {tb B ma mk d e : Nat} {rv vp vp' v : Value} {rs rs' : List DRow} {s : Sy.Lts} {T T' : Dt.Tl} {o : Obj} (h : TelTo w0 tb B rv ma mk s d e w vp rs T wr vp' rs' T') (h0 : Tel w0 tb B rv ma mk s w vp rs T)
    (hg : (wr.alloc o).grownBy w4 v.ownBlock) (hv : ∀ b, v.ownBlock = some b → w.heap.size ≤ b ∧ ¬ TFoot tb ma mk vp' rs' b) : TelTo w0 tb B rv ma mk s d e w vp rs T w4 vp' rs' T' := by
  have ht : Turned (TTurn tb ma mk vp) w w4 := (h.turn.alloc o).grown hg (fun k hk => .inr (hv k hk).1)
  refine ⟨⟨h.tel.tl.keep (fun k hk => ?_), h.tel.ok, h0.turned ht, h.tel.lo⟩, h.go, ht, h.blk, h.foot⟩
  have hl := h.tel.tl.lt hk
  exact (hg.block k (by simp; omega) (fun e => (hv k e.symm).2 hk)).trans (Below.heap_alloc wr o k hl)

/-- A list of the call's own stays while the teller goes on. -/
theorem TelTo.own {w0 w w' : World} {tb B ma mk d e base n size : Nat} {rv vp vp' v : Value} {rs rs' : List DRow} {s : Sy.Lts} {T T' : Dt.Tl} {xs : List Value} {et : TypeId} (h : TelTo w0 tb B rv ma mk s d e w vp rs T w' vp' rs' T') (ho : w.ownsRow base et size v n xs)
    (hv : ∀ b, v.ownBlock = some b → ¬ TFoot tb ma mk vp rs b) : w'.ownsRow base et size v n xs ∧ ∀ b, v.ownBlock = some b → ¬ TFoot tb ma mk vp' rs' b := by
  refine ⟨owns_keep ho (fun g hg => h.turn.block g (owns_lt ho hg) (fun ht => hv g hg (.inl ht))), fun b hb hf => ?_⟩
  rcases h.foot b hf with h1 | h1
  · exact hv b hb h1
  · have := owns_lt ho hb
    omega

end Go.Proofs.YtkcdkfkgjjpaaaaGreatDoor

namespace Go.Proofs.YtkcdkfkgjjpaaaaGreatDoor
open Go.RowKit Go.Maps
set_option linter.unusedVariables false
set_option linter.unusedSimpArgs false

section
variable {w0 : World} {tb B ma mk : Nat} {rv : Value} {s : Sy.Lts}

/-- The numbers of some formulas, gathered in a list of the call's own. -/
def MayAt (w0 : World) (tb B : Nat) (rv : Value) (ma mk : Nat) (s : Sy.Lts) (f : Nat) (y : World) (vp : Value) (rs : List DRow) (T : Dt.Tl) (wr : World) (v : Value) (l : List Nat) (fs : List (List Dt.Nd)) : Prop :=
  ∃ vp' rs' T', TelTo w0 tb B rv ma mk s f 0 y vp rs T wr vp' rs' T' ∧ wr.ownsRow y.heap.size 3 1 v l.length (ints l) ∧ (∀ b, v.ownBlock = some b → ¬ TFoot tb ma mk vp' rs' b) ∧ Dt.Nums T' l fs

/-- Such numbers, one at least, whose formulas make another one. -/
def MayOne (w0 : World) (tb B : Nat) (rv : Value) (ma mk : Nat) (s : Sy.Lts) (f M : Nat) (y : World) (vp : Value) (rs : List DRow) (T : Dt.Tl) (c : List Dt.Nd) (wr : World) (v : Value) : Prop :=
  ∃ vp' rs' T' l fs, TelTo w0 tb B rv ma mk s f 1 y vp rs T wr vp' rs' T' ∧ wr.ownsRow y.heap.size 3 1 v l.length (ints l) ∧ (∀ b, v.ownBlock = some b → ¬ TFoot tb ma mk vp' rs' b) ∧ Dt.Nums T' l fs ∧ l ≠ [] ∧ Dt.conj fs = c ∧ l.length ≤ M + 1

theorem nums_len {T : Dt.Tl} {l : List Nat} {fs : List (List Dt.Nd)} (h : Dt.Nums T l fs) : l.length = fs.length := by rw [← h.eq, List.length_map]

theorem MayAt.one {f M : Nat} {y wr : World} {vp v : Value} {rs : List DRow} {T : Dt.Tl} {l : List Nat} {fs : List (List Dt.Nd)} (h : MayAt w0 tb B rv ma mk s f y vp rs T wr v l fs) (hl : l ≠ []) (hM : l.length ≤ M) : MayOne w0 tb B rv ma mk s f M y vp rs T (Dt.conj fs) wr v := by
  obtain ⟨vp', rs', T', h1, h2, h3, h4⟩ := h
  exact ⟨vp', rs', T', l, fs, h1.mono (Nat.le_refl _) (by omega), h2, h3, h4, hl, rfl, by omega⟩

/-- One number more. -/
theorem MayAt.push {f : Nat} {y wr w4 : World} {vp v v' : Value} {rs : List DRow} {T : Dt.Tl} {l : List Nat} {fs' : List (List Dt.Nd)} {n : Nat} {o : Obj} {vp' : Value} {rs' : List DRow} {T' : Dt.Tl} (hy : Tel w0 tb B rv ma mk s y vp rs T)
    (h1 : TelTo w0 tb B rv ma mk s f 0 y vp rs T wr vp' rs' T') (h2 : wr.ownsRow y.heap.size 3 1 v l.length (ints l)) (h3 : ∀ b, v.ownBlock = some b → ¬ TFoot tb ma mk vp' rs' b) (h4 : Dt.Nums T' (l ++ [n]) fs')
    (ho : w4.ownsRow y.heap.size 3 1 v' (l.length + 1) (ints l ++ [.int .i64 (n : Nat)])) (hg : (wr.alloc o).grownBy w4 v.ownBlock) (hat : v'.ownBlock = v.ownBlock ∨ v'.ownBlock = some (wr.alloc o).heap.size) :
    MayAt w0 tb B rv ma mk s f y vp rs T w4 v' (l ++ [n]) fs' := by
  refine ⟨vp', rs', T', h1.grown hy hg (fun b hb => ⟨(h2.lt b hb).1, h3 b hb⟩), ?_, fun b hb => ?_, h4⟩
  · rw [List.length_append, ints_append]; exact ho
  · rcases hat with e | e
    · exact h3 b (by rw [← e]; exact hb)
    · intro hf
      have hlt := h1.tel.tl.lt hf
      rw [hb, Option.some.injEq] at e
      rw [e] at hlt
      simp at hlt
      omega
end

theorem conj_nil_one : Dt.conj [[((1 : Int), (0 : Int))]] = Dt.conj [] := rfl

theorem conj_take {fs : List (List Dt.Nd)} {j : Nat} (h : j + 1 < fs.length) : Dt.conj (fs.take (j + 2)) = Dt.conj (fs.take (j + 1)) ++ fs.getD (j + 1) [] ++ [(3, 0)] := by
  obtain ⟨f, r, rfl⟩ : ∃ f r, fs = f :: r := by
    cases fs with
    | nil => simp at h
    | cons f r => exact ⟨f, r, rfl⟩
  have hr : j < r.length := by simpa using h
  rw [show j + 2 = (j + 1) + 1 by omega, List.take_succ_cons, List.take_succ_cons, List.take_succ_eq_append_getElem hr, Dt.conj_snoc]
  simp [List.getD, hr]

theorem ints_new {W : World} {l : List Nat} (h : l.length ≤ 1000) : (W.alloc (.cells (ints l).toArray 3)).ownsRow W.heap.size 3 1 (.slice (some ⟨W.heap.size, 0, none⟩) l.length l.length) l.length (ints l) := by
  have h1 := Row.new W 3 (ints l)
  rw [ints_length] at h1
  have h2 : Row (W.alloc (.cells (ints l).toArray 3)) W.heap.size 3 (l.length * 1) (ints l) := by rw [Nat.mul_one]; exact h1
  exact h2.ownsAt (Nat.le_refl _) (Nat.le_refl _) (by unfold maxLen; omega) (by rw [ints_length, Nat.mul_one])

theorem owns_cell_ints {w : World} {base n g cap k : Nat} {l : List Nat} (h : w.ownsRow base 3 1 (.slice (some ⟨g, 0, none⟩) k cap) n (ints l)) {i : Nat} (hi : i < l.length) : w.cell? ⟨g, i, none⟩ = some (.int .i64 ((l.getD i 0 : Nat) : Int)) := by
  rcases owns_cases h with ⟨e, _⟩ | ⟨g', c', e, hr, _⟩
  · cases e
  · simp only [Value.slice.injEq, Option.some.injEq, Addr.mk.injEq, and_true] at e
    rw [e.1]
    exact hr.cell (ints_get hi)

set_option maxHeartbeats 8000000 in
set_option maxRecDepth 100000 in
theorem may_any {w0 w : World} {tb B ma mk : Nat} {rv vp : Value} {rs : List DRow} {s : Sy.Lts} {T : Dt.Tl} {l : Int} {tn q f : Nat} (hL : Lean0 w0 B rv s) (h : Tel w0 tb B rv ma mk s w vp rs T) (hr : Root s 0 T) (hl : 0 ≤ l ∧ l ≤ 1000)
    (htn : tn < s.n.toNat) (hq : q < s.n.toNat) (ho : ∀ z ∈ Dt.meetsL s q l, OfAt w0 tb B rv ma mk s tn z ∧ Dt.fuel s tn z < f) :
    Calls Tryz.prog 175 #[.pointer (some ⟨tb, 0, none⟩), .agg #[.int .i64 l, .int .i64 (tn : Nat)], .int .i64 (q : Nat)] w
      (NumDone w0 tb B rv ma mk s f ((Dt.meetsL s q l).length + 2) w vp rs T (Dt.conj (Rd.seen ((Dt.meetsL s q l).map fun t => Dt.F s tn t)) ++ [(4, l)])) := by
  obtain ⟨j0, hjj, gz0, gz1, gz2⟩ := info_parts Tryz.intsInfo
  rw [meetsL_byL] at ho ⊢
  have hKb := byL_bound hL.right q l
  have hKl := byL_small hL.right q l
  obtain ⟨K, hK⟩ : ∃ K, K = Rd.byL (Sy.steps s q) l := ⟨_, rfl⟩
  rw [← hK] at hKb hKl ho ⊢
  rw [List.length_map]
  obtain ⟨m, hm⟩ : ∃ m, m = K.length := ⟨_, rfl⟩
  obtain ⟨N, hN⟩ : ∃ N, N = s.n.toNat := ⟨_, rfl⟩
  obtain ⟨g, hg⟩ : ∃ g, g = ((K.map Int.toNat).map fun t => Dt.F s tn t) := ⟨_, rfl⟩
  have hgl : g.length = m := by rw [hg, hm]; simp
  rw [← hg, ← hm]
  obtain ⟨wb, hwb⟩ : ∃ wb, wb = w.alloc (.cells #[.int .i64 l, .int .i64 (tn : Nat)] 92) := ⟨_, rfl⟩
  have hub : Up w wb := by rw [hwb]; exact (Up.refl w).alloc _
  have hbb : wb.heap[w.heap.size]? = some (.cells #[.int .i64 l, .int .i64 (tn : Nat)] 92 (0, 0)) := by rw [hwb]; exact heap_alloc_new w _
  obtain ⟨b0, b1⟩ := two_cells hbb
  have hTb := h.upto hub
  have d0 : wb.cell? ⟨tb, 0, none⟩ = some (.pointer (some ⟨B, 0, none⟩)) := by simp [World.cell?, hTb.tl.box]
  have HBY : Hid (∀ W, Up wb W → Calls Tryz.prog 206 #[.pointer (some ⟨B, 0, none⟩), .int .i64 (q : Nat), .int .i64 l] W (GotInts W K)) := Lib.hid (fun W hW => by rw [hK]; exact by_in l (hL.g.up (hTb.up.trans hW)) hL.right hq)
  have HOF : Hid (∀ i, i < m → ∃ z : Nat, K.getD i 0 = (z : Int) ∧ z < N ∧ OfAt w0 tb B rv ma mk s tn z ∧ Dt.fuel s tn z < f ∧ g.getD i [] = Dt.F s tn z) := Lib.hid (fun i hi => by
    have hi2 : i < K.length := by rw [← hm]; exact hi
    have e0 : K.getD i 0 = K[i] := by simp [List.getD, hi2]
    have hmem : K[i] ∈ K := List.getElem_mem hi2
    have h1 := hKb _ hmem
    refine ⟨K[i].toNat, by rw [e0]; omega, by rw [hN]; omega, (ho _ (List.mem_map.2 ⟨_, hmem, rfl⟩)).1, (ho _ (List.mem_map.2 ⟨_, hmem, rfl⟩)).2, ?_⟩
    rw [hg]
    simp [List.getD, hi2])
  have hN1 : N ≤ 1000 := by have := hL.right.n1; omega
  have htn2 : tn < N := by rw [hN]; exact htn
  have HWB := Lib.hid hwb
  have HUB := Lib.hid hub
  have HM := Lib.hid hm
  have hml : m ≤ 10000 := by omega
  have HL := Lib.hid hL
  have HTB := Lib.hid hTb
  have HH := Lib.hid h
  have HRT := Lib.hid hr
  have HGL := Lib.hid hgl
  have HLL := Lib.hid hl
  have HBB := Lib.hid hbb
  clear hL h hr hub hbb hTb hwb hK hKb hKl hm hN hg hgl ho htn hq
  go_enter Tryz.func175, Tryz.ntmps175
  go_upto_region 2 with fail
  rw [← HWB.out]
  go_region_held3 (fun y => y.cell? ⟨tb, 0, none⟩ = some (.pointer (some ⟨B, 0, none⟩)) ∧ y.cell? ⟨w.heap.size, 0, none⟩ = some (.int .i64 l) ∧ Up wb y)
    ((refine held_of d0 b0 ?_; first
      | exact (Up.refl _).drew
      | exact Up.trans (held_up (by assumption)) (by assumption)
      | exact Up.drew (held_up (by assumption))
      | assumption))
    (first | (go_at_call 206; refine (HBY.out _ (held_up (by assumption))).mono ?_; rintro r y1 ⟨ao, cap, rfl, ho1, hu1⟩; (have k1 : Up wb y1 := Up.trans (held_up (by assumption)) hu1); (have ho2 := owns_base ho1 (Nat.le_trans HUB.out.size (held_up (by assumption) : Up wb _).size))))
  rw [← HM.out]
  have hcell : ∀ i, i < m → ∃ g2, ao = some ⟨g2, 0, none⟩ ∧ w.heap.size ≤ g2 ∧ g2 < y1.heap.size ∧ y1.cell? ⟨g2, i, none⟩ = some (.int .i64 (K.getD i 0)) := fun i hi => by
    have hi2 : i < K.length := by rw [← HM.out]; exact hi
    rcases owns_cases ho2 with ⟨_, h0, _⟩ | ⟨g2, cap2, e, hr2, _⟩
    · omega
    · simp only [Value.slice.injEq] at e
      have h3 := ho2.lt g2 (by rw [e.1]; rfl)
      exact ⟨g2, e.1, h3.1, h3.2, hr2.cell (by simp [ivs, List.getD, hi2])⟩
  have hTy := HTB.out.upto k1
  have hbx := k1.block _ (lt_of_block' HBB.out)
  rw [HBB.out] at hbx
  obtain ⟨e0, e1⟩ := two_cells hbx
  have hbl : w.heap.size < y1.heap.size := lt_of_block' hbx
  have A0 : MayAt w0 tb B rv ma mk s f y1 vp rs T y1 (.slice none 0 0) [] (Rd.seen (g.take 0)) := ⟨vp, rs, T, (hTy.same (Up.refl _)).mono (Nat.zero_le _) (Nat.le_refl _), World.ownsRow_nil _ _ _ _, (fun b hb => by simp [Value.ownBlock] at hb), ⟨(fun k hk => by cases hk), rfl⟩⟩
  have HCELL := Lib.hid hcell
  have HTY := Lib.hid hTy
  have HA0 := Lib.hid A0
  have HK1 := Lib.hid k1
  have HBX := Lib.hid hbx
  clear hcell hTy hbx A0 k1 ho1 ho2 hu1 d0 b0 b1
  go_wp2_with fail
  go_loopw [23, 7] (fun i v wr => ∃ (j : Nat) (L : List Nat), i = .int .i64 j ∧ j ≤ m ∧ L.length ≤ j ∧ Hid (MayAt w0 tb B rv ma mk s f y1 vp rs T wr v L (Rd.seen (g.take j)))) (fun i _ _ => m - (intOf i).toNat)
  case atStart => exact ⟨0, [], rfl, Nat.zero_le _, Nat.zero_le _, HA0⟩
  case round =>
    obtain ⟨j, L, rfl, hj, hLj, HR⟩ := hrel
    by_cases hlt : j < m
    · obtain ⟨z, hz, hzN, hof, hzf, hgz⟩ := HOF.out j hlt
      obtain ⟨g2, rfl, hg2, hg3, cz⟩ := HCELL.out j hlt
      rw [hz] at cz
      obtain ⟨vp1, rs1, T1, hgo, hown, hap, hnums⟩ := HR.out
      have hT0 : ∀ k, TTurn tb ma mk vp k → k < w.heap.size := fun k hk => HH.out.tl.lt (.inl hk)
      have e1' := hgo.turn.cell e1 (fun ht => by have := hT0 _ ht; simp only at this; omega)
      have cz' := hgo.turn.cell cz (fun ht => by have := hT0 _ ht; simp only at this; omega)
      have hroot1 : Root s 0 T1 := HRT.out.go hgo.go
      have HI := Lib.hid (hof wr vp1 rs1 T1 hgo.tel hroot1)
      have hgl : j < g.length := by rw [HGL.out]; exact hlt
      obtain ⟨lo, lc, hle⟩ := owns_shape' hown
      subst hle
      have HGO := Lib.hid hgo
      have HOWN := Lib.hid hown
      have HAP := Lib.hid hap
      have HNUMS := Lib.hid hnums
      have HZ := Lib.hid hz
      have HGZ := Lib.hid hgz
      have HZF := Lib.hid hzf
      have HGLJ := Lib.hid hgl
      have hLl : L.length ≤ 10000 := by omega
      clear hz hof hgz hzf cz hgo hown hap hnums hT0 hroot1 hgl HA0 HR
      go_wp2_with fail
      (with_reducible refine HI.out.mono ?_)
      rintro r w2 ⟨n, vp2, rs2, T2, rfl, hgo2, hn, hf⟩
      have hgo3 := (HGO.out.trans hgo2).mono (d' := f) (e' := 0) (by have := HZF.out; omega) (by omega)
      obtain ⟨hown2, hap2⟩ := hgo2.own HOWN.out HAP.out
      have hnums2 := HNUMS.out.later HGO.out.tel.ok hgo2.go
      have hstep := hnums2.step hgo2.tel.ok HGLJ.out hn (by rw [hf, ← HGZ.out]; simp [List.getD, HGLJ.out])
      have hls := owns_lsn hown2 rfl
      have HC := Lib.hid (containsN_any n hls (by omega))
      have HGO3 := Lib.hid hgo3
      have HOWN2 := Lib.hid hown2
      have HAP2 := Lib.hid hap2
      have HSTEP := Lib.hid hstep
      clear hgo2 hn hf hgo3 hown2 hap2 hnums2 hstep hls
      by_cases hin : n ∈ L
      · have HNX : Hid (MayAt w0 tb B rv ma mk s f y1 vp rs T w2 (.slice lo L.length lc) L (Rd.seen (g.take (j + 1)))) := Lib.hid ⟨vp2, rs2, T2, HGO3.out, HOWN2.out, HAP2.out, HSTEP.out.1 hin⟩
        have q1 : decide (n ∈ L) = true := by simpa using hin
        rw [q1] at HC
        clear hin q1
        go_wp2_with (go_at_call 207; refine HC.out.mono ?_; rintro r w3 ⟨rfl, rfl⟩)
        go_roundw
        case rel => exact ⟨j + 1, L, by go_num, by omega, by omega, HNX⟩
        case measure => simp [intOf]; omega
      · have q1 : decide (n ∈ L) = false := by simpa using hin
        rw [q1] at HC
        have HNOT := Lib.hid (HSTEP.out.2 hin)
        clear hin q1 HSTEP
        go_wp2_with (first
          | (go_at_call 207; refine HC.out.mono ?_; rintro r w3 ⟨rfl, rfl⟩)
          | (at_builtin; refine wpList_append_lies _ rfl _ _ 35 rfl y1.heap.size 3 j0 (.int .i64 0) 1 8 Tryz.underlying35 hjj gz0 gz1 gz2 rfl (by decide) (.slice lo L.length lc) L.length _ rfl (HOWN2.out.alloc _) ⟨w2.heap.size, 0, none⟩ 1 1 [.int .i64 (n : Nat)] rfl rfl (one_new _ _ _) (int_one (n : Nat)) (by omega) (by unfold maxLen; omega) (by omega) (by have := HGO3.out.turn.size; simp only [World.size_alloc]; omega) _ rfl ?_; intro g9 c9 w9 hown9 hgrow9 hat9 hlt9; (have HO9 := Lib.hid hown9); (have HG9 := Lib.hid hgrow9); (have HA9 := Lib.hid hat9); clear hown9 hgrow9 hat9 hlt9))
        have HNX : Hid (MayAt w0 tb B rv ma mk s f y1 vp rs T w9 (.slice (some ⟨g9, 0, none⟩) (L.length + 1) c9) (L ++ [n]) (Rd.seen (g.take (j + 1)))) := Lib.hid (MayAt.push HTY.out HGO3.out HOWN2.out HAP2.out HNOT.out HO9.out HG9.out (by
          rcases HA9.out with e | e
          · left; rw [e]; rfl
          · right; rw [e]; rfl))
        go_roundw
        case rel => exact ⟨j + 1, L ++ [n], by go_num, by omega, by rw [List.length_append, List.length_singleton]; omega, HNX⟩
        case measure => simp [intOf]; omega
    · obtain rfl : j = m := by omega
      have htk : g.take j = g := by rw [← HGL.out, List.take_length]
      rw [htk] at HR
      clear HA0 htk
      have hgl2 := Rd.seen_len g
      have hsh : ∃ lo lc, u7 = Value.slice lo L.length lc := by
        obtain ⟨_, _, _, _, hown, _, _⟩ := HR.out
        exact owns_shape' hown
      obtain ⟨lo, lc, hle⟩ := hsh
      subst hle
      have hLl : L.length ≤ 10000 := by omega
      go_upto_if 43 with fail
      go_cut [7] (fun v wc => MayOne w0 tb B rv ma mk s f j y1 vp rs T (Dt.conj (Rd.seen g)) wc v)
      case first =>
        obtain ⟨vp1, rs1, T1, hgo, hown, hap, hnums⟩ := HR.out
        by_cases hnil : L = []
        · subst hnil
          have hps := (HRT.out.go hgo.go).small hgo.tel.ok HL.out.n (by omega)
          have HP := Lib.hid (put_any (l := []) (op := 1) (lb := 0) hgo.tel HL.out.tab (Up.refl wr) (World.ownsRow_nil _ _ _ _) (.inl rfl) rfl (fun k hk => by cases hk) (by omega) (by omega))
          have hfs : Rd.seen g = [] := by
            have := hnums.eq
            simpa using this.symm
          have HFS := Lib.hid hfs
          have HGO := Lib.hid hgo
          clear hgo hown hap hnums hps hfs HR
          go_wp2_with (go_at_call 176; refine HP.out.mono ?_; rintro r w2 ⟨n, vp2, rs2, T2, rfl, hgo2, hn, hf⟩)
          have hgo3 := (HGO.out.trans hgo2).mono (d' := f) (e' := 1) (by omega) (by omega)
          go_meet
          refine ⟨vp2, rs2, T2, [n], [[((1 : Int), (0 : Int))]], hgo3.upto ((Up.refl _).alloc _), ?_, ?_, ⟨?_, ?_⟩, by simp, ?_, by simp⟩
          · have h1 := ints_new (W := w2) (l := [n]) (by simp)
            exact owns_base h1 hgo3.turn.size
          · intro b hb hfoot
            have hlt := hgo3.tel.tl.lt hfoot
            have hb2 : w2.heap.size = b := by simpa [Value.ownBlock] using hb
            omega
          · intro k hk
            rw [List.mem_singleton] at hk
            rw [hk]; exact hn
          · simp only [List.map_cons, List.map_nil, hf, Dt.made_nil]
          · rw [HFS.out]; rfl
        · have hpos : 0 < L.length := List.length_pos_iff.2 hnil
          have HN := Lib.hid hnil
          have HD : Hid (MayOne w0 tb B rv ma mk s f j y1 vp rs T (Dt.conj (Rd.seen g)) wr (.slice lo L.length lc)) := Lib.hid (HR.out.one hnil hLj)
          clear hgo hown hap hnums hnil
          go_wp2_with fail
          go_meet
          exact HD.out
      case rest =>
        obtain ⟨vp1, rs1, T1, L2, fs, hgo, hown, hap, hnums, hne, hconj, hlen⟩ := hcut
        have hLl2 : L2.length ≤ 10001 := by omega
        have hps := fun e (he : e ≤ 20000) T2 (h : Root s e T2) (hk : T2.Ok s) => h.small hk HL.out.n he
        have hroot := HRT.out.go hgo.go
        obtain ⟨a0, r0, rfl⟩ : ∃ a0 r0, L2 = a0 :: r0 := by
          cases L2 with
          | nil => exact absurd rfl hne
          | cons a0 r0 => exact ⟨a0, r0, rfl⟩
        have hfl := nums_len hnums
        obtain ⟨gl, cl, hu7, hcl⟩ : ∃ gl cl, u7 = Value.slice (some ⟨gl, 0, none⟩) (r0.length + 1) cl ∧ r0.length + 1 ≤ cl := by
          rcases owns_cases hown with ⟨_, h0, _⟩ | ⟨gl, cl, e, _, hcl, _⟩
          · simp at h0
          · exact ⟨gl, cl, e, hcl⟩
        subst hu7
        have hcc := fun (i : Nat) (hi : i < (a0 :: r0).length) => owns_cell_ints hown hi
        have c0 := hcc 0 (by simp)
        have ha0 := hnums.lt a0 (by simp)
        have hf0 : T1.ts.getD a0 [] = Dt.conj (fs.take 1) := by
          have h1 := hnums.eq
          rw [← h1]
          simp [Dt.conj]
        simp only [List.length_cons] at hlen hLl2 hfl
        obtain ⟨nr, hnr⟩ : ∃ nr, nr = r0.length := ⟨_, rfl⟩
        rw [← hnr] at hlen hLl2 hfl hcl ⊢
        have hconj2 : Dt.conj (fs.take (nr + 1)) = Dt.conj (Rd.seen g) := by rw [hfl, List.take_length, hconj]
        have HGO := Lib.hid hgo
        have HOWN := Lib.hid hown
        have HAP := Lib.hid hap
        have HNUMS := Lib.hid hnums
        have HROOT := Lib.hid hroot
        have HNR := Lib.hid hnr
        have HFL := Lib.hid hfl
        have HCJ := Lib.hid hconj2
        have HA0 := Lib.hid (And.intro ha0 hf0)
        have HPS := Lib.hid hps
        clear hgo hown hap hnums hroot hnr hfl hconj hconj2 ha0 hf0 hps hcc hne HR
        have HEND : Hid (∀ wr vp' rs' T' (a : Nat), TelTo w0 tb B rv ma mk s 0 nr wc vp1 rs1 T1 wr vp' rs' T' → a < T'.ps.length → T'.ts.getD a [] = Dt.conj (Rd.seen g) →
            wr.cell? ⟨w.heap.size, 0, none⟩ = some (.int .i64 l) ∧ Calls Tryz.prog 176 #[.pointer (some ⟨tb, 0, none⟩), .agg #[.int .i64 4, .int .i64 l], .slice (some ⟨wr.heap.size, 0, none⟩) 1 1] (wr.alloc (.cells #[.int .i64 (a : Nat)] 3))
              (NumDone w0 tb B rv ma mk s f (j + 2) w vp rs T (Dt.conj (Rd.seen g) ++ [(4, l)]))) := Lib.hid (fun wr vp' rs' T' a hto ha hfa => by
          have hT0 : ∀ k, TTurn tb ma mk vp k → k < w.heap.size := fun k hk => HH.out.tl.lt (.inl hk)
          have hall := ((HH.out.same (HUB.out.trans HK1.out)).trans HGO.out).trans hto
          refine ⟨((HGO.out.trans hto).turn).cell e0 (fun ht => by have := hT0 _ ht; simp only at this; omega), ?_⟩
          have hps' := HPS.out _ (by omega) T' (HROOT.out.go hto.go) hto.tel.ok
          have h1 := ints_new (W := wr) (l := [a]) (by simp)
          refine (put_any (l := [a]) (op := 4) (lb := l) hto.tel HL.out.tab ((Up.refl wr).alloc _) h1 (.inr (.inr (.inr rfl))) rfl (fun k hk => by rw [List.mem_singleton] at hk; rw [hk]; exact ha) (by omega) HLL.out).mono ?_
          rintro r w3 ⟨n, vp3, rs3, T3, rfl, hgo3, hn, hf3⟩
          exact ⟨n, vp3, rs3, T3, rfl, (hall.trans hgo3).mono (by omega) (by omega), hn, by rw [hf3, Dt.made_one, hfa]⟩)
        by_cases hz : nr = 0
        · have hA := HA0.out
          have hE := HEND.out wc vp1 rs1 T1 a0 ((HGO.out.tel.same (Up.refl _)).mono (Nat.le_refl _) (Nat.zero_le _)) hA.1 (by rw [hA.2, ← HCJ.out, hz])
          have k0 := hE.1
          have HC := Lib.hid hE.2
          subst hz
          clear hE hA
          go_wp2_with fail
          all_goals
            refine wp_loop_rounds 1 ?_
            rw [rounds_succ]
            go_wp2_with fail
            (with_reducible refine HC.out.mono ?_)
            rintro r w3 ⟨n, vp3, rs3, T3, rfl, hgo3, hn, hf3⟩
            go_wp2_with fail
            go_ret
            exact ⟨n, vp3, rs3, T3, rfl, hgo3, hn, hf3⟩
        · have hcl2 : 2 ≤ cl := by omega
          go_wp2_with fail
          go_loopw [54, 11] (fun i a wr => ∃ (t b : Nat) (vp' : Value) (rs' : List DRow) (T' : Dt.Tl), i = .int .i64 t ∧ t ≤ nr ∧ a = .int .i64 (b : Nat) ∧ Hid (TelTo w0 tb B rv ma mk s 0 t wc vp1 rs1 T1 wr vp' rs' T') ∧ b < T'.ps.length ∧ Hid (T'.ts.getD b [] = Dt.conj (fs.take (t + 1)))) (fun i _ _ => nr - (intOf i).toNat)
          case atStart => exact ⟨0, a0, vp1, rs1, T1, rfl, Nat.zero_le _, rfl, Lib.hid ((HGO.out.tel.same (Up.refl _)).mono (Nat.le_refl _) (Nat.le_refl _)), HA0.out.1, Lib.hid HA0.out.2⟩
          case round =>
            obtain ⟨t, b, vp', rs', T', rfl, htn, rfl, HTO, hb, HFB⟩ := hrel
            by_cases hlt : t < nr
            · have hti : t + 1 < (a0 :: r0).length := by have := HNR.out; simp only [List.length_cons]; omega
              obtain ⟨n, hn⟩ : ∃ n, n = (a0 :: r0).getD (t + 1) 0 := ⟨_, rfl⟩
              obtain ⟨hown2, hap2⟩ := HTO.out.own HOWN.out HAP.out
              have cn := owns_cell_ints hown2 hti
              rw [← hn, Nat.add_comm] at cn
              have hnums2 := HNUMS.out.later HGO.out.tel.ok HTO.out.go
              have hnm : n ∈ a0 :: r0 := by rw [hn]; simp only [List.getD, List.getElem?_eq_getElem hti, Option.getD_some]; exact List.getElem_mem hti
              have hnlt := hnums2.lt n hnm
              have hfn : T'.ts.getD n [] = fs.getD (t + 1) [] := by
                rw [← hnums2.eq, hn]
                simp only [List.getD, List.getElem?_map, List.getElem?_eq_getElem hti, Option.map_some, Option.getD_some]
              have hps' := HPS.out _ (by omega) T' (HROOT.out.go HTO.out.go) HTO.out.tel.ok
              have h1 := ints_new (W := wr) (l := [b, n]) (by simp)
              have HC : Hid (Calls Tryz.prog 176 #[.pointer (some ⟨tb, 0, none⟩), .agg #[.int .i64 3, .int .i64 0], .slice (some ⟨wr.heap.size, 0, none⟩) 2 2] (wr.alloc (.cells #[.int .i64 (b : Nat), .int .i64 (n : Nat)] 3))
                  (NumDone w0 tb B rv ma mk s 0 1 wr vp' rs' T' (Dt.made T'.ts (3, 0) [b, n]))) := Lib.hid (put_any (l := [b, n]) (op := 3) (lb := 0) HTO.out.tel HL.out.tab ((Up.refl wr).alloc _) h1 (.inr (.inr (.inl rfl))) rfl (fun k hk => by simp only [List.mem_cons, List.not_mem_nil, or_false] at hk; rcases hk with rfl | rfl <;> assumption) (by omega) (by omega))
              have HNX : Hid (Dt.made T'.ts (3, 0) [b, n] = Dt.conj (fs.take (t + 1 + 1))) := Lib.hid (by
                rw [Dt.made_two, HFB.out, hfn, conj_take (by have := HFL.out; omega)])
              clear hown2 hap2 hnums2 hnm hnlt hfn hps' h1 hn hb hti HFB
              go_wp2_with fail
              (with_reducible refine HC.out.mono ?_)
              rintro r w3 ⟨n3, vp3, rs3, T3, rfl, hgo3, hn3, hf3⟩
              have HG3 := Lib.hid ((HTO.out.trans hgo3).mono (d' := 0) (e' := t + 1) (by omega) (by omega))
              have HF3 : Hid (T3.ts.getD n3 [] = Dt.conj (fs.take (t + 1 + 1))) := Lib.hid (by rw [hf3, HNX.out])
              clear hgo3 hf3 HC
              go_wp2_with fail
              go_roundw
              case rel => exact ⟨t + 1, n3, vp3, rs3, T3, by go_num, by omega, rfl, HG3, hn3, HF3⟩
              case measure => simp [intOf]; omega
            · obtain rfl : t = nr := by omega
              have hE := HEND.out wr vp' rs' T' b HTO.out hb (by rw [HFB.out, HCJ.out])
              have k0 := hE.1
              have HC := Lib.hid hE.2
              clear hE
              go_wp2_with fail
              (with_reducible refine HC.out.mono ?_)
              rintro r w3 ⟨n, vp3, rs3, T3, rfl, hgo3, hn, hf3⟩
              go_wp2_with fail
              go_ret
              exact ⟨n, vp3, rs3, T3, rfl, hgo3, hn, hf3⟩

end Go.Proofs.YtkcdkfkgjjpaaaaGreatDoor

namespace Go.Proofs.YtkcdkfkgjjpaaaaGreatDoor
open Go.RowKit Go.Maps
set_option linter.unusedVariables false
set_option linter.unusedSimpArgs false

theorem telling_at {s : Sy.Lts} {p q j : Nat} (hj : j < (Sy.steps s p).length) (hb : ∀ i, i < j → Dt.tells s ((Sy.steps s p).getD i (0, 0)) q (Rd.rank s p q) = false) (ht : Dt.tells s ((Sy.steps s p).getD j (0, 0)) q (Rd.rank s p q) = true) :
    Dt.telling s p q = some ((Sy.steps s p).getD j (0, 0)) := by
  unfold Dt.telling
  rw [List.find?_eq_some_iff_getElem]
  have e : (Sy.steps s p).getD j (0, 0) = (Sy.steps s p)[j] := by simp [List.getD, hj]
  refine ⟨ht, j, hj, e.symm, fun i hi => ?_⟩
  have h1 := hb i hi
  have e2 : (Sy.steps s p).getD i (0, 0) = (Sy.steps s p)[i]'(by omega) := by simp [List.getD, show i < (Sy.steps s p).length by omega]
  rw [e2] at h1
  simp [h1]

theorem telling_not {s : Sy.Lts} {p q : Nat} (hb : ∀ i, i < (Sy.steps s p).length → Dt.tells s ((Sy.steps s p).getD i (0, 0)) q (Rd.rank s p q) = false) : Dt.telling s p q = none := by
  unfold Dt.telling
  rw [List.find?_eq_none]
  intro x hx
  obtain ⟨i, hi, rfl⟩ := List.getElem_of_mem hx
  have h1 := hb i hi
  rw [show (Sy.steps s p).getD i (0, 0) = (Sy.steps s p)[i] by simp [List.getD, hi]] at h1
  simp [h1]

/-- A number of a formula, the teller gone on by so much. -/
def OfOne (w0 : World) (tb B : Nat) (rv : Value) (ma mk : Nat) (s : Sy.Lts) (d : Nat) (w : World) (vp : Value) (rs : List DRow) (T : Dt.Tl) (f : List Dt.Nd) (v : Value) (wr : World) : Prop :=
  ∃ (n e : Nat) (vp' : Value) (rs' : List DRow) (T' : Dt.Tl), v = .int .i64 (n : Nat) ∧ e ≤ 10003 ∧ TelTo w0 tb B rv ma mk s d e w vp rs T wr vp' rs' T' ∧ n < T'.ps.length ∧ T'.ts.getD n [] = f

/-- What the loop over the steps leaves. -/
def OfMid (w0 : World) (tb B : Nat) (rv : Value) (ma mk : Nat) (s : Sy.Lts) (p q : Nat) (w : World) (vp : Value) (rs : List DRow) (T : Dt.Tl) (v : Value) (wr : World) : Prop :=
  (Dt.telling s p q = none ∧ v = .int .i64 (-1) ∧ Up w wr) ∨ OfOne w0 tb B rv ma mk s (Dt.fuel s p q) w vp rs T (Dt.F s p q) v wr

/-- The pair is known from now on. -/
theorem of_end {w0 w wr w4 : World} {tb B ma mk e n p q : Nat} {rv vp vp' : Value} {rs rs' : List DRow} {s : Sy.Lts} {T T' : Dt.Tl} (h0 : Tel w0 tb B rv ma mk s w vp rs T) (h : TelTo w0 tb B rv ma mk s (Dt.fuel s p q) e w vp rs T wr vp' rs' T') (he : e ≤ 10003)
    (hn : n < T'.ps.length) (hf : T'.ts.getD n [] = Dt.F s p q) (hp : p < s.n.toNat) (hq : q < s.n.toNat) (hnot : (p, q) ∉ T.kn.map Prod.fst)
    (hm : w4.ownsMap (H := Unit) Tryz.prog 253 (plainElem Tryz.prog 3) mk (T'.kn.length + 1) ((Dt.mp (Dt.knOf pkD T'.kn)).put (pkD p q) (.lit (.int .i64 (n : Nat))))) (hg : wr.grownBy w4 (some mk)) :
    NumDone w0 tb B rv ma mk s (Dt.fuel s p q + 1) 0 w vp rs T (Dt.F s p q) (.returned (.int .i64 (n : Nat))) w4 := by
  obtain ⟨k1, k2⟩ := h.tel.tl.known hm hg
  obtain ⟨o1, o2⟩ := Dt.Tl.know h.tel.ok h.go he hp hq hn hf hnot
  have ht : Turned (TTurn tb ma mk vp) w w4 := h.turn.trans k2 (fun i hi hk => by
    rcases h.turn1 hk with h1 | h1
    · exact h1
    · omega)
  exact ⟨n, vp', rs', _, rfl, ⟨⟨k1, o1, h0.turned ht, h.tel.lo⟩, o2, ht, h.blk, h.foot⟩, hn, hf⟩

/-- What the pairs' map tells. -/
theorem TlAt.knows {w : World} {tb ma mk p q : Nat} {gv rv vp : Value} {rs : List DRow} {s : Sy.Lts} {T : Dt.Tl} (h : TlAt w tb gv rv vp ma mk rs T) (hT : T.Ok s) (hn : s.n.toNat ≤ 1000) (hp : p < s.n.toNat) (hq : q < s.n.toNat) :
    ((p, q) ∈ T.kn.map Prod.fst → ∃ m : Nat, m < T.ps.length ∧ T.ts.getD m [] = Dt.F s p q ∧ (Instr.lookup 158 (.map (some mk)) (.agg #[.int .i64 (p : Nat), .int .i64 (q : Nat)]) true).run Tryz.prog w = .ok (.tuple #[.int .i64 (m : Nat), .bool true]) w) ∧
    ((p, q) ∉ T.kn.map Prod.fst → ∃ c : Int, (Instr.lookup 158 (.map (some mk)) (.agg #[.int .i64 (p : Nat), .int .i64 (q : Nat)]) true).run Tryz.prog w = .ok (.tuple #[.int .i64 c, .bool false]) w) := by
  obtain ⟨v, ps, hrun, hv⟩ := h.kns.look_ok keyedD Tryz.underlying158 (Tryz.intZeroP w) (plainElem_int Tryz.underlying3 (by decide)) (keyOf_pkD (a := p) (b := q) (by omega) (by omega))
  obtain ⟨c, rfl, hc, hwc⟩ := plainElem_int_inv Tryz.underlying3 hv
  have hat := congrArg Prod.fst hc
  obtain ⟨k1, k2⟩ := Dt.knOf_at keyForD (kn := T.kn) (fun e he => by have := hT.kn e he; omega) hT.keys (p := p) (q := q) (by omega) (by omega)
  rw [k1] at hrun
  constructor
  · intro hin
    obtain ⟨⟨pq, m⟩, hm, e⟩ := List.mem_map.1 hin
    simp only at e
    subst e
    have hz := k2 m (.lit (.int .i64 0)) hm
    have hk := hT.kn _ hm
    refine ⟨m, hk.2.2.1, hk.2.2.2, ?_⟩
    rw [hz] at hat
    simp only [DataW.lit.injEq, Lit.int.injEq, true_and] at hat
    rw [decide_eq_true hin] at hrun
    rw [hat]; exact hrun
  · intro hout
    exact ⟨c, by rw [decide_eq_false hout] at hrun; exact hrun⟩

theorem Tryz.stepInfoD : (Tryz.prog.info? 92).map (fun i => (i.zero, i.size, i.bytes)) = some (some (.agg #[.int .i64 0, .int .i64 0]), 2, 16) := by kernel_rfl

set_option maxHeartbeats 8000000 in
set_option maxRecDepth 100000 in
theorem ofD_any {w0 : World} {tb B ma mk : Nat} {rv : Value} {s : Sy.Lts} (hL : Lean0 w0 B rv s) : ∀ (f p q : Nat), Dt.fuel s p q < f → p < s.n.toNat → q < s.n.toNat → 0 ≤ Rd.rank s p q → OfAt w0 tb B rv ma mk s p q := by
  intro f
  induction f with
  | zero => intro p q h; omega
  | succ f ih =>
  intro p q hfu hp hq h0r w vp rs T h hr
  have hbox : w.heap[tb]? = some (.cells #[.pointer (some ⟨B, 0, none⟩), rv, vp, .map (some ma), .map (some mk)] 161 (0, 0)) := h.tl.box
  have t0 : w.cell? ⟨tb, 0, none⟩ = some (.pointer (some ⟨B, 0, none⟩)) := by simp [World.cell?, hbox]
  have t1 : w.cell? ⟨tb, 1, none⟩ = some rv := by simp [World.cell?, hbox]
  have t4 : w.cell? ⟨tb, 4, none⟩ = some (.map (some mk)) := by simp [World.cell?, hbox]
  have hn3 := hL.n
  have hknow := h.tl.knows h.ok (by omega) hp hq
  have HL := Lib.hid hL
  have HH := Lib.hid h
  have HRT := Lib.hid hr
  have HP := Lib.hid hp
  have HQ := Lib.hid hq
  have H0R := Lib.hid h0r
  have HFU := Lib.hid hfu
  have IH := Lib.hid ih
  clear hbox hL h hr hp hq h0r hfu ih
  by_cases hin : (p, q) ∈ T.kn.map Prod.fst
  · obtain ⟨m, hm1, hm2, hlk⟩ := hknow.1 hin
    have HM := Lib.hid (And.intro hm1 hm2)
    clear hknow hin hm1 hm2
    go_enter Tryz.func114, Tryz.ntmps114
    go_wp2_with fail
    go_ret
    exact ⟨m, vp, rs, T, rfl, (HH.out.same (Up.refl _)).mono (Nat.zero_le _) (Nat.le_refl _), HM.out.1, HM.out.2⟩
  · obtain ⟨c, hlk⟩ := hknow.2 hin
    have HIN := Lib.hid hin
    obtain ⟨k, hk⟩ : ∃ k, k = (Sy.steps s p).length := ⟨_, rfl⟩
    have HK := Lib.hid hk
    have hkl := steps_len HL.out.right p
    rw [← hk] at hkl
    have HEA : Hid (∀ W, Up w W → Calls Tryz.prog 44 #[.pointer (some ⟨B, 0, none⟩), .int .i64 (p : Nat)] W (Read2 W (Sy.steps s p))) := Lib.hid (fun W hW => each_in (HL.out.g.up (HH.out.up.trans hW)) HL.out.right HP.out)
    clear hknow hin hk
    go_enter Tryz.func114, Tryz.ntmps114
    go_upto_block 0 with (go_at_call 44; refine (HEA.out _ (Up.refl _)).mono ?_; rintro r y1 ⟨v1, rfl, hu1, ao, cap, g, off, rfl, ha, hx⟩; (have hk2 := HK.out); (rw [← hk2] at ha ⊢); clear hk2; (have HA := Lib.hid ha); (have HX := Lib.hid hx); (have HU1 := Lib.hid hu1); clear ha hx hu1)
    have hy1 := HU1.out
    go_cut [9] (OfMid w0 tb B rv ma mk s p q w vp rs T)
    case first =>
      have d1 := hy1.cell t1
      have d0 := hy1.cell t0
      have hRK : RkRead y1 rv s := HL.out.r.up (HH.out.up.trans hy1)
      obtain ⟨rao, rcap, rg, roff, hrv, hra, hrx⟩ := hRK
      obtain rfl := hra (by have := HP.out; omega)
      obtain ⟨rh, rro, rrc, c1, hrow⟩ := hrx p HP.out
      have c2 := hrow q HQ.out
      rw [hrv] at d1
      obtain ⟨N, hN⟩ : ∃ N, N = s.n.toNat := ⟨_, rfl⟩
      obtain ⟨rk, hrk⟩ : ∃ rk, rk = Rd.rank s p q := ⟨_, rfl⟩
      rw [← hN] at d1 c1
      rw [← hrk] at c2
      have hpN : p < N := by rw [hN]; exact HP.out
      have hqN : q < N := by rw [hN]; exact HQ.out
      have hNl : N ≤ 300 := by omega
      have HRV := Lib.hid hrv
      have HRK := Lib.hid hrk
      have HN := Lib.hid hN
      clear hrv hrk hN hrow hrx hra
      go_wp2_with fail
      go_loopw [32, 9] (fun i v wr => ∃ j : Nat, i = .int .i64 j ∧ j ≤ k ∧ v = .int .i64 (-1) ∧ Up y1 wr ∧ Hid (∀ i, i < j → Dt.tells s ((Sy.steps s p).getD i (0, 0)) q (Rd.rank s p q) = false)) (fun i _ _ => k - (intOf i).toNat)
      case atStart => exact ⟨0, rfl, Nat.zero_le _, rfl, Up.refl _, Lib.hid (fun i hi => by omega)⟩
      case round =>
        obtain ⟨j, rfl, hj, rfl, hu, HJ⟩ := hrel
        by_cases hlt : j < k
        · obtain rfl := HA.out (by omega)
          have hjl : j < (Sy.steps s p).length := by rw [← HK.out]; exact hlt
          have hcx := HX.out j hjl
          obtain ⟨x, hx⟩ : ∃ x, x = (Sy.steps s p).getD j (0, 0) := ⟨_, rfl⟩
          have hxm : x ∈ Sy.steps s p := by rw [hx]; simp only [List.getD, List.getElem?_eq_getElem hjl, Option.getD_some]; exact List.getElem_mem hjl
          rw [← hx] at hcx
          obtain ⟨x1, x2⟩ := x
          have hxo := steps_ok HL.out.right p _ hxm
          simp only at hcx hxo
          obtain ⟨tn, rfl⟩ : ∃ tn : Nat, x2 = (tn : Int) := ⟨x2.toNat, by omega⟩
          have HXO := Lib.hid hxo
          clear hxo
          have e0 := hu.cell hcx.1
          have e1 := hu.cell hcx.2
          have hux : Up wr (wr.alloc (.cells #[.int .i64 x1, .int .i64 (tn : Int)] 92)) := (Up.refl wr).alloc _
          have hbx := heap_alloc_new wr (.cells #[.int .i64 x1, .int .i64 (tn : Int)] 92)
          go_upto_region 8 with fail
          obtain ⟨X, hX⟩ : ∃ X, X = wr.alloc (.cells #[.int .i64 x1, .int .i64 (tn : Int)] 92) := ⟨_, rfl⟩
          rw [← hX] at hux hbx ⊢
          obtain ⟨f0, f1⟩ := two_cells hbx
          have f2 := hux.cell (hu.cell d1)
          have f3 := hux.cell (hu.cell c1)
          have f4 := hux.cell (hu.cell c2)
          have huX : Up w X := hy1.trans (hu.trans hux)
          have HTL : Hid (∀ W, Up X W → Calls Tryz.prog 174 #[.pointer (some ⟨tb, 0, none⟩), .agg #[.int .i64 x1, .int .i64 (tn : Int)], .int .i64 (q : Nat), .int .i64 rk] W fun r w' => r = .returned (.bool (Dt.tells s (x1, (tn : Int)) q rk)) ∧ Up W w') :=
            Lib.hid (fun W hW => tells_any (hW.cell (huX.cell t0)) (hW.cell (huX.cell t1)) (HL.out.g.up (HH.out.up.trans (huX.trans hW))) (HL.out.r.up (HH.out.up.trans (huX.trans hW))) HL.out.right hxm HQ.out)
          have HXM := Lib.hid hxm
          have HXE := Lib.hid hx
          have HUX := Lib.hid huX
          have HBX := Lib.hid hbx
          have HXX := Lib.hid (hu.trans hux)
          have hB : wr.heap.size < X.heap.size := lt_of_block' hbx
          clear e0 e1 hcx hxm hx hux hbx hX huX hjl
          refine wp_region_ord 13 [(0, true), (1, true), (2, true), (3, true), (4, true), (5, true), (6, true), (7, true), (8, true), (9, true), (10, true), (11, true), (12, true)] (fun w' => w' = X.drew) (by kernel_rfl) (by kernel_rfl) (fun _ _ _ _ _ h => h) rfl ?_
          iterate 13
            refine WO.still rfl rfl (fun KK hK => ?_)
            apply Exists.intro
            refine ⟨?_, hK _ ?_⟩
            · rintro w' rfl
              go_simp
              first | done | rfl | exact ⟨rfl, rfl⟩
            clear hK KK
          refine WO.last rfl rfl (fun KK hK => ?_)
          go_simp
          refine (HTL.out _ ((Up.refl X).drew)).mono ?_
          rintro r w5 ⟨rfl, hu5⟩
          refine hK _ _ ?_
          clear hK KK
          obtain ⟨tv, htv⟩ : ∃ tv, tv = Dt.tells s (x1, (tn : Int)) q rk := ⟨_, rfl⟩
          rw [← htv]
          have HTV := Lib.hid htv
          have hu5' : Up X w5 := ((Up.refl X).drew).trans hu5
          have g0 := hu5'.cell f0
          have g1 := hu5'.cell f1
          have HU5 := Lib.hid hu5'
          clear htv hu5 hu5' f0 f1 f2 f3 f4 HTL
          cases tv
          · have HJ2 : Hid (∀ i, i < j + 1 → Dt.tells s ((Sy.steps s p).getD i (0, 0)) q (Rd.rank s p q) = false) := Lib.hid (fun i hi => by
              rcases Nat.lt_succ_iff_lt_or_eq.1 hi with h1 | rfl
              · exact HJ.out i h1
              · rw [← HXE.out, ← HRK.out]; exact HTV.out.symm)
            clear g0 g1
            go_wp2_with fail
            go_roundw
            case rel => exact ⟨j + 1, by go_num, by omega, rfl, HXX.out.trans HU5.out, HJ2⟩
            case measure => simp [intOf]; omega
          · have hxl : j < (Sy.steps s p).length := by rw [← HK.out]; exact hlt
            have htell : Dt.telling s p q = some (x1, (tn : Int)) := by
              rw [HXE.out]
              exact telling_at hxl HJ.out (by rw [← HXE.out, ← HRK.out]; exact HTV.out.symm)
            obtain ⟨hs1, hs2⟩ := Dt.telling_spec htell
            simp only [Int.toNat_natCast] at hs2
            have hfuel : Dt.fuel s p q = 2 * (Rd.rank s p q).toNat := by simp [Dt.fuel, htell]
            have hxo := HXO.out
            have htn : tn < s.n.toNat := by omega
            have huw5 : Up w w5 := HUX.out.trans HU5.out
            have hFe := Dt.F_some HL.out.right HP.out HQ.out H0R.out htell
            simp only [Int.toNat_natCast] at hFe
            have HMAY := Lib.hid (may_any (f := Dt.fuel s p q) HL.out (HH.out.upto huw5) HRT.out (l := x1) (tn := tn) (q := q) (by omega) htn HQ.out (fun z hz => by
              have h1 := hs2 z hz
              have h2 : Dt.fuel s tn z ≤ 2 * (Rd.rank s tn z).toNat + 1 := by unfold Dt.fuel; split <;> omega
              have h3 := HFU.out
              have h4 : Dt.fuel s tn z < Dt.fuel s p q := by omega
              exact ⟨IH.out tn z (by omega) htn (Dt.meetsL_lt HL.out.right hz) h1.1, h4⟩))
            rw [← hFe] at HMAY
            have hml : (Dt.meetsL s q x1).length ≤ 10000 := by rw [meetsL_byL, List.length_map]; exact byL_small HL.out.right q x1
            have HML := Lib.hid hml
            have HUW5 := Lib.hid huw5
            clear hxl htell hs1 hs2 hfuel hxo htn huw5 hFe hml d0 d1 c1 c2
            go_wp2_with (go_at_call 175; refine HMAY.out.mono ?_; rintro r w6 ⟨n, vp2, rs2, T2, rfl, hgo2, hn2, hf2⟩; (have HG2 := Lib.hid hgo2); (have HF2 := Lib.hid hf2); (have HN2 := Lib.hid hn2); clear hgo2 hf2 hn2)
            go_meet
            exact .inr ⟨n, _, vp2, rs2, T2, rfl, by have := HML.out; omega, ((HH.out.same HUW5.out).trans HG2.out).mono (by omega) (Nat.le_of_eq (Nat.zero_add _)), HN2.out, HF2.out⟩
        · obtain rfl : j = k := by omega
          have HNO := Lib.hid (telling_not (q := q) (fun i hi => HJ.out i (by rw [HK.out]; exact hi)))
          clear d0 d1 c1 c2
          go_wp2_with fail
          go_meet
          exact .inl ⟨HNO.out, rfl, HU1.out.trans hu⟩
    case rest =>
      rcases hcut with ⟨hnone, rfl, hup⟩ | ⟨nQ, eQ, vpQ, rsQ, TQ, rfl, heQ, hgo, hnQ, hfQ⟩
      · have hsome := Dt.some_tells HL.out.right HP.out HQ.out H0R.out hnone
        have hf1 : Dt.fuel s p q = 2 * (Rd.rank s p q).toNat + 1 := by simp [Dt.fuel, hnone]
        have hf2 : Dt.fuel s q p = 2 * (Rd.rank s p q).toNat := by simp [Dt.fuel, hsome, Rd.rank_comm s q p]
        have hFe := Dt.F_none HL.out.right HP.out HQ.out H0R.out hnone
        have h0r2 : 0 ≤ Rd.rank s q p := by rw [Rd.rank_comm]; exact H0R.out
        have HOF := Lib.hid (IH.out q p (by have := HFU.out; omega) HQ.out HP.out h0r2 wc vp rs T (HH.out.upto hup) HRT.out)
        have HFE := Lib.hid hFe
        have HFF : Hid (Dt.fuel s q p + 1 ≤ Dt.fuel s p q) := Lib.hid (by omega)
        have HUP := Lib.hid hup
        clear hsome hf1 hf2 hFe h0r2 hup hnone hlk
        go_wp2_with (go_at_call 114; refine HOF.out.mono ?_; rintro r w5 ⟨n5, vp5, rs5, T5, rfl, hgo5, hn5, hf5⟩; (have HG5 := Lib.hid hgo5); (have HN5 := Lib.hid hn5); (have HF5 := Lib.hid hf5); clear hgo5 hn5 hf5)
        have hps5 := (HRT.out.go HG5.out.go).small HG5.out.tel.ok hn3 (by omega)
        have h1 := ints_new (W := w5) (l := [n5]) (by simp)
        refine (put_any (l := [n5]) (op := 2) (lb := 0) HG5.out.tel HL.out.tab ((Up.refl w5).alloc _) h1 (.inr (.inl rfl)) rfl (fun k hk => by rw [List.mem_singleton] at hk; rw [hk]; exact HN5.out) (by omega) (by omega)).mono ?_
        rintro r WQ ⟨nQ, vpQ, rsQ, TQ, rfl, hgo6, hn6, hf6⟩
        have HGN : Hid (TelTo w0 tb B rv ma mk s (Dt.fuel s p q) 1 w vp rs T WQ vpQ rsQ TQ) := Lib.hid (((HH.out.same HUP.out).trans (HG5.out.trans hgo6)).mono (by have := HFF.out; omega) (by omega))
        have HNQ := Lib.hid hn6
        have HFQ : Hid (TQ.ts.getD nQ [] = Dt.F s p q) := Lib.hid (by rw [hf6, Dt.made_one, HF5.out, HFE.out])
        clear hps5 h1 hgo6 hn6 hf6
        have hgoN := HGN.out
        have t4' : WQ.cell? ⟨tb, 4, none⟩ = some (.map (some mk)) := by simp [World.cell?, hgoN.tel.tl.box]
        have hmap := hgoN.tel.tl.kns
        have hkey := keyOf_pkD (a := p) (b := q) (by have := HP.out; omega) (by have := HQ.out; omega)
        have hkn : TQ.kn.length ≤ 90000 := by
          have h1 := hgoN.tel.ok.many
          have h2 := Nat.mul_le_mul hn3 hn3
          omega
        have hnb : (nQ : Int) ≤ 100000000000 := by
          have h1 := (HRT.out.go hgoN.go).small hgoN.tel.ok hn3 (by omega)
          have h2 := HNQ.out
          omega
        clear hgoN
        go_wp2_with (at_mapUpdate; refine wpList_mapUpdate_own _ rfl _ _ _ 158 rfl 253 3 keyedD Tryz.underlying158 _ mk TQ.kn.length _ rfl hmap (by unfold maxLen; omega) _ _ _ rfl rfl hkey _ [] (plainElem_int Tryz.underlying3 (WalkArith.wf_i64 (by omega))) ?_; intro w7 hown7 hgrow7; (have HO7 := Lib.hid hown7); (have HG7 := Lib.hid hgrow7); clear hown7 hgrow7)
        go_ret
        exact of_end HH.out HGN.out (by omega) HNQ.out HFQ.out HP.out HQ.out HIN.out HO7.out HG7.out
      · have HGN := Lib.hid hgo
        have HNQ := Lib.hid hnQ
        have HFQ := Lib.hid hfQ
        have q1 : decide ((nQ : Int) < 0) = false := by simp
        clear hgo hnQ hfQ hlk
        have hgoN := HGN.out
        have t4' : wc.cell? ⟨tb, 4, none⟩ = some (.map (some mk)) := by simp [World.cell?, hgoN.tel.tl.box]
        have hmap := hgoN.tel.tl.kns
        have hkey := keyOf_pkD (a := p) (b := q) (by have := HP.out; omega) (by have := HQ.out; omega)
        have hkn : TQ.kn.length ≤ 90000 := by
          have h1 := hgoN.tel.ok.many
          have h2 := Nat.mul_le_mul hn3 hn3
          omega
        have hnb : (nQ : Int) ≤ 100000000000 := by
          have h1 := (HRT.out.go hgoN.go).small hgoN.tel.ok hn3 (by omega)
          have h2 := HNQ.out
          omega
        clear hgoN
        go_wp2_with (at_mapUpdate; refine wpList_mapUpdate_own _ rfl _ _ _ 158 rfl 253 3 keyedD Tryz.underlying158 _ mk TQ.kn.length _ rfl hmap (by unfold maxLen; omega) _ _ _ rfl rfl hkey _ [] (plainElem_int Tryz.underlying3 (WalkArith.wf_i64 (by omega))) ?_; intro w7 hown7 hgrow7; (have HO7 := Lib.hid hown7); (have HG7 := Lib.hid hgrow7); clear hown7 hgrow7)
        go_ret
        exact of_end HH.out HGN.out (by omega) HNQ.out HFQ.out HP.out HQ.out HIN.out HO7.out HG7.out

end Go.Proofs.YtkcdkfkgjjpaaaaGreatDoor

namespace Go.Proofs.YtkcdkfkgjjpaaaaGreatDoor
open Go.RowKit Go.Maps
set_option linter.unusedVariables false
set_option linter.unusedSimpArgs false

/-- What formula leaves. -/
def FormDone (w0 : World) (s : Sy.Lts) (p q : Nat) (xn xm : Value) (r : Ending) (w' : World) : Prop :=
  Up w0 w' ∧ ((Rd.rank s p q < 0 ∧ ∃ pb, r = .returned (.tuple #[.slice none 0 0, faultAt pb]) ∧ w0.heap.size ≤ pb ∧ FaultE w' pb layerDist xn) ∨
    (0 ≤ Rd.rank s p q ∧ 5000 < (Dt.F s p q).length ∧ ∃ pb, r = .returned (.tuple #[.slice none 0 0, faultAt pb]) ∧ w0.heap.size ≤ pb ∧ FaultE w' pb layerDist xm) ∨
    (0 ≤ Rd.rank s p q ∧ (Dt.F s p q).length ≤ 5000 ∧ ∃ ao cap, r = .returned (.tuple #[.slice ao (Dt.F s p q).length cap, .nilIface]) ∧ w'.ownsRow w0.heap.size 71 2 (.slice ao (Dt.F s p q).length cap) (Dt.F s p q).length (cells2 (Dt.F s p q))))

set_option maxHeartbeats 8000000 in
set_option maxRecDepth 100000 in
theorem formula_any {w0 w : World} {tb B ma mk p q : Nat} {rv : Value} {s : Sy.Lts} {nt mt : TypeId} {nv mv : Value} (hL : Lean0 w0 B rv s) (h : Tel w0 tb B rv ma mk s w (.slice none 0 0) [] ⟨[], [], []⟩) (hr : Root s 0 ⟨[], [], []⟩) (hp : p < s.n.toNat) (hq : q < s.n.toNat)
    (hN : w0.cell? ⟨1, 0, none⟩ = some (.iface nt nv)) (hM : w0.cell? ⟨0, 0, none⟩ = some (.iface mt mv)) :
    Calls Tryz.prog 46 #[.pointer (some ⟨tb, 0, none⟩), .int .i64 (p : Nat), .int .i64 (q : Nat)] w (FormDone w0 s p q (.iface nt nv) (.iface mt mv)) := by
  have hn3 := hL.n
  have t1 : w.cell? ⟨tb, 1, none⟩ = some rv := by simp [World.cell?, h.tl.box]
  have HS := Lib.hid (same_any t1 (hL.r.up h.up) hp hq (by omega))
  have g1 := h.up.cell hN
  obtain ⟨rk, hrk⟩ : ∃ rk, rk = Rd.rank s p q := ⟨_, rfl⟩
  rw [← hrk] at HS
  have HRK := Lib.hid hrk
  have HH := Lib.hid h
  by_cases h0 : rk < 0
  · have q1 : decide (rk < 0) = true := by simpa using h0
    rw [q1] at HS
    have H0 : Hid (Rd.rank s p q < 0) := Lib.hid (by rw [← hrk]; exact h0)
    clear hL h hr hp hq hN hM t1 hrk h0 q1
    go_enter Tryz.func46, Tryz.ntmps46
    go_wp2_with (first
      | (go_at_call 113; refine HS.out.mono ?_; rintro r w1 ⟨rfl, rfl⟩)
      | (go_at_call 99; refine (faultNewE layerDist _ _ _).mono ?_; rintro e w3 ⟨rfl, hw3⟩; (have HW3 := Lib.hid (fault_up hw3)); (have HU3 := Lib.hid (show Up w w3 by rw [hw3]; exact (Up.refl w).alloc _)); clear hw3))
    go_ret2
    exact ⟨HH.out.up.trans HU3.out, .inl ⟨H0.out, _, rfl, HH.out.up.size, HW3.out⟩⟩
  · have q1 : decide (rk < 0) = false := by simpa using h0
    rw [q1] at HS
    have h0r : 0 ≤ Rd.rank s p q := by rw [← hrk]; omega
    have H0 := Lib.hid h0r
    have HOF := Lib.hid (ofD_any (tb := tb) (ma := ma) (mk := mk) hL _ p q (Nat.lt_succ_self _) hp hq h0r w _ _ _ h hr)
    have HLL := Lib.hid hL
    have HRT := Lib.hid hr
    have HNN := Lib.hid hN
    have HMM := Lib.hid hM
    have HPR := Lib.hid (Dt.F_proper hL.right p q hp hq h0r)
    obtain ⟨F, hF⟩ : ∃ F, F = Dt.F s p q := ⟨_, rfl⟩
    unfold FormDone
    rw [← hF] at HOF HPR ⊢
    have hsz : Dt.size F = min F.length 5001 := rfl
    obtain ⟨sz, hsze⟩ : ∃ sz, sz = Dt.size F := ⟨_, rfl⟩
    clear hL h hr hp hq hN hM t1 hrk h0 q1 h0r g1 hF
    by_cases hlong : 5000 < F.length
    · have q2 : decide ((5000 : Int) < (sz : Int)) = true := by simp; omega
      have HLONG := Lib.hid hlong
      have HSZE := Lib.hid hsze
      clear hlong hsz hsze
      go_enter Tryz.func46, Tryz.ntmps46
      go_wp2_with (first
        | (go_at_call 113; refine HS.out.mono ?_; rintro r w1 ⟨rfl, rfl⟩)
        | (go_at_call 114; refine HOF.out.mono ?_; rintro r w2 ⟨n, vp2, rs2, T2, rfl, hgo, hn, hf⟩; (obtain ⟨g, cap, lv, rfl, c0, c1, c2, hls, c3, -⟩ := hgo.tel.tl.part hn); (rw [hf, ← HSZE.out] at c3); (have t2 : w2.cell? ⟨tb, 2, none⟩ = some (.slice (some ⟨g, 0, none⟩) rs2.length cap) := by simp [World.cell?, hgo.tel.tl.box]); (have hnl : n < rs2.length := by rw [hgo.tel.tl.len]; exact hn); (have hpl := (HRT.out.go hgo.go).small hgo.tel.ok hn3 (by omega)); (have hpl2 : rs2.length ≤ 1000000000 := by rw [hgo.tel.tl.len]; exact hpl); (have gm := hgo.tel.up.cell HMM.out); (have HGO := Lib.hid hgo); (have HF := Lib.hid hf); (have HN := Lib.hid hn); clear hgo hf hn hls c0 c1 c2)
        | (go_at_call 99; refine (faultNewE layerDist _ _ _).mono ?_; rintro e w3 ⟨rfl, hw3⟩; (have HW3 := Lib.hid (fault_up hw3)); (have HU3 := Lib.hid (show Up w2 w3 by rw [hw3]; exact (Up.refl w2).alloc _)); clear hw3))
      go_ret2
      exact ⟨HGO.out.tel.up.trans HU3.out, .inr (.inl ⟨H0.out, HLONG.out, _, rfl, HGO.out.tel.up.size, HW3.out⟩)⟩
    · have q2 : decide ((5000 : Int) < (sz : Int)) = false := by simp; omega
      have HLONG : Hid (F.length ≤ 5000) := Lib.hid (by omega)
      have HSZE := Lib.hid hsze
      clear hlong hsz hsze
      go_enter Tryz.func46, Tryz.ntmps46
      go_wp2_with (first
        | (go_at_call 113; refine HS.out.mono ?_; rintro r w1 ⟨rfl, rfl⟩)
        | (go_at_call 114; refine HOF.out.mono ?_; rintro r w2 ⟨n, vp2, rs2, T2, rfl, hgo, hn, hf⟩; (obtain ⟨g, cap, lv, rfl, c0, c1, c2, hls, c3, -⟩ := hgo.tel.tl.part hn); (rw [hf, ← HSZE.out] at c3); (have t2 : w2.cell? ⟨tb, 2, none⟩ = some (.slice (some ⟨g, 0, none⟩) rs2.length cap) := by simp [World.cell?, hgo.tel.tl.box]); (have hnl : n < rs2.length := by rw [hgo.tel.tl.len]; exact hn); (have hpl := (HRT.out.go hgo.go).small hgo.tel.ok hn3 (by omega)); (have hpl2 : rs2.length ≤ 1000000000 := by rw [hgo.tel.tl.len]; exact hpl); (have gm := hgo.tel.up.cell HMM.out); (have HGO := Lib.hid hgo); (have HF := Lib.hid hf); (have HN := Lib.hid hn); clear hgo hf hn hls c0 c1 c2)
        | fail)
      have hND := nodes_any (base := w2.heap.size) HGO.out.tel.ok.tab (by omega) (fun b hb => HGO.out.tel.tl.lt hb) n w2 (.slice none 0 0) [] HN.out HGO.out.tel.tl (World.ownsRow_nil _ _ _ _) (Nat.le_refl _) (by rw [HF.out]; have := HLONG.out; simp; omega)
      rw [HF.out, List.nil_append] at hND
      refine hND.mono ?_
      rintro r w3 ⟨v3, rfl, hown3, hT3, -⟩
      obtain ⟨ao, c3', rfl⟩ := owns_shape' hown3
      have HO3 := Lib.hid hown3
      have HU3 : Hid (Up w2 w3) := Lib.hid (hT3.toBelow (fun k hk => by simp [Value.ownBlock] at hk))
      clear hown3 hT3 hND
      go_wp2_with fail
      go_ret2
      exact ⟨HGO.out.tel.up.trans HU3.out, .inr (.inr ⟨H0.out, HLONG.out, ao, c3', rfl, owns_base HO3.out HGO.out.tel.up.size⟩)⟩

end Go.Proofs.YtkcdkfkgjjpaaaaGreatDoor
