/- Walk: rounds.Ranks. -/
import Derived.Test.YtkcdkfkgjjpaaaaGreatDoorRdTop

namespace Go.Proofs.YtkcdkfkgjjpaaaaGreatDoor
open Go.RowKit Go.Sort Go.Maps
set_option linter.unusedVariables false
set_option linter.unusedSimpArgs false

/-- The values vs are rows of integers, each in a new block of its own, one behind the other. -/
def RowsI (base : Nat) (w : World) (vs : List Value) (rows : List (List Int)) : Prop :=
  vs.length = rows.length ∧ (∀ i, i < rows.length → w.ownsRow base 3 1 (vs.getD i undef) (rows.getD i []).length (ivs (rows.getD i []))) ∧
    ∀ i j g h, i < j → j < rows.length → (vs.getD i undef).ownBlock = some g → (vs.getD j undef).ownBlock = some h → g < h

theorem RowsI.keep {base : Nat} {w w1 : World} {vs : List Value} {rows : List (List Int)} (h : RowsI base w vs rows) (hk : ∀ g, base ≤ g → g < w.heap.size → w1.heap[g]? = w.heap[g]?) : RowsI base w1 vs rows :=
  ⟨h.1, fun i hi => owns_keep (h.2.1 i hi) (fun g hg => hk g ((h.2.1 i hi).lt g hg).1 ((h.2.1 i hi).lt g hg).2), h.2.2⟩

theorem RowsI.up {base : Nat} {w w1 : World} {vs : List Value} {rows : List (List Int)} (h : RowsI base w vs rows) (hu : Up w w1) : RowsI base w1 vs rows :=
  h.keep fun g _ hg => hu.block g hg

theorem RowsI.base {w : World} {b b' : Nat} {vs : List Value} {rows : List (List Int)} (h : RowsI b w vs rows) (hb : b' ≤ b) : RowsI b' w vs rows :=
  ⟨h.1, fun i hi => owns_base (h.2.1 i hi) hb, h.2.2⟩

theorem RowsI.snoc {base : Nat} {w0 w : World} {vs : List Value} {rows : List (List Int)} {v : Value} {c : List Int} (h : RowsI base w0 vs rows) (hk : ∀ g, base ≤ g → g < w0.heap.size → w.heap[g]? = w0.heap[g]?) (hb : base ≤ w0.heap.size) (hv : w.ownsRow w0.heap.size 3 1 v c.length (ivs c)) : RowsI base w (vs ++ [v]) (rows ++ [c]) := by
  refine ⟨by simp [h.1], fun i hi => ?_, fun i j g k hij hj hg hgk => ?_⟩
  · rw [List.length_append, List.length_singleton] at hi
    by_cases he : i < rows.length
    · rw [getD_snoc_old (by rw [h.1]; exact he), getD_snoc_old he]; exact (h.keep hk).2.1 i he
    · obtain rfl : i = rows.length := by omega
      have h1 : (vs ++ [v]).getD rows.length undef = v := by rw [← h.1]; exact getD_snoc_new _ _ _
      rw [h1, getD_snoc_new]; exact owns_base hv hb
  · rw [List.length_append, List.length_singleton] at hj
    have hi : i < rows.length := by omega
    rw [getD_snoc_old (by rw [h.1]; exact hi)] at hg
    by_cases he : j < rows.length
    · rw [getD_snoc_old (by rw [h.1]; exact he)] at hgk
      exact h.2.2 i j g k hij he hg hgk
    · obtain rfl : j = rows.length := by omega
      rw [show (vs ++ [v]).getD rows.length undef = v by rw [← h.1]; exact getD_snoc_new _ _ _] at hgk
      have h1 := owns_lt (h.2.1 i hi) hg
      have h2 := (hv.lt k hgk).1
      omega

theorem RowsI.nil (base : Nat) (w : World) : RowsI base w [] [] := ⟨rfl, fun i hi => by simp at hi, fun i j g h _ hj => by simp at hj⟩

/-- The ranks of a state with the first k ones. -/
def rankRow (s : Sy.Lts) (p k : Nat) : List Int := (List.range k).map fun q => Rd.rank s p q
/-- The ranks of the first states. -/
def rankRows (s : Sy.Lts) (j : Nat) : List (List Int) := (List.range j).map fun p => rankRow s p s.n.toNat
/-- The ranks of all states. -/
def ranks (s : Sy.Lts) : List (List Int) := rankRows s s.n.toNat

theorem rankRow_len (s : Sy.Lts) (p k : Nat) : (rankRow s p k).length = k := by simp [rankRow]
theorem rankRow_succ (s : Sy.Lts) (p k : Nat) : rankRow s p (k + 1) = rankRow s p k ++ [Rd.rank s p k] := by simp [rankRow, List.range_succ]
theorem rankRows_len (s : Sy.Lts) (j : Nat) : (rankRows s j).length = j := by simp [rankRows]
theorem rankRows_succ (s : Sy.Lts) (j : Nat) : rankRows s (j + 1) = rankRows s j ++ [rankRow s j s.n.toNat] := by simp [rankRows, List.range_succ]
theorem ranks_get {s : Sy.Lts} {p : Nat} (hp : p < s.n.toNat) : (ranks s).getD p [] = rankRow s p s.n.toNat := by simp [ranks, rankRows, List.getD, hp]
theorem rankRow_get {s : Sy.Lts} {p q k : Nat} (hq : q < k) : (rankRow s p k).getD q 0 = Rd.rank s p q := by simp [rankRow, List.getD, hq]

/-- What Ranks leaves. -/
def RanksDone (s : Sy.Lts) (w : World) (x xl : Value) (r : Ending) (w' : World) : Prop :=
  Up w w' ∧ ((Sy.right s = true ∧ s.n ≤ 300 ∧ ∃ v vs, r = .returned (.tuple #[v, .nilIface]) ∧ w'.ownsRow w.heap.size 35 1 v s.n.toNat vs ∧ RowsI w.heap.size w' vs (ranks s)) ∨
    (Sy.right s = true ∧ 300 < s.n ∧ ∃ pb, r = .returned (.tuple #[.slice none 0 0, faultAt pb]) ∧ w.heap.size ≤ pb ∧ FaultE w' pb layerRounds xl) ∨
    (Sy.right s = false ∧ ∃ qb pb, r = .returned (.tuple #[.slice none 0 0, faultAt qb]) ∧ w.heap.size ≤ qb ∧ w.heap.size ≤ pb ∧ FaultE w' qb layerRounds (faultAt pb) ∧ FaultE w' pb layerSystem x))

set_option maxHeartbeats 4000000 in
set_option maxRecDepth 100000 in
theorem ranks_bad (s : Sy.Lts) (se : Value) (a : Addr) (xl : Value) (w : World) (hr : Sy.right s = false) (hT : Tab w) (hG : ErrT w) (hs : Ls3 w se s.es) (hE : w.cell? ⟨2, 0, none⟩ = some (.iface 354 (.pointer (some a)))) (hl : s.es.length ≤ maxLen) :
    Calls Tryz.prog 112 #[sysV s se] w (RanksDone s w (.iface 354 (.pointer (some a))) xl) := by
  obtain ⟨ao, cap, rfl⟩ := ls3_shape hs
  have HA := Lib.hid (all_no hr hT hG hs hE hl)
  have HR := Lib.hid hr
  clear hr hT hG hl hs
  unfold sysV
  go_enter Tryz.func112, Tryz.ntmps112
  go_wp2_with (first
    | (go_at_call 102; refine HA.out.mono ?_; rintro r w1 ⟨qb, pb, rfl, hu1, -, hqb, hpb, hf1, hf2⟩; (have hE1 := hu1.cell hE); (have HF1 := Lib.hid hf1); (have HF2 := Lib.hid hf2); (have HU1 := Lib.hid hu1); (have HB := Lib.hid (And.intro hqb hpb)); clear hf1 hf2 hu1 hqb hpb hE; unfold faultAt)
    | (go_at_call 16; refine (is_nest_same qb pb a _ (fault_cell HF1.out) (fault_cell HF2.out)).mono ?_; rintro e w2 ⟨rfl, rfl⟩))
  go_ret2
  exact ⟨HU1.out, .inr (.inr ⟨HR.out, qb, pb, rfl, HB.out.1, HB.out.2, HF1.out, HF2.out⟩)⟩

set_option maxHeartbeats 4000000 in
set_option maxRecDepth 100000 in
theorem ranks_long (s : Sy.Lts) (se : Value) (a : Addr) (xt : TypeId) (xl : Value) (w : World) (hr : Sy.right s = true) (h300 : 300 < s.n) (hT : Tab w) (hG : ErrT w) (hs : Ls3 w se s.es) (hE : w.cell? ⟨2, 0, none⟩ = some (.iface 354 (.pointer (some a))))
    (hL : w.cell? ⟨4, 0, none⟩ = some (.iface xt xl)) (hl : s.es.length ≤ maxLen) :
    Calls Tryz.prog 112 #[sysV s se] w (RanksDone s w (.iface 354 (.pointer (some a))) (.iface xt xl)) := by
  obtain ⟨ao, cap, rfl⟩ := ls3_shape hs
  have hA := all_yes hr hT hG hs hE hl
  obtain ⟨n, hn⟩ : ∃ n : Nat, s.n = (n : Nat) := ⟨s.n.toNat, by omega⟩
  rw [hn] at hA
  have HA := Lib.hid hA
  have HR := Lib.hid hr
  have HN := Lib.hid h300
  have hn3 : 300 < n := by omega
  unfold sysV
  rw [hn]
  clear hr hT hG hl h300 hn hs hA
  have q1 : decide ((300 : Int) < (n : Int)) = true := by simp; omega
  go_enter Tryz.func112, Tryz.ntmps112
  go_wp2_with (first
    | (go_at_call 102; refine HA.out.mono ?_; rintro r w1 ⟨av, cv, vs, rfl, hu1, hbx, ho, hrw⟩; (have cB := (four_cells hbx).1.1); clear hbx; (have hE1 := hu1.cell hE); (have hL1 := hu1.cell hL); (have HU1 := Lib.hid hu1); clear ho hrw hu1 hE hL)
    | (go_at_call 16; refine (is_nil a _).mono ?_; rintro e w2 ⟨rfl, rfl⟩)
    | (go_at_call 99; refine (faultNewE layerRounds _ _ _).mono ?_; rintro e w3 ⟨rfl, hw3⟩; (have HW3 := Lib.hid (fault_up hw3)); (have HU3 := Lib.hid (show Up w w3 by rw [hw3]; exact HU1.out.alloc _)); clear hw3))
  go_ret2
  exact ⟨HU3.out, .inr (.inl ⟨HR.out, HN.out, _, rfl, HU1.out.size, HW3.out⟩)⟩

theorem Row.ownsAt {w : World} {base g cap n size : Nat} {e : TypeId} {xs : List Value} (h : Row w g e (cap * size) xs) (hb : base ≤ g) (hn : n ≤ cap) (hc : cap ≤ maxLen) (hx : xs.length = n * size) :
    w.ownsRow base e size (.slice (some ⟨g, 0, none⟩) n cap) n xs := by
  obtain ⟨cur, hg, hs, hl, ht⟩ := h
  exact ⟨hx, .inr ⟨g, cap, cur, rfl, hb, hg, hn, hc, hs, by rw [← hx]; exact ht⟩⟩

/-- What holds at the head of the loop over the states. -/
structure RanksAt (s : Sy.Lts) (n : Nat) (wA wr : World) (O j : Nat) (vs : List Value) : Prop where
  up : Up wA wr
  row : Row wr O 35 n (vs ++ List.replicate (n - j) (.slice none 0 0))
  rows : RowsI (O + 1) wr vs (rankRows s j)

/-- What holds at the head of the loop over the other states. -/
structure RankAt (s : Sy.Lts) (n : Nat) (wA wr wq : World) (O j q : Nat) (vs : List Value) (vp : Value) : Prop where
  up : Up wA wq
  turned : Turned (fun k => k = O) wr wq
  row : Row wq O 35 n (vs ++ vp :: List.replicate (n - (j + 1)) (.slice none 0 0))
  own : wq.ownsRow wr.heap.size 3 1 vp q (ivs (rankRow s j q))

theorem RanksAt.enter {s : Sy.Lts} {n : Nat} {wA wr : World} {O j : Nat} {vs : List Value} (h : RanksAt s n wA wr O j vs) (hj : j < n) : RankAt s n wA wr wr O j 0 vs (.slice none 0 0) :=
  ⟨h.up, Turned.refl _ _, by have := h.row; rwa [show n - j = (n - (j + 1)) + 1 by omega, List.replicate_succ] at this, World.ownsRow_nil _ _ _ _⟩

theorem RankAt.leave {s : Sy.Lts} {n : Nat} {wA wr wq : World} {O j : Nat} {vs : List Value} {vp : Value} (h0 : RanksAt s n wA wr O j vs) (h : RankAt s n wA wr wq O j n vs vp) (hn : s.n.toNat = n) : RanksAt s n wA wq O (j + 1) (vs ++ [vp]) := by
  refine ⟨h.up, by rw [List.append_assoc]; exact h.row, ?_⟩
  rw [rankRows_succ, hn]
  refine h0.rows.snoc (fun g hg hl => h.turned.block g hl (by omega)) (by have := h0.row.lt; omega) ?_
  rw [rankRow_len]; exact h.own

theorem RankAt.cell {s : Sy.Lts} {n : Nat} {wA wr wq : World} {O j q : Nat} {vs : List Value} {vp : Value} (h : RankAt s n wA wr wq O j q vs vp) (hl : vs.length = j) : wq.cell? ⟨O, j, none⟩ = some vp :=
  h.row.cell (by rw [← hl]; simp)

/-- One rank more. -/
theorem RankAt.push {s : Sy.Lts} {n : Nat} {wA wr wq w2 w4 : World} {O j q : Nat} {vs : List Value} {vp v' : Value} {o : Obj} (h : RankAt s n wA wr wq O j q vs vp) (hl : vs.length = j) (hO : wA.heap.size ≤ O) (hOr : O < wr.heap.size) (hu : Up wq w2)
    (hown : w4.ownsRow wr.heap.size 3 1 v' (q + 1) (ivs (rankRow s j q) ++ [.int .i64 (Rd.rank s j q)])) (hg : (w2.alloc o).grownBy w4 vp.ownBlock) :
    RankAt s n wA wr (w4.setCell ⟨O, j, none⟩ v') O j (q + 1) vs v' := by
  have hva : ∀ k, vp.ownBlock = some k → wr.heap.size ≤ k := fun k hk => (h.own.lt k hk).1
  have hu2 : Up wq (w2.alloc o) := hu.alloc o
  have hOb : w4.heap[O]? = wq.heap[O]? := (hg.block O (Nat.lt_of_lt_of_le h.row.lt hu2.size) (fun e => by have := hva O e.symm; omega)).trans (hu2.block O h.row.lt)
  have hr4 := (h.row.keep hOb).set j v'
  have hT4 : Turned (fun k => k = O) wr w4 := (h.turned.trans (hu2.turnS (S := fun k => k = O)) (fun _ _ h => h)).grown hg (fun k hk => .inr (hva k hk))
  refine ⟨?_, hT4.setCell (.inl rfl) _, ?_, ?_⟩
  · have hu4 : Up wA w4 := (h.up.trans hu2).grown hg (fun k hk => by have := hva k hk; omega)
    exact hu4.setCell hO _
  · rw [show (vs ++ vp :: List.replicate (n - (j + 1)) (Value.slice none 0 0)).set j v' = vs ++ v' :: List.replicate (n - (j + 1)) (.slice none 0 0) by rw [← hl]; simp] at hr4
    exact hr4
  · have e : ivs (rankRow s j (q + 1)) = ivs (rankRow s j q) ++ [.int .i64 (Rd.rank s j q)] := by rw [rankRow_succ]; simp [ivs]
    rw [e]
    exact owns_keep hown (fun g hg' => Below.heap_setCell w4 ⟨O, j, none⟩ v' g (by have := (hown.lt g hg').1; simp only; omega))

set_option maxHeartbeats 8000000 in
set_option maxRecDepth 100000 in
theorem ranks_ok (s : Sy.Lts) (se : Value) (a : Addr) (xl : Value) (w : World) (hr : Sy.right s = true) (h300 : s.n ≤ 300) (hT : Tab w) (hG : ErrT w) (hs : Ls3 w se s.es) (hE : w.cell? ⟨2, 0, none⟩ = some (.iface 354 (.pointer (some a))))
    (hl : s.es.length ≤ maxLen) :
    Calls Tryz.prog 112 #[sysV s se] w (RanksDone s w (.iface 354 (.pointer (some a))) xl) := by
  obtain ⟨ao, cap, rfl⟩ := ls3_shape hs
  have hA := all_yes hr hT hG hs hE hl
  have hR := (Sy.right_iff s).1 hr
  obtain ⟨n, hn⟩ : ∃ n : Nat, s.n = (n : Nat) := ⟨s.n.toNat, by have := hR.n0; omega⟩
  rw [hn] at hA
  have HA := Lib.hid hA
  have HR := Lib.hid hr
  have HRR := Lib.hid hR
  have HN := Lib.hid h300
  have hn3 : n ≤ 300 := by omega
  have HNN : Hid (s.n.toNat = n) := Lib.hid (by rw [hn]; rfl)
  obtain ⟨i0, hi, hz0, hz1, hz2⟩ := info_parts Tryz.sliceInfoD
  obtain ⟨j0, hj, gz0, gz1, gz2⟩ := info_parts Tryz.intsInfo
  unfold sysV
  rw [hn]
  clear hr hT hG hl h300 hn hs hA hR
  have q1 : decide ((300 : Int) < (n : Int)) = false := by simp; omega
  go_enter Tryz.func112, Tryz.ntmps112
  go_upto_region 6 with (first
    | (go_at_call 102; refine HA.out.mono ?_; rintro r w1 ⟨av, cv, vs, rfl, hu1, hbx, ho, hrw⟩; (have cB := (four_cells hbx).1.1); clear hbx; (have hE1 := hu1.cell hE); (have HO := Lib.hid ho); (have HW := Lib.hid hrw); (have HU1 := Lib.hid hu1); clear ho hrw hu1 hE)
    | (go_at_call 16; refine (is_nil a _).mono ?_; rintro e w2 ⟨rfl, rfl⟩))
  go_wp2_with (at_make; refine wpList_make_full _ rfl _ _ 48 rfl w1.heap.size 35 i0 (.slice none 0 0) 1 Tryz.underlying48 hi hz0 hz1 _ _ _ _ n rfl rfl rfl rfl (by rw [hz2]; omega) (by unfold maxLen; omega) (Nat.le_refl _) ?_; intro w2 hown hgrow)
  obtain ⟨hrow, -, -, -⟩ := Row.of hown
  have e : (madeCells (Value.slice none 0 0).cells (n * 1)).toList = List.replicate n (Value.slice none 0 0) := by rw [Nat.mul_one]; exact toList_madeCells_one _ _
  rw [e, Nat.mul_one] at hrow
  have hu12 : Up w1 w2 := (Up.refl w1).grown hgrow (fun k hk => by cases hk)
  obtain ⟨O, hO⟩ : ∃ O, O = w1.heap.size := ⟨_, rfl⟩
  rw [← hO] at hrow
  have H0 : Hid (([] : List Value).length = 0 ∧ RanksAt s n w1 w2 O 0 []) := Lib.hid ⟨rfl, hu12, by simpa using hrow, RowsI.nil _ _⟩
  have hOw := HU1.out.size
  clear e hrow hgrow hu12 hown
  go_wp2_with fail
  rw [← hO]
  have HOE := Lib.hid hO
  clear hO
  go_loopw [30] (fun i wo => ∃ (j : Nat) (vs : List Value), i = .int .i64 j ∧ j ≤ n ∧ Hid (vs.length = j ∧ RanksAt s n w1 wo O j vs)) (fun i _ => n - (intOf i).toNat)
  case atStart => exact ⟨0, [], rfl, Nat.zero_le _, H0⟩
  case round =>
    obtain ⟨j, vs', rfl, hjn, HR0⟩ := hrel
    rename World => wo
    by_cases hlt : j < n
    · have cBr := HR0.out.2.up.cell cB
      have hOr := HR0.out.2.row.lt
      go_wp2_with fail
      go_loopw [35] (fun i wr => ∃ (q : Nat) (vp : Value), i = .int .i64 q ∧ q ≤ n ∧ Hid (RankAt s n w1 wo wr O j q vs' vp)) (fun i _ => n - (intOf i).toNat)
      case atStart => exact ⟨0, _, rfl, Nat.zero_le _, Lib.hid (HR0.out.2.enter hlt)⟩
      case round =>
        obtain ⟨q, vp, rfl, hqn, HQ⟩ := hrel
        by_cases hlt2 : q < n
        · obtain ⟨av2, cv2, hvp⟩ := owns_shape' HQ.out.own
          subst hvp
          have hS0 := HQ.out.cell HR0.out.1
          have hS1 := HQ.out.row.free j
          have hszq := HQ.out.turned.size
          obtain ⟨K0, hK0⟩ : ∃ K0, K0 = Rd.last s + 1 := ⟨_, rfl⟩
          have HC : Hid (∀ W, Up wr W → Calls Tryz.prog 103 #[.slice av K0 cv, .int .i64 (j : Nat), .int .i64 (q : Nat)] W fun r w' => r = .returned (.int .i64 (Rd.rank s j q)) ∧ Up W w') :=
            Lib.hid (fun W hW => by rw [hK0]; exact rank_rows HRR.out HO.out HW.out (HQ.out.up.trans hW) (by rw [HNN.out]; exact hlt) (by rw [HNN.out]; exact hlt2))
          rw [← hK0]
          clear hK0
          go_upto_region 13 with fail
          refine wp_region_ord 13 [(0, true), (1, true), (2, true), (3, true), (4, true), (5, true), (6, true), (7, true), (8, true), (9, false), (10, false), (11, false), (12, true)] (fun x => x.cell? ⟨O, j, none⟩ = some (.slice av2 q cv2)) (by kernel_rfl) (by kernel_rfl) (fun _ _ _ _ _ h => h) hS0 ?_
          iterate 9
            refine WO.still rfl rfl (fun K hK => ?_)
            apply Exists.intro
            refine ⟨?_, hK _ ?_⟩
            · intro w' hS
              have s1 : w'.cell? ⟨O, j, none⟩ = some (.slice av2 q cv2) := hS
              go_simp
              first | done | rfl | exact ⟨rfl, rfl⟩
            clear hK K
          refine WO.act rfl rfl (fun K hK => ?_)
          go_simp
          go_at_call 103
          refine (HC.out _ (Up.refl _).drew).mono ?_
          rintro r w3 ⟨rfl, hu3'⟩
          have hu3 : Up wr w3 := ((Up.refl wr).drew).trans hu3'
          clear hu3'
          refine hK _ _ (hu3.cell hS0) ?_
          clear hK K
          refine WO.act rfl rfl (fun K hK => ?_)
          go_simp
          refine hK _ _ ?_ ?_
          · exact (hu3.alloc _).cell hS0
          clear hK K
          refine WO.act rfl rfl (fun K hK => ?_)
          refine wp_append_own (.tmp 43) (.tmp 48) 35 rfl wo.heap.size 3 j0 (.int .i64 0) 1 8 Tryz.underlying35 hj gz0 gz1 gz2 rfl (by decide) (.slice av2 q cv2) q _ rfl (Up.owns (w := wr) (hu3.alloc _) HQ.out.own) _ 1 1 [.int .i64 (Rd.rank s j q)] rfl rfl (cell_one_new _ _ _) (fun u hu => by simp only [List.mem_singleton] at hu; subst hu; rfl) (by unfold maxLen; omega) (by omega) (by have := hu3.size; simp only [World.size_alloc]; omega) ?_
          intro v' w4 hown4 hgrow4 hat4
          obtain ⟨a4, c4, hv4⟩ := owns_shape' hown4
          subst hv4
          have hg4 : (w3.alloc (.cells #[.int .i64 (Rd.rank s j q)] 3)).grownBy w4 (Value.slice av2 q cv2).ownBlock := ⟨hgrow4.os, hgrow4.tape, hgrow4.output, hgrow4.size, hgrow4.block⟩
          have hne : (Value.slice av2 q cv2).ownBlock ≠ some O := fun e => by have := (HQ.out.own.lt O e).1; omega
          have hS4 := grown_cell hg4 ((hu3.alloc (.cells #[.int .i64 (Rd.rank s j q)] 3)).cell hS0) hne
          have hb4 : w4.heap[O]? = wr.heap[O]? := (hg4.block O (Nat.lt_of_lt_of_le HQ.out.row.lt ((hu3.alloc _).size)) (fun e => hne e.symm)).trans ((hu3.alloc _).block O HQ.out.row.lt)
          have hf4 : w4.frozen? ⟨O, j, none⟩ = false := (HQ.out.row.keep hb4).free j
          have HP := Lib.hid (HQ.out.push HR0.out.1 (Nat.le_of_eq HOE.out.symm) hOr hu3 hown4 hg4)
          refine hK _ _ hS4 ?_
          clear hK K hown4 hgrow4 hat4 hg4 hne hb4
          refine WO.still rfl rfl (fun K hK => ?_)
          apply Exists.intro
          refine ⟨?_, hK _ ?_⟩
          · intro w' hS
            go_simp
            first | done | rfl | exact ⟨rfl, rfl⟩
          clear hK K
          refine WO.last rfl rfl (fun K hK => ?_)
          go_simp
          refine hK _ _ ?_
          clear hK K
          go_wp2_with fail
          go_roundw
          case rel => exact ⟨q + 1, _, by go_num, by omega, HP⟩
          case measure => simp [intOf]; omega
        · obtain rfl : q = n := by omega
          go_wp2_with fail
          go_roundw
          case rel => exact ⟨j + 1, vs' ++ [vp], by go_num, by omega, Lib.hid ⟨by rw [List.length_append, HR0.out.1]; rfl, RankAt.leave HR0.out.2 HQ.out HNN.out⟩⟩
          case measure => simp [intOf]; omega
    · obtain rfl : j = n := by omega
      go_wp2_with fail
      go_ret2
      have hrw := HR0.out.2.row
      rw [Nat.sub_self, List.replicate_zero, List.append_nil] at hrw
      have hOx := HOE.out
      refine ⟨HU1.out.trans HR0.out.2.up, .inl ⟨HR.out, HN.out, _, vs', rfl, ?_, ?_⟩⟩
      · rw [HNN.out]
        exact Row.ownsAt (by rw [Nat.mul_one]; exact hrw) (by omega) (Nat.le_refl _) (by unfold maxLen; omega) (by rw [HR0.out.1, Nat.mul_one])
      · have h := HR0.out.2.rows.base (show w.heap.size ≤ O + 1 by omega)
        unfold ranks
        rw [HNN.out]; exact h

end Go.Proofs.YtkcdkfkgjjpaaaaGreatDoor
