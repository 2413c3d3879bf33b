/- Walks: fault.New, system.offends, system.Check. Walks: cmp.Compare and cmp.Or at integers, system.order, the order of the edges turned round. -/
import Derived.Test.YtkcdkfkgjjpaaaaGreatDoorSyMem
import Derived.WalkLawsBesides
import Derived.StillTailTactics
import Derived.Shelf.SlSortCmp.InsertionK

namespace Go.Proofs.YtkcdkfkgjjpaaaaGreatDoor
open Go.RowKit
set_option linter.unusedVariables false
set_option linter.unusedSimpArgs false

theorem lt_of_block' {w : World} {k : Nat} {o : Obj} (h : w.heap[k]? = some o) : k < w.heap.size := (Array.getElem?_eq_some_iff.1 h).1

/-- An error of a layer stands in memory. -/
def FaultE (w : World) (pb : Nat) (layer : ByteArray) (v : Value) : Prop := w.heap[pb]? = some (.cells #[.string layer, .int .i64 0, .int .i64 0, v] 116 (0, 0))

theorem FaultE.up {w w1 : World} {pb : Nat} {l : ByteArray} {v : Value} (h : FaultE w pb l v) (hu : Up w w1) : FaultE w1 pb l v := (hu.block pb (lt_of_block' h)).trans h

/-- The value of an error that lies at a block. -/
def faultAt (pb : Nat) : Value := .iface 103 (.pointer (some ⟨pb, 0, none⟩))

set_option maxHeartbeats 400000 in
theorem faultNewE (l : ByteArray) (xt : TypeId) (xv : Value) (w : World) :
    Calls Tryz.prog 99 #[.string l, .iface xt xv] w fun e w' => e = .returned (.iface 103 (.pointer (some ⟨w.heap.size, 0, none⟩))) ∧ w' = w.alloc (.cells #[.string l, .int .i64 0, .int .i64 0, .iface xt xv] 116) := by
  go_enter Tryz.func99, Tryz.ntmps99
  go_wp2_with fail
  go_ret
  exact ⟨rfl, rfl⟩

theorem ret_bool {a b : Bool} (h : a = b) : Ending.returned (.bool a) = .returned (.bool b) := by rw [h]
theorem ret_int {a b : Int} (h : a = b) : Ending.returned (.int .i64 a) = .returned (.int .i64 b) := by rw [h]

/-- A system as a value. -/
def sysV (s : Sy.Lts) (se : Value) : Value := .agg #[.int .i64 s.n, .int .i64 s.m, .int .i64 s.start, se]

set_option maxHeartbeats 1000000 in
theorem offends_any (n m st : Int) (se : Value) (a b c : Int) (hs : ∃ ao k cap, se = .slice ao k cap) (w : World) :
    Calls Tryz.prog 100 #[.agg #[.int .i64 n, .int .i64 m, .int .i64 st, se], .agg #[.int .i64 a, .int .i64 b, .int .i64 c]] w fun r w' =>
      r = .returned (.bool (!decide (0 ≤ a ∧ 0 ≤ c ∧ 0 ≤ b ∧ a < n ∧ c < n ∧ b < m))) ∧ Up w w' := by
  obtain ⟨ao, k, cap, rfl⟩ := hs
  go_enter Tryz.func100, Tryz.ntmps100
  go_wp2_with fail
  all_goals (go_ret; exact ⟨ret_bool (by simp <;> omega), ((Up.refl w).alloc _).alloc _⟩)

/-- The layer's name, as the program has it. -/
def layerSystem : ByteArray := { data := #[115, 121, 115, 116, 101, 109] }

/-- What Check leaves. -/
def Checked' (s : Sy.Lts) (w : World) (x : Value) (r : Ending) (w' : World) : Prop :=
  Up w w' ∧ ((Sy.right s = true ∧ r = .returned .nilIface) ∨ (Sy.right s = false ∧ r = .returned (faultAt (w.heap.size + 1)) ∧ FaultE w' (w.heap.size + 1) layerSystem x))

theorem wrong_num {s : Sy.Lts} (h : s.n < 0 ∨ 1000 < s.n ∨ s.m < 1 ∨ 201 < s.m ∨ s.start < 0 ∨ 0 < s.start ∧ s.n ≤ s.start ∨ 10000 < s.es.length) : Sy.right s = false := by
  cases hr : Sy.right s with
  | false => rfl
  | true => have := (Sy.right_iff s).1 hr; obtain ⟨h1, h2, h3, h4, h5, h6, h7, _⟩ := this; omega

theorem wrong_edge {s : Sy.Lts} {i : Nat} (hi : i < s.es.length) (h : Sy.okEdge s (s.es.getD i (0, 0, 0)) = false) : Sy.right s = false := by
  cases hr : Sy.right s with
  | false => rfl
  | true =>
    have hm : s.es.getD i (0, 0, 0) ∈ s.es := by rw [← getD_of _ hi]; exact List.getElem_mem hi
    have := ((Sy.right_iff s).1 hr).ok _ hm
    unfold Sy.okEdge at h
    simp only [decide_eq_false_iff_not] at h
    exact absurd this h

theorem right_all {s : Sy.Lts} (h1 : 0 ≤ s.n ∧ s.n ≤ 1000 ∧ 1 ≤ s.m ∧ s.m ≤ 201 ∧ 0 ≤ s.start ∧ (0 < s.start → s.start < s.n) ∧ s.es.length ≤ 10000) (h : ∀ i, i < s.es.length → Sy.okEdge s (s.es.getD i (0, 0, 0)) = true) : Sy.right s = true := by
  unfold Sy.right
  rw [Bool.and_eq_true, decide_eq_true_eq, List.all_eq_true]
  refine ⟨h1, fun e he => ?_⟩
  obtain ⟨i, hi, rfl⟩ := List.mem_iff_getElem.1 he
  rw [getD_of (0, 0, 0) hi]
  exact h i hi

theorem fault_new (w : World) (A : Obj) (l : ByteArray) (v : Value) : FaultE ((w.alloc A).alloc (.cells #[.string l, .int .i64 0, .int .i64 0, v] 116)) (w.heap.size + 1) l v := by
  have := heap_alloc_new (w.alloc A) (.cells #[.string l, .int .i64 0, .int .i64 0, v] 116)
  rwa [World.size_alloc] at this

set_option maxHeartbeats 2000000 in
set_option maxRecDepth 100000 in
theorem check_any (s : Sy.Lts) (se : Value) (xt : TypeId) (xv : Value) (w : World) (hs : Ls3 w se s.es) (hE : w.cell? ⟨2, 0, none⟩ = some (.iface xt xv)) (hl : s.es.length ≤ maxLen) :
    Calls Tryz.prog 27 #[sysV s se] w (Checked' s w (.iface xt xv)) := by
  obtain ⟨ao, cap, g, off, rfl, ha, hc⟩ := hs
  obtain ⟨n, m, st, es⟩ := s
  simp only at ha hc hl ⊢
  unfold sysV
  simp only
  obtain ⟨k, hk⟩ : ∃ k, k = es.length := ⟨_, rfl⟩
  rw [← hk] at ha hl ⊢
  have HA := Lib.hid ha
  have HC := Lib.hid hc
  have HK := Lib.hid hk
  unfold maxLen at hl
  have hE1 : ∀ o, (w.alloc o).cell? ⟨2, 0, none⟩ = some (.iface xt xv) := fun o => ((Up.refl w).alloc o).cell hE
  clear ha hc hk hE
  by_cases hbad : n < 0 ∨ 1000 < n ∨ m < 1 ∨ 201 < m ∨ st < 0 ∨ 0 < st ∧ n ≤ st ∨ 10000 < k
  · have HW : Hid (Sy.right ⟨n, m, st, es⟩ = false) := Lib.hid (wrong_num (by simp only; rw [← HK.out]; exact hbad))
    go_enter Tryz.func27, Tryz.ntmps27
    go_wp2_with (go_at_call 99; (with_reducible refine (faultNewE _ _ _ _).mono ?_); rintro e w2 ⟨rfl, rfl⟩)
    all_goals first
      | (exfalso; omega)
      | (go_ret; exact ⟨((Up.refl w).alloc _).alloc _, .inr ⟨HW.out, by simp [faultAt], fault_new w _ _ _⟩⟩)
  · have hn1 : 0 ≤ n := by omega
    have hn2 : n ≤ 1000 := by omega
    have hm1 : 1 ≤ m := by omega
    have hm2 : m ≤ 201 := by omega
    have hs1 : 0 ≤ st := by omega
    have hs2 : 0 < st → st < n := by omega
    have hk2 : k ≤ 10000 := by omega
    clear hbad
    have q1 : decide (n < 0) = false := by simp; omega
    have q2 : decide (1000 < n) = false := by simp; omega
    have q3 : decide (m < 1) = false := by simp; omega
    have q4 : decide (201 < m) = false := by simp; omega
    have q5 : decide (st < 0) = false := by simp; omega
    have key : st = 0 ∨ 0 < st := by omega
    have HS2 := Lib.hid hs2
    clear hs2
    obtain ⟨A, hA⟩ : ∃ A, A = Obj.cells #[.int .i64 n, .int .i64 m, .int .i64 st, .slice ao k cap] 27 := ⟨_, rfl⟩
    obtain ⟨w3, hw3⟩ : ∃ w3, w3 = (w.alloc A).alloc (.cells #[.string layerSystem, .int .i64 0, .int .i64 0, .iface xt xv] 116) := ⟨_, rfl⟩
    have hu3 : Up w w3 := by rw [hw3]; exact ((Up.refl w).alloc _).alloc _
    have hf3 : FaultE w3 (w.heap.size + 1) layerSystem (.iface xt xv) := by rw [hw3]; exact fault_new w _ _ _
    have hb3 : w3.heap[w.heap.size]? = some A := by rw [hw3]; exact ((Up.refl (w.alloc A)).alloc _).block _ (by simp) |>.trans (heap_alloc_new w A)
    have HU3 := Lib.hid hu3
    have HF3 := Lib.hid hf3
    have HB3 := Lib.hid hb3
    have HW3 := Lib.hid hw3
    have HAA := Lib.hid hA
    clear hu3 hf3 hb3 hw3 hA
    rcases key with rfl | h0
    all_goals try have hs3 := HS2.out h0
    all_goals
      go_enter Tryz.func27, Tryz.ntmps27
      go_wp2_with (go_at_call 99; (with_reducible refine (faultNewE _ _ _ _).mono ?_); rintro e w2 ⟨rfl, rfl⟩)
      go_loopw [54] (fun i wr => ∃ j : Nat, j ≤ k ∧ i = .int .i64 j ∧ Up w3 wr ∧ Hid (∀ i, i < j → Sy.okEdge ⟨n, m, 0, []⟩ (es.getD i (0, 0, 0)) = true)) (fun i _ => k - (intOf i).toNat)
      case atStart => exact ⟨0, Nat.zero_le _, rfl, by rw [HW3.out, HAA.out]; exact Up.refl _, fun i hi => by omega⟩
      case round =>
        obtain ⟨j, hj, rfl, hU, HE⟩ := hrel
        by_cases hlt : j < k
        · obtain rfl := HA.out (by omega)
          have hj' : j < es.length := by rw [← HK.out]; exact hlt
          have hcc := HC.out j hj'
          obtain ⟨x, hx⟩ : ∃ x, x = es.getD j (0, 0, 0) := ⟨_, rfl⟩
          rw [← hx] at hcc
          obtain ⟨x1, x2, x3⟩ := x
          have HX := Lib.hid hx
          clear hx
          obtain ⟨hc0, hc1, hc2⟩ := hcc
          simp only at hc0 hc1 hc2
          have hb := HAA.out ▸ (hU.block _ (lt_of_block' HB3.out)).trans HB3.out
          have d0 := (HU3.out.trans hU).cell hc0
          have d1 := (HU3.out.trans hU).cell hc1
          have d2 := (HU3.out.trans hU).cell hc2
          have bb : ∀ i v, (#[Value.int .i64 n, .int .i64 m, .int .i64 _, .slice (some ⟨g, off, none⟩) k cap] : Array Value)[i]? = some v → ∀ o, (wr.alloc o).cell? ⟨w.heap.size, i, none⟩ = some v := fun i v hv o => ((Up.refl wr).alloc o).cell (by simp only [World.cell?, hb]; exact hv)
          have b0 := bb 0 _ rfl
          have b1 := bb 1 _ rfl
          have b2 := bb 2 _ rfl
          have b3 := bb 3 _ rfl
          clear bb
          clear hc0 hc1 hc2 hb
          have HEJ : Hid (es.getD j (0, 0, 0) = (x1, x2, x3)) := HX.out.symm
          by_cases hok : 0 ≤ x1 ∧ 0 ≤ x3 ∧ 0 ≤ x2 ∧ x1 < n ∧ x3 < n ∧ x2 < m
          · have HOF := fun (st' : Int) se (hs : ∃ ao k cap, se = Value.slice ao k cap) W => Lib.hid (offends_any n m st' se x1 x2 x3 hs W)
            rw [show (!decide (0 ≤ x1 ∧ 0 ≤ x3 ∧ 0 ≤ x2 ∧ x1 < n ∧ x3 < n ∧ x2 < m)) = false by simp [hok]] at HOF
            go_wp2_with (go_at_call 100; (with_reducible refine (HOF _ _ ⟨_, _, _, rfl⟩ _).out.mono ?_); rintro e w5 ⟨rfl, hu5⟩)
            go_roundw
            case rel => exact ⟨j + 1, by omega, by go_num, (hU.alloc _).trans hu5, fun i hi => by
              by_cases hij : i = j
              · subst hij; rw [HEJ.out]; unfold Sy.okEdge; simpa using hok
              · exact HE.out i (by omega)⟩
            case measure => simp [intOf]; omega
          · have HOF := fun (st' : Int) se (hs : ∃ ao k cap, se = Value.slice ao k cap) W => Lib.hid (offends_any n m st' se x1 x2 x3 hs W)
            rw [show (!decide (0 ≤ x1 ∧ 0 ≤ x3 ∧ 0 ≤ x2 ∧ x1 < n ∧ x3 < n ∧ x2 < m)) = true by simp only [hok, decide_false, Bool.not_false]] at HOF
            have HBAD : Hid (∀ st', Sy.right ⟨n, m, st', es⟩ = false) := Lib.hid (fun st' => wrong_edge (i := j) hj' (by rw [HEJ.out]; unfold Sy.okEdge; simp only [hok, decide_false]))
            clear hok
            go_wp2_with (go_at_call 100; (with_reducible refine (HOF _ _ ⟨_, _, _, rfl⟩ _).out.mono ?_); rintro e w5 ⟨rfl, hu5⟩)
            go_ret
            exact ⟨HU3.out.trans ((hU.alloc _).trans hu5), .inr ⟨HBAD.out _, by simp [faultAt], HF3.out.up ((hU.alloc _).trans hu5)⟩⟩
        · obtain rfl : j = k := by omega
          have HR := Lib.hid (right_all (s := ⟨n, m, _, es⟩) ⟨hn1, hn2, hm1, hm2, hs1, HS2.out, by simp only; rw [← HK.out]; exact hk2⟩ (fun i hi => HE.out i (by rw [HK.out]; exact hi)))
          go_wp2_with fail
          go_ret
          exact ⟨HU3.out.trans hU, .inl ⟨HR.out, rfl⟩⟩

end Go.Proofs.YtkcdkfkgjjpaaaaGreatDoor

namespace Go.Proofs.YtkcdkfkgjjpaaaaGreatDoor
open Go.RowKit Go.Sort
set_option linter.unusedVariables false
set_option linter.unusedSimpArgs false

/-- How two integers stand to each other. -/
def cmpI (x y : Int) : Int := if x < y then -1 else if y < x then 1 else 0

theorem nan_no (x : Int) (w : World) : Calls Tryz.prog 108 #[.int .i64 x] w fun e w' => e = .returned (.bool false) ∧ w = w' := by
  have q : (x != x) = false := by simp
  go_enter Tryz.func108, Tryz.ntmps108
  go_wp2_with fail
  go_ret
  exact ⟨rfl, rfl⟩

theorem cmp_any (x y : Int) (w : World) : Calls Tryz.prog 40 #[.int .i64 x, .int .i64 y] w fun e w' => e = .returned (.int .i64 (cmpI x y)) ∧ w' = w := by
  have HN := fun z W => Lib.hid (nan_no z W)
  go_enter Tryz.func40, Tryz.ntmps40
  go_wp2_with (go_at_call 108; (with_reducible refine (HN _ _).out.mono ?_); rintro e w' ⟨rfl, rfl⟩)
  all_goals (go_ret; exact ⟨ret_int (by unfold cmpI; split <;> (try split) <;> first | rfl | omega), rfl⟩)

/-- The first of three that is not 0. -/
def or3 (a b c : Int) : Int := if a ≠ 0 then a else if b ≠ 0 then b else c

set_option maxHeartbeats 1000000 in
theorem or_any (a b c : Int) (g cap : Nat) (w : World) (h0 : w.cell? ⟨g, 0, none⟩ = some (.int .i64 a)) (h1 : w.cell? ⟨g, 1, none⟩ = some (.int .i64 b)) (h2 : w.cell? ⟨g, 2, none⟩ = some (.int .i64 c)) :
    Calls Tryz.prog 39 #[.slice (some ⟨g, 0, none⟩) 3 cap] w fun e w' => e = .returned (.int .i64 (or3 a b c)) ∧ w' = w := by
  by_cases ha : a = 0
  · by_cases hb : b = 0
    · subst ha hb
      by_cases hc : c = 0
      · subst hc
        go_enter Tryz.func39, Tryz.ntmps39
        go_wp2_with fail
        refine wp_loop_rounds 4 ?_
        iterate 4 (rw [rounds_succ]; go_wp2)
        go_ret
        exact ⟨rfl, rfl⟩
      · have qc : (c != 0) = true := by simpa using hc
        go_enter Tryz.func39, Tryz.ntmps39
        go_wp2_with fail
        refine wp_loop_rounds 3 ?_
        iterate 3 (rw [rounds_succ]; go_wp2)
        go_ret
        exact ⟨ret_int (by simp [or3]), rfl⟩
    · subst ha
      have qb : (b != 0) = true := by simpa using hb
      go_enter Tryz.func39, Tryz.ntmps39
      go_wp2_with fail
      refine wp_loop_rounds 2 ?_
      iterate 2 (rw [rounds_succ]; go_wp2)
      go_ret
      exact ⟨ret_int (by simp [or3, hb]), rfl⟩
  · have qa : (a != 0) = true := by simpa using ha
    go_enter Tryz.func39, Tryz.ntmps39
    go_wp2_with fail
    refine wp_loop_rounds 1 ?_
    iterate 1 (rw [rounds_succ]; go_wp2)
    go_ret
    exact ⟨ret_int (by simp [or3, ha]), rfl⟩

def cf3 (x y : Sy.Edge) : Int := or3 (cmpI x.1 y.1) (cmpI x.2.1 y.2.1) (cmpI x.2.2 y.2.2)
def cf3r (x y : Sy.Edge) : Int := or3 (cmpI x.2.2 y.2.2) (cmpI x.2.1 y.2.1) (cmpI x.1 y.1)

theorem lt_cf3 : ltOf cf3 = Sy.lt3 := by
  funext x y
  unfold ltOf Sy.lt3
  congr 1
  unfold cf3 or3 cmpI
  apply propext
  repeat' split
  all_goals omega
theorem lt_cf3r : ltOf cf3r = Sy.lt3r := by
  funext x y
  unfold ltOf Sy.lt3r
  congr 1
  unfold cf3r or3 cmpI
  apply propext
  repeat' split
  all_goals omega

theorem grow3 (w : World) (A B C : Obj) : ∃ q os, (((w.alloc A).alloc B).drew).alloc C = grow (w.drewN q) os :=
  ⟨1, #[A, B, C], by simp only [alloc_eq_grow]; show grow (grow (grow (w.drewN 1) #[A]) #[B]) #[C] = _; rw [grow_grow, grow_grow]; rfl⟩

set_option maxHeartbeats 2000000 in
set_option maxRecDepth 100000 in
theorem order_any (x y : Sy.Edge) (w : World) : Calls Tryz.prog 161 #[.agg #[.int .i64 x.1, .int .i64 x.2.1, .int .i64 x.2.2], .agg #[.int .i64 y.1, .int .i64 y.2.1, .int .i64 y.2.2]] w fun e w' =>
    e = .returned (.int .i64 (cf3 x y)) ∧ ∃ q os, w' = grow (w.drewN q) os := by
  obtain ⟨x1, x2, x3⟩ := x
  obtain ⟨y1, y2, y3⟩ := y
  unfold cf3
  simp only
  go_enter Tryz.func161, Tryz.ntmps161
  go_wp2_with fail
  refine wp_region_still_tail 15 (by kernel_rfl) (by kernel_rfl) ?_
  simp only [List.take_succ_cons, List.take_zero, List.drop_succ_cons, List.drop_zero]
  change wpStill _ _ (World.drew _) _ _ _
  repeat first | still_step | still_call (cmp_any _ _ _)
  refine wpStill_nil ?_
  change wpList _ _ _ _ _ (World.drew _)
  generalize h1 : cmpI x1 y1 = c1
  replace h1 := Lib.hid h1
  generalize h2 : cmpI x2 y2 = c2
  replace h2 := Lib.hid h2
  generalize h3 : cmpI x3 y3 = c3
  replace h3 := Lib.hid h3
  go_wp2_with (go_at_call 39; (with_reducible refine (or_any c1 c2 c3 _ _ _ (by go_simp) (by go_simp) (by go_simp)).mono ?_); rintro e w4 ⟨rfl, rfl⟩)
  go_ret
  exact ⟨by rw [h1.out, h2.out, h3.out]; rfl, grow3 w _ _ _⟩

set_option maxHeartbeats 2000000 in
set_option maxRecDepth 100000 in
theorem turn_any (x y : Sy.Edge) (w : World) : Calls Tryz.prog 38 #[.agg #[.int .i64 x.1, .int .i64 x.2.1, .int .i64 x.2.2], .agg #[.int .i64 y.1, .int .i64 y.2.1, .int .i64 y.2.2]] w fun e w' =>
    e = .returned (.int .i64 (cf3r x y)) ∧ ∃ q os, w' = grow (w.drewN q) os := by
  obtain ⟨x1, x2, x3⟩ := x
  obtain ⟨y1, y2, y3⟩ := y
  unfold cf3r
  simp only
  go_enter Tryz.func38, Tryz.ntmps38
  go_wp2_with fail
  refine wp_region_still_tail 15 (by kernel_rfl) (by kernel_rfl) ?_
  simp only [List.take_succ_cons, List.take_zero, List.drop_succ_cons, List.drop_zero]
  change wpStill _ _ (World.drew _) _ _ _
  repeat first | still_step | still_call (cmp_any _ _ _)
  refine wpStill_nil ?_
  change wpList _ _ _ _ _ (World.drew _)
  generalize h1 : cmpI x1 y1 = c1
  replace h1 := Lib.hid h1
  generalize h2 : cmpI x2 y2 = c2
  replace h2 := Lib.hid h2
  generalize h3 : cmpI x3 y3 = c3
  replace h3 := Lib.hid h3
  go_wp2_with (go_at_call 39; (with_reducible refine (or_any c3 c2 c1 _ _ _ (by go_simp) (by go_simp) (by go_simp)).mono ?_); rintro e w4 ⟨rfl, rfl⟩)
  go_ret
  exact ⟨by rw [h1.out, h2.out, h3.out]; rfl, grow3 w _ _ _⟩

end Go.Proofs.YtkcdkfkgjjpaaaaGreatDoor
