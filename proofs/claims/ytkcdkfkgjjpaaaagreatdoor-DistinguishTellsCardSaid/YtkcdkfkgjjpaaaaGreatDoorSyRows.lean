/- Walks: the closures of system.New, system.newRows. -/
import Derived.Test.YtkcdkfkgjjpaaaaGreatDoorSySort
import Derived.Test.YtkcdkfkgjjpaaaaGreatDoorQOrd
import Derived.Deep.Cut
import Derived.Shelf.Abstract
namespace Go.Proofs.YtkcdkfkgjjpaaaaGreatDoor
open Go.RowKit Go.Sort
set_option linter.unusedVariables false
set_option linter.unusedSimpArgs false

theorem key1_any (a b c : Int) (w : World) : Calls Tryz.prog 34 #[.agg #[.int .i64 a, .int .i64 b, .int .i64 c]] w fun r w' => r = .returned (.int .i64 a) ∧ w' = w.alloc (.cells #[.int .i64 a, .int .i64 b, .int .i64 c] 67) := by
  go_enter Tryz.func34, Tryz.ntmps34
  go_wp2_with fail
  go_ret
  exact ⟨rfl, rfl⟩

theorem key4_any (a b c : Int) (w : World) : Calls Tryz.prog 41 #[.agg #[.int .i64 a, .int .i64 b, .int .i64 c]] w fun r w' => r = .returned (.int .i64 c) ∧ w' = w.alloc (.cells #[.int .i64 a, .int .i64 b, .int .i64 c] 67) := by
  go_enter Tryz.func41, Tryz.ntmps41
  go_wp2_with fail
  go_ret
  exact ⟨rfl, rfl⟩

theorem step2_any (a b c : Int) (w : World) : Calls Tryz.prog 35 #[.agg #[.int .i64 a, .int .i64 b, .int .i64 c]] w fun r w' => r = .returned (.agg #[.int .i64 b, .int .i64 c]) ∧
    w' = (w.alloc (.cells #[.int .i64 a, .int .i64 b, .int .i64 c] 67)).alloc (.cells #[.int .i64 b, .int .i64 c] 92) := by
  go_enter Tryz.func35, Tryz.ntmps35
  go_wp2_with fail
  refine bodyPost_ret (v := .agg #[.int .i64 b, .int .i64 c]) (by simp [results, Tryz.results35, go_sem]) rfl ⟨rfl, rfl⟩

theorem step5_any (a b c : Int) (w : World) : Calls Tryz.prog 42 #[.agg #[.int .i64 a, .int .i64 b, .int .i64 c]] w fun r w' => r = .returned (.agg #[.int .i64 b, .int .i64 a]) ∧
    w' = (w.alloc (.cells #[.int .i64 a, .int .i64 b, .int .i64 c] 67)).alloc (.cells #[.int .i64 b, .int .i64 a] 92) := by
  go_enter Tryz.func42, Tryz.ntmps42
  go_wp2_with fail
  refine bodyPost_ret (v := .agg #[.int .i64 b, .int .i64 a]) (by simp [results, Tryz.results42, go_sem]) rfl ⟨rfl, rfl⟩

theorem cells_new2 (w : World) (a b : Value) (e : TypeId) : ∀ j u, [a, b][j]? = some u → (w.alloc (.cells #[a, b] e)).cell? ((⟨w.heap.size, 0, none⟩ : Addr).add j) = some u := by
  intro j u hj
  match j, hj with
  | 0, hj => simp at hj; subst hj; simp [Addr.add]
  | 1, hj => simp at hj; subst hj; simp [Addr.add]

/-- How many elements of a list have a key one below i (none at 0). -/
def cnt (key : Sy.Edge → Nat) (l : List Sy.Edge) (i : Nat) : Nat := if i = 0 then 0 else l.countP fun e => key e == i - 1

/-- Rows under way. -/
structure RowsAt (w wr : World) (rb n : Nat) (va : Value) (m : Nat) (xs : List Value) (cs : List Nat) : Prop where
  up : Up w wr
  res : wr.heap[w.heap.size]? = some (.cells #[.slice none 0 0, .slice none 0 0] 86 (0, 0))
  row : Row wr (w.heap.size + 1) 3 (n + 1) (ints cs)
  box : wr.heap[rb]? = some (.cells #[va, .slice (some ⟨w.heap.size + 1, 0, none⟩) (n + 1) (n + 1)] 86 (0, 0))
  own : wr.ownsRow (rb + 1) 92 2 va m xs
  rb2 : w.heap.size + 1 < rb

theorem RowsAt.big {w wr : World} {rb n m : Nat} {va : Value} {xs : List Value} {cs : List Nat} (h : RowsAt w wr rb n va m xs cs) : rb < wr.heap.size := lt_of_block' h.box

theorem RowsAt.mono {w wr wq : World} {rb n m : Nat} {va : Value} {xs : List Value} {cs : List Nat} (h : RowsAt w wr rb n va m xs cs) (hu : Up wr wq) : RowsAt w wq rb n va m xs cs :=
  ⟨h.up.trans hu, (hu.block _ (lt_of_block' h.res)).trans h.res, hu.row h.row, (hu.block _ (lt_of_block' h.box)).trans h.box, hu.owns h.own, h.rb2⟩

/-- One more of a key. -/
theorem RowsAt.count {w wr : World} {rb n m : Nat} {va : Value} {xs : List Value} {cs : List Nat} (h : RowsAt w wr rb n va m xs cs) (i v : Nat) : RowsAt w (wr.setCell ⟨w.heap.size + 1, i, none⟩ (.int .i64 (v : Nat))) rb n va m xs (cs.set i v) := by
  have hset : ∀ k, k ≠ w.heap.size + 1 → (wr.setCell ⟨w.heap.size + 1, i, none⟩ (.int .i64 (v : Nat))).heap[k]? = wr.heap[k]? := fun k hk => Below.heap_setCell wr ⟨w.heap.size + 1, i, none⟩ _ k hk
  have h2 := h.rb2
  refine ⟨h.up.setCell (by simp) _, (hset _ (by omega)).trans h.res, ?_, (hset _ (by omega)).trans h.box, ?_, h2⟩
  · rw [ints_set]; exact h.row.set i _
  · exact owns_keep h.own (fun g hg => hset g (by have := (h.own.lt g hg).1; omega))

/-- One more element. -/
theorem RowsAt.push {w wr wq : World} {rb n m : Nat} {va v' : Value} {xs ys : List Value} {cs : List Nat} (h : RowsAt w wr rb n va m xs cs) (hown : wq.ownsRow (rb + 1) 92 2 v' (m + 1) ys) (hg : wr.grownBy wq va.ownBlock) :
    RowsAt w (wq.setCell ⟨rb, 0, none⟩ v') rb n v' (m + 1) ys cs := by
  have hset : ∀ k, k ≠ rb → (wq.setCell ⟨rb, 0, none⟩ v').heap[k]? = wq.heap[k]? := fun k hk => Below.heap_setCell wq ⟨rb, 0, none⟩ _ k hk
  have h2 := h.rb2
  have hbig := h.big
  have hva : ∀ k, va.ownBlock = some k → rb + 1 ≤ k := fun k hk => (h.own.lt k hk).1
  have hb : ∀ k, k < rb + 1 → wq.heap[k]? = wr.heap[k]? := fun k hk => hg.block k (by omega) (fun e => by have := hva k e.symm; omega)
  refine ⟨(h.up.grown hg (fun k hk => by have := hva k hk; omega)).setCell (by simp; omega) _, (hset _ (by omega)).trans ((hb _ (by omega)).trans h.res), ?_, ?_, ?_, h2⟩
  · exact h.row.keep ((hset _ (by omega)).trans (hb _ (by omega)))
  · have := (hb rb (by omega)).trans h.box
    simp [World.setCell, Array.getElem?_modify, this]
  · exact owns_keep hown (fun g hg' => hset g (by have := (hown.lt g hg').1; omega))

theorem RowsAt.start {w w1 : World} {n : Nat} {cs : Array Value} (hown : w1.ownsRow 0 3 1 (.slice (some ⟨w.heap.size + 1, 0, none⟩) (n + 1) (n + 1)) (n + 1) cs.toList) (hcs : cs.toList = ints (List.replicate (n + 1) 0))
    (hg : (w.alloc (.cells #[.slice none 0 0, .slice none 0 0] 86)).grownBy w1 none) :
    RowsAt w (w1.alloc (.cells #[.slice none 0 0, .slice (some ⟨w.heap.size + 1, 0, none⟩) (n + 1) (n + 1)] 86)) w1.heap.size n (.slice none 0 0) 0 [] (List.replicate (n + 1) 0) := by
  have hu : Up w w1 := ((Up.refl w).alloc _).grown hg (by simp)
  obtain ⟨hrow, -, -, -⟩ := Row.of hown
  rw [hcs, Nat.mul_one] at hrow
  refine ⟨hu.alloc _, ?_, hrow.alloc _, heap_alloc_new w1 _, World.ownsRow_nil _ _ _ _, hrow.lt⟩
  have h1 := heap_alloc_new w (.cells #[.slice none 0 0, .slice none 0 0] 86)
  have h2 := (hg.block w.heap.size (by simp) (by simp)).trans h1
  exact (Below.heap_alloc w1 _ _ (lt_of_block' h2)).trans h2

theorem Tryz.intInfoR : (Tryz.prog.info? 3).map (fun i => (i.zero, i.size, i.bytes)) = some (some (.int .i64 0), 1, 8) := by kernel_rfl
theorem Tryz.stepInfoR : (Tryz.prog.info? 92).map (fun i => (i.zero, i.size, i.bytes)) = some (some (.agg #[.int .i64 0, .int .i64 0]), 2, 16) := by kernel_rfl

/-- What newRows leaves. -/
def RowsDone (w : World) (n : Nat) (xs : List (Int × Int)) (cs : List Nat) (r : Ending) (w' : World) : Prop :=
  ∃ va, r = .returned (.agg #[va, .slice (some ⟨w.heap.size + 1, 0, none⟩) (n + 1) (n + 1)]) ∧ Up w w' ∧ Row w' (w.heap.size + 1) 3 (n + 1) (ints cs) ∧ w'.ownsRow w.heap.size 92 2 va xs.length (cells2 xs)

theorem cnt_zero (key : Sy.Edge → Nat) (n : Nat) : (List.range (n + 1)).map (cnt key []) = List.replicate (n + 1) 0 := by
  refine List.ext_getElem (by simp) fun i h1 h2 => ?_
  simp [cnt]

theorem cnt_next (key : Sy.Edge → Nat) (l : List Sy.Edge) (j n : Nat) (hj : j < l.length) (hk : key (l.getD j (0, 0, 0)) < n) :
    ((List.range (n + 1)).map (cnt key (l.take j))).set (key (l.getD j (0, 0, 0)) + 1) (cnt key (l.take j) (key (l.getD j (0, 0, 0)) + 1) + 1) = (List.range (n + 1)).map (cnt key (l.take (j + 1))) := by
  refine List.ext_getElem (by simp) fun i h1 h2 => ?_
  rw [List.getElem_set]
  simp only [List.getElem_map, List.getElem_range]
  have e : l.take (j + 1) = l.take j ++ [l.getD j (0, 0, 0)] := by rw [List.take_succ_eq_append_getElem hj, getD_of (0, 0, 0) hj]
  unfold cnt
  rw [e, List.countP_append]
  by_cases h0 : i = 0
  · subst h0; rw [if_neg (by omega), if_pos rfl, if_pos rfl]
  · by_cases hi : key (l.getD j (0, 0, 0)) + 1 = i
    · subst hi; simp
    · rw [if_neg hi, if_neg h0, if_neg h0]
      have : ¬ key (l.getD j (0, 0, 0)) = i - 1 := by omega
      rw [List.countP_singleton, if_neg (by simpa only [beq_iff_eq] using this)]; rfl

/-- The first i numbers summed up, the others not yet. -/
def mix (key : Sy.Edge → Nat) (l : List Sy.Edge) (n i : Nat) : List Nat := (List.range (n + 1)).map fun m => if m ≤ i then Sy.below (fun e => (key e : Int)) l m else cnt key l m

theorem mix_len (key : Sy.Edge → Nat) (l : List Sy.Edge) (n i : Nat) : (mix key l n i).length = n + 1 := by simp [mix]

theorem mix_zero (key : Sy.Edge → Nat) (l : List Sy.Edge) (n : Nat) : mix key l n 0 = (List.range (n + 1)).map (cnt key l) := by
  refine List.map_congr_left fun m _ => ?_
  by_cases h : m ≤ 0
  · obtain rfl : m = 0 := by omega
    rw [if_pos h, Sy.below_zero _ _ (fun x _ => by omega)]; rfl
  · rw [if_neg h]

theorem mix_all (key : Sy.Edge → Nat) (l : List Sy.Edge) (n : Nat) : mix key l n n = (List.range (n + 1)).map fun i => Sy.below (fun e => (key e : Int)) l i := by
  refine List.map_congr_left fun m hm => ?_
  rw [if_pos (by have := List.mem_range.1 hm; omega)]

theorem mix_get (key : Sy.Edge → Nat) (l : List Sy.Edge) (n i m : Nat) (h : m < n + 1) : (mix key l n i).getD m 0 = if m ≤ i then Sy.below (fun e => (key e : Int)) l m else cnt key l m := by
  simp [mix, List.getD, h]

theorem mix_next (key : Sy.Edge → Nat) (l : List Sy.Edge) (n i : Nat) (h : i < n) : (mix key l n i).set (i + 1) ((mix key l n i).getD (i + 1) 0 + (mix key l n i).getD i 0) = mix key l n (i + 1) := by
  rw [mix_get _ _ _ _ _ (by omega), mix_get _ _ _ _ _ (by omega), if_neg (by omega), if_pos (Nat.le_refl _)]
  have hb := Sy.below_succ (fun e => (key e : Int)) l i
  have hc : cnt key l (i + 1) = l.countP fun x => decide ((key x : Int) = (i : Int)) := by
    unfold cnt; rw [if_neg (by omega)]
    refine List.countP_congr (fun x _ => ?_)
    simp
    omega
  refine List.ext_getElem (by simp [mix]) fun m h1 h2 => ?_
  rw [List.getElem_set]
  simp only [mix, List.getElem_map, List.getElem_range]
  by_cases hm : i + 1 = m
  · subst hm; rw [if_pos rfl, if_pos (Nat.le_refl _), hb, hc]; omega
  · rw [if_neg hm]
    by_cases h3 : m ≤ i
    · rw [if_pos h3, if_pos (by omega)]
    · rw [if_neg h3, if_neg (by omega)]

theorem RowsAt.next {w w7 x8 x9 : World} {rb n j z c : Nat} {va av' : Value} {ao : Option Addr} {cv : Nat} {key : Sy.Edge → Nat} {stp : Sy.Edge → Int × Int} {l : List Sy.Edge} {x : Sy.Edge} {y1 y2 : Int} {o : Obj}
    (h : RowsAt w w7 rb n va j (cells2 ((l.take j).map stp)) (((List.range (n + 1)).map (cnt key (l.take j))).set (z + 1) (c + 1))) (hj : j < l.length) (hva : va = .slice ao j cv) (hx : l.getD j (0, 0, 0) = x) (hz : key x = z) (hy : stp x = (y1, y2))
    (hc : cnt key (l.take j) (z + 1) = c) (hzn : z < n) (hu : Up w7 x8) (hown : x9.ownsRow (rb + 1) 92 2 av' (j + 1) (cells2 ((l.take j).map stp) ++ [.int .i64 y1, .int .i64 y2])) (hg : (x8.alloc o).grownBy x9 (Value.slice ao j cv).ownBlock) :
    RowsAt w (x9.setCell ⟨rb, 0, none⟩ av') rb n av' (j + 1) (cells2 ((l.take (j + 1)).map stp)) ((List.range (n + 1)).map (cnt key (l.take (j + 1)))) := by
  have e1 : cells2 ((l.take j).map stp) ++ [.int .i64 y1, .int .i64 y2] = cells2 ((l.take (j + 1)).map stp) := by
    rw [List.take_succ_eq_append_getElem hj, getD_of (0, 0, 0) hj, hx, List.map_append, List.map_cons, List.map_nil, hy, cells2_append]; rfl
  have e2 := cnt_next key l j n hj (by rw [hx, hz]; exact hzn)
  rw [hx, hz, hc] at e2
  rw [e1] at hown
  rw [e2] at h
  exact (h.mono (hu.alloc o)).push hown (by rw [hva]; exact hg)

theorem RowsAt.done {w wr : World} {rb n j : Nat} {va u0 u1 : Value} {ao : Option Addr} {cv : Nat} {xs : List Value} {cs : List Nat} (h : RowsAt w wr rb n va j xs cs) (hva : va = .slice ao j cv) (hu : u1 = .slice (some ⟨w.heap.size + 1, 0, none⟩) (n + 1) (n + 1)) (hx : xs.length = j * 2) :
    ((wr.setCell ⟨w.heap.size, 0, none⟩ (.slice ao j cv)).setCell ⟨w.heap.size, 1, none⟩ u1).cell? ⟨w.heap.size, 0, none⟩ = some (.slice ao j cv) ∧
    ((wr.setCell ⟨w.heap.size, 0, none⟩ (.slice ao j cv)).setCell ⟨w.heap.size, 1, none⟩ u1).cell? ⟨w.heap.size, 1, none⟩ = some u1 ∧
    Up w ((wr.setCell ⟨w.heap.size, 0, none⟩ (.slice ao j cv)).setCell ⟨w.heap.size, 1, none⟩ u1) ∧
    Row ((wr.setCell ⟨w.heap.size, 0, none⟩ (.slice ao j cv)).setCell ⟨w.heap.size, 1, none⟩ u1) (w.heap.size + 1) 3 (n + 1) (ints cs) ∧
    ((wr.setCell ⟨w.heap.size, 0, none⟩ (.slice ao j cv)).setCell ⟨w.heap.size, 1, none⟩ u1).ownsRow w.heap.size 92 2 (.slice ao j cv) j xs := by
  subst hva
  have hrow : Row wr w.heap.size 86 2 [.slice none 0 0, .slice none 0 0] := ⟨_, h.res, rfl, by simp, rfl⟩
  have h1 := (hrow.set 0 (.slice ao j cv)).set 1 u1
  have h2 := h.rb2
  have hb : ∀ k, k ≠ w.heap.size → ((wr.setCell ⟨w.heap.size, 0, none⟩ (.slice ao j cv)).setCell ⟨w.heap.size, 1, none⟩ u1).heap[k]? = wr.heap[k]? := fun k hk =>
    (Below.heap_setCell _ ⟨w.heap.size, 1, none⟩ _ k hk).trans (Below.heap_setCell _ ⟨w.heap.size, 0, none⟩ _ k hk)
  refine ⟨h1.cell rfl, h1.cell rfl, (h.up.setCell (Nat.le_refl _) _).setCell (Nat.le_refl _) _, h.row.keep (hb _ (by omega)), owns_base (owns_keep h.own (fun g hg => hb g (by have := (h.own.lt g hg).1; omega))) (by omega)⟩

set_option maxHeartbeats 8000000 in
set_option maxRecDepth 100000 in
theorem rows_any (fk fs : Nat) (key : Sy.Edge → Nat) (stp : Sy.Edge → Int × Int) (n : Nat) (l : List Sy.Edge) (v : Value) (w : World) (ek : ∀ args w, (callFunc fk args).run Tryz.prog w = .ok (.enter fk args) w) (es : ∀ args w, (callFunc fs args).run Tryz.prog w = .ok (.enter fs args) w)
    (hk : ∀ e ∈ l, ∀ W, Calls Tryz.prog fk #[.agg #[.int .i64 e.1, .int .i64 e.2.1, .int .i64 e.2.2]] W fun r w' => r = .returned (.int .i64 (key e : Nat)) ∧ w' = W.alloc (.cells #[.int .i64 e.1, .int .i64 e.2.1, .int .i64 e.2.2] 67))
    (hs : ∀ e ∈ l, ∀ W, Calls Tryz.prog fs #[.agg #[.int .i64 e.1, .int .i64 e.2.1, .int .i64 e.2.2]] W fun r w' => r = .returned (.agg #[.int .i64 (stp e).1, .int .i64 (stp e).2]) ∧ w' = (W.alloc (.cells #[.int .i64 e.1, .int .i64 e.2.1, .int .i64 e.2.2] 67)).alloc (.cells #[.int .i64 (stp e).1, .int .i64 (stp e).2] 92))
    (hv : Ls3 w v l) (hn : n ≤ 1000) (hl : l.length ≤ 1000000) (hkey : ∀ e ∈ l, key e < n) :
    Calls Tryz.prog 33 #[.int .i64 n, v, .func (.func fk) #[] #[], .func (.func fs) #[] #[]] w (RowsDone w n (l.map stp) ((List.range (n + 1)).map fun i => Sy.below (fun e => (key e : Int)) l i)) := by
  obtain ⟨i0, hi, hz0, hz1, hz2⟩ := info_parts Tryz.intInfoR
  obtain ⟨j0, hj, gz0, gz1, gz2⟩ := info_parts Tryz.stepInfoR
  obtain ⟨ao, cap, g, off, rfl, ha, hc⟩ := hv
  obtain ⟨k, hkl⟩ : ∃ k, k = l.length := ⟨_, rfl⟩
  rw [← hkl] at ha hl ⊢
  have HA := Lib.hid ha
  have HC := Lib.hid hc
  have HK := Lib.hid hkl
  have HFK := Lib.hid hk
  have HFS := Lib.hid hs
  have HKEY := Lib.hid hkey
  clear ha hc hkl hk hs hkey
  go_enter Tryz.func33, Tryz.ntmps33
  go_wp2_with (at_make; refine wpList_make_full _ rfl _ _ 35 rfl 0 3 i0 (.int .i64 0) 1 Tryz.underlying35 hi hz0 hz1 _ _ _ _ (n + 1) rfl rfl rfl rfl (by rw [hz2]; omega) (by unfold maxLen; omega) (Nat.zero_le _) ?_; intro w1 hown hgrow)
  have hown' : w1.ownsRow 0 3 1 (.slice (some ⟨w.heap.size + 1, 0, none⟩) (n + 1) (n + 1)) (n + 1) (madeCells (Value.int .i64 0).cells ((n + 1) * 1)).toList := by simpa using hown
  have R0 := RowsAt.start (cs := madeCells (Value.int .i64 0).cells ((n + 1) * 1)) hown' (by rw [Nat.mul_one, ints_zero]; exact toList_madeCells_one _ _) hgrow
  clear hown hown' hgrow
  replace R0 := Lib.hid R0
  revert R0
  generalize w1.heap.size = rb
  intro HR0
  go_loopw [19] (fun s wr => ∃ (j : Nat) (va : Value), s = .int .i64 j ∧ j ≤ k ∧ Hid (RowsAt w wr rb n va j (cells2 ((l.take j).map stp)) ((List.range (n + 1)).map (cnt key (l.take j))))) (fun s _ => k - (intOf s).toNat)
  case atStart => exact ⟨0, _, rfl, Nat.zero_le _, by rw [List.take_zero, cnt_zero]; exact HR0⟩
  case round =>
    obtain ⟨j, va, rfl, hjk, HR⟩ := hrel
    by_cases hlt : j < k
    · obtain rfl := HA.out (by omega)
      have hjl : j < l.length := by rw [← HK.out]; exact hlt
      have hmem : l.getD j (0, 0, 0) ∈ l := by rw [← getD_of (0, 0, 0) hjl]; exact List.getElem_mem hjl
      obtain ⟨x, hx⟩ : ∃ x, l.getD j (0, 0, 0) = x := ⟨_, rfl⟩
      have hcc := HC.out j hjl
      rw [hx] at hmem hcc
      obtain ⟨z, hz⟩ : ∃ z, key x = z := ⟨_, rfl⟩
      obtain ⟨y, hy⟩ : ∃ y, stp x = y := ⟨_, rfl⟩
      have hzn : z < n := by rw [← hz]; exact HKEY.out x hmem
      have hkx := HFK.out x hmem
      have hsx := HFS.out x hmem
      rw [hz] at hkx
      rw [hy] at hsx
      obtain ⟨x1, x2, x3⟩ := x
      obtain ⟨y1, y2⟩ := y
      simp only at hcc hkx hsx
      have hR := HR.out
      have d0 := hR.up.cell hcc.1
      have d1 := hR.up.cell hcc.2.1
      have d2 := hR.up.cell hcc.2.2
      have HX := Lib.hid hx
      have HZ := Lib.hid hz
      have HY := Lib.hid hy
      have HJL := Lib.hid hjl
      obtain ⟨c, hcn⟩ : ∃ c, cnt key (l.take j) (z + 1) = c := ⟨_, rfl⟩
      have HCN := Lib.hid hcn
      obtain ⟨w5, hw5⟩ : ∃ w5, w5 = wr.alloc (.cells #[.int .i64 x1, .int .i64 x2, .int .i64 x3] 67) := ⟨_, rfl⟩
      have hu5 : Up wr w5 := by rw [hw5]; exact (Up.refl wr).alloc _
      have hR5 := hR.mono hu5
      have hb5 : w5.heap[wr.heap.size]? = some (.cells #[.int .i64 x1, .int .i64 x2, .int .i64 x3] 67 (0, 0)) := by rw [hw5]; exact heap_alloc_new wr _
      have e0 : w5.cell? ⟨wr.heap.size, 0, none⟩ = some (.int .i64 x1) := by simp [World.cell?, hb5]
      have e1 : w5.cell? ⟨wr.heap.size, 1, none⟩ = some (.int .i64 x2) := by simp [World.cell?, hb5]
      have e2 : w5.cell? ⟨wr.heap.size, 2, none⟩ = some (.int .i64 x3) := by simp [World.cell?, hb5]
      have b1 : w5.cell? ⟨rb, 1, none⟩ = some (.slice (some ⟨w.heap.size + 1, 0, none⟩) (n + 1) (n + 1)) := by simp [World.cell?, hR5.box]
      have f1 : w5.cell? ⟨w.heap.size + 1, z + 1, none⟩ = some (.int .i64 (c : Nat)) := hR5.row.cell (by
        rw [ints_get (by simp; omega)]
        simp [List.getD, show z + 1 < n + 1 by omega, hcn])
      have f2 : w5.frozen? ⟨w.heap.size + 1, z + 1, none⟩ = false := hR5.row.free _
      have HKC : Hid (∀ x, Up w5 x → Calls Tryz.prog fk #[.agg #[.int .i64 x1, .int .i64 x2, .int .i64 x3]] x fun r x' => r = .returned (.int .i64 (z : Nat)) ∧
          (x'.cell? ⟨rb, 1, none⟩ = some (.slice (some ⟨w.heap.size + 1, 0, none⟩) (n + 1) (n + 1)) ∧ x'.cell? ⟨w.heap.size + 1, z + 1, none⟩ = some (.int .i64 (c : Nat)) ∧ x'.frozen? ⟨w.heap.size + 1, z + 1, none⟩ = false ∧ x'.cell? ⟨wr.heap.size, 0, none⟩ = some (.int .i64 x1) ∧ x'.cell? ⟨wr.heap.size, 1, none⟩ = some (.int .i64 x2) ∧ x'.cell? ⟨wr.heap.size, 2, none⟩ = some (.int .i64 x3)) ∧ Up w5 x') := Lib.hid (fun x hu =>
        (hkx x).mono fun r x' ⟨hr, hx'⟩ => by
          have hu' : Up w5 x' := by rw [hx']; exact hu.alloc _
          exact ⟨hr, ⟨hu'.cell b1, hu'.cell f1, (hu'.free f1).trans f2, hu'.cell e0, hu'.cell e1, hu'.cell e2⟩, hu'⟩)
      have hS0 := And.intro b1 (And.intro f1 (And.intro f2 (And.intro e0 (And.intro e1 e2))))
      have HR5 := Lib.hid hR5
      have HSX := Lib.hid hsx
      have HB5 := Lib.hid hb5
      clear hx hz hy hcn hR hR5 hcc hkx hsx hmem hb5 hjl
      go_upto_region 5 with fail
      rw [← hw5]
      have HW5 := Lib.hid hw5
      have HU5 := Lib.hid hu5
      clear hw5 d0 d1 d2 hu5
      have qz : (z : Int) + 1 < (n : Int) + 1 := by omega
      have qz1 : (z : Int) + 1 < ((n + 1 : Nat) : Int) := by omega
      have qz2 : (0 : Int) ≤ (z : Int) + 1 := by omega
      have qz3 : IntKind.i64.wrap ((z : Int) + 1) = (z : Int) + 1 := by simp [IntKind.wrap, IntKind.bits, IntKind.signed]; omega
      have qz4 : ((z : Int) + 1).toNat = z + 1 := by omega
      have qc : c ≤ j := by rw [← HCN.out]; unfold cnt; rw [if_neg (by omega)]; exact Nat.le_trans List.countP_le_length (by rw [List.length_take]; omega)
      have qc3 : IntKind.i64.wrap ((c : Int) + 1) = (c : Int) + 1 := by simp [IntKind.wrap, IntKind.bits, IntKind.signed]; omega
      refine wp_region_ord 10 [(0, true), (1, true), (2, true), (3, true), (4, false), (5, true), (6, true), (7, true), (8, true), (9, true)] (fun w' => w'.cell? ⟨rb, 1, none⟩ = some (.slice (some ⟨w.heap.size + 1, 0, none⟩) (n + 1) (n + 1)) ∧ w'.cell? ⟨w.heap.size + 1, z + 1, none⟩ = some (.int .i64 (c : Nat)) ∧ w'.frozen? ⟨w.heap.size + 1, z + 1, none⟩ = false ∧ w'.cell? ⟨wr.heap.size, 0, none⟩ = some (.int .i64 x1) ∧ w'.cell? ⟨wr.heap.size, 1, none⟩ = some (.int .i64 x2) ∧ w'.cell? ⟨wr.heap.size, 2, none⟩ = some (.int .i64 x3)) (by kernel_rfl) (by kernel_rfl) (fun _ _ _ _ _ h => h) hS0 ?_
      iterate 4
        refine WO.still rfl rfl (fun K hK => ?_)
        apply Exists.intro
        refine ⟨?_, hK _ ?_⟩
        · intro w' hS
          obtain ⟨s1, s2, s3, s4, s5, s6⟩ := hS
          go_simp
          first | done | rfl | exact ⟨rfl, rfl⟩
        clear hK K
      refine WO.act rfl rfl (fun K hK => ?_)
      go_simp
      go_at_fn fk
      refine (HKC.out _ (by repeat (first | (with_reducible exact Up.refl _) | assumption | (with_reducible apply Up.alloc) | (with_reducible apply Up.drewN) | (with_reducible apply Up.drew)))).mono ?_
      rintro r x6 ⟨rfl, hS6, hu6⟩
      refine hK _ _ hS6 ?_
      clear hK K
      iterate 5
        refine WO.still rfl rfl (fun K hK => ?_)
        apply Exists.intro
        refine ⟨?_, hK _ ?_⟩
        · intro w' hS
          obtain ⟨s1, s2, s3, s4, s5, s6⟩ := hS
          go_simp
          first | done | rfl | exact ⟨rfl, rfl⟩
        clear hK K
      obtain ⟨g0, g1, g2, -⟩ := hS6
      refine WO.last rfl rfl (fun K hK => ?_)
      go_simp
      refine hK _ _ ?_
      clear hK K
      have hR6 := (HR5.out.mono hu6).count (z + 1) (c + 1)
      rw [show ((c + 1 : Nat) : Int) = (c : Int) + 1 by omega] at hR6
      obtain ⟨w7, hw7⟩ : ∃ w7, w7 = x6.setCell ⟨w.heap.size + 1, z + 1, none⟩ (.int .i64 ((c : Int) + 1)) := ⟨_, rfl⟩
      rw [← hw7] at hR6 ⊢
      have HW7 := Lib.hid hw7
      have HR7 := Lib.hid hR6
      obtain ⟨av, cv, hva⟩ := owns_shape' hR6.own
      have b0 : w7.cell? ⟨rb, 0, none⟩ = some va := by simp [World.cell?, hR6.box]
      have HOWN := Lib.hid hR6.own
      rw [hva] at b0 HOWN
      have HVA := Lib.hid hva
      have hjx : j ≤ 1000000 := by omega
      have HB7 : Hid (w7.heap[wr.heap.size]? = some (.cells #[.int .i64 x1, .int .i64 x2, .int .i64 x3] 67 (0, 0))) := Lib.hid (by
        rw [hw7]
        exact (Below.heap_setCell x6 ⟨w.heap.size + 1, z + 1, none⟩ _ wr.heap.size (by have := HR.out.row.lt; simp; omega)).trans ((hu6.block _ (lt_of_block' HB5.out)).trans HB5.out))
      have h2 : w7.cell? ⟨wr.heap.size, 0, none⟩ = some (.int .i64 x1) ∧ w7.cell? ⟨wr.heap.size, 1, none⟩ = some (.int .i64 x2) ∧ w7.cell? ⟨wr.heap.size, 2, none⟩ = some (.int .i64 x3) := by
        have hb := HB7.out
        exact ⟨by simp [World.cell?, hb], by simp [World.cell?, hb], by simp [World.cell?, hb]⟩
      clear hw7 hR6 hva hu6 g0 g1 g2 hS0 b1 f1 f2 e0 e1 e2
      have hbig : Hid (rb + 1 ≤ w7.heap.size) := Lib.hid HR7.out.big
      have hS7 := And.intro b0 h2
      have HSX2 : Hid (∀ x, Up w7 x → Calls Tryz.prog fs #[.agg #[.int .i64 x1, .int .i64 x2, .int .i64 x3]] x fun r x' => r = .returned (.agg #[.int .i64 y1, .int .i64 y2]) ∧ (x'.cell? ⟨rb, 0, none⟩ = some (.slice av j cv) ∧ x'.cell? ⟨wr.heap.size, 0, none⟩ = some (.int .i64 x1) ∧ x'.cell? ⟨wr.heap.size, 1, none⟩ = some (.int .i64 x2) ∧ x'.cell? ⟨wr.heap.size, 2, none⟩ = some (.int .i64 x3)) ∧ Up w7 x') := Lib.hid (fun x hu =>
        (HSX.out x).mono fun r x' ⟨hr, hx'⟩ => by
          have hu' : Up w7 x' := by rw [hx']; exact (hu.alloc _).alloc _
          exact ⟨hr, ⟨hu'.cell b0, hu'.cell h2.1, hu'.cell h2.2.1, hu'.cell h2.2.2⟩, hu'⟩)
      have HBK : Hid (∀ (x' x'' : World), Up w7 x' → x'.grownBy x'' (Value.slice av j cv).ownBlock → (x''.cell? ⟨rb, 0, none⟩ = some (.slice av j cv) ∧ x''.cell? ⟨wr.heap.size, 0, none⟩ = some (.int .i64 x1) ∧ x''.cell? ⟨wr.heap.size, 1, none⟩ = some (.int .i64 x2) ∧ x''.cell? ⟨wr.heap.size, 2, none⟩ = some (.int .i64 x3)) ∧ x''.frozen? ⟨rb, 0, none⟩ = false) := Lib.hid (fun x' x'' hu hg => by
        have hbx := HR7.out.box
        rw [HVA.out] at hbx
        have h1 := (hu.block _ (lt_of_block' hbx)).trans hbx
        have h2 := (hg.block _ (lt_of_block' h1) (fun e => by have := (HR7.out.own.lt rb (by rw [HVA.out]; exact e.symm)).1; omega)).trans h1
        have k1 := (hu.block _ (lt_of_block' HB7.out)).trans HB7.out
        have k2 := (hg.block _ (lt_of_block' k1) (fun e => by
          obtain ⟨cur, hcur⟩ := owns_type HR7.out.own (by rw [HVA.out]; exact e.symm)
          rw [HB7.out] at hcur
          simp only [Option.some.injEq, Obj.cells.injEq] at hcur
          exact absurd hcur.2.1 (by decide))).trans k1
        exact ⟨⟨by simp [World.cell?, h2], by simp [World.cell?, k2], by simp [World.cell?, k2], by simp [World.cell?, k2]⟩, by simp [World.frozen?, h2]⟩)
      go_upto_region 6 with fail
      refine wp_region_ord 8 [(0, true), (1, true), (2, true), (3, true), (4, false), (5, false), (6, false), (7, true)] (fun w' => w'.cell? ⟨rb, 0, none⟩ = some (.slice av j cv) ∧ w'.cell? ⟨wr.heap.size, 0, none⟩ = some (.int .i64 x1) ∧ w'.cell? ⟨wr.heap.size, 1, none⟩ = some (.int .i64 x2) ∧ w'.cell? ⟨wr.heap.size, 2, none⟩ = some (.int .i64 x3)) (by kernel_rfl) (by kernel_rfl) (fun _ _ _ _ _ h => h) hS7 ?_
      iterate 4
        refine WO.still rfl rfl (fun K hK => ?_)
        apply Exists.intro
        refine ⟨?_, hK _ ?_⟩
        · intro w' hS
          obtain ⟨s1, s2, s3, s4⟩ := hS
          go_simp
          first | done | rfl | exact ⟨rfl, rfl⟩
        clear hK K
      refine WO.act rfl rfl (fun K hK => ?_)
      go_simp
      go_at_fn fs
      refine (HSX2.out _ (by repeat (first | (with_reducible exact Up.refl _) | assumption | (with_reducible apply Up.alloc) | (with_reducible apply Up.drewN) | (with_reducible apply Up.drew)))).mono ?_
      rintro r x8 ⟨rfl, hS8, hu8⟩
      refine hK _ _ hS8 ?_
      clear hK K
      refine WO.act rfl rfl (fun K hK => ?_)
      go_simp
      refine hK _ _ ?_ ?_
      · have hu' := (Up.refl x8).alloc (.cells #[.int .i64 y1, .int .i64 y2] 92)
        exact ⟨hu'.cell hS8.1, hu'.cell hS8.2.1, hu'.cell hS8.2.2.1, hu'.cell hS8.2.2.2⟩
      clear hK K
      refine WO.act rfl rfl (fun K hK => ?_)
      refine wp_append_own (.tmp 34) (.tmp 38) 84 rfl (rb + 1) 92 j0 (.agg #[.int .i64 0, .int .i64 0]) 2 16 Tryz.underlying84 hj gz0 gz1 gz2 rfl (by decide) (.slice av j cv) j _ rfl (Up.owns (w := w7) (hu8.alloc _) HOWN.out) _ 1 1 [.int .i64 y1, .int .i64 y2] rfl rfl (cells_new2 _ _ _ _) (two_one (y1, y2)) (by unfold maxLen; omega) (by omega) (by have h1 := hbig.out; have h2 := hu8.size; simp only [World.size_alloc]; omega) ?_
      intro v' x9 hown9 hgrow9 hat9
      obtain ⟨a9, c9, rfl⟩ := owns_shape' hown9
      obtain ⟨hS9, m1⟩ := HBK.out _ _ (hu8.alloc _) hgrow9
      refine hK _ _ hS9 ?_
      clear hK K
      refine WO.still rfl rfl (fun K hK => ?_)
      apply Exists.intro
      refine ⟨?_, hK _ ?_⟩
      · intro w' hS
        rfl
      clear hK K
      obtain ⟨m0, -⟩ := hS9
      refine WO.last rfl rfl (fun K hK => ?_)
      go_simp
      refine hK _ _ ?_
      clear hK K
      all_goals (
        have HN := Lib.hid (HR7.out.next HJL.out HVA.out HX.out HZ.out HY.out HCN.out hzn hu8 hown9 hgrow9)
        clear hown9 hgrow9 hu8 m0 m1 hS8
        go_wp2_with fail
        go_roundw
        case rel => exact ⟨j + 1, _, by go_num, by omega, HN⟩
        case measure => simp [intOf]; omega)
    · obtain rfl : j = k := by omega
      have hR := HR.out
      rw [HK.out, List.take_length, ← HK.out] at hR
      rw [← mix_zero] at hR
      have HR2 := Lib.hid hR
      clear hR HR
      go_wp2_with fail
      go_loopw [43] (fun s wq => ∃ (i : Nat), s = .int .i64 i ∧ i ≤ n ∧ Hid (RowsAt w wq rb n va j (cells2 (l.map stp)) (mix key l n i))) (fun s _ => n - (intOf s).toNat)
      case atStart => exact ⟨0, rfl, Nat.zero_le _, HR2⟩
      case round =>
        obtain ⟨i, rfl, hin, HM⟩ := hrel
        by_cases hlt2 : i < n
        · have hM := HM.out
          obtain ⟨p, hp⟩ : ∃ p, (mix key l n i).getD (i + 1) 0 = p := ⟨_, rfl⟩
          obtain ⟨q, hq⟩ : ∃ q, (mix key l n i).getD i 0 = q := ⟨_, rfl⟩
          have hb1 : wr.cell? ⟨rb, 1, none⟩ = some (.slice (some ⟨w.heap.size + 1, 0, none⟩) (n + 1) (n + 1)) := by simp [World.cell?, hM.box]
          have hf1 : wr.cell? ⟨w.heap.size + 1, i + 1, none⟩ = some (.int .i64 (p : Nat)) := hM.row.cell (by rw [ints_get (by rw [mix_len]; omega), hp])
          have hf0 : wr.cell? ⟨w.heap.size + 1, i, none⟩ = some (.int .i64 (q : Nat)) := hM.row.cell (by rw [ints_get (by rw [mix_len]; omega), hq])
          have hfr : wr.frozen? ⟨w.heap.size + 1, i + 1, none⟩ = false := hM.row.free _
          have hpl : p ≤ 1000000 := by
            rw [← hp, mix_get _ _ _ _ _ (by omega), if_neg (by omega)]
            unfold cnt; rw [if_neg (by omega)]; exact Nat.le_trans List.countP_le_length (by rw [← HK.out]; exact hl)
          have hql : q ≤ 1000000 := by
            rw [← hq, mix_get _ _ _ _ _ (by omega), if_pos (Nat.le_refl _)]
            exact Nat.le_trans (Sy.below_le _ _ _) (by rw [← HK.out]; exact hl)
          have hnext := hM.count (i + 1) (p + q)
          rw [← hp, ← hq, mix_next key l n i hlt2, hp, hq, show ((p + q : Nat) : Int) = (p : Int) + (q : Int) by omega] at hnext
          have HNX := Lib.hid hnext
          have qi1 : (i : Int) + 1 < ((n + 1 : Nat) : Int) := by omega
          have qi2 : (0 : Int) ≤ (i : Int) + 1 := by omega
          have qi3 : IntKind.i64.wrap ((i : Int) + 1) = (i : Int) + 1 := by simp [IntKind.wrap, IntKind.bits, IntKind.signed]; omega
          have qi4 : ((i : Int) + 1).toNat = i + 1 := by omega
          have qi5 : (i : Int) < ((n + 1 : Nat) : Int) := by omega
          have qi6 : (i : Int) + 1 < (n : Int) + 1 := by omega
          have qi7 : (i : Int) < (n : Int) + 1 := by omega
          have qpq : IntKind.i64.wrap ((p : Int) + (q : Int)) = (p : Int) + (q : Int) := by simp [IntKind.wrap, IntKind.bits, IntKind.signed]; omega
          clear hnext hM hp hq
          go_wp2_with fail
          go_region
          go_wp2_with fail
          go_roundw
          case rel => exact ⟨i + 1, by go_num, by omega, Lib.hid (HNX.out.mono (Up.refl _).drew)⟩
          case measure => simp [intOf]; omega
        · obtain rfl : i = n := by omega
          have hM := HM.out
          rw [mix_all] at hM
          obtain ⟨av, cv, hva⟩ := owns_shape' hM.own
          have hb0 : wr.cell? ⟨rb, 0, none⟩ = some va := by simp [World.cell?, hM.box]
          have hb1 : wr.cell? ⟨rb, 1, none⟩ = some (.slice (some ⟨w.heap.size + 1, 0, none⟩) (i + 1) (i + 1)) := by simp [World.cell?, hM.box]
          have hr0 : wr.cell? ⟨w.heap.size, 0, none⟩ = some (.slice none 0 0) := by simp [World.cell?, hM.res]
          have hr1 : wr.cell? ⟨w.heap.size, 1, none⟩ = some (.slice none 0 0) := by simp [World.cell?, hM.res]
          have hfr0 : wr.frozen? ⟨w.heap.size, 0, none⟩ = false := by simp [World.frozen?, hM.res]
          have hfr1 : wr.frozen? ⟨w.heap.size, 1, none⟩ = false := by simp [World.frozen?, hM.res]
          have HM2 := Lib.hid hM
          have HVA := Lib.hid hva
          rw [hva] at hb0
          clear hM hva
          go_wp2_with fail
          have HDONE := Lib.hid (HM2.out.done (u0 := .nilIface) HVA.out rfl (by rw [cells2_len, List.length_map, ← HK.out]))
          obtain ⟨hz0', hz1', -⟩ := HDONE.out
          refine bodyPost_ret (v := .agg #[.slice av j cv, .slice (some ⟨w.heap.size + 1, 0, none⟩) (i + 1) (i + 1)]) (by simp [results, Tryz.results33, go_sem, hz0', hz1']) rfl ⟨_, rfl, ?_⟩
          obtain ⟨-, -, h1, h2, h3⟩ := HDONE.out
          refine ⟨h1, h2, ?_⟩
          rw [List.length_map, ← HK.out]
          exact h3

end Go.Proofs.YtkcdkfkgjjpaaaaGreatDoor
