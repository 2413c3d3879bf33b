/- Walks: the closures of system.New, system.newRows. Walks: system.Normal, system.New. -/
import Derived.Test.YtoaoajfjcfcmhaaGreatDoorP06
import Derived.Deep.Cut
import Derived.Shelf.Abstract
import Derived.Test.YtoaoajfjcfcmhaaGreatDoorP01
set_option linter.unusedVariables false
set_option linter.unusedSimpArgs false
set_option maxHeartbeats 16000000
set_option maxRecDepth 100000
open Go.Proofs.Tryz
namespace Go.Proofs.YtoaoajfjcfcmhaaGreatDoor
open Go.RowKit Go.Sort
theorem zxh (a b c : Int) (w : World) : Calls prog 116 #[.agg #[.int .i64 a, .int .i64 b, .int .i64 c]] w fun r w' => r = .returned (.int .i64 a) /\ w' = w.alloc (.cells #[.int .i64 a, .int .i64 b, .int .i64 c] 60) := by
 go_enter func116, ntmps116
 go_wp2_with fail
 go_ret
 exact ⟨rfl, rfl⟩
theorem zwf (a b c : Int) (w : World) : Calls prog 123 #[.agg #[.int .i64 a, .int .i64 b, .int .i64 c]] w fun r w' => r = .returned (.int .i64 c) /\ w' = w.alloc (.cells #[.int .i64 a, .int .i64 b, .int .i64 c] 60) := by
 go_enter func123, ntmps123
 go_wp2_with fail
 go_ret
 exact ⟨rfl, rfl⟩
theorem ztz (a b c : Int) (w : World) : Calls prog 117 #[.agg #[.int .i64 a, .int .i64 b, .int .i64 c]] w fun r w' => r = .returned (.agg #[.int .i64 b, .int .i64 c]) /\
  w' = (w.alloc (.cells #[.int .i64 a, .int .i64 b, .int .i64 c] 60)).alloc (.cells #[.int .i64 b, .int .i64 c] 169) := by
 go_enter func117, ntmps117
 go_wp2_with fail
 refine bodyPost_ret (v := .agg #[.int .i64 b, .int .i64 c]) (by simp [results, results117, go_sem]) rfl ⟨rfl, rfl⟩
theorem zsl (a b c : Int) (w : World) : Calls prog 124 #[.agg #[.int .i64 a, .int .i64 b, .int .i64 c]] w fun r w' => r = .returned (.agg #[.int .i64 b, .int .i64 a]) /\
  w' = (w.alloc (.cells #[.int .i64 a, .int .i64 b, .int .i64 c] 60)).alloc (.cells #[.int .i64 b, .int .i64 a] 169) := by
 go_enter func124, ntmps124
 go_wp2_with fail
 refine bodyPost_ret (v := .agg #[.int .i64 b, .int .i64 a]) (by simp [results, results124, go_sem]) rfl ⟨rfl, rfl⟩
theorem zby (w : World) (a b : Value) (e : TypeId) : ∀ j u, [a, b][j]? = some u -> (w.alloc (.cells #[a, b] e)).cell? ((⟨w.heap.size, 0, none⟩ : Addr).add j) = some u := by
 intro j u hj
 match j, hj with
 | 0, hj => simp at hj; subst hj; simp [Addr.add]
 | 1, hj => simp at hj; subst hj; simp [Addr.add]
def cnt (key : Sy.Edge -> Nat) (l : List Sy.Edge) (i : Nat) : Nat := if i = 0 then 0 else l.countP fun e => key e == i - 1
structure zD1 (w wr : World) (rb n : Nat) (va : Value) (m : Nat) (xs : List Value) (cs : List Nat) : Prop where
 up : Up w wr
 res : wr.heap[w.heap.size]? = some (.cells #[.slice none 0 0, .slice none 0 0] 188 (0, 0))
 row : Row wr (w.heap.size + 1) 3 (n + 1) (ints cs)
 box : wr.heap[rb]? = some (.cells #[va, .slice (some ⟨w.heap.size + 1, 0, none⟩) (n + 1) (n + 1)] 188 (0, 0))
 own : wr.ownsRow (rb + 1) 169 2 va m xs
 rb2 : w.heap.size + 1 < rb
theorem zD1.big {w wr : World} {rb n m : Nat} {va : Value} {xs : List Value} {cs : List Nat} (h : zD1 w wr rb n va m xs cs) : rb < wr.heap.size := za0 h.box
theorem zD1.mono {w wr wq : World} {rb n m : Nat} {va : Value} {xs : List Value} {cs : List Nat} (h : zD1 w wr rb n va m xs cs) (hu : Up wr wq) : zD1 w wq rb n va m xs cs :=
 ⟨h.up.trans hu, (hu.block _ (za0 h.res)).trans h.res, hu.row h.row, (hu.block _ (za0 h.box)).trans h.box, hu.owns h.own, h.rb2⟩
theorem zD1.count {w wr : World} {rb n m : Nat} {va : Value} {xs : List Value} {cs : List Nat} (h : zD1 w wr rb n va m xs cs) (i v : Nat) : zD1 w (wr.setCell ⟨w.heap.size + 1, i, none⟩ (.int .i64 (v : Nat))) rb n va m xs (cs.set i v) := by
 have aa : ∀ k, k ≠ w.heap.size + 1 -> (wr.setCell ⟨w.heap.size + 1, i, none⟩ (.int .i64 (v : Nat))).heap[k]? = wr.heap[k]? := fun k hk => Below.heap_setCell wr ⟨w.heap.size + 1, i, none⟩ _ k hk
 have h2 := h.rb2
 refine ⟨h.up.setCell (by simp) _, (aa _ (by omega)).trans h.res, ?_, (aa _ (by omega)).trans h.box, ?_, h2⟩
 ·rw [ints_set]; exact h.row.set i _
 ·exact za2 h.own (fun g hg => aa g (by have := (h.own.lt g hg).1; omega))
theorem zD1.push {w wr wq : World} {rb n m : Nat} {va v' : Value} {xs ys : List Value} {cs : List Nat} (h : zD1 w wr rb n va m xs cs) (ab : wq.ownsRow (rb + 1) 169 2 v' (m + 1) ys) (hg : wr.grownBy wq va.ownBlock) :
  zD1 w (wq.setCell ⟨rb, 0, none⟩ v') rb n v' (m + 1) ys cs := by
 have aa : ∀ k, k ≠ rb -> (wq.setCell ⟨rb, 0, none⟩ v').heap[k]? = wq.heap[k]? := fun k hk => Below.heap_setCell wq ⟨rb, 0, none⟩ _ k hk
 have h2 := h.rb2
 have ad := h.big
 have ac : ∀ k, va.ownBlock = some k -> rb + 1 <= k := fun k hk => (h.own.lt k hk).1
 have hb : ∀ k, k < rb + 1 -> wq.heap[k]? = wr.heap[k]? := fun k hk => hg.block k (by omega) (fun e => by have := ac k e.symm; omega)
 refine ⟨(h.up.grown hg (fun k hk => by have := ac k hk; omega)).setCell (by simp; omega) _, (aa _ (by omega)).trans ((hb _ (by omega)).trans h.res), ?_, ?_, ?_, h2⟩
 ·exact h.row.keep ((aa _ (by omega)).trans (hb _ (by omega)))
 ·have := (hb rb (by omega)).trans h.box
  simp [World.setCell, Array.getElem?_modify, this]
 ·exact za2 ab (fun g ae => aa g (by have := (ab.lt g ae).1; omega))
theorem zD1.start {w w1 : World} {n : Nat} {cs : Array Value} (ab : w1.ownsRow 0 3 1 (.slice (some ⟨w.heap.size + 1, 0, none⟩) (n + 1) (n + 1)) (n + 1) cs.toList) (ac : cs.toList = ints (List.replicate (n + 1) 0))
  (hg : (w.alloc (.cells #[.slice none 0 0, .slice none 0 0] 188)).grownBy w1 none) :
  zD1 w (w1.alloc (.cells #[.slice none 0 0, .slice (some ⟨w.heap.size + 1, 0, none⟩) (n + 1) (n + 1)] 188)) w1.heap.size n (.slice none 0 0) 0 [] (List.replicate (n + 1) 0) := by
 have hu : Up w w1 := ((Up.refl w).alloc _).grown hg (by simp)
 obtain ⟨aa, -, -, -⟩ := Row.of ab
 rw [ac, Nat.mul_one] at aa
 refine ⟨hu.alloc _, ?_, aa.alloc _, heap_alloc_new w1 _, World.ownsRow_nil _ _ _ _, aa.lt⟩
 have h1 := heap_alloc_new w (.cells #[.slice none 0 0, .slice none 0 0] 188)
 have h2 := (hg.block w.heap.size (by simp) (by simp)).trans h1
 exact (Below.heap_alloc w1 _ _ (za0 h2)).trans h2
theorem Tryz.zFu : (prog.info? 3).map (fun i => (i.zero, i.size, i.bytes)) = some (some (.int .i64 0), 1, 8) := by kernel_rfl
theorem Tryz.zIp : (prog.info? 169).map (fun i => (i.zero, i.size, i.bytes)) = some (some (.agg #[.int .i64 0, .int .i64 0]), 2, 16) := by kernel_rfl
def zkh (w : World) (n : Nat) (xs : List (Int × Int)) (cs : List Nat) (r : Ending) (w' : World) : Prop :=
 ∃ va, r = .returned (.agg #[va, .slice (some ⟨w.heap.size + 1, 0, none⟩) (n + 1) (n + 1)]) /\ Up w w' /\ Row w' (w.heap.size + 1) 3 (n + 1) (ints cs) /\ w'.ownsRow w.heap.size 169 2 va xs.length (za7 xs)
theorem zxq (key : Sy.Edge -> Nat) (n : Nat) : (List.range (n + 1)).map (cnt key []) = List.replicate (n + 1) 0 := by
 refine List.ext_getElem (by simp) fun i h1 h2 => ?_
 simp [cnt]
theorem zwl (key : Sy.Edge -> Nat) (l : List Sy.Edge) (j n : Nat) (hj : j < l.length) (hk : key (l.getD j (0, 0, 0)) < n) :
  ((List.range (n + 1)).map (cnt key (l.take j))).set (key (l.getD j (0, 0, 0)) + 1) (cnt key (l.take j) (key (l.getD j (0, 0, 0)) + 1) + 1) = (List.range (n + 1)).map (cnt key (l.take (j + 1))) := by
 refine List.ext_getElem (by simp) fun i h1 h2 => ?_
 rw [List.getElem_set]
 simp only [List.getElem_map, List.getElem_range]
 have e : l.take (j + 1) = l.take j ++ [l.getD j (0, 0, 0)] := by rw [List.take_succ_eq_append_getElem hj, zaa (0, 0, 0) hj]
 unfold cnt
 rw [e, List.countP_append]
 by_cases h0 : i = 0
 ·subst h0; rw [if_neg (by omega), if_pos rfl, if_pos rfl]
 ·by_cases hi : key (l.getD j (0, 0, 0)) + 1 = i
  ·subst hi; simp
  ·rw [if_neg hi, if_neg h0, if_neg h0]
   have : ¬ key (l.getD j (0, 0, 0)) = i - 1 := by omega
   rw [List.countP_singleton, if_neg (by simpa only [beq_iff_eq] using this)]; rfl
def mix (key : Sy.Edge -> Nat) (l : List Sy.Edge) (n i : Nat) : List Nat := (List.range (n + 1)).map fun m => if m <= i then Sy.below (fun e => (key e : Int)) l m else cnt key l m
theorem zg7 (key : Sy.Edge -> Nat) (l : List Sy.Edge) (n i : Nat) : (mix key l n i).length = n + 1 := by simp [mix]
theorem zlp (key : Sy.Edge -> Nat) (l : List Sy.Edge) (n : Nat) : mix key l n 0 = (List.range (n + 1)).map (cnt key l) := by
 refine List.map_congr_left fun m _ => ?_
 by_cases h : m <= 0
 ·obtain rfl : m = 0 := by omega
  rw [if_pos h, Sy.zHt _ _ (fun x _ => by omega)]; rfl
 ·rw [if_neg h]
theorem zod (key : Sy.Edge -> Nat) (l : List Sy.Edge) (n : Nat) : mix key l n n = (List.range (n + 1)).map fun i => Sy.below (fun e => (key e : Int)) l i := by
 refine List.map_congr_left fun m hm => ?_
 rw [if_pos (by have := List.mem_range.1 hm; omega)]
theorem zlo (key : Sy.Edge -> Nat) (l : List Sy.Edge) (n i m : Nat) (h : m < n + 1) : (mix key l n i).getD m 0 = if m <= i then Sy.below (fun e => (key e : Int)) l m else cnt key l m := by
 simp [mix, List.getD, h]
theorem zvw (key : Sy.Edge -> Nat) (l : List Sy.Edge) (n i : Nat) (h : i < n) : (mix key l n i).set (i + 1) ((mix key l n i).getD (i + 1) 0 + (mix key l n i).getD i 0) = mix key l n (i + 1) := by
 rw [zlo _ _ _ _ _ (by omega), zlo _ _ _ _ _ (by omega), if_neg (by omega), if_pos (Nat.le_refl _)]
 have hb := Sy.zFp (fun e => (key e : Int)) l i
 have hc : cnt key l (i + 1) = l.countP fun x => decide ((key x : Int) = (i : Int)) := by
  unfold cnt; rw [if_neg (by omega)]
  refine List.countP_congr (fun x _ => ?_)
  simp
  omega
 refine List.ext_getElem (by simp [mix]) fun m h1 h2 => ?_
 rw [List.getElem_set]
 simp only [mix, List.getElem_map, List.getElem_range]
 by_cases hm : i + 1 = m
 ·subst hm; rw [if_pos rfl, if_pos (Nat.le_refl _), hb, hc]; omega
 ·rw [if_neg hm]
  by_cases h3 : m <= i
  ·rw [if_pos h3, if_pos (by omega)]
  ·rw [if_neg h3, if_neg (by omega)]
theorem zD1.next {w w7 x8 x9 : World} {rb n j z c : Nat} {va av' : Value} {ao : Option Addr} {cv : Nat} {key : Sy.Edge -> Nat} {stp : Sy.Edge -> Int × Int} {l : List Sy.Edge} {x : Sy.Edge} {y1 y2 : Int} {o : Obj}
  (h : zD1 w w7 rb n va j (za7 ((l.take j).map stp)) (((List.range (n + 1)).map (cnt key (l.take j))).set (z + 1) (c + 1))) (hj : j < l.length) (ab : va = .slice ao j cv) (hx : l.getD j (0, 0, 0) = x) (hz : key x = z) (hy : stp x = (y1, y2))
  (hc : cnt key (l.take j) (z + 1) = c) (ac : z < n) (hu : Up w7 x8) (aa : x9.ownsRow (rb + 1) 169 2 av' (j + 1) (za7 ((l.take j).map stp) ++ [.int .i64 y1, .int .i64 y2])) (hg : (x8.alloc o).grownBy x9 (Value.slice ao j cv).ownBlock) :
  zD1 w (x9.setCell ⟨rb, 0, none⟩ av') rb n av' (j + 1) (za7 ((l.take (j + 1)).map stp)) ((List.range (n + 1)).map (cnt key (l.take (j + 1)))) := by
 have e1 : za7 ((l.take j).map stp) ++ [.int .i64 y1, .int .i64 y2] = za7 ((l.take (j + 1)).map stp) := by
  rw [List.take_succ_eq_append_getElem hj, zaa (0, 0, 0) hj, hx, List.map_append, List.map_cons, List.map_nil, hy, zb7]; rfl
 have e2 := zwl key l j n hj (by rw [hx, hz]; exact ac)
 rw [hx, hz, hc] at e2
 rw [e1] at aa
 rw [e2] at h
 exact (h.mono (hu.alloc o)).push aa (by rw [ab]; exact hg)
theorem zD1.done {w wr : World} {rb n j : Nat} {va u0 u1 : Value} {ao : Option Addr} {cv : Nat} {xs : List Value} {cs : List Nat} (h : zD1 w wr rb n va j xs cs) (ab : va = .slice ao j cv) (hu : u1 = .slice (some ⟨w.heap.size + 1, 0, none⟩) (n + 1) (n + 1)) (hx : xs.length = j * 2) :
  ((wr.setCell ⟨w.heap.size, 0, none⟩ (.slice ao j cv)).setCell ⟨w.heap.size, 1, none⟩ u1).cell? ⟨w.heap.size, 0, none⟩ = some (.slice ao j cv) /\
  ((wr.setCell ⟨w.heap.size, 0, none⟩ (.slice ao j cv)).setCell ⟨w.heap.size, 1, none⟩ u1).cell? ⟨w.heap.size, 1, none⟩ = some u1 /\
  Up w ((wr.setCell ⟨w.heap.size, 0, none⟩ (.slice ao j cv)).setCell ⟨w.heap.size, 1, none⟩ u1) /\
  Row ((wr.setCell ⟨w.heap.size, 0, none⟩ (.slice ao j cv)).setCell ⟨w.heap.size, 1, none⟩ u1) (w.heap.size + 1) 3 (n + 1) (ints cs) /\
  ((wr.setCell ⟨w.heap.size, 0, none⟩ (.slice ao j cv)).setCell ⟨w.heap.size, 1, none⟩ u1).ownsRow w.heap.size 169 2 (.slice ao j cv) j xs := by
 subst ab
 have aa : Row wr w.heap.size 188 2 [.slice none 0 0, .slice none 0 0] := ⟨_, h.res, rfl, by simp, rfl⟩
 have h1 := (aa.set 0 (.slice ao j cv)).set 1 u1
 have h2 := h.rb2
 have hb : ∀ k, k ≠ w.heap.size -> ((wr.setCell ⟨w.heap.size, 0, none⟩ (.slice ao j cv)).setCell ⟨w.heap.size, 1, none⟩ u1).heap[k]? = wr.heap[k]? := fun k hk =>
  (Below.heap_setCell _ ⟨w.heap.size, 1, none⟩ _ k hk).trans (Below.heap_setCell _ ⟨w.heap.size, 0, none⟩ _ k hk)
 refine ⟨h1.cell rfl, h1.cell rfl, (h.up.setCell (Nat.le_refl _) _).setCell (Nat.le_refl _) _, h.row.keep (hb _ (by omega)), za8 (za2 h.own (fun g hg => hb g (by have := (h.own.lt g hg).1; omega))) (by omega)⟩
theorem zq0 (fk fs : Nat) (key : Sy.Edge -> Nat) (stp : Sy.Edge -> Int × Int) (n : Nat) (l : List Sy.Edge) (v : Value) (w : World) (ek : ∀ args w, (callFunc fk args).run prog w = .ok (.enter fk args) w) (es : ∀ args w, (callFunc fs args).run prog w = .ok (.enter fs args) w)
  (hk : ∀ e ∈ l, ∀ W, Calls prog fk #[.agg #[.int .i64 e.1, .int .i64 e.2.1, .int .i64 e.2.2]] W fun r w' => r = .returned (.int .i64 (key e : Nat)) /\ w' = W.alloc (.cells #[.int .i64 e.1, .int .i64 e.2.1, .int .i64 e.2.2] 60))
  (hs : ∀ e ∈ l, ∀ W, Calls prog fs #[.agg #[.int .i64 e.1, .int .i64 e.2.1, .int .i64 e.2.2]] W fun r w' => r = .returned (.agg #[.int .i64 (stp e).1, .int .i64 (stp e).2]) /\ w' = (W.alloc (.cells #[.int .i64 e.1, .int .i64 e.2.1, .int .i64 e.2.2] 60)).alloc (.cells #[.int .i64 (stp e).1, .int .i64 (stp e).2] 169))
  (hv : Ls3 w v l) (hn : n <= 1000) (hl : l.length <= 1000000) (aq : ∀ e ∈ l, key e < n) :
  Calls prog 115 #[.int .i64 n, v, .func (.func fk) #[] #[], .func (.func fs) #[] #[]] w (zkh w n (l.map stp) ((List.range (n + 1)).map fun i => Sy.below (fun e => (key e : Int)) l i)) := by
 obtain ⟨i0, hi, aY, aZ, a0⟩ := info_parts Tryz.zFu
 obtain ⟨j0, hj, gz0, gz1, gz2⟩ := info_parts Tryz.zIp
 obtain ⟨ao, cap, g, off, rfl, ha, hc⟩ := hv
 obtain ⟨k, aI⟩ := nm (l.length)
 rw [<- aI] at ha hl ⊢
 have HA := zh ha
 have HC := zh hc
 have HK := zh aI
 have a1 := zh hk
 have a2 := zh hs
 have aJ := zh aq
 clear ha hc aI hk hs aq
 go_enter func115, ntmps115
 go_wp2_with (at_make; refine wpList_make_full _ rfl _ _ 27 rfl 0 3 i0 (.int .i64 0) 1 underlying27 hi aY aZ _ _ _ _ (n + 1) rfl rfl rfl rfl (by rw [a0]; omega) (by unfold maxLen; omega) (Nat.zero_le _) ?_; intro w1 au af)
 have ag : w1.ownsRow 0 3 1 (.slice (some ⟨w.heap.size + 1, 0, none⟩) (n + 1) (n + 1)) (n + 1) (madeCells (Value.int .i64 0).cells ((n + 1) * 1)).toList := by simpa using au
 have R0 := zD1.start (cs := madeCells (Value.int .i64 0).cells ((n + 1) * 1)) ag (by rw [Nat.mul_one, zcm]; exact toList_madeCells_one _ _) af
 clear au ag af
 replace R0 := zh R0
 revert R0
 generalize w1.heap.size = rb
 intro a3
 go_loopw [19] (fun s wr => ∃ (j : Nat) (va : Value), s = .int .i64 j /\ j <= k /\ Hid (zD1 w wr rb n va j (za7 ((l.take j).map stp)) ((List.range (n + 1)).map (cnt key (l.take j))))) (fun s _ => k - (intOf s).toNat)
 case atStart => exact ⟨0, _, rfl, Nat.zero_le _, by rw [List.take_zero, zxq]; exact a3⟩
 case round =>
  obtain ⟨j, va, rfl, bp, HR⟩ := hrel
  by_cases hlt : j < k
  ·obtain rfl := HA.out (by omega)
   have aw : j < l.length := by rw [<- HK.out]; exact hlt
   have ac : l.getD j (0, 0, 0) ∈ l := by rw [<- zaa (0, 0, 0) aw]; exact List.getElem_mem aw
   obtain ⟨x, hx⟩ : ∃ x, l.getD j (0, 0, 0) = x := ⟨_, rfl⟩
   have al := HC.out j aw
   rw [hx] at ac al
   obtain ⟨z, hz⟩ : ∃ z, key x = z := ⟨_, rfl⟩
   obtain ⟨y, hy⟩ : ∃ y, stp x = y := ⟨_, rfl⟩
   have a4 : z < n := by rw [<- hz]; exact aJ.out x ac
   have aE := a1.out x ac
   have aF := a2.out x ac
   rw [hz] at aE
   rw [hy] at aF
   obtain ⟨x1, x2, x3⟩ := x
   obtain ⟨y1, y2⟩ := y
   simp only at al aE aF
   have hR := HR.out
   have d0 := hR.up.cell al.1
   have d1 := hR.up.cell al.2.1
   have d2 := hR.up.cell al.2.2
   have HX := zh hx
   have HZ := zh hz
   have HY := zh hy
   have a5 := zh aw
   obtain ⟨c, aK⟩ : ∃ c, cnt key (l.take j) (z + 1) = c := ⟨_, rfl⟩
   have aT := zh aK
   obtain ⟨w5, ax⟩ := nm (wr.alloc (.cells #[.int .i64 x1, .int .i64 x2, .int .i64 x3] 60))
   have aL : Up wr w5 := by rw [ax]; exact (Up.refl wr).alloc _
   have ay := hR.mono aL
   have aA : w5.heap[wr.heap.size]? = some (.cells #[.int .i64 x1, .int .i64 x2, .int .i64 x3] 60 (0, 0)) := by rw [ax]; exact heap_alloc_new wr _
   have e0 : w5.cell? ⟨wr.heap.size, 0, none⟩ = some (.int .i64 x1) := by simp [World.cell?, aA]
   have e1 : w5.cell? ⟨wr.heap.size, 1, none⟩ = some (.int .i64 x2) := by simp [World.cell?, aA]
   have e2 : w5.cell? ⟨wr.heap.size, 2, none⟩ = some (.int .i64 x3) := by simp [World.cell?, aA]
   have b1 : w5.cell? ⟨rb, 1, none⟩ = some (.slice (some ⟨w.heap.size + 1, 0, none⟩) (n + 1) (n + 1)) := by simp [World.cell?, ay.box]
   have f1 : w5.cell? ⟨w.heap.size + 1, z + 1, none⟩ = some (.int .i64 (c : Nat)) := ay.row.cell (by
    rw [zai (by simp; omega)]
    simp [List.getD, show z + 1 < n + 1 by omega, aK])
   have f2 : w5.frozen? ⟨w.heap.size + 1, z + 1, none⟩ = false := ay.row.free _
   have a6 : Hid (∀ x, Up w5 x -> Calls prog fk #[.agg #[.int .i64 x1, .int .i64 x2, .int .i64 x3]] x fun r x' => r = .returned (.int .i64 (z : Nat)) /\
     (x'.cell? ⟨rb, 1, none⟩ = some (.slice (some ⟨w.heap.size + 1, 0, none⟩) (n + 1) (n + 1)) /\ x'.cell? ⟨w.heap.size + 1, z + 1, none⟩ = some (.int .i64 (c : Nat)) /\ x'.frozen? ⟨w.heap.size + 1, z + 1, none⟩ = false /\ x'.cell? ⟨wr.heap.size, 0, none⟩ = some (.int .i64 x1) /\ x'.cell? ⟨wr.heap.size, 1, none⟩ = some (.int .i64 x2) /\ x'.cell? ⟨wr.heap.size, 2, none⟩ = some (.int .i64 x3)) /\ Up w5 x') := zh (fun x hu =>
    (aE x).mono fun r x' ⟨hr, aM⟩ => by
     have aa : Up w5 x' := by rw [aM]; exact hu.alloc _
     exact ⟨hr, ⟨aa.cell b1, aa.cell f1, (aa.free f1).trans f2, aa.cell e0, aa.cell e1, aa.cell e2⟩, aa⟩)
   have aU := And.intro b1 (And.intro f1 (And.intro f2 (And.intro e0 (And.intro e1 e2))))
   have a7 := zh ay
   have a8 := zh aF
   have aV := zh aA
   clear hx hz hy aK hR ay al aE aF ac aA aw
   go_upto_region 5 with fail
   rw [<- ax]
   have bq := zh ax
   have br := zh aL
   clear ax d0 d1 d2 aL
   have qz : (z : Int) + 1 < (n : Int) + 1 := by omega
   have qz1 : (z : Int) + 1 < ((n + 1 : Nat) : Int) := by omega
   have qz2 : (0 : Int) <= (z : Int) + 1 := by omega
   have qz3 : IntKind.i64.wrap ((z : Int) + 1) = (z : Int) + 1 := by simp [IntKind.wrap, IntKind.bits, IntKind.signed]; omega
   have qz4 : ((z : Int) + 1).toNat = z + 1 := by omega
   have qc : c <= j := by rw [<- aT.out]; unfold cnt; rw [if_neg (by omega)]; exact Nat.le_trans List.countP_le_length (by rw [List.length_take]; omega)
   have qc3 : IntKind.i64.wrap ((c : Int) + 1) = (c : Int) + 1 := by simp [IntKind.wrap, IntKind.bits, IntKind.signed]; omega
   refine za9 10 [(0, true), (1, true), (2, true), (3, true), (4, false), (5, true), (6, true), (7, true), (8, true), (9, true)] (fun w' => w'.cell? ⟨rb, 1, none⟩ = some (.slice (some ⟨w.heap.size + 1, 0, none⟩) (n + 1) (n + 1)) /\ w'.cell? ⟨w.heap.size + 1, z + 1, none⟩ = some (.int .i64 (c : Nat)) /\ w'.frozen? ⟨w.heap.size + 1, z + 1, none⟩ = false /\ w'.cell? ⟨wr.heap.size, 0, none⟩ = some (.int .i64 x1) /\ w'.cell? ⟨wr.heap.size, 1, none⟩ = some (.int .i64 x2) /\ w'.cell? ⟨wr.heap.size, 2, none⟩ = some (.int .i64 x3)) (by kernel_rfl) (by kernel_rfl) (fun _ _ _ _ _ h => h) aU ?_
   iterate 4
    refine WO.still rfl rfl (fun K hK => ?_)
    apply Exists.intro
    refine ⟨?_, hK _ ?_⟩
    ·intro w' hS
     obtain ⟨s1, s2, s3, s4, s5, s6⟩ := hS
     go_simp
     first | done | rfl | exact ⟨rfl, rfl⟩
    clear hK K
   refine WO.act rfl rfl (fun K hK => ?_)
   go_simp
   go_at_fn fk
   refine (a6.out _ (by repeat (first | (with_reducible exact Up.refl _) | assumption | (with_reducible apply Up.alloc) | (with_reducible apply Up.drewN) | (with_reducible apply Up.drew)))).mono ?_
   rintro r x6 ⟨rfl, aW, aN⟩
   refine hK _ _ aW ?_
   clear hK K
   iterate 5
    refine WO.still rfl rfl (fun K hK => ?_)
    apply Exists.intro
    refine ⟨?_, hK _ ?_⟩
    ·intro w' hS
     obtain ⟨s1, s2, s3, s4, s5, s6⟩ := hS
     go_simp
     first | done | rfl | exact ⟨rfl, rfl⟩
    clear hK K
   obtain ⟨g0, g1, g2, -⟩ := aW
   refine WO.last rfl rfl (fun K hK => ?_)
   go_simp
   refine hK _ _ ?_
   clear hK K
   have ai := (a7.out.mono aN).count (z + 1) (c + 1)
   rw [show ((c + 1 : Nat) : Int) = (c : Int) + 1 by omega] at ai
   obtain ⟨w7, aG⟩ := nm (x6.setCell ⟨w.heap.size + 1, z + 1, none⟩ (.int .i64 ((c : Int) + 1)))
   rw [<- aG] at ai ⊢
   have bt := zh aG
   have aB := zh ai
   obtain ⟨av, cv, aj⟩ := za1 ai.own
   have b0 : w7.cell? ⟨rb, 0, none⟩ = some va := by simp [World.cell?, ai.box]
   have aC := zh ai.own
   rw [aj] at b0 aC
   have am := zh aj
   have bu : j <= 1000000 := by omega
   have aH : Hid (w7.heap[wr.heap.size]? = some (.cells #[.int .i64 x1, .int .i64 x2, .int .i64 x3] 60 (0, 0))) := zh (by
    rw [aG]
    exact (Below.heap_setCell x6 ⟨w.heap.size + 1, z + 1, none⟩ _ wr.heap.size (by have := HR.out.row.lt; simp; omega)).trans ((aN.block _ (za0 aV.out)).trans aV.out))
   have h2 : w7.cell? ⟨wr.heap.size, 0, none⟩ = some (.int .i64 x1) /\ w7.cell? ⟨wr.heap.size, 1, none⟩ = some (.int .i64 x2) /\ w7.cell? ⟨wr.heap.size, 2, none⟩ = some (.int .i64 x3) := by
    have hb := aH.out
    exact ⟨by simp [World.cell?, hb], by simp [World.cell?, hb], by simp [World.cell?, hb]⟩
   clear aG ai aj aN g0 g1 g2 aU b1 f1 f2 e0 e1 e2
   have aO : Hid (rb + 1 <= w7.heap.size) := zh aB.out.big
   have ba := And.intro b0 h2
   have aP : Hid (∀ x, Up w7 x -> Calls prog fs #[.agg #[.int .i64 x1, .int .i64 x2, .int .i64 x3]] x fun r x' => r = .returned (.agg #[.int .i64 y1, .int .i64 y2]) /\ (x'.cell? ⟨rb, 0, none⟩ = some (.slice av j cv) /\ x'.cell? ⟨wr.heap.size, 0, none⟩ = some (.int .i64 x1) /\ x'.cell? ⟨wr.heap.size, 1, none⟩ = some (.int .i64 x2) /\ x'.cell? ⟨wr.heap.size, 2, none⟩ = some (.int .i64 x3)) /\ Up w7 x') := zh (fun x hu =>
    (a8.out x).mono fun r x' ⟨hr, aM⟩ => by
     have aa : Up w7 x' := by rw [aM]; exact (hu.alloc _).alloc _
     exact ⟨hr, ⟨aa.cell b0, aa.cell h2.1, aa.cell h2.2.1, aa.cell h2.2.2⟩, aa⟩)
   have bb : Hid (∀ (x' x'' : World), Up w7 x' -> x'.grownBy x'' (Value.slice av j cv).ownBlock -> (x''.cell? ⟨rb, 0, none⟩ = some (.slice av j cv) /\ x''.cell? ⟨wr.heap.size, 0, none⟩ = some (.int .i64 x1) /\ x''.cell? ⟨wr.heap.size, 1, none⟩ = some (.int .i64 x2) /\ x''.cell? ⟨wr.heap.size, 2, none⟩ = some (.int .i64 x3)) /\ x''.frozen? ⟨rb, 0, none⟩ = false) := zh (fun x' x'' hu hg => by
    have aQ := aB.out.box
    rw [am.out] at aQ
    have h1 := (hu.block _ (za0 aQ)).trans aQ
    have h2 := (hg.block _ (za0 h1) (fun e => by have := (aB.out.own.lt rb (by rw [am.out]; exact e.symm)).1; omega)).trans h1
    have k1 := (hu.block _ (za0 aH.out)).trans aH.out
    have k2 := (hg.block _ (za0 k1) (fun e => by
     obtain ⟨cur, ak⟩ := za5 aB.out.own (by rw [am.out]; exact e.symm)
     rw [aH.out] at ak
     simp only [Option.some.injEq, Obj.cells.injEq] at ak
     exact absurd ak.2.1 (by decide))).trans k1
    exact ⟨⟨by simp [World.cell?, h2], by simp [World.cell?, k2], by simp [World.cell?, k2], by simp [World.cell?, k2]⟩, by simp [World.frozen?, h2]⟩)
   go_upto_region 6 with fail
   refine za9 8 [(0, true), (1, true), (2, true), (3, true), (4, false), (5, false), (6, false), (7, true)] (fun w' => w'.cell? ⟨rb, 0, none⟩ = some (.slice av j cv) /\ w'.cell? ⟨wr.heap.size, 0, none⟩ = some (.int .i64 x1) /\ w'.cell? ⟨wr.heap.size, 1, none⟩ = some (.int .i64 x2) /\ w'.cell? ⟨wr.heap.size, 2, none⟩ = some (.int .i64 x3)) (by kernel_rfl) (by kernel_rfl) (fun _ _ _ _ _ h => h) ba ?_
   iterate 4
    refine WO.still rfl rfl (fun K hK => ?_)
    apply Exists.intro
    refine ⟨?_, hK _ ?_⟩
    ·intro w' hS
     obtain ⟨s1, s2, s3, s4⟩ := hS
     go_simp
     first | done | rfl | exact ⟨rfl, rfl⟩
    clear hK K
   refine WO.act rfl rfl (fun K hK => ?_)
   go_simp
   go_at_fn fs
   refine (aP.out _ (by repeat (first | (with_reducible exact Up.refl _) | assumption | (with_reducible apply Up.alloc) | (with_reducible apply Up.drewN) | (with_reducible apply Up.drew)))).mono ?_
   rintro r x8 ⟨rfl, an, aD⟩
   refine hK _ _ an ?_
   clear hK K
   refine WO.act rfl rfl (fun K hK => ?_)
   go_simp
   refine hK _ _ ?_ ?_
   ·have aa := (Up.refl x8).alloc (.cells #[.int .i64 y1, .int .i64 y2] 169)
    exact ⟨aa.cell an.1, aa.cell an.2.1, aa.cell an.2.2.1, aa.cell an.2.2.2⟩
   clear hK K
   refine WO.act rfl rfl (fun K hK => ?_)
   refine wp_append_own (.tmp 34) (.tmp 38) 154 rfl (rb + 1) 169 j0 (.agg #[.int .i64 0, .int .i64 0]) 2 16 underlying154 hj gz0 gz1 gz2 rfl (by decide) (.slice av j cv) j _ rfl (Up.owns (w := w7) (aD.alloc _) aC.out) _ 1 1 [.int .i64 y1, .int .i64 y2] rfl rfl (zby _ _ _ _) (zg1 (y1, y2)) (by unfold maxLen; omega) (by omega) (by have h1 := aO.out; have h2 := aD.size; simp only [World.size_alloc]; omega) ?_
   intro v' x9 ad ab bc
   obtain ⟨a9, c9, rfl⟩ := za1 ad
   obtain ⟨aX, m1⟩ := bb.out _ _ (aD.alloc _) ab
   refine hK _ _ aX ?_
   clear hK K
   refine WO.still rfl rfl (fun K hK => ?_)
   apply Exists.intro
   refine ⟨?_, hK _ ?_⟩
   ·intro w' hS
    rfl
   clear hK K
   obtain ⟨m0, -⟩ := aX
   refine WO.last rfl rfl (fun K hK => ?_)
   go_simp
   refine hK _ _ ?_
   clear hK K
   all_goals (
    have HN := zh (aB.out.next a5.out am.out HX.out HZ.out HY.out aT.out a4 aD ad ab)
    clear ad ab aD m0 m1 an
    go_wp2_with fail
    go_roundw
    case rel => exact ⟨j + 1, _, by go_num, by omega, HN⟩
    case measure => simp [intOf]; omega)
  ·obtain rfl : j = k := by omega
   have hR := HR.out
   rw [HK.out, List.take_length, <- HK.out] at hR
   rw [<- zlp] at hR
   have bd := zh hR
   clear hR HR
   go_wp2_with fail
   go_loopw [43] (fun s wq => ∃ (i : Nat), s = .int .i64 i /\ i <= n /\ Hid (zD1 w wq rb n va j (za7 (l.map stp)) (mix key l n i))) (fun s _ => n - (intOf s).toNat)
   case atStart => exact ⟨0, rfl, Nat.zero_le _, bd⟩
   case round =>
    obtain ⟨i, rfl, bv, HM⟩ := hrel
    by_cases hlt2 : i < n
    ·have hM := HM.out
     obtain ⟨p, hp⟩ : ∃ p, (mix key l n i).getD (i + 1) 0 = p := ⟨_, rfl⟩
     obtain ⟨q, hq⟩ : ∃ q, (mix key l n i).getD i 0 = q := ⟨_, rfl⟩
     have be : wr.cell? ⟨rb, 1, none⟩ = some (.slice (some ⟨w.heap.size + 1, 0, none⟩) (n + 1) (n + 1)) := by simp [World.cell?, hM.box]
     have bw : wr.cell? ⟨w.heap.size + 1, i + 1, none⟩ = some (.int .i64 (p : Nat)) := hM.row.cell (by rw [zai (by rw [zg7]; omega), hp])
     have bx : wr.cell? ⟨w.heap.size + 1, i, none⟩ = some (.int .i64 (q : Nat)) := hM.row.cell (by rw [zai (by rw [zg7]; omega), hq])
     have bz : wr.frozen? ⟨w.heap.size + 1, i + 1, none⟩ = false := hM.row.free _
     have bA : p <= 1000000 := by
      rw [<- hp, zlo _ _ _ _ _ (by omega), if_neg (by omega)]
      unfold cnt; rw [if_neg (by omega)]; exact Nat.le_trans List.countP_le_length (by rw [<- HK.out]; exact hl)
     have bB : q <= 1000000 := by
      rw [<- hq, zlo _ _ _ _ _ (by omega), if_pos (Nat.le_refl _)]
      exact Nat.le_trans (Sy.below_le _ _ _) (by rw [<- HK.out]; exact hl)
     have ae := hM.count (i + 1) (p + q)
     rw [<- hp, <- hq, zvw key l n i hlt2, hp, hq, show ((p + q : Nat) : Int) = (p : Int) + (q : Int) by omega] at ae
     have bf := zh ae
     have qi1 : (i : Int) + 1 < ((n + 1 : Nat) : Int) := by omega
     have qi2 : (0 : Int) <= (i : Int) + 1 := by omega
     have qi3 : IntKind.i64.wrap ((i : Int) + 1) = (i : Int) + 1 := by simp [IntKind.wrap, IntKind.bits, IntKind.signed]; omega
     have qi4 : ((i : Int) + 1).toNat = i + 1 := by omega
     have qi5 : (i : Int) < ((n + 1 : Nat) : Int) := by omega
     have qi6 : (i : Int) + 1 < (n : Int) + 1 := by omega
     have qi7 : (i : Int) < (n : Int) + 1 := by omega
     have qpq : IntKind.i64.wrap ((p : Int) + (q : Int)) = (p : Int) + (q : Int) := by simp [IntKind.wrap, IntKind.bits, IntKind.signed]; omega
     clear ae hM hp hq
     go_wp2_with fail
     go_region
     go_wp2_with fail
     go_roundw
     case rel => exact ⟨i + 1, by go_num, by omega, zh (bf.out.mono (Up.refl _).drew)⟩
     case measure => simp [intOf]; omega
    ·obtain rfl : i = n := by omega
     have hM := HM.out
     rw [zod] at hM
     obtain ⟨av, cv, aj⟩ := za1 hM.own
     have bh : wr.cell? ⟨rb, 0, none⟩ = some va := by simp [World.cell?, hM.box]
     have be : wr.cell? ⟨rb, 1, none⟩ = some (.slice (some ⟨w.heap.size + 1, 0, none⟩) (i + 1) (i + 1)) := by simp [World.cell?, hM.box]
     have bC : wr.cell? ⟨w.heap.size, 0, none⟩ = some (.slice none 0 0) := by simp [World.cell?, hM.res]
     have bD : wr.cell? ⟨w.heap.size, 1, none⟩ = some (.slice none 0 0) := by simp [World.cell?, hM.res]
     have bi : wr.frozen? ⟨w.heap.size, 0, none⟩ = false := by simp [World.frozen?, hM.res]
     have bj : wr.frozen? ⟨w.heap.size, 1, none⟩ = false := by simp [World.frozen?, hM.res]
     have bo := zh hM
     have am := zh aj
     rw [aj] at bh
     clear hM aj
     go_wp2_with fail
     have ah := zh (bo.out.done (u0 := .nilIface) am.out rfl (by rw [zbo, List.length_map, <- HK.out]))
     obtain ⟨aR, aS, -⟩ := ah.out
     refine bodyPost_ret (v := .agg #[.slice av j cv, .slice (some ⟨w.heap.size + 1, 0, none⟩) (i + 1) (i + 1)]) (by simp [results, results115, go_sem, aR, aS]) rfl ⟨_, rfl, ?_⟩
     obtain ⟨-, -, h1, h2, h3⟩ := ah.out
     refine ⟨h1, h2, ?_⟩
     rw [List.length_map, <- HK.out]
     exact h3
theorem za6 {w : World} {b : Nat} {a1 a2 a3 a4 : Value} {e : TypeId} (h : w.heap[b]? = some (.cells #[a1, a2, a3, a4] e (0, 0))) :
  (w.cell? ⟨b, 0, none⟩ = some a1 /\ w.cell? ⟨b, 1, none⟩ = some a2 /\ w.cell? ⟨b, 2, none⟩ = some a3 /\ w.cell? ⟨b, 3, none⟩ = some a4) /\
  (w.frozen? ⟨b, 0, none⟩ = false /\ w.frozen? ⟨b, 1, none⟩ = false /\ w.frozen? ⟨b, 2, none⟩ = false /\ w.frozen? ⟨b, 3, none⟩ = false) := by
 refine ⟨⟨?_, ?_, ?_, ?_⟩, ?_, ?_, ?_, ?_⟩ <;> simp [World.cell?, World.frozen?, h]
theorem zbf {W : World} {b : Nat} {a1 a2 a3 a4 : Value} {e : TypeId} (h : W.heap[b]? = some (.cells #[a1, a2, a3, a4] e (0, 0))) (u1 u2 u3 u4 : Value) :
  ((((((W.setCell ⟨b, 0, none⟩ u1).setCell ⟨b, 1, none⟩ u2).setCell ⟨b, 2, none⟩ u3).setCell ⟨b, 3, none⟩ u4).cell? ⟨b, 0, none⟩ = some u1 /\
   ((((W.setCell ⟨b, 0, none⟩ u1).setCell ⟨b, 1, none⟩ u2).setCell ⟨b, 2, none⟩ u3).setCell ⟨b, 3, none⟩ u4).cell? ⟨b, 1, none⟩ = some u2 /\
   ((((W.setCell ⟨b, 0, none⟩ u1).setCell ⟨b, 1, none⟩ u2).setCell ⟨b, 2, none⟩ u3).setCell ⟨b, 3, none⟩ u4).cell? ⟨b, 2, none⟩ = some u3 /\
   ((((W.setCell ⟨b, 0, none⟩ u1).setCell ⟨b, 1, none⟩ u2).setCell ⟨b, 2, none⟩ u3).setCell ⟨b, 3, none⟩ u4).cell? ⟨b, 3, none⟩ = some u4)) /\
  Turned (fun k => k = b) W ((((W.setCell ⟨b, 0, none⟩ u1).setCell ⟨b, 1, none⟩ u2).setCell ⟨b, 2, none⟩ u3).setCell ⟨b, 3, none⟩ u4) /\
  ((((W.setCell ⟨b, 0, none⟩ u1).setCell ⟨b, 1, none⟩ u2).setCell ⟨b, 2, none⟩ u3).setCell ⟨b, 3, none⟩ u4).heap[b]? = some (.cells #[u1, u2, u3, u4] e (0, 0)) := by
 have aa : Row W b e 4 [a1, a2, a3, a4] := ⟨_, h, rfl, by simp, rfl⟩
 have h1 := (((aa.set 0 u1).set 1 u2).set 2 u3).set 3 u4
 exact ⟨⟨h1.cell rfl, h1.cell rfl, h1.cell rfl, h1.cell rfl⟩, ((((Turned.refl (fun k => k = b) W).setCell (p := ⟨b, 0, none⟩) (.inl rfl) u1).setCell (p := ⟨b, 1, none⟩) (.inl rfl) u2).setCell (p := ⟨b, 2, none⟩) (.inl rfl) u3).setCell (p := ⟨b, 3, none⟩) (.inl rfl) u4, by simp [World.setCell, Array.getElem?_modify, h]⟩
theorem zrr (w : World) (A B : Obj) : Up w ((w.alloc A).alloc B) /\ ((w.alloc A).alloc B).heap[w.heap.size]? = some A /\ ((w.alloc A).alloc B).heap[w.heap.size + 1]? = some B /\ ((w.alloc A).alloc B).heap.size = w.heap.size + 2 := by
 refine ⟨((Up.refl w).alloc A).alloc B, (((Up.refl (w.alloc A)).alloc B).block _ (by simp)).trans (heap_alloc_new w A), ?_, by simp⟩
 have := heap_alloc_new (w.alloc A) B
 rwa [World.size_alloc] at this
def zyk (s : Sy.Lts) (w : World) (x : Value) (r : Ending) (w' : World) : Prop :=
 Up w w' /\ ((Sy.right s = true /\ ∃ v', r = .returned (.tuple #[zCb s v', .nilIface]) /\ w'.ownsRow w.heap.size 60 3 v' (Sy.sorted s).length (cells3 (Sy.sorted s))) \/
  (Sy.right s = false /\ ∃ pb, r = .returned (.tuple #[.agg #[.int .i64 0, .int .i64 0, .int .i64 0, .slice none 0 0], zac pb]) /\ w.heap.size <= pb /\ zas w' pb zar x))
theorem zr7 (s : Sy.Lts) (se : Value) (xt : TypeId) (xv : Value) (w : World) (hs : Ls3 w se s.es) (hE : w.cell? ⟨13, 0, none⟩ = some (.iface xt xv)) (hl : s.es.length <= maxLen) :
  Calls prog 114 #[zCb s se] w (zyk s w (.iface xt xv)) := by
 obtain ⟨ao, cap, g, off, rfl, ha, hc⟩ := hs
 have hs : Ls3 w (.slice ao s.es.length cap) s.es := ⟨ao, cap, g, off, rfl, ha, hc⟩
 have HC : Hid (∀ W, Up w W -> Calls prog 150 #[.agg #[.int .i64 s.n, .int .i64 s.m, .int .i64 s.start, .slice ao s.es.length cap]] W (Checked' s W (.iface xt xv))) := zh (fun W hu => zu0 s _ xt xv W (hs.up hu) (hu.cell hE) hl)
 have HS := zh hs
 obtain ⟨n, m, st, es⟩ := s
 obtain ⟨k, hk⟩ := nm (es.length)
 simp only at HC HS hl ⊢
 unfold zCb
 simp only
 rw [<- hk] at HC HS hl ⊢
 have HK := zh hk
 clear hk ha hc hs hE
 obtain ⟨aj, ak, al, am⟩ := zrr w (.cells #[.int .i64 n, .int .i64 m, .int .i64 st, .slice ao k cap] 24) (.cells #[.int .i64 0, .int .i64 0, .int .i64 0, .slice none 0 0] 24)
 have af := zh aj
 have ac := zh ak
 have aa := zh al
 clear aj ak al am
 go_enter func114, ntmps114
 go_wp2_with fail
 (with_reducible refine (HC.out _ af.out).mono ?_)
 revert af ac aa
 generalize (w.alloc (.cells #[.int .i64 n, .int .i64 m, .int .i64 st, .slice ao k cap] 24)).alloc (.cells #[.int .i64 0, .int .i64 0, .int .i64 0, .slice none 0 0] 24) = w2
 intro af ac aa
 rintro e w3 ⟨ad, h⟩
 obtain ⟨⟨c0, c1, c2, c3⟩, f0, f1, f2, f3⟩ := za6 ((ad.block _ (za0 ac.out)).trans ac.out)
 obtain ⟨⟨d0, d1, d2, d3⟩, g0, g1, g2, g3⟩ := za6 ((ad.block _ (za0 aa.out)).trans aa.out)
 rcases h with ⟨hr, rfl⟩ | ⟨hr, rfl, hf⟩
 ·have HR := zh hr
  have an : Hid (k <= 1000000) := zh (by have := ((Sy.zCj _).1 hr).len; simp only at this; rw [HK.out]; omega)
  have aq := zh (zqr es (.slice ao k cap) w3 (HS.out.up (af.out.trans ad)) (by rw [<- HK.out]; exact an.out))
  have ab := zh ad
  clear hr ad
  go_wp2_with fail
  (with_reducible refine aq.out.mono ?_)
  rintro e w4 ⟨v4, rfl, ae, ai⟩
  obtain ⟨a4, c4, rfl⟩ := za1 ae
  clear c0 c1 c2 c3 f0 f1 f2 f3 d0 d1 d2 d3 g0 g1 g2 g3
  obtain ⟨⟨c0, c1, c2, c3⟩, f0, f1, f2, f3⟩ := za6 ((ai.block _ (za0 ((ab.out.block _ (za0 ac.out)).trans ac.out))).trans ((ab.out.block _ (za0 ac.out)).trans ac.out))
  obtain ⟨⟨d0, d1, d2, d3⟩, g0, g1, g2, g3⟩ := za6 ((ai.block _ (za0 ((ab.out.block _ (za0 aa.out)).trans aa.out))).trans ((ab.out.block _ (za0 aa.out)).trans aa.out))
  have ag := zh ae
  have ah := zh ai
  clear ae ai
  go_wp2_with fail
  have au := (ah.out.block _ (za0 ((ab.out.block _ (za0 aa.out)).trans aa.out))).trans ((ab.out.block _ (za0 aa.out)).trans aa.out)
  have av : (w4.setCell ⟨w.heap.size, 3, none⟩ (.slice a4 (Sy.norm Sy.lt3 es).length c4)).heap[w.heap.size + 1]? = _ := (Below.heap_setCell w4 ⟨w.heap.size, 3, none⟩ _ (w.heap.size + 1) (by simp)).trans au
  obtain ⟨⟨z0, z1, z2, z3⟩, hT, -⟩ := zbf av (.int .i64 n) (.int .i64 m) (.int .i64 st) (.slice a4 (Sy.norm Sy.lt3 es).length c4)
  refine bodyPost_ret (v := .tuple #[.agg #[.int .i64 n, .int .i64 m, .int .i64 st, .slice a4 (Sy.norm Sy.lt3 es).length c4], .nilIface]) (by simp [results, results114, go_sem, z0, z1, z2, z3]) rfl ?_
  have aw : Up w w4 := (af.out.trans ab.out).trans ah.out
  have ax := aw.setCell (p := ⟨w.heap.size, 3, none⟩) (Nat.le_refl _) (.slice a4 (Sy.norm Sy.lt3 es).length c4)
  have ay : w.heap.size + 1 < w3.heap.size := za0 ((ab.out.block _ (za0 aa.out)).trans aa.out)
  refine ⟨zaj ax (by omega) hT, .inl ⟨HR.out, _, rfl, ?_⟩⟩
  refine za8 (za2 ag.out (fun gg hg => ?_)) (by omega : w.heap.size <= w3.heap.size)
  have aB := ag.out.lt gg hg
  exact (hT.block gg (by simp; omega) (by omega)).trans (Below.heap_setCell w4 ⟨w.heap.size, 3, none⟩ _ gg (by simp; omega))
 ·have HR := zh hr
  have ab := zh ad
  have HF := zh hf
  clear hr ad hf
  unfold zac
  go_wp2_with fail
  have aA := (ab.out.block _ (za0 aa.out)).trans aa.out
  obtain ⟨⟨z0, z1, z2, z3⟩, hT, -⟩ := zbf aA (.int .i64 0) (.int .i64 0) (.int .i64 0) (.slice none 0 0)
  refine bodyPost_ret (v := .tuple #[.agg #[.int .i64 0, .int .i64 0, .int .i64 0, .slice none 0 0], .iface 70 (.pointer (some ⟨w2.heap.size + 1, 0, none⟩))]) (by simp [results, results114, go_sem, z0, z1, z2, z3]) rfl ?_
  have ay : w.heap.size + 1 < w2.heap.size := za0 aa.out
  refine ⟨zaj (af.out.trans ab.out) (by omega) hT, .inr ⟨HR.out, w2.heap.size + 1, rfl, by omega, ?_⟩⟩
  exact (hT.block _ (za0 HF.out) (by omega)).trans HF.out
def zug (w : World) (vo : Value) (xs : List (Int × Int)) : Prop :=
 (vo = .slice none 0 0 /\ xs = []) \/ ∃ g c, vo = .slice (some ⟨g, 0, none⟩) xs.length c /\ xs.length <= c /\ c <= maxLen /\ zJj w g 0 xs
theorem zug.up {w w1 : World} {vo : Value} {xs : List (Int × Int)} (h : zug w vo xs) (hu : Up w w1) : zug w1 vo xs := by
 rcases h with h | ⟨g, c, h1, h2, h3, h4⟩
 ·exact .inl h
 ·exact .inr ⟨g, c, h1, h2, h3, fun i hi => ⟨hu.cell (h4 i hi).1, hu.cell (h4 i hi).2⟩⟩
theorem zwi {w : World} {base : Nat} {e : TypeId} {v : Value} {l : List (Int × Int)} (h : w.ownsRow base e 2 v l.length (za7 l)) : zug w v l := by
 rcases za4 h with ⟨rfl, h0, _⟩ | ⟨g, cap, rfl, hr, hn, hc, _⟩
 ·exact .inl ⟨rfl, List.eq_nil_of_length_eq_zero h0⟩
 ·exact .inr ⟨g, cap, rfl, hn, hc, hr.zKu⟩
structure RowsIn (w : World) (vo fo : Value) (n : Nat) (xs : List (Int × Int)) (cs : List Nat) : Prop where
 all : zug w vo xs
 frm : ∃ g, fo = .slice (some ⟨g, 0, none⟩) (n + 1) (n + 1) /\ Row w g 3 (n + 1) (ints cs)
theorem RowsIn.up {w w1 : World} {vo fo : Value} {n : Nat} {xs : List (Int × Int)} {cs : List Nat} (h : RowsIn w vo fo n xs cs) (hu : Up w w1) : RowsIn w1 vo fo n xs cs := by
 obtain ⟨g, hg, hr⟩ := h.frm
 exact ⟨h.all.up hu, g, hg, hu.row hr⟩
def zJ0 (key : Sy.Edge -> Nat) (l : List Sy.Edge) (n : Nat) : List Nat := (List.range (n + 1)).map fun i => Sy.below (fun e => (key e : Int)) l i
def zGr (e : Sy.Edge) : Nat := e.1.toNat
def kIn (e : Sy.Edge) : Nat := e.2.2.toNat
def zJx (e : Sy.Edge) : Int × Int := e.2
def sIn (e : Sy.Edge) : Int × Int := (e.2.1, e.1)
structure zCg (w : World) (B : Nat) (s : Sy.Lts) : Prop where
 box : ∃ se vo fo vi fi, w.heap[B]? = some (.cells #[.int .i64 s.n, .int .i64 s.m, .int .i64 s.start, se, vo, fo, vi, fi] 190 (0, 0)) /\ Ls3 w se (Sy.sorted s) /\
  RowsIn w vo fo s.n.toNat ((Sy.sorted s).map zJx) (zJ0 zGr (Sy.sorted s) s.n.toNat) /\ RowsIn w vi fi s.n.toNat ((Sy.turned s).map sIn) (zJ0 kIn (Sy.turned s) s.n.toNat)
theorem zCg.up {w w1 : World} {B : Nat} {s : Sy.Lts} (h : zCg w B s) (hu : Up w w1) : zCg w1 B s := by
 obtain ⟨se, vo, fo, vi, fi, hb, h1, h2, h3⟩ := h.box
 exact ⟨se, vo, fo, vi, fi, (hu.block B (za0 hb)).trans hb, h1.up hu, h2.up hu, h3.up hu⟩
def zwr (s : Sy.Lts) (w : World) (x : Value) (r : Ending) (w' : World) : Prop :=
 Up w w' /\ ((Sy.right s = true /\ ∃ B, r = .returned (.tuple #[.pointer (some ⟨B, 0, none⟩), .nilIface]) /\ w.heap.size <= B /\ zCg w' B s) \/
  (Sy.right s = false /\ ∃ pb, r = .returned (.tuple #[.pointer none, zac pb]) /\ w.heap.size <= pb /\ zas w' pb zar x))
theorem zco {w : World} {b : Nat} {a1 a2 a3 a4 a5 a6 a7 a8 : Value} {e : TypeId} (h : w.heap[b]? = some (.cells #[a1, a2, a3, a4, a5, a6, a7, a8] e (0, 0))) (i : Nat) (u : Value) (hu : [a1, a2, a3, a4, a5, a6, a7, a8][i]? = some u) :
  w.cell? ⟨b, i, none⟩ = some u /\ w.frozen? ⟨b, i, none⟩ = false := by
 refine ⟨?_, by simp [World.frozen?, h]⟩
 simp only [World.cell?, h]
 simpa using hu
structure NewAt (w W : World) (B : Nat) (s : Sy.Lts) (ve a b c d : Value) : Prop where
 up : Up w W
 box : W.heap[w.heap.size]? = some (.cells #[.int .i64 s.n, .int .i64 s.m, .int .i64 s.start, ve] 24 (0, 0))
 gr : W.heap[B]? = some (.cells #[.int .i64 s.n, .int .i64 s.m, .int .i64 s.start, ve, a, b, c, d] 190 (0, 0))
 own : W.ownsRow (w.heap.size + 1) 60 3 ve (Sy.sorted s).length (cells3 (Sy.sorted s))
 lt : w.heap.size < B
theorem NewAt.mono {w W W' : World} {B : Nat} {s : Sy.Lts} {ve a b c d : Value} (h : NewAt w W B s ve a b c d) (hu : Up W W') : NewAt w W' B s ve a b c d :=
 ⟨h.up.trans hu, (hu.block _ (za0 h.box)).trans h.box, (hu.block _ (za0 h.gr)).trans h.gr, hu.owns h.own, h.lt⟩
theorem NewAt.start {w w1 w2 : World} {s : Sy.Lts} {ao av : Option Addr} {k cap cv : Nat} (h1 : Up w w1) (h2 : Up w1 w2) (ab : w1.heap[w.heap.size]? = some (.cells #[.int .i64 s.n, .int .i64 s.m, .int .i64 s.start, .slice ao k cap] 24 (0, 0)))
  (aa : w2.heap[w.heap.size]? = some (.cells #[.int .i64 s.n, .int .i64 s.m, .int .i64 s.start, .slice ao k cap] 24 (0, 0)))
  (ho : w2.ownsRow w1.heap.size 60 3 (.slice av (Sy.sorted s).length cv) (Sy.sorted s).length (cells3 (Sy.sorted s))) :
  NewAt w (((((w2.setCell ⟨w.heap.size, 0, none⟩ (.int .i64 s.n)).setCell ⟨w.heap.size, 1, none⟩ (.int .i64 s.m)).setCell ⟨w.heap.size, 2, none⟩ (.int .i64 s.start)).setCell ⟨w.heap.size, 3, none⟩ (.slice av (Sy.sorted s).length cv)).alloc (.cells #[.int .i64 s.n, .int .i64 s.m, .int .i64 s.start, .slice av (Sy.sorted s).length cv, .slice none 0 0, .slice none 0 0, .slice none 0 0, .slice none 0 0] 190)) w2.heap.size s (.slice av (Sy.sorted s).length cv) (.slice none 0 0) (.slice none 0 0) (.slice none 0 0) (.slice none 0 0) := by
 obtain ⟨-, hT, hb⟩ := zbf aa (.int .i64 s.n) (.int .i64 s.m) (.int .i64 s.start) (.slice av (Sy.sorted s).length cv)
 have hl := za0 ab
 have ac := za0 aa
 have hu := zaj (h1.trans h2) (Nat.le_refl _) hT
 refine ⟨hu.alloc _, ?_, ?_, ?_, ac⟩
 ·exact (Below.heap_alloc _ _ _ (za0 hb)).trans hb
 ·have := heap_alloc_new (((((w2.setCell ⟨w.heap.size, 0, none⟩ (.int .i64 s.n)).setCell ⟨w.heap.size, 1, none⟩ (.int .i64 s.m)).setCell ⟨w.heap.size, 2, none⟩ (.int .i64 s.start)).setCell ⟨w.heap.size, 3, none⟩ (.slice av (Sy.sorted s).length cv))) (.cells #[.int .i64 s.n, .int .i64 s.m, .int .i64 s.start, .slice av (Sy.sorted s).length cv, .slice none 0 0, .slice none 0 0, .slice none 0 0, .slice none 0 0] 190)
  simpa only [World.size_setCell] using this
 ·refine (za8 (za2 ho (fun g hg => ?_)) (by omega)).alloc _
  have := ho.lt g hg
  exact hT.block g this.2 (by omega)
structure zDi (W : World) (B : Nat) (vo fo : Value) (n : Nat) (xs : List (Int × Int)) (cs : List Nat) : Prop where
 all : W.ownsRow (B + 1) 169 2 vo xs.length (za7 xs)
 frm : ∃ g, B < g /\ fo = .slice (some ⟨g, 0, none⟩) (n + 1) (n + 1) /\ Row W g 3 (n + 1) (ints cs)
theorem zDi.mono {W W' : World} {B : Nat} {vo fo : Value} {n : Nat} {xs : List (Int × Int)} {cs : List Nat} (h : zDi W B vo fo n xs cs) (hu : Up W W') : zDi W' B vo fo n xs cs := by
 obtain ⟨g, h1, h2, h3⟩ := h.frm
 exact ⟨hu.owns h.all, g, h1, h2, hu.row h3⟩
theorem zDi.set {W : World} {B : Nat} {vo fo : Value} {n : Nat} {xs : List (Int × Int)} {cs : List Nat} (h : zDi W B vo fo n xs cs) (i : Nat) (u : Value) : zDi (W.setCell ⟨B, i, none⟩ u) B vo fo n xs cs := by
 obtain ⟨g, h1, h2, h3⟩ := h.frm
 have aa : ∀ k, k ≠ B -> (W.setCell ⟨B, i, none⟩ u).heap[k]? = W.heap[k]? := fun k hk => Below.heap_setCell W ⟨B, i, none⟩ u k hk
 exact ⟨za2 h.all (fun g hg => aa g (by have := (h.all.lt g hg).1; omega)), g, h1, h2, h3.keep (aa g (by omega))⟩
theorem zDi.into {W : World} {B : Nat} {vo fo : Value} {n : Nat} {xs : List (Int × Int)} {cs : List Nat} (h : zDi W B vo fo n xs cs) : RowsIn W vo fo n xs cs := by
 obtain ⟨g, h1, h2, h3⟩ := h.frm
 exact ⟨zwi h.all, g, h2, h3⟩
theorem NewAt.set {w W : World} {B : Nat} {s : Sy.Lts} {ve a b c d : Value} (h : NewAt w W B s ve a b c d) (ad : ve.ownBlock ≠ some B) (u v : Value) :
  NewAt w ((W.setCell ⟨B, 4, none⟩ u).setCell ⟨B, 5, none⟩ v) B s ve u v c d /\ NewAt w ((W.setCell ⟨B, 6, none⟩ u).setCell ⟨B, 7, none⟩ v) B s ve a b u v := by
 have ac := h.lt
 have aa : ∀ i j k, k ≠ B -> ((W.setCell ⟨B, i, none⟩ u).setCell ⟨B, j, none⟩ v).heap[k]? = W.heap[k]? := fun i j k hk =>
  (Below.heap_setCell _ ⟨B, j, none⟩ v k hk).trans (Below.heap_setCell W ⟨B, i, none⟩ u k hk)
 have ab : ∀ i j, ((W.setCell ⟨B, i, none⟩ u).setCell ⟨B, j, none⟩ v).ownsRow (w.heap.size + 1) 60 3 ve (Sy.sorted s).length (cells3 (Sy.sorted s)) := fun i j =>
  za2 h.own (fun g hg => aa i j g (fun e => ad (by rw [<- e]; exact hg)))
 refine ⟨⟨(h.up.setCell (by simp; omega) _).setCell (by simp; omega) _, (aa 4 5 _ (by omega)).trans h.box, ?_, ab 4 5, ac⟩, ⟨(h.up.setCell (by simp; omega) _).setCell (by simp; omega) _, (aa 6 7 _ (by omega)).trans h.box, ?_, ab 6 7, ac⟩⟩
 ·simp [World.setCell, Array.getElem?_modify, h.gr]
 ·simp [World.setCell, Array.getElem?_modify, h.gr]
theorem zh9 {w w' : World} {B n : Nat} {va : Value} {xs : List (Int × Int)} {cs : List Nat} (hB : B < w.heap.size) (hr : Row w' (w.heap.size + 1) 3 (n + 1) (ints cs)) (ho : w'.ownsRow w.heap.size 169 2 va xs.length (za7 xs)) :
  zDi w' B va (.slice (some ⟨w.heap.size + 1, 0, none⟩) (n + 1) (n + 1)) n xs cs :=
 ⟨za8 ho (by omega), w.heap.size + 1, by omega, rfl, hr⟩
theorem zwy {s : Sy.Lts} (hR : Sy.Right s) {v : Value} {W : World} (hv : Ls3 W v (Sy.sorted s)) :
  Calls prog 115 #[.int .i64 s.n, v, .func (.func 116) #[] #[], .func (.func 117) #[] #[]] W (zkh W s.n.toNat ((Sy.sorted s).map zJx) (zJ0 zGr (Sy.sorted s) s.n.toNat)) := by
 have hn : s.n = (s.n.toNat : Int) := by have := hR.n0; omega
 rw [hn]
 have hl := Sy.zCo (lt := Sy.lt3) s.es
 have aa : ∀ e ∈ Sy.sorted s, 0 <= e.1 /\ e.1 < s.n := fun e he => by have := hR.ok e ((Sy.mem_sorted s e).1 he); exact ⟨this.1, this.2.2.2.1⟩
 refine zq0 _ _ zGr zJx _ _ v W (enters_of func116 (by kernel_rfl) rfl) (enters_of func117 (by kernel_rfl) rfl) (fun e he W' => ?_) (fun e he W' => ztz e.1 e.2.1 e.2.2 W') hv (by have := hR.n1; omega) (by have := hR.len; unfold Sy.sorted; omega) (fun e he => by have := aa e he; unfold zGr; omega)
 have := aa e he
 have h := zxh e.1 e.2.1 e.2.2 W'
 rw [show ((zGr e : Nat) : Int) = e.1 by unfold zGr; omega]
 exact h
theorem zyv {s : Sy.Lts} (hR : Sy.Right s) {v : Value} {W : World} (hv : Ls3 W v (Sy.turned s)) :
  Calls prog 115 #[.int .i64 s.n, v, .func (.func 123) #[] #[], .func (.func 124) #[] #[]] W (zkh W s.n.toNat ((Sy.turned s).map sIn) (zJ0 kIn (Sy.turned s) s.n.toNat)) := by
 have hn : s.n = (s.n.toNat : Int) := by have := hR.n0; omega
 rw [hn]
 have hl := Sy.zCo (lt := Sy.lt3r) s.es
 have aa : ∀ e ∈ Sy.turned s, 0 <= e.2.2 /\ e.2.2 < s.n := fun e he => by have := hR.ok e ((Sy.zEf s e).1 he); exact ⟨this.2.1, this.2.2.2.2.1⟩
 refine zq0 _ _ kIn sIn _ _ v W (enters_of func123 (by kernel_rfl) rfl) (enters_of func124 (by kernel_rfl) rfl) (fun e he W' => ?_) (fun e he W' => zsl e.1 e.2.1 e.2.2 W') hv (by have := hR.n1; omega) (by have := hR.len; unfold Sy.turned; omega) (fun e he => by have := aa e he; unfold kIn; omega)
 have := aa e he
 have h := zwf e.1 e.2.1 e.2.2 W'
 rw [show ((kIn e : Nat) : Int) = e.2.2 by unfold kIn; omega]
 exact h
theorem zm5 {s : Sy.Lts} {l : List Sy.Edge} (hp : l.Perm (Sy.sorted s)) (hw : l.Pairwise (fun a b => Sy.lt3r b a = false)) : l = Sy.turned s := by
 have hn : l.Nodup := hp.nodup_iff.2 (Sy.zF8 Sy.zIk (Sy.zC5 Sy.zIk s.es))
 have hs : l.Pairwise (fun a b => Sy.lt3r a b = true) := by
  refine (hw.and hn).imp (fun {a b} ⟨h1, h2⟩ => ?_)
  rcases Sy.zIg.total a b with h | h | h
  ·exact h
  ·exact absurd h h2
  ·rw [h1] at h; cases h
 exact Sy.zD5 Sy.zIg l _ hs (Sy.zC5 Sy.zIg s.es) (fun x => by rw [hp.mem_iff, Sy.mem_sorted, Sy.zEf])
theorem zi9 {s : Sy.Lts} {base : Nat} {v : Value} {W : World} (ho : W.ownsRow base 60 3 v (Sy.sorted s).length (cells3 (Sy.sorted s))) (hm : (Sy.sorted s).length <= 1000000) :
  Calls prog 119 #[v, .func (.func 120) #[] #[]] W fun r W' =>
   r = .returned (.tuple #[]) /\ Ls3 W' v (Sy.turned s) /\ Turned (fun k => v.ownBlock = some k) W W' := by
 rcases za4 ho with ⟨rfl, h0, -⟩ | ⟨g, cap, rfl, hr, hn, hc, -⟩
 ·refine (zqo _ W).mono fun r W' ⟨h1, h2⟩ => ⟨h1, ?_, by rw [h2]; exact Turned.refl _ _⟩
  have e1 : Sy.sorted s = [] := List.eq_nil_of_length_eq_zero h0
  have e : Sy.turned s = [] := (zm5 (s := s) (l := []) (by rw [e1]) List.Pairwise.nil).symm
  rw [e]
  exact ⟨none, 0, 0, 0, rfl, fun h => by simp at h, fun i hi => by simp at hi⟩
 ·refine (zt4 g cap _ W hr hm).mono fun r W' ⟨h1, l', h2, h3, h4, h5⟩ => ?_
  obtain rfl := zm5 h2 h3
  refine ⟨h1, ⟨_, cap, g, 0, by rw [h2.length_eq], fun _ => rfl, Row.zKr h4⟩, h5.mono (fun i _ (e : i = g) => by rw [e]; rfl)⟩
theorem zh6 (s : Sy.Lts) (se : Value) (xt : TypeId) (xv : Value) (w : World) (hs : Ls3 w se s.es) (hE : w.cell? ⟨13, 0, none⟩ = some (.iface xt xv)) (hl : s.es.length <= maxLen) :
  Calls prog 73 #[zCb s se] w (zwr s w (.iface xt xv)) := by
 obtain ⟨ao, cap, g, off, rfl, ha, hc⟩ := hs
 have hs : Ls3 w (.slice ao s.es.length cap) s.es := ⟨ao, cap, g, off, rfl, ha, hc⟩
 have HC : Hid (∀ W, Up w W -> Calls prog 114 #[.agg #[.int .i64 s.n, .int .i64 s.m, .int .i64 s.start, .slice ao s.es.length cap]] W (zyk s W (.iface xt xv))) := zh (fun W hu => zr7 s _ xt xv W (hs.up hu) (hu.cell hE) hl)
 have a9 : Hid (s = s) := zh rfl
 obtain ⟨k, hk⟩ := nm (s.es.length)
 rw [<- hk] at HC hl ⊢
 clear hk ha hc hs hE
 unfold zCb
 have aP := (Up.refl w).alloc (.cells #[.int .i64 s.n, .int .i64 s.m, .int .i64 s.start, .slice ao k cap] 24)
 have aQ := heap_alloc_new w (.cells #[.int .i64 s.n, .int .i64 s.m, .int .i64 s.start, .slice ao k cap] 24)
 have an := zh aP
 have al := zh aQ
 clear aP aQ
 go_enter func73, ntmps73
 go_wp2_with fail
 (with_reducible refine (HC.out _ an.out).mono ?_)
 revert an al
 generalize w.alloc (.cells #[.int .i64 s.n, .int .i64 s.m, .int .i64 s.start, .slice ao k cap] 24) = w1
 intro an al
 rintro e w2 ⟨aq, h⟩
 have aE := (aq.block _ (za0 al.out)).trans al.out
 obtain ⟨⟨c0, c1, c2, c3⟩, f0, f1, f2, f3⟩ := za6 aE
 have aF := zh aE
 clear aE
 rcases h with ⟨hr, v', rfl, aj⟩ | ⟨hr, pb, rfl, aR, hf⟩
 ·obtain ⟨av, cv, rfl⟩ := za1 aj
  unfold zCb
  have au := zh aj
  have HR := zh ((Sy.zCj _).1 hr)
  have aG := zh aq
  clear hr aq aj
  have hN := NewAt.start an.out aG.out al.out aF.out au.out
  have aH : Hid (w.heap.size < w2.heap.size) := zh (za0 aF.out)
  have aI : Hid ((Value.slice av (Sy.sorted s).length cv).ownBlock ≠ some w2.heap.size) := zh (fun e => by have := (au.out.lt _ e).2; omega)
  have HN := zh hN
  clear hN HC
  go_upto_region 5 with fail
  clear c0 c1 c2 c3 f0 f1 f2 f3
  revert HN
  generalize ((((w2.setCell ⟨w.heap.size, 0, none⟩ (.int .i64 s.n)).setCell ⟨w.heap.size, 1, none⟩ (.int .i64 s.m)).setCell ⟨w.heap.size, 2, none⟩ (.int .i64 s.start)).setCell ⟨w.heap.size, 3, none⟩ (.slice av (Sy.sorted s).length cv)).alloc (.cells #[.int .i64 s.n, .int .i64 s.m, .int .i64 s.start, .slice av (Sy.sorted s).length cv, .slice none 0 0, .slice none 0 0, .slice none 0 0, .slice none 0 0] 190) = W5
  intro HN
  generalize w2.heap.size = B at HN aH aI ⊢
  have hN := HN.out
  obtain ⟨⟨c0, c1, c2, c3⟩, f0, f1, f2, f3⟩ := za6 hN.box
  have aS := zh (zwy HR.out (zf8 hN.own))
  clear hN
  go_wp2_with fail
  (with_reducible refine aS.out.mono ?_)
  rintro e W6 ⟨vo, rfl, aT, ah, ac⟩
  have aw := HN.out.mono aT
  have ax := zh9 (za0 HN.out.gr) ah ac
  obtain ⟨ao6, co6, rfl⟩ := za1 ac
  have g4 := zco aw.gr 4 _ rfl
  have g5 := zco aw.gr 5 _ rfl
  obtain ⟨g40, g41⟩ := g4
  obtain ⟨g50, g51⟩ := g5
  obtain ⟨⟨d0, d1, d2, d3⟩, e0, e1, e2, e3⟩ := za6 aw.box
  have aU := zh aw
  have ay := zh ax
  clear aT ah ac aw ax aS c0 c1 c2 c3 f0 f1 f2 f3
  go_upto_region 6 with fail
  rw [List.length_map] at ay
  have am := zh (aU.out.set aI.out (.slice ao6 (Sy.sorted s).length co6) (.slice (some ⟨W5.heap.size + 1, 0, none⟩) (s.n.toNat + 1) (s.n.toNat + 1))).1
  have ae := zh ((ay.out.set 4 (.slice ao6 (Sy.sorted s).length co6)).set 5 (.slice (some ⟨W5.heap.size + 1, 0, none⟩) (s.n.toNat + 1) (s.n.toNat + 1)))
  clear aU g40 g41 g50 g51 d0 d1 d2 d3 e0 e1 e2 e3
  revert am ae
  generalize (W6.setCell ⟨B, 4, none⟩ (.slice ao6 (Sy.sorted s).length co6)).setCell ⟨B, 5, none⟩ (.slice (some ⟨W5.heap.size + 1, 0, none⟩) (s.n.toNat + 1) (s.n.toNat + 1)) = W7
  intro am ae
  have aV : Hid ((Sy.sorted s).length <= 1000000) := zh (by have := Sy.zCo (lt := Sy.lt3) s.es; have := HR.out.len; unfold Sy.sorted; omega)
  have aW := zh (zia (zf8 am.out.own) aV.out)
  obtain ⟨⟨d0, d1, d2, d3⟩, e0, e1, e2, e3⟩ := za6 am.out.box
  go_wp2_with fail
  (with_reducible refine aW.out.mono ?_)
  rintro e W8 ⟨v8, rfl, ab, aD⟩
  have aX := am.out.mono aD
  have aA := ae.out.mono aD
  have aY := zi9 ab aV.out
  have aJ : Hid (∀ k, v8.ownBlock = some k -> W7.heap.size <= k) := zh (fun k hk => (ab.lt k hk).1)
  obtain ⟨a8, c8, rfl⟩ := za1 ab
  have aZ := zh aY
  have a7 := zh aX
  have aK := zh aA
  have a0 := zh aD
  clear aX aA aY ab aD d0 d1 d2 d3 e0 e1 e2 e3
  go_wp2_with fail
  (with_reducible refine aZ.out.mono ?_)
  rintro e W9 ⟨rfl, a1, a2⟩
  have aL : Up W7 W9 := by
   have h1 : Turned (fun k => W7.heap.size <= k) W7 W9 := (Turned.below a0.out).trans a2 (fun i hi hk => aJ.out i hk)
   exact ⟨h1.os, h1.tape, h1.output, h1.size, fun i hi => h1.block i hi (by omega)⟩
  have aM := am.out.mono aL
  have aN := zh (ae.out.mono aL)
  have a3 := zh (zyv HR.out a1)
  obtain ⟨⟨d0, d1, d2, d3⟩, e0, e1, e2, e3⟩ := za6 aM.box
  have a4 := zh aM
  clear aM a1 a2 aL a7 aK a0 aZ aW
  go_wp2_with fail
  (with_reducible refine a3.out.mono ?_)
  rintro e W10 ⟨vi, rfl, ak, ad, aa⟩
  have af := a4.out.mono ak
  have a5 := zh9 (B := B) (za0 a4.out.gr) ad aa
  rw [List.length_map] at aa
  obtain ⟨ai, ci, rfl⟩ := za1 aa
  obtain ⟨g60, g61⟩ := zco af.gr 6 _ rfl
  obtain ⟨g70, g71⟩ := zco af.gr 7 _ rfl
  have aO := zh af
  have aB := zh a5
  have aC := zh (aN.out.mono ak)
  clear ak ad aa af a5 a3 d0 d1 d2 d3 e0 e1 e2 e3
  go_wp2_with fail
  have ag := (aO.out.set aI.out (.slice ai (Sy.turned s).length ci) (.slice (some ⟨W9.heap.size + 1, 0, none⟩) (s.n.toNat + 1) (s.n.toNat + 1))).2
  have h1 := ((aC.out.set 6 (.slice ai (Sy.turned s).length ci)).set 7 (.slice (some ⟨W9.heap.size + 1, 0, none⟩) (s.n.toNat + 1) (s.n.toNat + 1))).into
  have h2 := ((aB.out.set 6 (.slice ai (Sy.turned s).length ci)).set 7 (.slice (some ⟨W9.heap.size + 1, 0, none⟩) (s.n.toNat + 1) (s.n.toNat + 1))).into
  go_ret2
  exact ⟨ag.up, .inl ⟨(Sy.zCj s).2 HR.out, B, rfl, Nat.le_of_lt ag.lt, ⟨_, _, _, _, _, ag.gr, zf8 ag.own, h1, h2⟩⟩⟩
 ·have HR := zh hr
  have aG := zh aq
  have HF := zh hf
  have a6 := zh aR
  clear hr aq hf aR
  unfold zac
  go_wp2_with fail
  go_ret2
  have ba := za0 al.out
  obtain ⟨-, hT, -⟩ := zbf aF.out (.int .i64 0) (.int .i64 0) (.int .i64 0) (.slice none 0 0)
  exact ⟨zaj (an.out.trans aG.out) (Nat.le_refl _) hT, .inr ⟨HR.out, pb, rfl, by have := a6.out; omega, (hT.block _ (za0 HF.out) (by have := a6.out; omega)).trans HF.out⟩⟩
end Go.Proofs.YtoaoajfjcfcmhaaGreatDoor
