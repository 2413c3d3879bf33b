/- Walks: the closure of key, key. -/
import Derived.Test.YtiiieailimphnaaGreatDoorTmMem
import Derived.Test.YtiiieailimphnaaGreatDoorLayS
import Derived.Lib.AppendIntMem
import Derived.Lib.ItoaLen
import Derived.Lib.Slices
import Derived.Laws.IdiomStrings
import Derived.OwnWalk
import Derived.BigCall
namespace Go.Proofs.YtiiieailimphnaaGreatDoor
open Go.RowKit Go.Shelf
set_option linter.unusedVariables false
set_option linter.unusedSimpArgs false

theorem Tryz.byteInfo : (Tryz.prog.info? 5).map (fun i => (i.zero, i.size, i.bytes)) = some (some (.int .u8 0), 1, 1) := by kernel_rfl

/-- The table of powers of ten stands where the program lays it. -/
def Tab (w : World) : Prop := Lib.TabIs Tryz.prog w "internal/strconv.uint64pow10" .u64 Lib.pow10Tab

theorem Tab.up {w w1 : World} (h : Tab w) (hu : Up w w1) : Tab w1 := Lib.tabBelow_of_tabIs h w1 hu

theorem Tab.below {w w1 : World} {B : Nat} (h : Tab w) (hu : Up w w1) (hB : w.heap.size ≤ B) : Lib.TabBelow Tryz.prog B w1 "internal/strconv.uint64pow10" .u64 Lib.pow10Tab :=
  fun w' hb => Lib.tabBelow_of_tabIs h w' (Below.trans hu (hb.mono hB))

/-- The bytes that were gathered: the box's slice owns them. -/
structure Gath (w : World) (bx S0 : Nat) (l : List UInt8) (v : Value) : Prop where
  box : w.heap[bx]? = some (.cells #[v] 160 (0, 0))
  own : w.ownsRow S0 5 1 v l.length (Lib.byteCells l)
  s0 : S0 ≤ w.heap.size
  lt : bx < S0

/-- What a call of the closure leaves. -/
def PutDone (w : World) (bx S0 : Nat) (l : List UInt8) (r : Ending) (w' : World) : Prop :=
  r = .returned (.tuple #[]) ∧ ∃ v', Gath w' bx S0 l v' ∧ Turned (fun k => k = bx ∨ S0 ≤ k) w w' ∧ Lib.OthersKept 5 (some bx) w w'

theorem appendInt_any (B n : Nat) (i : Int) (h0 : -9223372036854775808 ≤ i) (h1 : i ≤ 9223372036854775807) (sv : Value) (xs : List Value) (w : World) (hown : w.ownsRow B 5 1 sv n xs) (hBw : B ≤ w.heap.size) (hlim : n + 21 ≤ 140737488355328)
    (htab : Lib.TabBelow Tryz.prog B w "internal/strconv.uint64pow10" .u64 Lib.pow10Tab) :
    Calls Tryz.prog 115 #[sv, .int .i64 i, .int .i64 10] w fun e w' => ∃ v', e = .returned v' ∧ w'.ownsRow B 5 1 v' (n + (Lib.itoa i).length) (xs ++ Lib.byteCells (Lib.itoa i)) ∧ Below B w w' ∧ Lib.OthersKept 5 none w w' :=
  Any.strconv_AppendInt_10 Tryz.laysAppendInt B n i h0 h1 sv xs w hown hBw hlim htab

/-- The box as it stood, in the middle of the closure. -/
structure BoxAt (w : World) (bx S0 : Nat) (v : Value) : Prop where
  box : w.heap[bx]? = some (.cells #[v] 160 (0, 0))
  lt : bx < S0
  s0 : S0 ≤ w.heap.size

theorem Gath.mid {w w1 : World} {bx S0 : Nat} {l : List UInt8} {v : Value} (h : Gath w bx S0 l v) (hb : Below S0 w w1) : BoxAt w1 bx S0 v := ⟨(hb.block bx h.lt).trans h.box, h.lt, Nat.le_trans h.s0 hb.size⟩

theorem BoxAt.grown {w1 w2 : World} {bx S0 n size : Nat} {e : TypeId} {v v1 : Value} {xs : List Value} {o : Obj} (h : BoxAt w1 bx S0 v) (ho : w1.ownsRow S0 e size v1 n xs) (hg : (w1.alloc o).grownBy w2 v1.ownBlock) : BoxAt w2 bx S0 v :=
  ⟨(hg.block bx (by have := h.lt; have := h.s0; simp; omega) (by intro e; have := (ho.lt bx e.symm).1; have := h.lt; omega)).trans ((Below.heap_alloc w1 o bx (by have := h.lt; have := h.s0; omega)).trans h.box), h.lt, by have := hg.size; have := h.s0; simp at *; omega⟩

theorem BoxAt.cell {w : World} {bx S0 : Nat} {v : Value} (h : BoxAt w bx S0 v) : w.cell? ⟨bx, 0, none⟩ = some v := by simp [World.cell?, h.box]
theorem BoxAt.free {w : World} {bx S0 : Nat} {v : Value} (h : BoxAt w bx S0 v) : w.frozen? ⟨bx, 0, none⟩ = false := by simp [World.frozen?, h.box]

theorem putEnd {w w1 w2 : World} {bx S0 : Nat} {l k : List UInt8} {v v1 v2 : Value} {o : Obj} (h : Gath w bx S0 l v) (hb : Below S0 w w1) (ho : Lib.OthersKept 5 none w w1) (h1 : w1.ownsRow S0 5 1 v1 (l.length + k.length) (Lib.byteCells l ++ Lib.byteCells k))
    (h2 : w2.ownsRow S0 5 1 v2 (l.length + k.length + 1) (Lib.byteCells l ++ Lib.byteCells k ++ [Value.int .u8 32])) (hg : (w1.alloc o).grownBy w2 v1.ownBlock) :
    PutDone w bx S0 (l ++ (k ++ [32])) (.returned (.tuple #[])) (w2.setCell ⟨bx, 0, none⟩ v2) := by
  have hB := (h.mid hb).grown h1 hg
  refine ⟨rfl, v2, ⟨?_, ?_, by simpa using hB.s0, h.lt⟩, ?_, ?_⟩
  · simp [World.setCell, Array.getElem?_modify, hB.box]
  · have e : Lib.byteCells (l ++ (k ++ [32])) = Lib.byteCells l ++ Lib.byteCells k ++ [Value.int .u8 32] := by simp [Lib.byteCells]
    rw [e]
    have el : (l ++ (k ++ [32])).length = l.length + k.length + 1 := by simp; omega
    rw [el]
    exact owns_keep h2 (fun g hk => Below.heap_setCell w2 ⟨bx, 0, none⟩ v2 g (by have := (h2.lt g hk).1; have := h.lt; simp only; omega))
  · have T1 : Turned (fun k => k = bx ∨ S0 ≤ k) w w1 := (Turned.below hb).mono (fun k _ hk => .inr hk)
    exact ((T1.alloc o).grown hg (fun k hk => .inl (.inr (h1.lt k hk).1))).setCell (.inl (.inl rfl)) _
  · intro k x hk hne hx
    have e1 := ho k x hk (by simp) hx
    have hk1 := lt_of_block' e1
    have e2 : w2.heap[k]? = some x := (hg.block k (by simp; omega) (by
      intro e
      obtain ⟨cur, hc⟩ := owns_type h1 e.symm
      rw [e1, Option.some.injEq] at hc
      exact hx _ _ hc)).trans ((Below.heap_alloc w1 o k hk1).trans e1)
    exact (Below.heap_setCell w2 ⟨bx, 0, none⟩ v2 k (fun e => hne (by rw [e]))).trans e2

set_option maxHeartbeats 4000000 in
set_option maxRecDepth 100000 in
theorem put_any (n : Int) (h0 : -9223372036854775808 ≤ n) (h1 : n ≤ 9223372036854775807) (bx S0 : Nat) (l : List UInt8) (v : Value) (w0 w : World) (hT : Tab w0) (hu : Up w0 w) (hS : w0.heap.size ≤ S0) (h : Gath w bx S0 l v) (hl : l.length ≤ 1000000) :
    Calls Tryz.prog 114 #[.int .i64 n, .pointer (some ⟨bx, 0, none⟩)] w (PutDone w bx S0 (l ++ (Lib.itoa n ++ [32]))) := by
  obtain ⟨i0, hi, hz0, hz1, hz2⟩ := info_parts Tryz.byteInfo
  have la := Lib.itoa_length_le n h0 h1
  have hA := appendInt_any S0 l.length n h0 h1 v (Lib.byteCells l) w h.own h.s0 (by omega) (hT.below hu hS)
  have HA := Lib.hid hA
  have c0 : w.cell? ⟨bx, 0, none⟩ = some v := by simp [World.cell?, h.box]
  have H := Lib.hid h
  clear hA h hT hu
  go_enter Tryz.func114, Tryz.ntmps114
  go_wp2_with fail
  (with_reducible refine HA.out.mono ?_)
  rintro e w1 ⟨v1, rfl, hown1, hb1, ho1⟩
  have HO := Lib.hid ho1
  clear ho1
  have K1 := Lib.hid (Gath.mid H.out hb1)
  have HB1 := Lib.hid hb1
  have hlen : l.length + (Lib.itoa n).length + 1 ≤ 1000100 := by omega
  have hsz := Nat.le_trans H.out.s0 hb1.size
  clear hb1
  go_wp2_with (at_builtin; refine wpList_append_own _ rfl _ _ 160 rfl S0 5 i0 (.int .u8 0) 1 1 Tryz.underlying160 hi hz0 hz1 hz2 rfl (by decide) _ _ _ rfl (hown1.alloc _) ⟨w1.heap.size, 0, none⟩ 1 1 [Value.int .u8 32] rfl rfl (by intro j u' hj; match j, hj with | 0, hj => simp at hj; subst hj; simp [Addr.add]) (by intro u' hu'; simp at hu'; subst hu'; rfl) (by unfold maxLen; omega) (by omega) (by simp; omega) ?_; intro v2 w2 hown2 hgrow2 _; (have K2 := Lib.hid (K1.out.grown hown1 hgrow2)); (obtain ⟨p2, q2, rfl⟩ := owns_shape' hown2); (have c2 := K2.out.cell); (have f2 := K2.out.free); (replace hown2 := Lib.hid hown2); (replace hgrow2 := Lib.hid hgrow2))
  go_end0
  exact putEnd H.out HB1.out HO.out hown1 hown2.out hgrow2.out

/-- A key under way: the term's box, the bytes that were gathered. -/
structure KeyS (w wr : World) (A : Obj) (s : List Int) : Prop where
  up : Up w wr
  a : wr.heap[w.heap.size]? = some A
  g : ∃ v, Gath wr (w.heap.size + 1) (w.heap.size + 2) (Tm.enc s) v
  len : (Tm.enc s).length ≤ 22 * s.length

theorem KeyS.start (w : World) (A : Obj) : KeyS w ((w.alloc A).alloc (.cells #[.slice none 0 0] 160)) A [] := by
  have s1 : (w.alloc A).heap.size = w.heap.size + 1 := by simp
  have hb := heap_alloc_new (w.alloc A) (.cells #[.slice none 0 0] 160)
  rw [s1] at hb
  refine ⟨((Up.refl w).alloc _).alloc _, (Below.heap_alloc (w.alloc A) _ _ (by omega)).trans (heap_alloc_new w A), ⟨.slice none 0 0, hb, World.ownsRow_nil _ _ _ _, by simp, by omega⟩, by simp [Tm.enc]⟩

theorem KeyS.alloc {w wr : World} {A : Obj} {s : List Int} (h : KeyS w wr A s) (o : Obj) : KeyS w (wr.alloc o) A s := by
  obtain ⟨v, hg⟩ := h.g
  refine ⟨h.up.alloc o, (Below.heap_alloc wr o _ (lt_of_block' h.a)).trans h.a, ⟨v, ?_, hg.own.alloc o, by have := hg.s0; simp; omega, hg.lt⟩, h.len⟩
  exact (Below.heap_alloc wr o _ (lt_of_block' hg.box)).trans hg.box

/-- What a call of the closure leaves of a key under way. -/
def PutS (w wr : World) (A : Obj) (s : List Int) (r : Ending) (w' : World) : Prop := r = .returned (.tuple #[]) ∧ KeyS w w' A s ∧ Lib.OthersKept 5 (some (w.heap.size + 1)) wr w'

theorem key_put {w wr : World} {A : Obj} {s : List Int} {n : Int} (h : KeyS w wr A s) (hT : Tab w) (hn : 0 ≤ n ∧ n < 1000) (hs : s.length ≤ 1000) :
    Calls Tryz.prog 114 #[.int .i64 n, .pointer (some ⟨w.heap.size + 1, 0, none⟩)] wr (PutS w wr A (s ++ [n])) := by
  obtain ⟨v, hg⟩ := h.g
  have la := Lib.itoa_length_le n (by omega) (by omega)
  refine (put_any n (by omega) (by omega) _ _ _ v w wr hT h.up (by omega) hg (by have := h.len; omega)).mono fun r w' ⟨he, v', hg', ht, hok⟩ => ⟨he, ?_, hok⟩
  have hlt := lt_of_block' h.a
  refine ⟨?_, ?_, ⟨v', by rw [Tm.enc_snoc]; exact hg'⟩, ?_⟩
  · have hT2 : Turned (fun k => w.heap.size ≤ k) w w' := (Turned.below h.up).trans ht (fun i hi hk => by rcases hk with rfl | hk <;> omega)
    exact ⟨hT2.os, hT2.tape, hT2.output, hT2.size, fun i hi => hT2.block i hi (by omega)⟩
  · exact (ht.block _ hlt (by rintro (e | e) <;> omega)).trans h.a
  · rw [Tm.enc_snoc]; simp only [List.length_append, List.length_cons, List.length_nil]; have := h.len; omega

end Go.Proofs.YtiiieailimphnaaGreatDoor
