/- Walks of the small functions of package refine. -/
import Derived.Test.YtoaoajfjcfcmhaaGreatDoorRows
import Derived.WalkKit
import Derived.WalkSpells
import Derived.WalkLawsBesides
import Derived.Lib.Hide
import Derived.BigRegion
import Derived.BigQuiet
import Derived.Deep.QuietTactic
import Derived.Test.YtoaoajfjcfcmhaaGreatDoorP01
import Derived.Test.YtoaoajfjcfcmhaaGreatDoorP19
import Derived.StillTailTactics
import Derived.Deep.RegionWith
set_option linter.unusedVariables false
set_option linter.unusedSimpArgs false
set_option maxHeartbeats 16000000
set_option maxRecDepth 100000
open Go.Proofs.Tryz
namespace Go.Proofs.YtoaoajfjcfcmhaaGreatDoor
open Go.RowKit
theorem zh4 (b : Addr) (w : World) :
  Calls prog 173 #[.pointer (some b)] w fun e w' => e = .returned (.pointer (some b)) /\ w = w' := by
 go_enter func173, ntmps173
 go_wp2
 go_ret
 exact ⟨rfl, rfl⟩
theorem znm (B : Nat) (ao : Option Addr) (n cap : Nat) (w : World) (c0 : w.cell? ⟨B, 0, none⟩ = some (.slice ao n cap)) :
  Calls prog 217 #[.pointer (some ⟨B, 0, none⟩)] w fun e w' => e = .returned (.int .i64 n) /\ w = w' := by
 go_enter func217, ntmps217
 go_wp2_with (go_at_call 173; refine (zh4 _ _).mono ?_; rintro e w' ⟨rfl, rfl⟩)
 go_ret
 exact ⟨rfl, rfl⟩
theorem zcr (B : Nat) (ao : Option Addr) (n cap : Nat) (w : World) (c3 : w.cell? ⟨B, 3, none⟩ = some (.slice ao n cap)) :
  Calls prog 201 #[.pointer (some ⟨B, 0, none⟩)] w fun e w' => e = .returned (.int .i64 n) /\ w = w' := by
 go_enter func201, ntmps201
 go_wp2_with (go_at_call 173; refine (zh4 _ _).mono ?_; rintro e w' ⟨rfl, rfl⟩)
 go_ret
 exact ⟨rfl, rfl⟩
theorem zdj (b : Addr) (i n : Int) (w : World) (h0 : 0 <= i) (h1 : i < n) :
  Calls prog 204 #[.pointer (some b), .int .i64 i, .int .i64 n] w fun e w' => e = .returned .nilIface /\ w = w' := by
 go_enter func204, ntmps204
 go_wp2_with fail
 go_ret
 exact ⟨rfl, rfl⟩
def zis (w : World) (ge gp i k x y : Nat) : World :=
 (((((w.setCell ⟨ge, i, none⟩ (.int .i64 y)).setCell ⟨ge, k, none⟩ (.int .i64 x)).drew).setCell ⟨gp, y, none⟩ (.int .i64 i)).setCell ⟨gp, x, none⟩ (.int .i64 k)).drew
theorem zAo (B n ecap pcap ge gp i k x y : Nat) (u v : Value) (w : World) (hi : i < n) (hk : k < n) (hx : x < n) (hy : y < n) (ad : i ≠ k) (ae : x ≠ y) (hg : ge ≠ gp) (ac : B ≠ ge) (af : B ≠ gp)
  (c0 : w.cell? ⟨B, 0, none⟩ = some (.slice (some ⟨ge, 0, none⟩) n ecap)) (c1 : w.cell? ⟨B, 1, none⟩ = some (.slice (some ⟨gp, 0, none⟩) n pcap))
  (ei : w.cell? ⟨ge, i, none⟩ = some (.int .i64 x)) (ek : w.cell? ⟨ge, k, none⟩ = some (.int .i64 y))
  (fi : w.frozen? ⟨ge, i, none⟩ = false) (fk : w.frozen? ⟨ge, k, none⟩ = false)
  (px : w.cell? ⟨gp, x, none⟩ = some u) (py : w.cell? ⟨gp, y, none⟩ = some v)
  (fx : w.frozen? ⟨gp, x, none⟩ = false) (fy : w.frozen? ⟨gp, y, none⟩ = false) :
  Calls prog 218 #[.pointer (some ⟨B, 0, none⟩), .int .i64 i, .int .i64 k] w fun r w' =>
   r = .returned (.tuple #[]) /\ zis w ge gp i k x y = w' := by
 go_enter func218, ntmps218
 go_wp2
 go_region
 go_wp2
 obtain ⟨w1, aa⟩ : ∃ w1, ((w.setCell ⟨ge, i, none⟩ (.int .i64 (y : Int))).setCell ⟨ge, k, none⟩ (.int .i64 (x : Int))).drew = w1 := ⟨_, rfl⟩
 have ot : ∀ b o, b ≠ ge -> w1.cell? ⟨b, o, none⟩ = w.cell? ⟨b, o, none⟩ := by
  intro b o h
  rw [<- aa]; show ((w.setCell _ _).setCell _ _).cell? _ = _
  rw [World.cell?_setCell_other _ _ _ _ (by simp only [ne_eq, Addr.mk.injEq]; omega), World.cell?_setCell_other _ _ _ _ (by simp only [ne_eq, Addr.mk.injEq]; omega)]
 have fr : ∀ b o, w1.frozen? ⟨b, o, none⟩ = w.frozen? ⟨b, o, none⟩ := by
  intro b o
  rw [<- aa]; show ((w.setCell _ _).setCell _ _).frozen? _ = _
  rw [World.frozen?_setCell, World.frozen?_setCell]
 have ab : (⟨ge, k, none⟩ : Addr) ≠ ⟨ge, i, none⟩ := by simp only [ne_eq, Addr.mk.injEq]; omega
 have di : w1.cell? ⟨ge, i, none⟩ = some (.int .i64 y) := by
  rw [<- aa]; show ((w.setCell _ _).setCell _ _).cell? _ = _
  rw [World.cell?_setCell_other _ _ _ _ ab, World.cell?_setCell_same _ _ _ ei]
 have dk : w1.cell? ⟨ge, k, none⟩ = some (.int .i64 x) := by
  rw [<- aa]; show ((w.setCell _ _).setCell _ _).cell? _ = _
  rw [World.cell?_setCell_same (u := .int .i64 y)]
  rw [World.cell?_setCell_other _ _ _ _ (fun e => ab e.symm)]; exact ek
 have d0 := (ot B 0 ac).trans c0
 have d1 := (ot B 1 ac).trans c1
 have dx := (ot gp x (fun e => hg e.symm)).trans px
 have dy := (ot gp y (fun e => hg e.symm)).trans py
 have gx := (fr gp x).trans fx
 have gy := (fr gp y).trans fy
 have HW : Hid (((w1.setCell ⟨gp, y, none⟩ (.int .i64 (i : Int))).setCell ⟨gp, x, none⟩ (.int .i64 (k : Int))).drew = zis w ge gp i k x y) := by rw [<- aa]; rfl
 rw [aa]
 clear aa ot fr ei ek fi fk px py fx fy c0 c1 ab
 go_region
 go_wp2
 go_end0
 exact ⟨rfl, HW.out.symm⟩
theorem zzi (B n ecap pcap ge gp i x : Nat) (u : Value) (w : World) (hi : i < n) (hx : x < n) (hg : ge ≠ gp) (ab : B ≠ ge) (ac : B ≠ gp)
  (c0 : w.cell? ⟨B, 0, none⟩ = some (.slice (some ⟨ge, 0, none⟩) n ecap)) (c1 : w.cell? ⟨B, 1, none⟩ = some (.slice (some ⟨gp, 0, none⟩) n pcap))
  (ei : w.cell? ⟨ge, i, none⟩ = some (.int .i64 x)) (fi : w.frozen? ⟨ge, i, none⟩ = false)
  (px : w.cell? ⟨gp, x, none⟩ = some u) (fx : w.frozen? ⟨gp, x, none⟩ = false) :
  Calls prog 218 #[.pointer (some ⟨B, 0, none⟩), .int .i64 i, .int .i64 i] w fun r w' =>
   r = .returned (.tuple #[]) /\ zis w ge gp i i x x = w' := by
 go_enter func218, ntmps218
 go_wp2
 go_region
 go_wp2
 obtain ⟨w1, aa⟩ : ∃ w1, ((w.setCell ⟨ge, i, none⟩ (.int .i64 (x : Int))).setCell ⟨ge, i, none⟩ (.int .i64 (x : Int))).drew = w1 := ⟨_, rfl⟩
 have ot : ∀ b o, b ≠ ge -> w1.cell? ⟨b, o, none⟩ = w.cell? ⟨b, o, none⟩ := by
  intro b o h
  rw [<- aa]; show ((w.setCell _ _).setCell _ _).cell? _ = _
  rw [World.cell?_setCell_other _ _ _ _ (by simp only [ne_eq, Addr.mk.injEq]; omega), World.cell?_setCell_other _ _ _ _ (by simp only [ne_eq, Addr.mk.injEq]; omega)]
 have fr : ∀ b o, w1.frozen? ⟨b, o, none⟩ = w.frozen? ⟨b, o, none⟩ := by
  intro b o
  rw [<- aa]; show ((w.setCell _ _).setCell _ _).frozen? _ = _
  rw [World.frozen?_setCell, World.frozen?_setCell]
 have di : w1.cell? ⟨ge, i, none⟩ = some (.int .i64 x) := by
  rw [<- aa]; show ((w.setCell _ _).setCell _ _).cell? _ = _
  rw [World.cell?_setCell_same (u := .int .i64 x)]
  rw [World.cell?_setCell_same _ _ _ ei]
 have d0 := (ot B 0 ab).trans c0
 have d1 := (ot B 1 ab).trans c1
 have dx := (ot gp x (fun e => hg e.symm)).trans px
 have gx := (fr gp x).trans fx
 have HW : Hid (((w1.setCell ⟨gp, x, none⟩ (.int .i64 (i : Int))).setCell ⟨gp, x, none⟩ (.int .i64 (i : Int))).drew = zis w ge gp i i x x) := by rw [<- aa]; rfl
 rw [aa]
 clear aa ot fr ei fi px fx c0 c1
 go_region
 go_wp2
 go_end0
 exact ⟨rfl, HW.out.symm⟩
def zal : List (Nat × Nat × Nat) -> List Value
 | [] => []
 | b :: l => Value.int .i64 (b.1 : Nat) :: Value.int .i64 (b.2.1 : Nat) :: Value.int .i64 (b.2.2 : Nat) :: zal l
theorem zbs : ∀ l, (zal l).length = l.length * 3
 | [] => rfl
 | b :: l => by simp [zal, zbs l]; omega
theorem zf6 : ∀ l m, zal (l ++ m) = zal l ++ zal m
 | [], m => rfl
 | b :: l, m => by simp [zal, zf6 l m]
theorem zau : ∀ (l : List (Nat × Nat × Nat)) (b : Nat), b < l.length -> (zal l)[b * 3]? = some (.int .i64 ((l.getD b (0, 0, 0)).1 : Nat))
 | x :: l, 0, _ => rfl
 | x :: l, b + 1, h => by
  rw [show (b + 1) * 3 = b * 3 + 3 by omega]
  simpa [zal] using zau l b (by simpa using h)
theorem zb1 : ∀ (l : List (Nat × Nat × Nat)) (b : Nat), b < l.length -> (zal l)[b * 3 + 1]? = some (.int .i64 ((l.getD b (0, 0, 0)).2.1 : Nat))
 | x :: l, 0, _ => rfl
 | x :: l, b + 1, h => by
  rw [show (b + 1) * 3 + 1 = b * 3 + 1 + 3 by omega]
  simpa [zal] using zb1 l b (by simpa using h)
theorem zb2 : ∀ (l : List (Nat × Nat × Nat)) (b : Nat), b < l.length -> (zal l)[b * 3 + 2]? = some (.int .i64 ((l.getD b (0, 0, 0)).2.2 : Nat))
 | x :: l, 0, _ => rfl
 | x :: l, b + 1, h => by
  rw [show (b + 1) * 3 + 2 = b * 3 + 2 + 3 by omega]
  simpa [zal] using zb2 l b (by simpa using h)
theorem zew : ∀ (l : List (Nat × Nat × Nat)) (b v : Nat), b < l.length -> (zal l).set (b * 3) (.int .i64 (v : Nat)) = zal (l.set b (v, (l.getD b (0, 0, 0)).2.1, (l.getD b (0, 0, 0)).2.2))
 | x :: l, 0, v, _ => rfl
 | x :: l, b + 1, v, h => by
  rw [show (b + 1) * 3 = b * 3 + 3 by omega]
  have := zew l b v (by simpa using h)
  simp only [zal, List.set_cons_succ, this]
  rfl
theorem zf1 : ∀ (l : List (Nat × Nat × Nat)) (b v : Nat), b < l.length -> (zal l).set (b * 3 + 1) (.int .i64 (v : Nat)) = zal (l.set b ((l.getD b (0, 0, 0)).1, v, (l.getD b (0, 0, 0)).2.2))
 | x :: l, 0, v, _ => rfl
 | x :: l, b + 1, v, h => by
  rw [show (b + 1) * 3 + 1 = b * 3 + 1 + 3 by omega]
  have := zf1 l b v (by simpa using h)
  simp only [zal, List.set_cons_succ, this]
  rfl
theorem zcl : ∀ (l : List (Nat × Nat × Nat)) (b v : Nat), b < l.length -> (zal l).set (b * 3 + 2) (.int .i64 (v : Nat)) = zal (l.set b ((l.getD b (0, 0, 0)).1, (l.getD b (0, 0, 0)).2.1, v))
 | x :: l, 0, v, _ => rfl
 | x :: l, b + 1, v, h => by
  rw [show (b + 1) * 3 + 2 = b * 3 + 2 + 3 by omega]
  have := zcl l b v (by simpa using h)
  simp only [zal, List.set_cons_succ, this]
  rfl
theorem znw (n : Nat) : zal (List.replicate n (0, 0, 0)) = List.replicate (n * 3) (Value.int .i64 0) := by
 induction n with
 | zero => rfl
 | succ n ih =>
  rw [List.replicate_succ, show (n + 1) * 3 = n * 3 + 1 + 1 + 1 by omega]
  simp only [zal, ih, List.replicate_succ]
  rfl
theorem zem (l : List (Nat × Nat × Nat)) : ∀ u ∈ zal l, u.oneCell' = true := by
 induction l with
 | nil => intro u hu; cases hu
 | cons b l ih =>
  intro u hu
  simp only [zal, List.mem_cons] at hu
  rcases hu with rfl | rfl | rfl | hu
  ·rfl
  ·rfl
  ·rfl
  ·exact ih u hu
theorem zgq (n : Nat) : (madeCells (Value.agg #[Value.int .i64 0, Value.int .i64 0, Value.int .i64 0]).cells (n * 3)).toList = zal (List.replicate n (0, 0, 0)) := by
 rw [znw]
 apply List.ext_getElem?
 intro j
 by_cases hj : j < n * 3
 ·have h3 : j % 3 < 3 := Nat.mod_lt _ (by omega)
  have hx : ∀ k, k < 3 -> (#[Value.int .i64 0, Value.int .i64 0, Value.int .i64 0] : Array Value)[k]! = Value.int .i64 0 := by
   intro k hk
   match k, hk with
   | 0, _ => rfl
   | 1, _ => rfl
   | 2, _ => rfl
  have := hx (j % 3) h3
  simp [madeCells, hj, Value.cells]
  simpa using this
 ·simp [madeCells, hj]
theorem zp5 (A : List (Nat × Nat × Nat)) (b nb m m2 : Nat) (hA : A.length = b) (hb : b < nb) (bl bl1 : List (Nat × Nat × Nat)) (h0 : bl = A ++ List.replicate (nb - b) (0, 0, 0))
  (h1 : bl1 = bl.set b (m, (bl.getD b (0, 0, 0)).2.1, (bl.getD b (0, 0, 0)).2.2)) :
  bl1.set b ((bl1.getD b (0, 0, 0)).1, m2, (bl1.getD b (0, 0, 0)).2.2) = (A ++ [(m, m2, 0)]) ++ List.replicate (nb - (b + 1)) (0, 0, 0) := by
 have hr : List.replicate (nb - b) ((0, 0, 0) : Nat × Nat × Nat) = (0, 0, 0) :: List.replicate (nb - (b + 1)) (0, 0, 0) := by
  rw [show nb - b = (nb - (b + 1)) + 1 by omega, List.replicate_succ]
 have aa : bl.getD b (0, 0, 0) = (0, 0, 0) := by
  rw [h0, hr]; simp [List.getD, <- hA]
 rw [aa] at h1
 have e1 : bl1 = A ++ (m, 0, 0) :: List.replicate (nb - (b + 1)) (0, 0, 0) := by
  rw [h1, h0, hr, List.set_append_right _ _ (by omega), hA, Nat.sub_self]; rfl
 have ab : bl1.getD b (0, 0, 0) = (m, 0, 0) := by rw [e1]; simp [List.getD, <- hA]
 rw [ab, e1, List.set_append_right _ _ (by omega), hA, Nat.sub_self]
 simp
def sl (g n cap : Nat) : Value := .slice (some ⟨g, 0, none⟩) n cap
structure OfR (w wr : World) (Bx gi gp gb S0 n nb : Nat) (inn : List Nat) (ve : Value) (q : List Nat × List Nat) (bl : List (Nat × Nat × Nat)) : Prop where
 box : wr.heap[Bx]? = some (.cells #[ve, .slice (some ⟨gp, 0, none⟩) n n, .slice (some ⟨gi, 0, none⟩) n n, .slice (some ⟨gb, 0, none⟩) nb nb] 257 (0, 0))
 el : wr.ownsRow S0 3 1 ve q.1.length (ints q.1)
 pl : Row wr gp 3 n (ints q.2)
 ir : Row wr gi 3 n (ints inn)
 bk : Row wr gb 299 (nb * 3) (zal bl)
 bel : Below w.heap.size w wr
 s0 : S0 <= wr.heap.size
structure OfB (w : World) (Bx gi gp gb S0 : Nat) : Prop where
 n1 : gi ≠ gp
 n2 : gb ≠ gi
 n3 : gb ≠ gp
 n4 : Bx ≠ gi
 n5 : Bx ≠ gp
 n6 : Bx ≠ gb
 l1 : gi < S0
 l2 : gp < S0
 l3 : gb < S0
 l4 : Bx < S0
 h1 : w.heap.size <= gi
 h2 : w.heap.size <= gp
 h3 : w.heap.size <= gb
 h4 : w.heap.size <= Bx
section
variable {w wr : World} {Bx gi gp gb S0 n nb : Nat} {inn : List Nat} {ve : Value} {q : List Nat × List Nat} {bl : List (Nat × Nat × Nat)}
theorem zlb {S0 e size n : Nat} {v : Value} {xs : List Value} {wr : World} (h : wr.ownsRow S0 e size v n xs) {a : Addr} (ha : a.block < S0) (u : Value) : (wr.setCell a u).ownsRow S0 e size v n xs :=
 za2 h (fun g hg => Below.heap_setCell wr a u g (by have := (h.lt g hg).1; omega))
theorem OfR.drew (h : OfR w wr Bx gi gp gb S0 n nb inn ve q bl) : OfR w wr.drew Bx gi gp gb S0 n nb inn ve q bl :=
 ⟨h.box, h.el, h.pl, h.ir, h.bk, h.bel.drew, h.s0⟩
theorem OfR.zJq (h : OfR w wr Bx gi gp gb S0 n nb inn ve q bl) (hB : OfB w Bx gi gp gb S0) (j : Nat) (v : Value) (bl' : List (Nat × Nat × Nat)) (he : (zal bl).set j v = zal bl') :
  OfR w (wr.setCell ⟨gb, j, none⟩ v) Bx gi gp gb S0 n nb inn ve q bl' :=
 ⟨(Below.heap_setCell _ _ _ _ hB.n6).trans h.box, zlb h.el hB.l3 _, h.pl.other (fun e => hB.n3 e.symm) _, h.ir.other (fun e => hB.n2 e.symm) _, by rw [<- he]; exact h.bk.set j v, h.bel.setCell hB.h3 _, by simpa using h.s0⟩
theorem OfR.zL4 (h : OfR w wr Bx gi gp gb S0 n nb inn ve q bl) (hB : OfB w Bx gi gp gb S0) (j v : Nat) :
  OfR w (wr.setCell ⟨gp, j, none⟩ (.int .i64 (v : Nat))) Bx gi gp gb S0 n nb inn ve (q.1, q.2.set j v) bl :=
 ⟨(Below.heap_setCell _ _ _ _ hB.n5).trans h.box, zlb h.el hB.l2 _, by rw [ints_set]; exact h.pl.set j _, h.ir.other hB.n1 _, h.bk.other hB.n3 _, h.bel.setCell hB.h2 _, by simpa using h.s0⟩
theorem OfR.push (h : OfR w wr Bx gi gp gb S0 n nb inn ve q bl) (hB : OfB w Bx gi gp gb S0) (e : Nat) {o : Obj} {v' : Value} {w1 : World}
  (aa : w1.ownsRow S0 3 1 v' (q.1.length + 1) (ints q.1 ++ [.int .i64 (e : Nat)])) (hg : (wr.alloc o).grownBy w1 ve.ownBlock) :
  OfR w (w1.setCell ⟨Bx, 0, none⟩ v') Bx gi gp gb S0 n nb inn v' (q.1 ++ [e], q.2) bl := by
 have hk : ∀ k, k < S0 -> w1.heap[k]? = wr.heap[k]? := by
  intro k hk
  have h1 := hg.block k (by have := h.s0; simp; omega) (by
   intro e; have := (h.el.lt k e.symm).1; omega)
  exact h1.trans (Below.heap_alloc _ _ _ (by have := h.s0; omega))
 have hs : wr.heap.size <= w1.heap.size := by have := hg.size; simp at this; omega
 have ac : Below w.heap.size w w1 := (h.bel.alloc h.bel.size o).grown hg (by have := h.bel.size; simp; omega) (by
  intro k e; have := (h.el.lt k e).1; have := hB.h1; have := hB.l1; omega)
 refine ⟨?_, ?_, (h.pl.keep (hk _ hB.l2)).other (fun e => hB.n5 e.symm) _, (h.ir.keep (hk _ hB.l1)).other (fun e => hB.n4 e.symm) _, (h.bk.keep (hk _ hB.l3)).other (fun e => hB.n6 e.symm) _, ac.setCell hB.h4 _, by have := h.s0; simp; omega⟩
 ·have ab := (hk _ hB.l4).trans h.box
  simp [World.setCell, Array.getElem?_modify, ab]
 ·have : (ints (q.1 ++ [e])) = ints q.1 ++ [.int .i64 (e : Nat)] := by simp [ints]
  show (w1.setCell _ _).ownsRow S0 _ 1 v' (q.1 ++ [e]).length (ints (q.1 ++ [e]))
  rw [this, List.length_append]
  exact zlb aa hB.l4 _
theorem zc0 {S0 e size n : Nat} {v : Value} {xs : List Value} {wr : World} (h : wr.ownsRow S0 e size v n xs) : ∃ ao cap, v = .slice ao n cap := by
 rcases h.2 with ⟨rfl, rfl⟩ | ⟨g, cap, cur, rfl, _⟩
 ·exact ⟨_, _, rfl⟩
 ·exact ⟨_, _, rfl⟩
end
structure zC7 (w : World) (B : Nat) (ve vp vi vb : Value) (s : Rf.St) : Prop where
 box : w.heap[B]? = some (.cells #[ve, vp, vi, vb] 257 (0, 0))
 re : w.ownsRow 0 3 1 ve s.elems.length (ints s.elems)
 rp : w.ownsRow 0 3 1 vp s.place.length (ints s.place)
 ri : w.ownsRow 0 3 1 vi s.inn.length (ints s.inn)
 rb : w.ownsRow 0 299 3 vb s.blocks.length (zal s.blocks)
 aep : ∀ g, ve.ownBlock = some g -> vp.ownBlock ≠ some g
 aei : ∀ g, ve.ownBlock = some g -> vi.ownBlock ≠ some g
 api : ∀ g, vp.ownBlock = some g -> vi.ownBlock ≠ some g
def zE5 (B : Nat) (ve vp vi vb : Value) (k : Nat) : Prop := k = B \/ ve.ownBlock = some k \/ vp.ownBlock = some k \/ vi.ownBlock = some k \/ vb.ownBlock = some k
def zor (w : World) (s : Rf.St) (e : Ending) (w' : World) : Prop :=
 ∃ (B : Nat) (ve vp vi vb : Value), e = .returned (.tuple #[.pointer (some ⟨B, 0, none⟩), .nilIface]) /\ zC7 w' B ve vp vi vb s /\ (∀ k, zE5 B ve vp vi vb k -> w.heap.size <= k) /\ Below w.heap.size w w'
theorem OfR.part {w wr : World} {Bx gi gp gb S0 n nb : Nat} {inn : List Nat} {ve : Value} {q : List Nat × List Nat} {bl : List (Nat × Nat × Nat)} {s : Rf.St}
  (h : OfR w wr Bx gi gp gb S0 n nb inn ve q bl) (hB : OfB w Bx gi gp gb S0) (hn : n <= 1000) (ad : nb <= 1000) (h1 : s.elems = q.1) (h2 : s.place = q.2) (h3 : s.inn = inn) (h4 : s.blocks = bl)
  (l2 : q.2.length = n) (l3 : inn.length = n) (l4 : bl.length = nb) :
  zC7 wr Bx ve (.slice (some ⟨gp, 0, none⟩) n n) (.slice (some ⟨gi, 0, none⟩) n n) (.slice (some ⟨gb, 0, none⟩) nb nb) s /\
   (∀ k, zE5 Bx ve (.slice (some ⟨gp, 0, none⟩) n n) (.slice (some ⟨gi, 0, none⟩) n n) (.slice (some ⟨gb, 0, none⟩) nb nb) k -> w.heap.size <= k) := by
 have aa : ∀ g, ve.ownBlock = some g -> S0 <= g := fun g hg => (h.el.lt g hg).1
 have hp : Row wr gp 3 (n * 1) (ints q.2) := by rw [Nat.mul_one]; exact h.pl
 have hi : Row wr gi 3 (n * 1) (ints inn) := by rw [Nat.mul_one]; exact h.ir
 have ab : n <= maxLen := by unfold maxLen; omega
 have ac : nb <= maxLen := by unfold maxLen; omega
 constructor
 ·refine ⟨h.box, ?_, ?_, ?_, ?_, ?_, ?_, ?_⟩
  ·rw [h1]; exact za8 h.el (Nat.zero_le _)
  ·rw [h2, l2]; exact hp.owns (Nat.le_refl _) ab (by rw [zaz, l2, Nat.mul_one])
  ·rw [h3, l3]; exact hi.owns (Nat.le_refl _) ab (by rw [zaz, l3, Nat.mul_one])
  ·rw [h4, l4]; exact h.bk.owns (Nat.le_refl _) ac (by rw [zbs, l4])
  ·intro g hg e
   have := aa g hg; have := hB.l2
   simp only [Value.ownBlock, Option.some.injEq] at e; omega
  ·intro g hg e
   have := aa g hg; have := hB.l1
   simp only [Value.ownBlock, Option.some.injEq] at e; omega
  ·intro g hg e
   simp only [Value.ownBlock, Option.some.injEq] at hg e
   exact hB.n1 (e.trans hg.symm)
 ·intro k hk
  have := hB.h1; have := hB.h2; have := hB.h3; have := hB.h4; have := hB.l4
  rcases hk with rfl | hk | hk | hk | hk
  ·omega
  ·have := aa k hk; omega
  ·simp only [Value.ownBlock, Option.some.injEq] at hk; omega
  ·simp only [Value.ownBlock, Option.some.injEq] at hk; omega
  ·simp only [Value.ownBlock, Option.some.injEq] at hk; omega
theorem zu6 (w : World) (a b : Nat) : (w.drewN a).drewN b = w.drewN (a + b) := by
 simp [World.drewN, Nat.add_assoc]
theorem zAe (B n nb c0n c1n c2n c3n ge gp gi gb e b f m p : Nat) (w : World) (he : e < n) (hb : b < nb) (hp : p < f + m) (hn : n <= 1000) (aa : f + m <= n)
  (c0 : w.cell? ⟨B, 0, none⟩ = some (.slice (some ⟨ge, 0, none⟩) n c0n)) (c1 : w.cell? ⟨B, 1, none⟩ = some (.slice (some ⟨gp, 0, none⟩) n c1n))
  (c2 : w.cell? ⟨B, 2, none⟩ = some (.slice (some ⟨gi, 0, none⟩) n c2n)) (c3 : w.cell? ⟨B, 3, none⟩ = some (.slice (some ⟨gb, 0, none⟩) nb c3n))
  (ci : w.cell? ⟨gi, e, none⟩ = some (.int .i64 b)) (cp : w.cell? ⟨gp, e, none⟩ = some (.int .i64 p))
  (cf : w.cell? ⟨gb, b * 3, none⟩ = some (.int .i64 f)) (cm : w.cell? ⟨gb, b * 3 + 2, none⟩ = some (.int .i64 m)) :
  Calls prog 198 #[.pointer (some ⟨B, 0, none⟩), .int .i64 e] w fun r w' =>
   r = .returned (.tuple #[.bool false, .nilIface]) /\ ∃ q, w.drewN q = w' := by
 go_enter func198, ntmps198
 go_wp2_with (first
  | (go_at_call 217; refine (znm _ _ _ _ _ c0).mono ?_; rintro e w' ⟨rfl, rfl⟩)
  | (go_at_call 204; refine (zdj _ _ _ _ (by omega) (by omega)).mono ?_; rintro e w' ⟨rfl, rfl⟩))
 go_quiet (fail)
 go_wp2_with fail
 have hs : IntKind.i64.wrap ((f : Int) + (m : Int)) = (f : Int) + (m : Int) := IntWalk.i64_in _ (by omega)
 have ab : (p : Int) < (f : Int) + (m : Int) := by omega
 go_quiet (fail)
 go_wp2_with fail
 go_ret2
 exact ⟨rfl, _, (zu6 _ _ _).symm⟩
theorem zx4 (B n nb c0n c1n c2n c3n ge gp gi gb e b f m p : Nat) (w : World) (he : e < n) (hb : b < nb) (hp : f + m <= p) (ab : p < n) (hn : n <= 1000) (R : World -> Prop)
  (c0 : w.cell? ⟨B, 0, none⟩ = some (.slice (some ⟨ge, 0, none⟩) n c0n)) (c1 : w.cell? ⟨B, 1, none⟩ = some (.slice (some ⟨gp, 0, none⟩) n c1n))
  (c2 : w.cell? ⟨B, 2, none⟩ = some (.slice (some ⟨gi, 0, none⟩) n c2n)) (c3 : w.cell? ⟨B, 3, none⟩ = some (.slice (some ⟨gb, 0, none⟩) nb c3n))
  (ci : w.cell? ⟨gi, e, none⟩ = some (.int .i64 b)) (cp : w.cell? ⟨gp, e, none⟩ = some (.int .i64 p))
  (cf : w.cell? ⟨gb, b * 3, none⟩ = some (.int .i64 f)) (cm : w.cell? ⟨gb, b * 3 + 2, none⟩ = some (.int .i64 m))
  (aa : ∀ q, Calls prog 218 #[.pointer (some ⟨B, 0, none⟩), .int .i64 p, .int .i64 (((f + m : Nat)) : Int)] (w.drewN q) fun r w' =>
   r = .returned (.tuple #[]) /\ w'.cell? ⟨gb, b * 3 + 2, none⟩ = some (.int .i64 m) /\ w'.frozen? ⟨gb, b * 3 + 2, none⟩ = false /\ R w') :
  Calls prog 198 #[.pointer (some ⟨B, 0, none⟩), .int .i64 e] w fun r w' =>
   r = .returned (.tuple #[.bool true, .nilIface]) /\ ∃ w1, R w1 /\ w1.setCell ⟨gb, b * 3 + 2, none⟩ (.int .i64 ((m + 1 : Nat) : Int)) = w' := by
 go_enter func198, ntmps198
 go_wp2_with (first
  | (go_at_call 217; refine (znm _ _ _ _ _ c0).mono ?_; rintro e w' ⟨rfl, rfl⟩)
  | (go_at_call 204; refine (zdj _ _ _ _ (by omega) (by omega)).mono ?_; rintro e w' ⟨rfl, rfl⟩))
 go_quiet (fail)
 go_wp2_with fail
 have hs : IntKind.i64.wrap ((f : Int) + (m : Int)) = (f : Int) + (m : Int) := IntWalk.i64_in _ (by omega)
 have ac : (f : Int) + (m : Int) <= (p : Int) := by omega
 go_quiet (fail)
 go_wp2_with fail
 clear c0 c2 c3 ci
 have HS : Hid (∀ q, Calls prog 218 #[.pointer (some ⟨B, 0, none⟩), .int .i64 p, .int .i64 ((f : Int) + (m : Int))] (w.drewN q) fun r w' =>
   r = .returned (.tuple #[]) /\ w'.cell? ⟨gb, b * 3 + 2, none⟩ = some (.int .i64 m) /\ w'.frozen? ⟨gb, b * 3 + 2, none⟩ = false /\ R w') := aa
 clear aa
 refine wp_region_still_tail 17 (by kernel_rfl) (by kernel_rfl) ?_
 simp only [List.take_succ_cons, List.take_zero, List.drop_succ_cons, List.drop_zero]
 change wpStill _ _ (World.drew _) _ _ _
 repeat still_step
 refine wpStill_nil ?_
 change wpList _ _ _ _ _ (World.drew _)
 clear c1 cp cf cm
 go_wp2_with (go_at_call 218; refine (HS.out _).mono ?_; rintro e w1 ⟨rfl, k1, k2, k3⟩)
 go_ret2
 exact ⟨rfl, _, k3, rfl⟩
theorem zl6 (B nb c0n c3n ge gb n b f t m : Nat) (w : World) (hb : b < nb) (ab : f < t) (ac : t <= n) (hn : n <= 1000) (ad : n <= c0n)
  (c0 : w.cell? ⟨B, 0, none⟩ = some (.slice (some ⟨ge, 0, none⟩) n c0n)) (c3 : w.cell? ⟨B, 3, none⟩ = some (.slice (some ⟨gb, 0, none⟩) nb c3n))
  (cf : w.cell? ⟨gb, b * 3, none⟩ = some (.int .i64 f)) (ct : w.cell? ⟨gb, b * 3 + 1, none⟩ = some (.int .i64 t)) (cm : w.cell? ⟨gb, b * 3 + 2, none⟩ = some (.int .i64 m)) :
  Calls prog 203 #[.pointer (some ⟨B, 0, none⟩), .int .i64 b] w fun r w' =>
   r = .returned (.slice (some ⟨ge, f, none⟩) (t - f) (t - f)) /\ ∃ q, (w.alloc (.cells #[.int .i64 f, .int .i64 t, .int .i64 m] 299)).drewN q = w' := by
 have aa : B < w.heap.size := World.block_lt_of_cell? w ⟨B, 0, none⟩ c0
 have h1 : (0 : Int) <= (f : Int) := by omega
 have h2 : (f : Int) <= (t : Int) := by omega
 have h3 : (t : Int) <= (c0n : Int) := by omega
 go_enter func203, ntmps203
 go_wp2_with fail
 have c0' : (w.alloc (.cells #[.int .i64 (f : Int), .int .i64 (t : Int), .int .i64 (m : Int)] 299)).cell? ⟨B, 0, none⟩ = some (.slice (some ⟨ge, 0, none⟩) n c0n) := by
  rw [World.cell?_alloc_lt _ _ _ aa]; exact c0
 clear c0 c3 cf ct cm
 go_quiet (fail)
 go_wp2_with fail
 go_ret
 exact ⟨rfl, _, rfl⟩
structure zG4 (w : World) (B : Nat) (ve vp vi vb : Value) (s : Rf.St) (n ge ce gp cp gi ci gb cb : Nat) : Prop where
 ve : ve = .slice (some ⟨ge, 0, none⟩) n ce
 vp : vp = .slice (some ⟨gp, 0, none⟩) n cp
 vi : vi = .slice (some ⟨gi, 0, none⟩) n ci
 vb : vb = .slice (some ⟨gb, 0, none⟩) s.blocks.length cb
 re : Row w ge 3 ce (ints s.elems)
 rp : Row w gp 3 cp (ints s.place)
 ri : Row w gi 3 ci (ints s.inn)
 rb : Row w gb 299 (cb * 3) (zal s.blocks)
 le : n <= ce /\ ce <= maxLen
 lp : n <= cp /\ cp <= maxLen
 li : n <= ci /\ ci <= maxLen
 lb : s.blocks.length <= cb /\ cb <= maxLen
 nep : ge ≠ gp
 nei : ge ≠ gi
 npi : gp ≠ gi
 neb : ge ≠ gb
 npb : gp ≠ gb
 nib : gi ≠ gb
 nBe : B ≠ ge
 nBp : B ≠ gp
 nBi : B ≠ gi
 nBb : B ≠ gb
theorem zjh {w : World} {g g' c c' : Nat} {e e' : TypeId} {xs ys : List Value} (h : Row w g e c xs) (h' : Row w g' e' c' ys) (he : e ≠ e') : g ≠ g' := by
 rintro rfl
 obtain ⟨cur, h1, _⟩ := h
 obtain ⟨cur', h2, _⟩ := h'
 rw [h1] at h2
 simp only [Option.some.injEq, Obj.cells.injEq] at h2
 exact he h2.2.1
theorem zm4 {w : World} {B g c : Nat} {e e' : TypeId} {xs : List Value} {cs : Array Value} (h : w.heap[B]? = some (.cells cs e' (0, 0))) (h' : Row w g e c xs) (he : e' ≠ e) : B ≠ g := by
 rintro rfl
 obtain ⟨cur, h1, _⟩ := h'
 rw [h1] at h
 simp only [Option.some.injEq, Obj.cells.injEq] at h
 exact he h.2.1.symm
theorem zcx {w : World} {n size base : Nat} {e : TypeId} {v : Value} {xs : List Value} (h : w.ownsRow base e size v n xs) (hn : 0 < n) :
  ∃ g cap, v = .slice (some ⟨g, 0, none⟩) n cap /\ Row w g e (cap * size) xs /\ n <= cap /\ cap <= maxLen := by
 rcases za4 h with ⟨_, h0, _⟩ | ⟨g, cap, hv, hr, h1, h2, _⟩
 ·omega
 ·exact ⟨g, cap, hv, hr, h1, h2⟩
theorem zC7.opened {w : World} {B n : Nat} {ve vp vi vb : Value} {s : Rf.St} (h : zC7 w B ve vp vi vb s) (hI : Rf.Inv s n) (hn : 0 < n) :
  ∃ ge ce gp cp gi ci gb cb, zG4 w B ve vp vi vb s n ge ce gp cp gi ci gb cb := by
 have re := h.re
 have rp := h.rp
 have ri := h.ri
 rw [hI.le] at re
 rw [hI.lp] at rp
 rw [hI.li] at ri
 obtain ⟨ge, ce, h1, r1, a1, b1⟩ := zcx re hn
 obtain ⟨gp, cp, h2, r2, a2, b2⟩ := zcx rp hn
 obtain ⟨gi, ci, h3, r3, a3, b3⟩ := zcx ri hn
 have aa := (hI.in1 0 hn).1
 obtain ⟨gb, cb, h4, r4, a4, b4⟩ := zcx h.rb (by omega)
 rw [Nat.mul_one] at r1 r2 r3
 refine ⟨ge, ce, gp, cp, gi, ci, gb, cb, ⟨h1, h2, h3, h4, r1, r2, r3, r4, ⟨a1, b1⟩, ⟨a2, b2⟩, ⟨a3, b3⟩, ⟨a4, b4⟩, ?_, ?_, ?_, zjh r1 r4 (by decide), zjh r2 r4 (by decide), zjh r3 r4 (by decide),
  zm4 h.box r1 (by decide), zm4 h.box r2 (by decide), zm4 h.box r3 (by decide), zm4 h.box r4 (by decide)⟩⟩
 ·intro e; exact h.aep ge (by rw [h1]; rfl) (by rw [h2, e]; rfl)
 ·intro e; exact h.aei ge (by rw [h1]; rfl) (by rw [h3, e]; rfl)
 ·intro e; exact h.api gp (by rw [h2]; rfl) (by rw [h3, e]; rfl)
theorem zG4.part {w : World} {B n ge ce gp cp gi ci gb cb : Nat} {ve vp vi vb : Value} {s : Rf.St} (h : zG4 w B ve vp vi vb s n ge ce gp cp gi ci gb cb)
  (aa : w.heap[B]? = some (.cells #[ve, vp, vi, vb] 257 (0, 0))) (l1 : s.elems.length = n) (l2 : s.place.length = n) (l3 : s.inn.length = n) : zC7 w B ve vp vi vb s := by
 have r1 : Row w ge 3 (ce * 1) (ints s.elems) := by rw [Nat.mul_one]; exact h.re
 have r2 : Row w gp 3 (cp * 1) (ints s.place) := by rw [Nat.mul_one]; exact h.rp
 have r3 : Row w gi 3 (ci * 1) (ints s.inn) := by rw [Nat.mul_one]; exact h.ri
 refine ⟨aa, ?_, ?_, ?_, ?_, ?_, ?_, ?_⟩
 ·rw [h.ve, l1]; exact r1.owns h.le.1 h.le.2 (by rw [zaz, l1, Nat.mul_one])
 ·rw [h.vp, l2]; exact r2.owns h.lp.1 h.lp.2 (by rw [zaz, l2, Nat.mul_one])
 ·rw [h.vi, l3]; exact r3.owns h.li.1 h.li.2 (by rw [zaz, l3, Nat.mul_one])
 ·rw [h.vb]; exact h.rb.owns h.lb.1 h.lb.2 (by rw [zbs])
 ·intro g hg e
  rw [h.ve] at hg; rw [h.vp] at e
  simp only [Value.ownBlock, Option.some.injEq] at hg e
  exact h.nep (hg.trans e.symm)
 ·intro g hg e
  rw [h.ve] at hg; rw [h.vi] at e
  simp only [Value.ownBlock, Option.some.injEq] at hg e
  exact h.nei (hg.trans e.symm)
 ·intro g hg e
  rw [h.vp] at hg; rw [h.vi] at e
  simp only [Value.ownBlock, Option.some.injEq] at hg e
  exact h.npi (hg.trans e.symm)
theorem zC7.keep {w w' : World} {B : Nat} {ve vp vi vb : Value} {s : Rf.St} (h : zC7 w B ve vp vi vb s) (hk : ∀ k, zE5 B ve vp vi vb k -> w'.heap[k]? = w.heap[k]?) : zC7 w' B ve vp vi vb s :=
 ⟨(hk B (.inl rfl)).trans h.box, za2 h.re (fun g hg => hk g (.inr (.inl hg))), za2 h.rp (fun g hg => hk g (.inr (.inr (.inl hg)))), za2 h.ri (fun g hg => hk g (.inr (.inr (.inr (.inl hg))))),
  za2 h.rb (fun g hg => hk g (.inr (.inr (.inr (.inr hg))))), h.aep, h.aei, h.api⟩
theorem zC7.zCn {w : World} {B k : Nat} {ve vp vi vb : Value} {s : Rf.St} (h : zC7 w B ve vp vi vb s) (hk : zE5 B ve vp vi vb k) : k < w.heap.size := by
 rcases hk with rfl | hk | hk | hk | hk
 ·exact lt_of_block h.box
 ·exact za3 h.re hk
 ·exact za3 h.rp hk
 ·exact za3 h.ri hk
 ·exact za3 h.rb hk
theorem zC7.below {w w' : World} {B : Nat} {ve vp vi vb : Value} {s : Rf.St} (h : zC7 w B ve vp vi vb s) (hb : Below w.heap.size w w') : zC7 w' B ve vp vi vb s :=
 h.keep (fun k hk => hb.block k (h.zCn hk))
def zum (w : World) (B : Nat) (ve vp vi vb : Value) (s : Rf.St) (e : Nat) (r : Ending) (w' : World) : Prop :=
 r = .returned (.tuple #[.bool (s.mark e).1, .nilIface]) /\ zC7 w' B ve vp vi vb (s.mark e).2 /\ Turned (zE5 B ve vp vi vb) w w' /\ w'.heap.size = w.heap.size
theorem zw9 {w : World} {B n e : Nat} {ve vp vi vb : Value} {s : Rf.St} (h : zC7 w B ve vp vi vb s) (hI : Rf.Inv s n) (hn : n <= 1000) (he : e < n) :
  Calls prog 198 #[.pointer (some ⟨B, 0, none⟩), .int .i64 e] w (zum w B ve vp vi vb s e) := by
 obtain ⟨ge, ce, gp, cp, gi, ci, gb, cb, o⟩ := h.opened hI (by omega)
 have ad := o.ve
 have ae := o.vp
 have af := o.vi
 have ag := o.vb
 subst ad ae af ag
 have oe := hI.in1 e he
 have pe := hI.p1 e he
 have bb := hI.b1 _ oe.1
 have c0 : w.cell? ⟨B, 0, none⟩ = some (.slice (some ⟨ge, 0, none⟩) n ce) := by simp [World.cell?, h.box]
 have c1 : w.cell? ⟨B, 1, none⟩ = some (.slice (some ⟨gp, 0, none⟩) n cp) := by simp [World.cell?, h.box]
 have c2 : w.cell? ⟨B, 2, none⟩ = some (.slice (some ⟨gi, 0, none⟩) n ci) := by simp [World.cell?, h.box]
 have c3 : w.cell? ⟨B, 3, none⟩ = some (.slice (some ⟨gb, 0, none⟩) s.blocks.length cb) := by simp [World.cell?, h.box]
 have di := o.ri.cell (zai (l := s.inn) (i := e) (by rw [hI.li]; exact he))
 have dp := o.rp.cell (zai (l := s.place) (i := e) (by rw [hI.lp]; exact he))
 have df := o.rb.cell (zau s.blocks (s.I e) oe.1)
 have dm := o.rb.cell (zb2 s.blocks (s.I e) oe.1)
 by_cases hm : s.P e < s.F (s.I e) + s.M (s.I e)
 ·refine (zAe B n s.blocks.length ce cp ci cb ge gp gi gb e (s.I e) (s.F (s.I e)) (s.M (s.I e)) (s.P e) w he oe.1 hm hn (by omega) c0 c1 c2 c3 di dp df dm).mono ?_
  rintro r w' ⟨rfl, q, rfl⟩
  have hs : s.mark e = (false, s) := by unfold Rf.St.mark; rw [if_pos hm]
  refine ⟨by rw [hs], ?_, (Turned.refl _ _).drewN q, rfl⟩
  rw [hs]
  exact h.keep (fun _ _ => rfl)
 ·have hk : s.F (s.I e) + s.M (s.I e) < n := by omega
  have hs : s.mark e = (true, (s.swap (s.P e) (s.F (s.I e) + s.M (s.I e))).zDd (s.I e)) := by unfold Rf.St.mark; rw [if_neg hm]
  obtain ⟨i, hi⟩ := nm (s.P e)
  obtain ⟨k, ac⟩ := nm (s.F (s.I e) + s.M (s.I e))
  have ab : i < n := by rw [hi]; exact pe.1
  have ei := hI.e1 i ab
  have ek := hI.e1 k (by omega)
  -- what the exchange leaves
  have ah : ∀ q, Calls prog 218 #[.pointer (some ⟨B, 0, none⟩), .int .i64 i, .int .i64 k] (w.drewN q) fun r w' =>
    r = .returned (.tuple #[]) /\ zis (w.drewN q) ge gp i k (s.E i) (s.E k) = w' := by
   intro q
   have xi := o.re.cell (zai (l := s.elems) (i := i) (by rw [hI.le]; exact ab))
   have xk := o.re.cell (zai (l := s.elems) (i := k) (by rw [hI.le]; omega))
   have yi := o.rp.cell (zai (l := s.place) (i := s.E i) (by rw [hI.lp]; exact ei.1))
   have yk := o.rp.cell (zai (l := s.place) (i := s.E k) (by rw [hI.lp]; exact ek.1))
   by_cases hik : i = k
   ·subst hik
    exact zzi B n ce cp ge gp i (s.E i) _ (w.drewN q) ab ei.1 o.nep o.nBe o.nBp c0 c1 xi (o.re.free i) yi (o.rp.free _)
   ·exact zAo B n ce cp ge gp i k (s.E i) (s.E k) _ _ (w.drewN q) ab (by omega) ei.1 ek.1 hik (fun hx => hik (Rf.zI4 hI ab (by omega) hx)) o.nep o.nBe o.nBp c0 c1 xi xk (o.re.free i) (o.re.free k) yi yk (o.rp.free _) (o.rp.free _)
  have aa : ∀ q, Row (zis (w.drewN q) ge gp i k (s.E i) (s.E k)) gb 299 (cb * 3) (zal s.blocks) := by
   intro q
   have h1 : Row (w.drewN q) gb 299 (cb * 3) (zal s.blocks) := o.rb
   exact ((((h1.other (a := ⟨ge, i, none⟩) o.neb.symm _).other (a := ⟨ge, k, none⟩) o.neb.symm _).drew.other (a := ⟨gp, s.E k, none⟩) o.npb.symm _).other (a := ⟨gp, s.E i, none⟩) o.npb.symm _).drew
  refine (zx4 B n s.blocks.length ce cp ci cb ge gp gi gb e (s.I e) (s.F (s.I e)) (s.M (s.I e)) (s.P e) w he oe.1 (by omega) pe.1 hn
   (fun w1 => ∃ q, zis (w.drewN q) ge gp i k (s.E i) (s.E k) = w1) c0 c1 c2 c3 di dp df dm ?_).mono ?_
  ·intro q
   rw [<- hi, <- ac]
   refine (ah q).mono ?_
   rintro r w' ⟨rfl, rfl⟩
   exact ⟨rfl, (aa q).cell (zb2 s.blocks (s.I e) oe.1), (aa q).free _, q, rfl⟩
  ·rintro r w' ⟨rfl, w1, ⟨q, rfl⟩, rfl⟩
   rw [zum, hs, <- hi, <- ac]
   have t0 : Turned (zE5 B (.slice (some ⟨ge, 0, none⟩) n ce) (.slice (some ⟨gp, 0, none⟩) n cp) (.slice (some ⟨gi, 0, none⟩) n ci) (.slice (some ⟨gb, 0, none⟩) s.blocks.length cb)) w (w.drewN q) := (Turned.refl _ _).drewN q
   have fe : zE5 B (.slice (some ⟨ge, 0, none⟩) n ce) (.slice (some ⟨gp, 0, none⟩) n cp) (.slice (some ⟨gi, 0, none⟩) n ci) (.slice (some ⟨gb, 0, none⟩) s.blocks.length cb) ge := .inr (.inl rfl)
   have fp : zE5 B (.slice (some ⟨ge, 0, none⟩) n ce) (.slice (some ⟨gp, 0, none⟩) n cp) (.slice (some ⟨gi, 0, none⟩) n ci) (.slice (some ⟨gb, 0, none⟩) s.blocks.length cb) gp := .inr (.inr (.inl rfl))
   have fb : zE5 B (.slice (some ⟨ge, 0, none⟩) n ce) (.slice (some ⟨gp, 0, none⟩) n cp) (.slice (some ⟨gi, 0, none⟩) n ci) (.slice (some ⟨gb, 0, none⟩) s.blocks.length cb) gb := .inr (.inr (.inr (.inr rfl)))
   have hT : Turned (zE5 B (.slice (some ⟨ge, 0, none⟩) n ce) (.slice (some ⟨gp, 0, none⟩) n cp) (.slice (some ⟨gi, 0, none⟩) n ci) (.slice (some ⟨gb, 0, none⟩) s.blocks.length cb)) w ((zis (w.drewN q) ge gp i k (s.E i) (s.E k)).setCell ⟨gb, s.I e * 3 + 2, none⟩ (.int .i64 ((s.M (s.I e) + 1 : Nat) : Int))) :=
    (((((((t0.setCell (p := ⟨ge, i, none⟩) (.inl fe) _).setCell (p := ⟨ge, k, none⟩) (.inl fe) _).drew).setCell (p := ⟨gp, s.E k, none⟩) (.inl fp) _).setCell (p := ⟨gp, s.E i, none⟩) (.inl fp) _).drew).setCell (p := ⟨gb, s.I e * 3 + 2, none⟩) (.inl fb) _)
   refine ⟨rfl, ?_, hT, by simp [zis]⟩
   have o2 : zG4 ((zis (w.drewN q) ge gp i k (s.E i) (s.E k)).setCell ⟨gb, s.I e * 3 + 2, none⟩ (.int .i64 ((s.M (s.I e) + 1 : Nat) : Int))) B (.slice (some ⟨ge, 0, none⟩) n ce) (.slice (some ⟨gp, 0, none⟩) n cp) (.slice (some ⟨gi, 0, none⟩) n ci)
     (.slice (some ⟨gb, 0, none⟩) s.blocks.length cb) ((s.swap i k).zDd (s.I e)) n ge ce gp cp gi ci gb cb := by
    refine ⟨rfl, rfl, rfl, by rw [Rf.zDl]; rfl, ?_, ?_, ?_, ?_, o.le, o.lp, o.li, by rw [Rf.zDl]; exact o.lb, o.nep, o.nei, o.npi, o.neb, o.npb, o.nib, o.nBe, o.nBp, o.nBi, o.nBb⟩
    ·have h1 : Row (w.drewN q) ge 3 ce (ints s.elems) := o.re
     have h2 := (((((h1.set i (.int .i64 (s.E k : Nat))).set k (.int .i64 (s.E i : Nat))).drew).other (a := ⟨gp, s.E k, none⟩) o.nep (.int .i64 (i : Nat))).other (a := ⟨gp, s.E i, none⟩) o.nep (.int .i64 (k : Nat))).drew.other (a := ⟨gb, s.I e * 3 + 2, none⟩) o.neb (.int .i64 ((s.M (s.I e) + 1 : Nat) : Int))
     rw [<- ints_set, <- ints_set] at h2
     exact h2
    ·have h1 : Row (w.drewN q) gp 3 cp (ints s.place) := o.rp
     have h2 := (((((h1.other (a := ⟨ge, i, none⟩) o.nep.symm (.int .i64 (s.E k : Nat))).other (a := ⟨ge, k, none⟩) o.nep.symm (.int .i64 (s.E i : Nat))).drew).set (s.E k) (.int .i64 (i : Nat))).set (s.E i) (.int .i64 (k : Nat))).drew.other (a := ⟨gb, s.I e * 3 + 2, none⟩) o.npb (.int .i64 ((s.M (s.I e) + 1 : Nat) : Int))
     rw [<- ints_set, <- ints_set] at h2
     exact h2
    ·have h1 : Row (w.drewN q) gi 3 ci (ints s.inn) := o.ri
     exact (((((h1.other (a := ⟨ge, i, none⟩) o.nei.symm _).other (a := ⟨ge, k, none⟩) o.nei.symm _).drew).other (a := ⟨gp, s.E k, none⟩) o.npi.symm _).other (a := ⟨gp, s.E i, none⟩) o.npi.symm _).drew.other (a := ⟨gb, s.I e * 3 + 2, none⟩) o.nib _
    ·have h2 := (aa q).set (s.I e * 3 + 2) (.int .i64 ((s.M (s.I e) + 1 : Nat) : Int))
     rw [zcl _ _ _ oe.1] at h2
     exact h2
   refine o2.part ?_ (by simp [Rf.St.zDd, Rf.St.swap, hI.le]) (by simp [Rf.St.zDd, Rf.St.swap, hI.lp]) hI.li
   rw [<- h.box]
   show ((((((w.drewN q).setCell ⟨ge, i, none⟩ _).setCell ⟨ge, k, none⟩ _).drew.setCell ⟨gp, s.E k, none⟩ _).setCell ⟨gp, s.E i, none⟩ _).drew.setCell ⟨gb, s.I e * 3 + 2, none⟩ _).heap[B]? = _
   rw [Below.heap_setCell _ _ _ _ o.nBb]
   show ((((((w.drewN q).setCell ⟨ge, i, none⟩ _).setCell ⟨ge, k, none⟩ _).drew.setCell ⟨gp, s.E k, none⟩ _).setCell ⟨gp, s.E i, none⟩ _)).heap[B]? = _
   rw [Below.heap_setCell _ _ _ _ o.nBp, Below.heap_setCell _ _ _ _ o.nBp]
   show (((w.drewN q).setCell ⟨ge, i, none⟩ _).setCell ⟨ge, k, none⟩ _).heap[B]? = _
   rw [Below.heap_setCell _ _ _ _ o.nBe, Below.heap_setCell _ _ _ _ o.nBe]
   rfl
structure Ob (w : World) (B : Nat) (s : Rf.St) (n ge ce gp cp gi ci gb cb : Nat) : Prop where
 box : w.heap[B]? = some (.cells #[.slice (some ⟨ge, 0, none⟩) n ce, .slice (some ⟨gp, 0, none⟩) n cp, .slice (some ⟨gi, 0, none⟩) n ci, .slice (some ⟨gb, 0, none⟩) s.blocks.length cb] 257 (0, 0))
 o : zG4 w B (.slice (some ⟨ge, 0, none⟩) n ce) (.slice (some ⟨gp, 0, none⟩) n cp) (.slice (some ⟨gi, 0, none⟩) n ci) (.slice (some ⟨gb, 0, none⟩) s.blocks.length cb) s n ge ce gp cp gi ci gb cb
section
variable {w : World} {B n ge ce gp cp gi ci gb cb : Nat} {s : Rf.St}
theorem Ob.c0 (h : Ob w B s n ge ce gp cp gi ci gb cb) : w.cell? ⟨B, 0, none⟩ = some (.slice (some ⟨ge, 0, none⟩) n ce) := by simp [World.cell?, h.box]
theorem Ob.c2 (h : Ob w B s n ge ce gp cp gi ci gb cb) : w.cell? ⟨B, 2, none⟩ = some (.slice (some ⟨gi, 0, none⟩) n ci) := by simp [World.cell?, h.box]
theorem Ob.c3 (h : Ob w B s n ge ce gp cp gi ci gb cb) : w.cell? ⟨B, 3, none⟩ = some (.slice (some ⟨gb, 0, none⟩) s.blocks.length cb) := by simp [World.cell?, h.box]
theorem Ob.keep {w' : World} (h : Ob w B s n ge ce gp cp gi ci gb cb) (hk : ∀ k, k = B \/ k = ge \/ k = gp \/ k = gi \/ k = gb -> w'.heap[k]? = w.heap[k]?) : Ob w' B s n ge ce gp cp gi ci gb cb :=
 ⟨(hk B (.inl rfl)).trans h.box, rfl, rfl, rfl, rfl, h.o.re.keep (hk _ (.inr (.inl rfl))), h.o.rp.keep (hk _ (.inr (.inr (.inl rfl)))), h.o.ri.keep (hk _ (.inr (.inr (.inr (.inl rfl))))), h.o.rb.keep (hk _ (.inr (.inr (.inr (.inr rfl))))),
  h.o.le, h.o.lp, h.o.li, h.o.lb, h.o.nep, h.o.nei, h.o.npi, h.o.neb, h.o.npb, h.o.nib, h.o.nBe, h.o.nBp, h.o.nBi, h.o.nBb⟩
theorem Ob.lt (h : Ob w B s n ge ce gp cp gi ci gb cb) {k : Nat} (hk : k = B \/ k = ge \/ k = gp \/ k = gi \/ k = gb) : k < w.heap.size := by
 rcases hk with rfl | rfl | rfl | rfl | rfl
 ·exact lt_of_block h.box
 ·exact h.o.re.lt
 ·exact h.o.rp.lt
 ·exact h.o.ri.lt
 ·exact h.o.rb.lt
theorem Ob.drewN (h : Ob w B s n ge ce gp cp gi ci gb cb) (q : Nat) : Ob (w.drewN q) B s n ge ce gp cp gi ci gb cb := h.keep (fun _ _ => rfl)
theorem Ob.drew (h : Ob w B s n ge ce gp cp gi ci gb cb) : Ob w.drew B s n ge ce gp cp gi ci gb cb := h.keep (fun _ _ => rfl)
theorem Ob.alloc (h : Ob w B s n ge ce gp cp gi ci gb cb) (o : Obj) : Ob (w.alloc o) B s n ge ce gp cp gi ci gb cb := h.keep (fun k hk => Below.heap_alloc _ _ _ (h.lt hk))
theorem Ob.zJq (h : Ob w B s n ge ce gp cp gi ci gb cb) (j : Nat) (v : Value) (bl : List (Nat × Nat × Nat)) (he : (zal s.blocks).set j v = zal bl) (hl : bl.length = s.blocks.length) :
  Ob (w.setCell ⟨gb, j, none⟩ v) B { s with blocks := bl } n ge ce gp cp gi ci gb cb := by
 refine ⟨?_, rfl, rfl, rfl, rfl, h.o.re.other h.o.neb _, h.o.rp.other h.o.npb _, h.o.ri.other h.o.nib _, ?_, h.o.le, h.o.lp, h.o.li, ?_, h.o.nep, h.o.nei, h.o.npi, h.o.neb, h.o.npb, h.o.nib, h.o.nBe, h.o.nBp, h.o.nBi, h.o.nBb⟩
 ·rw [Below.heap_setCell _ _ _ _ h.o.nBb, h.box]; simp [hl]
 ·have := h.o.rb.set j v
  rw [he] at this; exact this
 ·show bl.length <= cb /\ _
  rw [hl]; exact h.o.lb
theorem Ob.zKt (h : Ob w B s n ge ce gp cp gi ci gb cb) (e v : Nat) : Ob (w.setCell ⟨gi, e, none⟩ (.int .i64 (v : Nat))) B { s with inn := s.inn.set e v } n ge ce gp cp gi ci gb cb := by
 refine ⟨?_, rfl, rfl, rfl, rfl, h.o.re.other h.o.nei _, h.o.rp.other h.o.npi _, ?_, h.o.rb.other h.o.nib.symm _, h.o.le, h.o.lp, h.o.li, h.o.lb, h.o.nep, h.o.nei, h.o.npi, h.o.neb, h.o.npb, h.o.nib, h.o.nBe, h.o.nBp, h.o.nBi, h.o.nBb⟩
 ·rw [Below.heap_setCell _ _ _ _ h.o.nBi, h.box]
 ·rw [ints_set]; exact h.o.ri.set e _
theorem Ob.push {w1 w' : World} {v' : Value} {x : Nat × Nat × Nat} (h : Ob w B s n ge ce gp cp gi ci gb cb) (aa : w1.ownsRow 0 299 3 v' (s.blocks.length + 1) (zal s.blocks ++ zal [x]))
  (hg : w'.grownBy w1 (some gb)) (hw : ∀ k, k < w.heap.size -> w'.heap[k]? = w.heap[k]?) (hs : w.heap.size <= w'.heap.size) :
  ∃ gb' cb', v' = .slice (some ⟨gb', 0, none⟩) (s.blocks.length + 1) cb' /\ Ob (w1.setCell ⟨B, 3, none⟩ v') B { s with blocks := s.blocks ++ [x] } n ge ce gp cp gi ci gb' cb' := by
 obtain ⟨gb', cb', rfl, r, l1, l2⟩ := zcx aa (Nat.succ_pos _)
 have hk : ∀ k, k < w.heap.size -> k ≠ gb -> w1.heap[k]? = w.heap[k]? := fun k hk hn => (hg.block k (by omega) (by simp; exact hn)).trans (hw k hk)
 have re := h.o.re.keep (hk _ h.o.re.lt h.o.neb)
 have rp := h.o.rp.keep (hk _ h.o.rp.lt h.o.npb)
 have ri := h.o.ri.keep (hk _ h.o.ri.lt h.o.nib)
 have hb := (hk _ (lt_of_block h.box) h.o.nBb).trans h.box
 have nBb : B ≠ gb' := zm4 hb r (by decide)
 refine ⟨gb', cb', rfl, ?_, rfl, rfl, rfl, ?_, re.other h.o.nBe.symm _, rp.other h.o.nBp.symm _, ri.other h.o.nBi.symm _, ?_, h.o.le, h.o.lp, h.o.li, ?_, h.o.nep, h.o.nei, h.o.npi, zjh re r (by decide), zjh rp r (by decide), zjh ri r (by decide), h.o.nBe, h.o.nBp, h.o.nBi, nBb⟩
 ·simp [World.setCell, Array.getElem?_modify, hb]
 ·simp
 ·have := r.other (a := ⟨B, 3, none⟩) nBb.symm (.slice (some ⟨gb', 0, none⟩) (s.blocks.length + 1) cb')
  rw [<- zf6] at this; exact this
 ·simp only [List.length_append, List.length_singleton]; exact ⟨l1, l2⟩
theorem zC7.ob {ve vp vi vb : Value} (h : zC7 w B ve vp vi vb s) (hI : Rf.Inv s n) (hn : 0 < n) : ∃ ge ce gp cp gi ci gb cb, ve = .slice (some ⟨ge, 0, none⟩) n ce /\ vp = .slice (some ⟨gp, 0, none⟩) n cp /\
  vi = .slice (some ⟨gi, 0, none⟩) n ci /\ vb = .slice (some ⟨gb, 0, none⟩) s.blocks.length cb /\ Ob w B s n ge ce gp cp gi ci gb cb := by
 obtain ⟨ge, ce, gp, cp, gi, ci, gb, cb, o⟩ := h.opened hI hn
 have h1 := o.ve
 have h2 := o.vp
 have h3 := o.vi
 have h4 := o.vb
 subst h1 h2 h3 h4
 exact ⟨ge, ce, gp, cp, gi, ci, gb, cb, rfl, rfl, rfl, rfl, h.box, o⟩
theorem Ob.part (h : Ob w B s n ge ce gp cp gi ci gb cb) (l1 : s.elems.length = n) (l2 : s.place.length = n) (l3 : s.inn.length = n) :
  zC7 w B (.slice (some ⟨ge, 0, none⟩) n ce) (.slice (some ⟨gp, 0, none⟩) n cp) (.slice (some ⟨gi, 0, none⟩) n ci) (.slice (some ⟨gb, 0, none⟩) s.blocks.length cb) s := h.o.part h.box l1 l2 l3
end
end Go.Proofs.YtoaoajfjcfcmhaaGreatDoor
