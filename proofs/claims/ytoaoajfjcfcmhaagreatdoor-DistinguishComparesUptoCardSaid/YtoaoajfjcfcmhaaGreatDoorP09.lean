/- Walks: slices.Compare at two integers each, the order of pairs, slices.SortFunc at pairs. The map of a round: signatures as keys, their numbers as elements. Walk: slices.Equal at integers. Walks: rounds.each and its closure. -/
import Derived.Test.YtoaoajfjcfcmhaaGreatDoorP06
import Derived.Shelf.SlSortCmp.QuietGrown
import Derived.Test.YtoaoajfjcfcmhaaGreatDoorP08
import Derived.Lib.AppendIntMem
import Derived.Lib.ItoaLen
import Derived.Lib.Slices
import Derived.Laws.IdiomStrings
import Derived.OwnWalk
import Derived.BigCall
import Derived.Deep.Cut
import Derived.Test.YtoaoajfjcfcmhaaGreatDoorP01
import Derived.Maps.OwnSet
import Derived.Maps.OwnOps
import Derived.WideKeyPair
import Derived.DeepKeys4
import Derived.ChangeBookTie2
import Derived.Test.YtoaoajfjcfcmhaaGreatDoorP02
import Derived.Laws.StructEq
import Derived.Deep.RegionHeld3
import Derived.Deep.DeepCutAuto
set_option linter.unusedVariables false
set_option linter.unusedSimpArgs false
set_option linter.unusedSectionVars false
set_option maxHeartbeats 16000000
set_option maxRecDepth 100000
open Go.Proofs.Tryz
namespace Go.Proofs.YtoaoajfjcfcmhaaGreatDoor
open Go.RowKit Go.Sort Go.Shelf
def cf2 (x y : Int × Int) : Int := if zFj x.1 y.1 ≠ 0 then zFj x.1 y.1 else zFj x.2 y.2
theorem zy3 : ltOf cf2 = Sy.lt2 := by
 funext x y
 unfold ltOf Sy.lt2
 congr 1
 unfold cf2 zFj
 apply propext
 repeat' split
 all_goals omega
theorem zp2 (a b c d : Int) (g h cg ch : Nat) (w : World) (g0 : w.cell? ⟨g, 0, none⟩ = some (.int .i64 a)) (g1 : w.cell? ⟨g, 1, none⟩ = some (.int .i64 b)) (h0 : w.cell? ⟨h, 0, none⟩ = some (.int .i64 c)) (h1 : w.cell? ⟨h, 1, none⟩ = some (.int .i64 d)) :
  Calls prog 213 #[.slice (some ⟨g, 0, none⟩) 2 cg, .slice (some ⟨h, 0, none⟩) 2 ch] w fun e w' => e = .returned (.int .i64 (cf2 (a, b) (c, d))) /\ w = w' := by
 obtain ⟨p, hp⟩ : ∃ p, zFj a c = p := ⟨_, rfl⟩
 obtain ⟨q, hq⟩ : ∃ q, zFj b d = q := ⟨_, rfl⟩
 have HP := fun W => zh (by have := zlf a c W; rw [hp] at this; exact this)
 have HQ := fun W => zh (by have := zlf b d W; rw [hq] at this; exact this)
 have HF : Hid (cf2 (a, b) (c, d) = if p ≠ 0 then p else q) := zh (by unfold cf2; rw [hp, hq])
 rw [HF.out]
 clear hp hq HF
 by_cases h0p : p = 0
 ·subst h0p
  by_cases h0q : q = 0
  ·subst h0q
   go_enter func213, ntmps213
   go_wp2_with fail
   refine wp_loop_rounds 3 ?_
   iterate 3
    rw [rounds_succ]
    go_wp2_with (first
     | (go_at_call 122; (with_reducible refine (HP _).out.mono ?_); rintro e w1 ⟨rfl, rfl⟩)
     | (go_at_call 122; (with_reducible refine (HQ _).out.mono ?_); rintro e w1 ⟨rfl, rfl⟩))
   go_ret
   exact ⟨rfl, rfl⟩
  ·have qq : (q != 0) = true := by simpa using h0q
   go_enter func213, ntmps213
   go_wp2_with fail
   refine wp_loop_rounds 2 ?_
   iterate 2
    rw [rounds_succ]
    go_wp2_with (first
     | (go_at_call 122; (with_reducible refine (HP _).out.mono ?_); rintro e w1 ⟨rfl, rfl⟩)
     | (go_at_call 122; (with_reducible refine (HQ _).out.mono ?_); rintro e w1 ⟨rfl, rfl⟩))
   go_ret
   exact ⟨by simp, rfl⟩
 ·have qp : (p != 0) = true := by simpa using h0p
  go_enter func213, ntmps213
  go_wp2_with fail
  refine wp_loop_rounds 1 ?_
  iterate 1
   rw [rounds_succ]
   go_wp2_with (go_at_call 122; (with_reducible refine (HP _).out.mono ?_); rintro e w1 ⟨rfl, rfl⟩)
  go_ret
  exact ⟨by simp [h0p], rfl⟩
theorem zC1 (w : World) (A B : Obj) (n : Nat) : ∃ q os, ((w.alloc A).alloc B).drewN n = grow (w.drewN q) os :=
 ⟨n, #[A, B], by simp only [alloc_eq_grow]; show grow (grow (w.drewN n) #[A]) #[B] = _; rw [grow_grow]; rfl⟩
theorem zra (x y : Int × Int) (w : World) : Calls prog 212 #[.agg #[.int .i64 x.1, .int .i64 x.2], .agg #[.int .i64 y.1, .int .i64 y.2]] w fun e w' =>
  e = .returned (.int .i64 (cf2 x y)) /\ ∃ q os, w' = grow (w.drewN q) os := by
 obtain ⟨x1, x2⟩ := x
 obtain ⟨y1, y2⟩ := y
 simp only
 obtain ⟨r, hr⟩ : ∃ r, cf2 (x1, x2) (y1, y2) = r := ⟨_, rfl⟩
 have HC := fun W g h cg ch g0 g1 h0 h1 => zh (zp2 x1 x2 y1 y2 g h cg ch W g0 g1 h0 h1)
 rw [hr] at HC ⊢
 clear hr
 go_enter func212, ntmps212
 go_wp2_with fail
 refine wp_region_still_tail 2 (by kernel_rfl) (by kernel_rfl) ?_
 simp only [List.take_succ_cons, List.take_zero, List.drop_succ_cons, List.drop_zero]
 change wpStill _ _ (World.drew _) _ _ _
 repeat still_step
 refine wpStill_nil ?_
 change wpList _ _ _ _ _ (World.drew _)
 go_wp2_with (go_at_call 213; (with_reducible refine (HC _ _ _ _ _ (by go_simp) (by go_simp) (by go_simp) (by go_simp)).out.mono ?_); rintro e w4 ⟨rfl, rfl⟩)
 go_ret
 exact ⟨rfl, zC1 w _ _ 1⟩
theorem zrg (g cap : Nat) (l : List (Int × Int)) (w : World) (hr : Row w g 201 (cap * 2) (za7 l)) (hm : l.length <= 1000000) :
  Calls prog 211 #[.slice (some ⟨g, 0, none⟩) l.length cap, .func (.func 212) #[] #[]] w (zfu two 201 2 Sy.lt2 w g cap l) := by
 have eg : ∀ args w, (callFunc 212 args).run prog w = .ok (.enter 212 args) w := enters_of func212 (by kernel_rfl) rfl
 have aa := AnyQ.slices_SortFunc Tryz.laysSortP 2 Tryz.isAgg201 Tryz.sizeOf201 two zfx zg1 cf2 (by rw [zy3]; exact zo1 Sy.zKk) 212 #[] g 0 cap l.toArray w eg
  (fun m os dk _ x y => zra x y _) (hr.zIi zfx) hr.lt (by simp; omega)
 rw [zy3] at aa
 refine aa.mono fun e w' ⟨he, d, n, os, hp, hs, hw⟩ => ?_
 subst he
 exact ze6 zfx hr hp hs hw
theorem zte (fv : Value) (w : World) : Calls prog 211 #[.slice none 0 0, fv] w fun r w' => r = .returned (.tuple #[]) /\ w' = w :=
 AnyF.slices_SortFunc_none Tryz.laysSortP none 0 fv w
theorem zL0 {w : World} {base g cap : Nat} {l : List (Int × Int)} {e : TypeId} (hb : base <= g) (hr : Row w g e (cap * 2) (za7 l)) (hn : l.length <= cap) (hc : cap <= maxLen) : w.ownsRow base e 2 (.slice (some ⟨g, 0, none⟩) l.length cap) l.length (za7 l) := by
 have h := hr.owns (n := l.length) (size := 2) hn hc (zbo l)
 refine ⟨h.1, ?_⟩
 rcases h.2 with ⟨h1, h2⟩ | ⟨g', cap', cur, a, b, r⟩
 ·cases h1
 ·simp only [Value.slice.injEq, Option.some.injEq, Addr.mk.injEq, and_true, true_and] at a
  obtain ⟨rfl, rfl⟩ := a
  exact .inr ⟨_, _, cur, rfl, hb, r⟩
theorem zuv {base : Nat} {v : Value} {l : List (Int × Int)} {W : World} (ho : W.ownsRow base 201 2 v l.length (za7 l)) (hm : l.length <= 1000000) :
  Calls prog 211 #[v, .func (.func 212) #[] #[]] W fun r W' =>
   r = .returned (.tuple #[]) /\ ∃ l' : List (Int × Int), l'.Perm l /\ l'.Pairwise (fun a b => Sy.lt2 b a = false) /\ W'.ownsRow base 201 2 v l'.length (za7 l') /\ Turned (fun k => v.ownBlock = some k) W W' := by
 have hb := ho.lt
 rcases za4 ho with ⟨rfl, h0, -⟩ | ⟨g, cap, rfl, hr, hn, hc, -⟩
 ·refine (zte _ W).mono fun r W' ⟨h1, h2⟩ => ⟨h1, l, List.Perm.refl _, ?_, by rw [h2]; exact ho, by rw [h2]; exact Turned.refl _ _⟩
  rw [List.eq_nil_of_length_eq_zero h0]; exact List.Pairwise.nil
 ·refine (zrg g cap l W hr hm).mono fun r W' ⟨h1, l', h2, h3, h4, h5⟩ => ⟨h1, l', h2, h3, ?_, h5.mono (fun i _ (e : i = g) => by rw [e]; rfl)⟩
  rw [<- h2.length_eq] at hn ⊢
  exact zL0 (hb g rfl).1 h4 hn hc
theorem zmw {base : Nat} {v : Value} {l : List (Int × Int)} {W : World} (ho : W.ownsRow base 201 2 v l.length (za7 l)) (hm : l.length <= 1000000) :
  Calls prog 214 #[v] W fun r W' => ∃ v', r = .returned v' /\ W'.ownsRow base 201 2 v' (Sy.cpt l).length (za7 (Sy.cpt l)) /\ Turned (fun k => v.ownBlock = some k) W W' := by
 have hb := ho.lt
 rcases za4 ho with ⟨rfl, h0, -⟩ | ⟨g, cap, rfl, hr, hn, hc, -⟩
 ·refine (zg9 W).mono fun r W' ⟨h1, h2⟩ => ⟨_, h1, ?_, by rw [<- h2]; exact Turned.refl _ _⟩
  rw [List.eq_nil_of_length_eq_zero h0]; exact World.ownsRow_nil _ _ _ _
 ·refine (zl4 g cap l W hr hn hm hc).mono fun r W' ⟨h1, h2, h3, h4⟩ => ⟨_, h1, zL0 (hb g rfl).1 h3 h2 hc, h4.mono (fun i _ (e : i = g) => by rw [e]; rfl)⟩
theorem Tryz.zH3 : (prog.info? 5).map (fun i => (i.zero, i.size, i.bytes)) = some (some (.int .u8 0), 1, 1) := by kernel_rfl
theorem Tryz.zK4 : (prog.info? 201).map (fun i => (i.zero, i.size, i.bytes)) = some (some (.agg #[.int .i64 0, .int .i64 0]), 2, 16) := by kernel_rfl
def Tab (w : World) : Prop := Lib.TabIs prog w "internal/strconv.uint64pow10" .u64 Lib.pow10Tab
theorem Tab.up {w w1 : World} (h : Tab w) (hu : Up w w1) : Tab w1 := Lib.tabBelow_of_tabIs h w1 hu
theorem Tab.below {w w1 : World} {B : Nat} (h : Tab w) (hu : Up w w1) (hB : w.heap.size <= B) : Lib.TabBelow prog B w1 "internal/strconv.uint64pow10" .u64 Lib.pow10Tab :=
 fun w' hb => Lib.tabBelow_of_tabIs h w' (Below.trans hu (hb.mono hB))
theorem zdk (B n : Nat) (i : Int) (h0 : -9223372036854775808 <= i) (h1 : i <= 9223372036854775807) (sv : Value) (xs : List Value) (w : World) (aa : w.ownsRow B 5 1 sv n xs) (ad : B <= w.heap.size) (ab : n + 21 <= 140737488355328)
  (ac : Lib.TabBelow prog B w "internal/strconv.uint64pow10" .u64 Lib.pow10Tab) :
  Calls prog 162 #[sv, .int .i64 i, .int .i64 10] w fun e w' => ∃ v', e = .returned v' /\ w'.ownsRow B 5 1 v' (n + (Lib.itoa i).length) (xs ++ Lib.byteCells (Lib.itoa i)) /\ Below B w w' /\ Lib.OthersKept 5 none w w' :=
 Any.strconv_AppendInt_10 Tryz.laysAppendInt B n i h0 h1 sv xs w aa ad ab ac
structure zCc (w0 w : World) (l : List UInt8) (v : Value) : Prop where
 up : Up w0 w
 own : w.ownsRow w0.heap.size 5 1 v l.length (Lib.byteCells l)
theorem zCc.put {w0 w w1 w2 : World} {l k : List UInt8} {v v1 v2 : Value} {o : Obj} (h : zCc w0 w l v) (hb : Below w0.heap.size w w1)
  (h1 : w1.ownsRow w0.heap.size 5 1 v1 (l.length + k.length) (Lib.byteCells l ++ Lib.byteCells k)) (h2 : w2.ownsRow w0.heap.size 5 1 v2 (l.length + k.length + 1) (Lib.byteCells l ++ Lib.byteCells k ++ [Value.int .u8 32]))
  (hg : (w1.alloc o).grownBy w2 v1.ownBlock) : zCc w0 w2 (l ++ (k ++ [32])) v2 := by
 refine ⟨?_, ?_⟩
 ·exact Up.grown (Up.alloc (Below.trans h.up hb) o) hg (fun g hk => (h1.lt g hk).1)
 ·have e : Lib.byteCells (l ++ (k ++ [32])) = Lib.byteCells l ++ Lib.byteCells k ++ [Value.int .u8 32] := by simp [Lib.byteCells]
  have el : (l ++ (k ++ [32])).length = l.length + k.length + 1 := by simp; omega
  rw [e, el]; exact h2
theorem zxw {w w1 w2 : World} {b n : Nat} {o x : Obj} {base : Nat} {v1 : Value} {xs : List Value} (hx : w.heap[b]? = some x) (aa : ∀ c fz, x ≠ .cells c 5 fz) (ho : Lib.OthersKept 5 none w w1)
  (h1 : w1.ownsRow base 5 1 v1 n xs) (hg : (w1.alloc o).grownBy w2 v1.ownBlock) : w1.heap[b]? = some x /\ w2.heap[b]? = some x := by
 have e1 := ho b x hx (by simp) aa
 have l1 := za0 e1
 refine ⟨e1, (hg.block b (by simp; omega) (fun e => ?_)).trans ((Below.heap_alloc w1 o b l1).trans e1)⟩
 obtain ⟨cur, hc⟩ := za5 h1 e.symm
 rw [e1, Option.some.injEq] at hc
 exact aa _ _ hc
theorem zCc.string {w0 w : World} {l : List UInt8} {v : Value} (h : zCc w0 w l v) : ∃ ao n c, v = .slice ao n c /\ (convert 230 9 (.slice ao n c)).run prog w = .ok (.string ⟨l.toArray⟩) w := by
 rcases za4 h.own with ⟨rfl, h0, -⟩ | ⟨g, cap, rfl, hr, -⟩
 ·obtain rfl : l = [] := List.eq_nil_of_length_eq_zero h0
  exact ⟨none, 0, 0, rfl, by kernel_rfl⟩
 ·exact ⟨_, _, cap, rfl, run_convert_bytes_back (P := prog) w 230 9 5 ⟨g, 0, none⟩ cap l underlying230 underlying5 underlying9 (fun j hj => h.own.cells (g := g) rfl j _ (by simp [Lib.byteCells, hj]))⟩
def zca (c : List Nat) (l : List (Int × Int)) : List (Int × Int) := l.map fun x => (x.1, ((c.getD x.2.toNat 0 : Nat) : Int))
def zy0 (w : World) (k : Int) (c : List Nat) (l : List (Int × Int)) (r : Ending) (w' : World) : Prop :=
 r = .returned (.agg #[.int .i64 k, .string ⟨(Rd.text (Sy.norm Sy.lt2 (zca c l))).toArray⟩]) /\ Up w w'
theorem zaw {x x' : World} {v : Value} {a : Addr} {u : Value} (hg : x.grownBy x' v.ownBlock) (hc : x.cell? a = some u) (aa : v.ownBlock ≠ some a.block) : x'.cell? a = some u :=
 (World.cell?_of_block (w := x) (a := a) (hg.block a.block (World.block_lt_of_cell? x _ hc) (fun e => aa e.symm))).trans hc
theorem zfo {W : World} {b : Nat} {a1 a2 : Value} {e : TypeId} (h : W.heap[b]? = some (.cells #[a1, a2] e (0, 0))) (u1 u2 : Value) :
  ((W.setCell ⟨b, 0, none⟩ u1).setCell ⟨b, 1, none⟩ u2).cell? ⟨b, 0, none⟩ = some u1 /\ ((W.setCell ⟨b, 0, none⟩ u1).setCell ⟨b, 1, none⟩ u2).cell? ⟨b, 1, none⟩ = some u2 /\
  Turned (fun k => k = b) W ((W.setCell ⟨b, 0, none⟩ u1).setCell ⟨b, 1, none⟩ u2) := by
 have aa : Row W b e 2 [a1, a2] := ⟨_, h, rfl, by simp, rfl⟩
 have h1 := (aa.set 0 u1).set 1 u2
 exact ⟨h1.cell rfl, h1.cell rfl, ((Turned.refl (fun k => k = b) W).setCell (p := ⟨b, 0, none⟩) (.inl rfl) u1).setCell (p := ⟨b, 1, none⟩) (.inl rfl) u2⟩
structure zDq (w wr : World) (v : Value) (m : Nat) (l : List (Int × Int)) : Prop where
 up : Up w wr
 res : wr.heap[w.heap.size]? = some (.cells #[.int .i64 0, .string { data := #[] }] 274 (0, 0))
 own : wr.ownsRow (w.heap.size + 1) 201 2 v m (za7 l)
theorem zDq.mono {w wr wq : World} {v : Value} {m : Nat} {l : List (Int × Int)} (h : zDq w wr v m l) (hu : Up wr wq) : zDq w wq v m l :=
 ⟨h.up.trans hu, (hu.block _ (za0 h.res)).trans h.res, hu.owns h.own⟩
theorem zDq.push {w wr wq : World} {v v' : Value} {m m' : Nat} {l l' : List (Int × Int)} (h : zDq w wr v m l) (aa : wq.ownsRow (w.heap.size + 1) 201 2 v' m' (za7 l')) (hg : wr.grownBy wq v.ownBlock) : zDq w wq v' m' l' := by
 have ab : ∀ k, v.ownBlock = some k -> w.heap.size + 1 <= k := fun k hk => (h.own.lt k hk).1
 exact ⟨h.up.grown hg (fun k hk => by have := ab k hk; omega), (hg.block _ (za0 h.res) (fun e => by have := ab _ e.symm; omega)).trans h.res, aa⟩
theorem zDq.turned {w wr wq : World} {v v' : Value} {m m' : Nat} {l l' : List (Int × Int)} (h : zDq w wr v m l) (aa : wq.ownsRow (w.heap.size + 1) 201 2 v' m' (za7 l')) (hT : Turned (fun k => v.ownBlock = some k) wr wq) : zDq w wq v' m' l' := by
 have ab : ∀ k, v.ownBlock = some k -> w.heap.size + 1 <= k := fun k hk => (h.own.lt k hk).1
 refine ⟨?_, (hT.block _ (za0 h.res) (fun e => by have := ab _ e; omega)).trans h.res, aa⟩
 have h1 : Turned (fun j => w.heap.size <= j) w wq := (Turned.below h.up).trans hT (fun i hi e => by have := ab i e; omega)
 exact ⟨h1.os, h1.tape, h1.output, h1.size, fun i hi => h1.block i hi (by omega)⟩
theorem zni (l : List (Int × Int)) (a b : Int) : Rd.text (l ++ [(a, b)]) = Rd.text l ++ (Lib.itoa a ++ [32]) ++ (Lib.itoa b ++ [32]) := by
 simp [Rd.text, Tm.flat, Tm.enc]
theorem zpu : ∀ (l : List (Int × Int)), (∀ x ∈ l, 0 <= x.1 /\ x.1 <= 1000 /\ 0 <= x.2 /\ x.2 <= 1000) -> (Rd.text l).length <= 44 * l.length := by
 refine Sy.zCd (fun _ => by simp [Rd.text, Tm.flat, Tm.enc]) ?_
 rintro l ⟨a, b⟩ ih h
 have h1 := ih (fun x hx => h x (by simp [hx]))
 have h2 := h (a, b) (by simp)
 simp only at h2
 have ha := Lib.itoa_length_le a (by omega) (by omega)
 have hb := Lib.itoa_length_le b (by omega) (by omega)
 rw [zni]
 simp only [List.length_append, List.length_singleton]
 omega
theorem zxs (l : List (Int × Int)) (k : Int) (c : List Nat) (v cv : Value) (w : World) (hT : Tab w) (hv : Ls2 w v l) (hc : Lst w cv (c.map Int.ofNat)) (hl : l.length <= 1000000) (bJ : c.length <= 1000)
  (ak : ∀ x ∈ l, 0 <= x.1 /\ x.1 < 1000 /\ 0 <= x.2 /\ x.2 < c.length) (a1 : Rd.Small c) :
  Calls prog 190 #[v, .int .i64 k, cv] w (zy0 w k c l) := by
 obtain ⟨i0, hi, a3, a4, a5⟩ := info_parts Tryz.zH3
 obtain ⟨j0, hj, gz0, gz1, gz2⟩ := info_parts Tryz.zK4
 obtain ⟨ao, cap, g, off, rfl, ha, hx⟩ := hv
 obtain ⟨bo, cap2, g2, off2, rfl, hb, hy⟩ := hc
 rw [List.length_map] at hb ⊢
 obtain ⟨n, hn⟩ := nm (l.length)
 obtain ⟨m, hm⟩ := nm (c.length)
 rw [<- hn] at ha hl ⊢
 rw [<- hm] at hb bJ ⊢
 have HA := zh ha
 have HB := zh hb
 have HX := zh hx
 have HY := zh hy
 have HN := zh hn
 have HM := zh hm
 have a6 := zh ak
 have bK := zh a1
 have HT := zh hT
 clear ha hb hx hy hn hm ak a1 hT
 have h0 : zDq w (w.alloc (.cells #[.int .i64 0, .string { data := #[] }] 274)) (.slice none 0 0) 0 [] := ⟨(Up.refl w).alloc _, heap_alloc_new w _, World.ownsRow_nil _ _ _ _⟩
 have H0 := zh h0
 clear h0
 go_enter func190, ntmps190
 go_wp2_with fail
 go_loopw [7, 15] (fun t s wr => ∃ (j : Nat), s = .int .i64 j /\ j <= n /\ Hid (zDq w wr t j (zca c (l.take j)))) (fun _ s _ => n - (intOf s).toNat)
 case atStart => exact ⟨0, rfl, Nat.zero_le _, H0⟩
 case round =>
  obtain ⟨j, rfl, bV, HR⟩ := hrel
  by_cases hlt : j < n
  ·obtain rfl := HA.out (by omega)
   have ax : j < l.length := by rw [<- HN.out]; exact hlt
   obtain ⟨x, hx⟩ : ∃ x, l.getD j (0, 0) = x := ⟨_, rfl⟩
   have ak := a6.out x (by rw [<- hx, <- zaa (0, 0) ax]; exact List.getElem_mem ax)
   have ag := HX.out j ax
   rw [hx] at ag
   obtain ⟨x1, x2⟩ := x
   obtain ⟨z, hz⟩ : ∃ z : Nat, x2 = (z : Int) := ⟨x2.toNat, by have := ak.2.2.1; simp only at this; omega⟩
   subst hz
   simp only at ag ak
   have a8 : z < m := by rw [HM.out]; omega
   obtain rfl := HB.out (by omega)
   obtain ⟨y, hy⟩ : ∃ y, c.getD z 0 = y := ⟨_, rfl⟩
   have aH := HY.out z (by rw [List.length_map, <- HM.out]; exact a8)
   rw [show (c.map Int.ofNat).getD z 0 = (y : Int) by rw [<- hy]; simp [List.getD, show z < c.length by rw [<- HM.out]; exact a8]] at aH
   have hR := HR.out
   have d0 := hR.up.cell ag.1
   have d1 := hR.up.cell ag.2
   have dy := hR.up.cell aH
   have HJ : Hid (zca c (l.take (j + 1)) = zca c (l.take j) ++ [(x1, (y : Int))]) := zh (by
    rw [List.take_succ_eq_append_getElem ax, zaa (0, 0) ax, hx]
    unfold zca
    rw [List.map_append, List.map_cons, List.map_nil, Int.toNat_natCast, hy])
   obtain ⟨w5, an⟩ := nm (wr.alloc (.cells #[.int .i64 x1, .int .i64 (z : Nat)] 169))
   have al : Up wr w5 := by rw [an]; exact (Up.refl wr).alloc _
   have ay : w5.heap[wr.heap.size]? = some (.cells #[.int .i64 x1, .int .i64 (z : Nat)] 169 (0, 0)) := by rw [an]; exact heap_alloc_new wr _
   obtain ⟨e0, e1⟩ := zam ay
   have aq := And.intro e0 (And.intro e1 (al.cell dy))
   have aA := hR.mono al
   obtain ⟨av, q5, aC⟩ := za1 aA.own
   subst aC
   have ba := zh aA
   have aD : Hid (w.heap.size + 1 <= w5.heap.size) := zh (za0 aA.res)
   have qz1 : (z : Int) < (m : Int) := by omega
   have aL : Hid ((Value.slice av j q5).ownBlock ≠ some wr.heap.size /\ (Value.slice av j q5).ownBlock ≠ some g2) := zh ⟨fun e => by
    obtain ⟨cur, au⟩ := za5 aA.own e
    rw [ay] at au
    simp only [Option.some.injEq, Obj.cells.injEq] at au
    exact absurd au.2.1 (by decide), fun e => by
    have h1 := (aA.own.lt g2 e).1
    have h2 := World.block_lt_of_cell? w _ aH
    simp only at h2
    omega⟩
   clear hx ag ak hy aH hR aA ax dy e0 e1 al ay
   go_upto_region 5 with fail
   rw [<- an]
   clear an d0 d1
   refine za9 11 [(0, true), (1, true), (2, true), (3, true), (4, true), (5, true), (6, true), (7, true), (8, true), (9, false), (10, false)] (fun w' => w'.cell? ⟨wr.heap.size, 0, none⟩ = some (.int .i64 x1) /\ w'.cell? ⟨wr.heap.size, 1, none⟩ = some (.int .i64 (z : Nat)) /\ w'.cell? ⟨g2, off2 + z, none⟩ = some (.int .i64 (y : Nat))) (by kernel_rfl) (by kernel_rfl) (fun _ _ _ _ _ h => h) aq ?_
   iterate 9
    refine WO.still rfl rfl (fun K hK => ?_)
    apply Exists.intro
    refine ⟨?_, hK _ ?_⟩
    ·intro w' hS
     obtain ⟨s1, s2, s3⟩ := hS
     go_simp
     first | done | rfl | exact ⟨rfl, rfl⟩
    clear hK K
   refine WO.act rfl rfl (fun K hK => ?_)
   go_simp
   refine hK _ _ ?_ ?_
   ·have ad := (Up.refl w5).alloc (.cells #[.int .i64 x1, .int .i64 (y : Nat)] 201)
    exact ⟨ad.cell aq.1, ad.cell aq.2.1, ad.cell aq.2.2⟩
   clear hK K
   refine WO.act rfl rfl (fun K hK => ?_)
   refine wp_append_own (.tmp 19) (.tmp 28) 292 rfl (w.heap.size + 1) 201 j0 (.agg #[.int .i64 0, .int .i64 0]) 2 16 underlying292 hj gz0 gz1 gz2 rfl (by decide) (.slice av j q5) j _ rfl (Up.owns (w := w5) ((Up.refl w5).alloc _) ba.out.own) _ 1 1 [.int .i64 x1, .int .i64 (y : Nat)] rfl rfl (zby _ _ _ _) (zg1 (x1, (y : Int))) (by unfold maxLen; omega) (by omega) (by have := aD.out; show _ <= (w5.alloc _).heap.size; simp only [World.size_alloc]; omega) ?_
   intro v' x9 ab aa aM
   obtain ⟨a9, c9, rfl⟩ := za1 ab
   have aE : (w5.alloc (.cells #[.int .i64 x1, .int .i64 (y : Nat)] 201)).grownBy x9 (Value.slice av j q5).ownBlock := ⟨aa.os, aa.tape, aa.output, aa.size, aa.block⟩
   have ad := (Up.refl w5).alloc (.cells #[.int .i64 x1, .int .i64 (y : Nat)] 201)
   have bb := And.intro (zaw aE (ad.cell aq.1) aL.out.1) (And.intro (zaw aE (ad.cell aq.2.1) aL.out.1) (zaw aE (ad.cell aq.2.2) aL.out.2))
   refine hK _ _ bb ?_
   clear hK K
   have bL : Hid (zDq w x9 (.slice a9 (j + 1) c9) (j + 1) (zca c (l.take (j + 1)))) := zh (by
    have aF := ab
    rw [show za7 (zca c (l.take j)) ++ [Value.int .i64 x1, .int .i64 (y : Nat)] = za7 (zca c (l.take (j + 1))) by rw [HJ.out, zb7]; rfl] at aF
    exact (ba.out.mono ad).push aF aE)
   clear ab aa aM aE ad bb
   refine WO.last rfl rfl (fun K hK => ?_)
   go_simp
   refine hK _ _ ?_
   clear hK K
   go_wp2_with fail
   go_roundw
   case rel => exact ⟨j + 1, by go_num, by omega, bL⟩
   case measure => simp [intOf]; omega
  ·obtain rfl : j = n := by omega
   have hR := HR.out
   have bc : l.take j = l := by rw [HN.out, List.take_length]
   rw [bc] at hR
   have aI : (zca c l).length = j := by simp [zca, HN.out]
   obtain ⟨av, q5, aC⟩ := za1 hR.own
   subst aC
   have bd := zuv (l := zca c l) (by rw [aI]; exact hR.own) (by rw [aI]; exact hl)
   have be := zh aI
   have bf := zh bd
   have bh := zh hR
   clear hR bd HR aI bc
   go_wp2_with fail
   (with_reducible refine bf.out.mono ?_)
   rintro e W1 ⟨rfl, l', hp, bi, ah, bj⟩
   have aJ : l'.length = j := by rw [hp.length_eq, be.out]
   rw [aJ] at ah
   have S1 : zDq w W1 (.slice av j q5) j l' := bh.out.turned ah bj
   have aN := zmw (l := l') (by rw [aJ]; exact S1.own) (by rw [aJ]; exact hl)
   have am : Sy.cpt l' = Sy.norm Sy.lt2 (zca c l) := Sy.zG1 Sy.zKk l' _ bi (fun x => hp.mem_iff)
   rw [am] at aN
   have aO : ∀ x ∈ Sy.norm Sy.lt2 (zca c l), 0 <= x.1 /\ x.1 <= 1000 /\ 0 <= x.2 /\ x.2 <= 1000 := fun x hx => by
    have h1 := (Sy.zCx x _).1 hx
    obtain ⟨y, hy, rfl⟩ := List.mem_map.1 h1
    have h2 := a6.out y hy
    have h3 := bK.out y.2.toNat
    simp only
    omega
   have bp : (Sy.norm Sy.lt2 (zca c l)).length <= 1000000 := by
    have := Sy.zCo (lt := Sy.lt2) (zca c l)
    rw [be.out] at this; omega
   have bq := zh aN
   have br := zh S1
   clear aN S1 hp bi ah bj aJ am bf bh
   go_wp2_with fail
   (with_reducible refine bq.out.mono ?_)
   rintro e W2 ⟨v2, rfl, af, bt⟩
   have S2 : zDq w W2 v2 _ _ := br.out.turned af bt
   obtain ⟨ps, aw⟩ := nm (Sy.norm Sy.lt2 (zca c l))
   unfold zy0
   rw [<- aw] at S2 af aO bp ⊢
   have bM : Ls2 W2 v2 ps := zc6 af
   obtain ⟨p, aP⟩ := nm (ps.length)
   obtain ⟨a2, q2, g3, o3, rfl, aQ, bu⟩ := bM
   rw [<- aP] at aQ bp S2 ⊢
   have bN := zh aQ
   have bO := zh bu
   have bv := zh aO
   have bw := zh aP
   have aR := zh S2
   have aG := zh (HT.out.up S2.up)
   have aS := zh aw
   clear aQ bu aO aP S2 af bt bq br aw
   go_wp2_with fail
   go_loopw [10, 36] (fun b s wr => ∃ j : Nat, s = .int .i64 j /\ j <= p /\ Hid (zCc W2 wr (Rd.text (ps.take j)) b)) (fun _ s _ => p - (intOf s).toNat)
   case atStart => exact ⟨0, rfl, Nat.zero_le _, zh ⟨Up.refl _, World.ownsRow_nil _ _ _ _⟩⟩
   case round =>
    obtain ⟨i, rfl, bW, HG⟩ := hrel
    by_cases hlt2 : i < p
    ·obtain rfl := bN.out (by omega)
     have aB : i < ps.length := by rw [<- bw.out]; exact hlt2
     obtain ⟨x, hx⟩ : ∃ x, ps.getD i (0, 0) = x := ⟨_, rfl⟩
     have ak := bv.out x (by rw [<- hx, <- zaa (0, 0) aB]; exact List.getElem_mem aB)
     have ag := bO.out i aB
     rw [hx] at ag
     obtain ⟨x1, x2⟩ := x
     simp only at ag ak
     have hG := HG.out
     have d0 := hG.up.cell ag.1
     have d1 := hG.up.cell ag.2
     have HJ : Hid (Rd.text (ps.take (i + 1)) = Rd.text (ps.take i) ++ (Lib.itoa x1 ++ [32]) ++ (Lib.itoa x2 ++ [32])) := zh (by
      rw [List.take_succ_eq_append_getElem aB, zaa (0, 0) aB, hx, zni])
     have bP : (Rd.text (ps.take i)).length <= 44000000 := by
      have := zpu (ps.take i) (fun x hx => bv.out x (List.mem_of_mem_take hx))
      rw [List.length_take] at this; omega
     obtain ⟨tx, bx⟩ := nm (Rd.text (ps.take i))
     rw [<- bx] at hG bP HJ
     have la := Lib.itoa_length_le x1 (by omega) (by omega)
     have lb := Lib.itoa_length_le x2 (by omega) (by omega)
     have bz := hG.up.size
     obtain ⟨av1, aq1, aC⟩ := za1 hG.own
     subst aC
     have ay := heap_alloc_new wr (.cells #[.int .i64 x1, .int .i64 x2] 201)
     have al := (Up.refl wr).alloc (.cells #[.int .i64 x1, .int .i64 x2] 201)
     have bA := zh ak
     have aK : zCc W2 (wr.alloc (.cells #[.int .i64 x1, .int .i64 x2] 201)) tx (.slice av1 tx.length aq1) := ⟨hG.up.trans al, al.owns hG.own⟩
     have bB := zdk W2.heap.size tx.length x1 (by omega) (by omega) _ _ _ aK.own (Nat.le_trans bz al.size) (by omega) (aG.out.below aK.up (Nat.le_refl _))
     have bC := zh bB
     have aT := zh aK
     have aU := zh ay
     clear hx ag ak hG aK bB ay al bx aB HG
     go_wp2_with fail
     (with_reducible refine bC.out.mono ?_)
     revert aT aU
     generalize an : wr.alloc (.cells #[.int .i64 x1, .int .i64 x2] 201) = w5
     have bX : w5.heap.size = wr.heap.size + 1 := by rw [<- an]; simp
     clear an bC
     intro aT aU
     rintro e w6 ⟨v6, rfl, ac, aV, bD⟩
     have bY : W2.heap.size <= w6.heap.size := Nat.le_trans (Nat.le_trans bz (by omega : wr.heap.size <= w5.heap.size)) aV.size
     have bQ := zh bD
     have aW := zh aV
     have bE := zh ac
     clear bD aV d0 d1
     go_wp2_with (at_builtin; refine wpList_append_own _ rfl _ _ 230 rfl W2.heap.size 5 i0 (.int .u8 0) 1 1 underlying230 hi a3 a4 a5 rfl (by decide) _ _ _ rfl (ac.alloc _) ⟨w6.heap.size, 0, none⟩ 1 1 [Value.int .u8 32] rfl rfl (by intro j u' hj; match j, hj with | 0, hj => simp at hj; subst hj; simp [Addr.add]) (by intro u' ad; simp at ad; subst ad; rfl) (by unfold maxLen; omega) (by omega) (by simp; omega) ?_; intro v7 w7 ai ae _; (have K := zCc.put aT.out aW.out ac ai ae); (have K2 := zxw aU.out (by intro c fz e; simp at e) bQ.out ac ae); (obtain ⟨av7, aq7, rfl⟩ := za1 ai); (replace K := zh K); (have k1 : w7.cell? ⟨wr.heap.size, 1, none⟩ = some (.int .i64 x2) := (by simp [World.cell?, K2.2])); (replace K2 := zh K2); (clear ai ae ac))
     have aX : (tx ++ (Lib.itoa x1 ++ [32])).length = tx.length + (Lib.itoa x1).length + 1 := by simp; omega
     have bF : W2.heap.size <= w7.heap.size := K.out.up.size
     have aY := zdk W2.heap.size _ x2 (by have := bA.out; omega) (by have := bA.out; omega) _ _ w7 K.out.own bF (by rw [aX]; omega) (aG.out.below K.out.up (Nat.le_refl _))
     obtain ⟨ty, bG⟩ := nm (tx ++ (Lib.itoa x1 ++ [32]))
     rw [<- bG] at aY aX K HJ
     have bH := zh aY
     clear aY k1 bG
     (with_reducible refine bH.out.mono ?_)
     rintro e w8 ⟨v8, rfl, aj, aZ, bI⟩
     have bZ : W2.heap.size <= w8.heap.size := Nat.le_trans bF aZ.size
     have b0 := zh bI
     have a0 := zh aZ
     clear bI aZ bH
     go_wp2_with (at_builtin; refine wpList_append_own _ rfl _ _ 230 rfl W2.heap.size 5 i0 (.int .u8 0) 1 1 underlying230 hi a3 a4 a5 rfl (by decide) _ _ _ rfl (aj.alloc _) ⟨w8.heap.size, 0, none⟩ 1 1 [Value.int .u8 32] rfl rfl (by intro j u' hj; match j, hj with | 0, hj => simp at hj; subst hj; simp [Addr.add]) (by intro u' ad; simp at ad; subst ad; rfl) (by unfold maxLen; omega) (by omega) (by simp; omega) ?_; intro v9 w9 ab aa _; (have KK := zCc.put K.out a0.out aj ab aa); (obtain ⟨av9, aq9, rfl⟩ := za1 ab); (replace KK := zh KK); (clear ab aa aj))
     go_roundw
     case rel => exact ⟨i + 1, by go_num, by omega, zh (by rw [HJ.out]; have h := KK.out; rw [aX] at h; exact h)⟩
     case measure => simp [intOf]; omega
    ·obtain rfl : i = p := by omega
     have hG := HG.out
     rw [show ps.take i = ps by rw [bw.out, List.take_length]] at hG
     obtain ⟨a7, n7, c7, rfl, bR⟩ := hG.string
     have hr := (hG.up.block _ (za0 aR.out.res)).trans aR.out.res
     obtain ⟨r0, r1⟩ := zam hr
     have f0 : wr.frozen? ⟨w.heap.size, 0, none⟩ = false := by simp [World.frozen?, hr]
     have f1 : wr.frozen? ⟨w.heap.size, 1, none⟩ = false := by simp [World.frozen?, hr]
     have bS := zh hG
     have bT := zh hr
     obtain ⟨bs, aD⟩ : ∃ bs : ByteArray, bs = ⟨(Rd.text ps).toArray⟩ := ⟨_, rfl⟩
     rw [<- aD] at bR
     have bU := zh aD
     clear hG hr HG aD
     go_wp2_with fail
     obtain ⟨z0, z1, hT⟩ := zfo bT.out (.int .i64 k) (.string bs)
     refine bodyPost_ret (v := .agg #[.int .i64 k, .string bs]) (by simp [results, results190, go_sem, z0, z1]) rfl ⟨?_, zaj (aR.out.up.trans bS.out.up) (Nat.le_refl _) hT⟩
     rw [bU.out, aS.out]
end Go.Proofs.YtoaoajfjcfcmhaaGreatDoor
namespace Go.Proofs.YtoaoajfjcfcmhaaGreatDoor
open Go.RowKit Go.Maps Go.WideMaps
section
variable {β : Type} [DecidableEq β]
def pmap (kl : β -> Lit) (s : List β) : DataW Unit := s.zipIdx.foldl (fun m p => m.put (kl p.1) (.lit (.int .i64 (p.2 : Nat)))) (.map [])
theorem zdz (kl : β -> Lit) (s : List β) (c : β) : pmap kl (s ++ [c]) = (pmap kl s).put (kl c) (.lit (.int .i64 (s.length : Nat))) := by
 simp [pmap, List.zipIdx_append, List.foldl_append]
theorem zhs (kl : β -> Lit) (hk : ∀ c, WideAt.IsKeyLit (kl c)) : ∀ s : List β, Tidy (pmap kl s) := by
 refine Sy.zCd tidy_empty ?_
 intro s c ih
 rw [zdz]; exact ih.put (hk c) _
def zmi (kl : β -> Lit) (s : List β) (c : β) : Prop := ∀ a ∈ s, kl a = kl c -> a = c
theorem zkj (kl : β -> Lit) (hk : ∀ c, WideAt.IsKeyLit (kl c)) (s : List β) (c : β) (h : zmi kl s c) : Maps.has (pmap kl s) (kl c) = decide (c ∈ s) := by
 revert s
 refine Sy.zCd (fun _ => by simp [pmap, Maps.has]) ?_
 intro s d ih h
 rw [zdz]
 by_cases e : c = d
 ·subst e; rw [has_put_same (zhs kl hk s).isMap (hk c)]; simp
 ·rw [has_put_other (fun e' => e (h d (by simp) e'.symm).symm), ih (fun a ha => h a (by simp [ha]))]; simp [e]
theorem zz7 (kl : β -> Lit) (hk : ∀ c, WideAt.IsKeyLit (kl c)) (s : List β) (hs : s.Nodup) (c : β) (h : zmi kl s c) (hc : c ∈ s) (z : DataW Unit) : (pmap kl s).atKey (kl c) z = .lit (.int .i64 (s.idxOf c : Nat)) := by
 revert s
 refine Sy.zCd (fun _ _ h => by cases h) ?_
 intro s d ih hs h hc
 have aa := List.nodup_append.1 hs
 rw [zdz]
 by_cases e : c = d
 ·subst e
  have hn : c ∉ s := fun hm => aa.2.2 c hm c (by simp) rfl
  rw [atKey_put_same (zhs kl hk s).isMap (hk c), List.idxOf_append, if_neg hn]
  simp
 ·have hm : c ∈ s := by simpa [e] using hc
  rw [atKey_put_other (fun e' => e (h d (by simp) e'.symm).symm), ih aa.1 (fun a ha => h a (by simp [ha])) hm, Rd.zDa hm]
theorem zrn (kl : β -> Lit) (hk : ∀ c, WideAt.IsKeyLit (kl c)) (s : List β) (hs : s.Nodup) (c : β) (h : zmi kl s c) (hc : c ∈ s) (z : DataW Unit) : (pmap kl s).atKey (kl c) z = .lit (.int .i64 (Rd.place s c : Nat)) := zz7 kl hk s hs c h hc z
theorem zxx (kl : β -> Lit) (hk : ∀ c, WideAt.IsKeyLit (kl c)) (s : List β) (c : β) (h : zmi kl s c) (hc : c ∈ s) : Maps.has (pmap kl s) (kl c) = true := by rw [zkj kl hk s c h]; simp [hc]
theorem zzl (kl : β -> Lit) (hk : ∀ c, WideAt.IsKeyLit (kl c)) (s : List β) (c : β) (h : zmi kl s c) (hc : c ∉ s) : Maps.has (pmap kl s) (kl c) = false := by rw [zkj kl hk s c h]; simp [hc]
theorem zsk (kl : β -> Lit) (hk : ∀ c, WideAt.IsKeyLit (kl c)) (s : List β) (hs : s.Nodup) (h : ∀ c ∈ s, zmi kl s c) : Maps.size (pmap kl s) = s.length := by
 revert s
 refine Sy.zCd (fun _ _ => rfl) ?_
 intro s d ih hs h
 have aa := List.nodup_append.1 hs
 have hn : d ∉ s := fun hm => aa.2.2 d hm d (by simp) rfl
 rw [zdz, size_put (zhs kl hk s), zkj kl hk s d (fun a ha => h d (by simp) a (by simp [ha])), ih aa.1 (fun c hc a ha => h c (by simp [hc]) a (by simp [ha]))]
 simp [hn]
end
abbrev Sig := Nat × List (Int × Int)
theorem zx5 : laidOutB prog = true := by kernel_rfl
theorem zKy : 274 < prog.types.size := of_decide_eq_true (by kernel_rfl)
theorem zKw : KeyLaw prog 274 := Go.deep_law_laid zx5 (m := 2) (by omega) zKy (by kernel_rfl) (by rw [underlying274])
theorem zsy : Keyed prog 274 := Keyed.of_law zKw
def zdd (x : Sig) : Lit := .string (keyBytes [.int .i64 (x.1 : Nat), .string (Rd.text x.2)])
def zKj (x : Sig) : Value := .agg #[.int .i64 (x.1 : Nat), .string ⟨(Rd.text x.2).toArray⟩]
theorem zij (x : Sig) (h1 : x.1 <= 1000) (h2 : (Rd.text x.2).length <= maxLen) : keyOf prog 274 (zKj x) = some (zdd x) := by
 unfold zKj zdd
 have hw : (Lit.int .i64 (x.1 : Nat)).wf = true := WalkArith.wf_i64 (by omega)
 have aa : 2 = prog.cellsOf 274 := by kernel_rfl
 have ab : prog.keyType 274 = true := by kernel_rfl
 obtain ⟨m, hm⟩ : ∃ m, prog.types.size = m + 1 := ⟨prog.types.size - 1, by have := zKy; omega⟩
 unfold keyOf
 simp only [underlying274]
 rw [if_pos (by rw [ab]; simp [Value.formed, underlying274, underlying3, underlying9]; exact aa), hm]
 unfold Program.keyLits
 simp only [underlying274, Value.cells]
 rw [if_pos ⟨aa.symm ▸ rfl, by kernel_rfl⟩, List.mapM_cons, List.mapM_cons, List.mapM_nil]
 have c3 : prog.cellsOf 3 = 1 := by kernel_rfl
 have c9 : prog.cellsOf 9 = 1 := by kernel_rfl
 have h3 : ({ data := (Rd.text x.2).toArray } : ByteArray).size <= maxLen := by simpa [ByteArray.size] using h2
 simp [c3, c9, Program.keyLits, underlying3, underlying9, hw, h3]
def zrv (x : Sig) : Prop := x.1 <= 1000 /\ (Rd.text x.2).length <= maxLen
theorem znk {x y : Sig} (hx : zrv x) (hy : zrv y) (h : zdd x = zdd y) : x = y := by
 have h1 := zij x hx.1 hx.2
 have h2 := zij y hy.1 hy.2
 rw [h] at h1
 have h3 := zKw.inj h1 h2
 unfold zKj at h3
 simp only [Value.agg.injEq, Array.mk.injEq, List.cons.injEq, Value.int.injEq, Value.string.injEq, and_true, true_and] at h3
 have e2 : Rd.text x.2 = Rd.text y.2 := by
  have := h3.2
  simpa using this
 exact Prod.ext (by omega) (Rd.zJa e2)
theorem zff (x : Sig) : WideAt.IsKeyLit (zdd x) := trivial
end Go.Proofs.YtoaoajfjcfcmhaaGreatDoor
namespace Go.Proofs.YtoaoajfjcfcmhaaGreatDoor
open Go.RowKit
def Eql (w : World) (b : Bool) (r : Ending) (w' : World) : Prop := r = .returned (.bool b) /\ Up w w'
theorem zh5 {α : Type} (d : α) {xs ys : List α} {j : Nat} (h : xs.getD j d ≠ ys.getD j d) : ¬ xs = ys := fun e => h (by rw [e])
theorem zgw {α : Type} [DecidableEq α] (d : α) {xs ys : List α} {n : Nat} (hx : xs.length = n) (hy : ys.length = n) (h : ∀ j, j < n -> xs.getD j d = ys.getD j d) : xs = ys := by
 refine List.ext_getElem (by omega) (fun i h1 h2 => ?_)
 have := h i (by omega)
 simpa [List.getD, h1, h2] using this
theorem zr6 {v u : Value} {xs ys : List Int} {w : World} (hv : Lst w v xs) (hu : Lst w u ys) (hm : xs.length <= 9223372036854775807) (af : ys.length <= 9223372036854775807) :
  Calls prog 191 #[v, u] w (Eql w (decide (xs = ys))) := by
 obtain ⟨ao, c, g, off, rfl, ha, hx⟩ := hv
 obtain ⟨bo, d, h, off2, rfl, hb, hy⟩ := hu
 unfold zk9 at hx hy
 obtain ⟨n, hn⟩ := nm (xs.length)
 obtain ⟨m, aa⟩ := nm (ys.length)
 rw [<- hn] at ha hx hm ⊢
 rw [<- aa] at hb hy af ⊢
 have HX := zh hx
 have HY := zh hy
 have HA := zh ha
 have HB := zh hb
 have HN := zh hn
 have HM := zh aa
 clear hn aa hx hy ha hb
 by_cases hnm : n = m
 ·subst hnm
  have qn : ((n : Int) != (n : Int)) = false := by simp
  go_enter func191, ntmps191
  go_wp2_with fail
  go_loopw [13] (fun i wr => ∃ j : Nat, j <= n /\ i = .int .i64 j /\ Up w wr /\ Hid (∀ k, k < j -> xs.getD k 0 = ys.getD k 0)) (fun i _ => n - (intOf i).toNat)
  case atStart => exact ⟨0, Nat.zero_le _, rfl, Up.refl _, fun k hk => by omega⟩
  case round =>
   obtain ⟨j, hj, rfl, hU, HE⟩ := hrel
   by_cases hlt : j < n
   ·obtain rfl := HA.out (by omega)
    obtain rfl := HB.out (by omega)
    have cx := HX.out j hlt
    have cy := HY.out j hlt
    have cx := hU.cell cx
    have cy := hU.cell cy
    obtain ⟨x, ab⟩ := nm (xs.getD j 0)
    obtain ⟨y, ac⟩ := nm (ys.getD j 0)
    rw [<- ab] at cx
    rw [<- ac] at cy
    have ad := zh ab
    have ae := zh ac
    clear ab ac
    by_cases hxy : x = y
    ·have HQ : Hid (xs.getD j 0 = ys.getD j 0) := zh (by rw [<- ad.out, <- ae.out]; exact hxy)
     subst hxy
     have q1 : (x == x) = true := by simp
     have q2 : (x != x) = false := by simp
     go_wp2_with fail
     go_quiet (fail)
     go_wp2_with fail
     go_roundw
     case rel => exact ⟨j + 1, by omega, by go_num, hU.drewN _, fun k hk => by
      by_cases hkj : k = j
      ·rw [hkj]; exact HQ.out
      ·exact HE.out k (by omega)⟩
     case measure => simp [intOf] <;> omega
    ·have HQ : Hid (false = decide (xs = ys)) := zh (by rw [decide_eq_false (zh5 0 (j := j) (by rw [<- ad.out, <- ae.out]; exact hxy))])
     have q1 : (x == y) = false := by simpa using hxy
     have q2 : (x != y) = true := by simpa using hxy
     clear hxy
     go_wp2_with fail
     go_quiet (fail)
     go_wp2_with fail
     go_ret
     exact ⟨zao HQ.out, hU.drewN _⟩
   ·obtain rfl : j = n := by omega
    have HQ : Hid (true = decide (xs = ys)) := zh (by rw [decide_eq_true (zgw 0 HN.out.symm HM.out.symm HE.out)])
    go_wp2_with fail
    go_ret
    exact ⟨zao HQ.out, hU⟩
 ·have HQ : Hid (false = decide (xs = ys)) := zh (by rw [decide_eq_false (fun e => hnm (by rw [HN.out, HM.out, e]))])
  have qn : ((n : Int) != (m : Int)) = true := by simp; omega
  clear hnm
  go_enter func191, ntmps191
  go_wp2_with fail
  go_ret
  exact ⟨zao HQ.out, Up.refl _⟩
end Go.Proofs.YtoaoajfjcfcmhaaGreatDoor
namespace Go.Proofs.YtoaoajfjcfcmhaaGreatDoor
open Go.RowKit Go.Sort Go.Maps
structure zCt (w : World) (bb cb gb B : Nat) (s : Sy.Lts) (begun : Bool) (gc : Nat) (c : List Nat) : Prop where
 bg : w.heap[bb]? = some (.cells #[.bool begun] 4 (0, 0))
 cl : w.heap[cb]? = some (.cells #[.slice (some ⟨gc, 0, none⟩) c.length c.length] 27 (0, 0))
 row : Row w gc 3 c.length (ints c)
 gr : w.heap[gb]? = some (.cells #[.pointer (some ⟨B, 0, none⟩)] 114 (0, 0))
 sep : ∃ w0, zCg w0 B s /\ Up w0 w /\ w0.heap.size <= cb /\ w0.heap.size <= bb
theorem zCt.graph {w : World} {bb cb gb B gc : Nat} {s : Sy.Lts} {b : Bool} {c : List Nat} (h : zCt w bb cb gb B s b gc c) : zCg w B s := by
 obtain ⟨w0, h1, h2, -⟩ := h.sep
 exact h1.up h2
theorem zCt.up {w w1 : World} {bb cb gb B gc : Nat} {s : Sy.Lts} {b : Bool} {c : List Nat} (h : zCt w bb cb gb B s b gc c) (hu : Up w w1) : zCt w1 bb cb gb B s b gc c :=
 ⟨(hu.block _ (za0 h.bg)).trans h.bg, (hu.block _ (za0 h.cl)).trans h.cl, hu.row h.row, (hu.block _ (za0 h.gr)).trans h.gr, by obtain ⟨w0, h1, h2, h3⟩ := h.sep; exact ⟨w0, h1, h2.trans hu, h3⟩⟩
theorem znt (c : List Nat) : ints c = (c.map Int.ofNat).map (Value.int .i64) := by simp [ints]
theorem Row.zKg {w : World} {g cap m q : Nat} {c : List Nat} (h : Row w g 3 cap (ints c)) (hn : c.length = m) : Lst w (.slice (some ⟨g, 0, none⟩) m q) (c.map Int.ofNat) := by
 rw [znt] at h
 exact h.lst (by simpa using hn)
theorem one_cell {w : World} {b : Nat} {a : Value} {e : TypeId} (h : w.heap[b]? = some (.cells #[a] e (0, 0))) : w.cell? ⟨b, 0, none⟩ = some a /\ w.frozen? ⟨b, 0, none⟩ = false := by
 refine ⟨?_, ?_⟩ <;> simp [World.cell?, World.frozen?, h]
theorem zsa {w : World} {bb cb gb B gc : Nat} {s : Sy.Lts} {c : List Nat} (h : zCt w bb cb gb B s false gc c) :
  Calls prog 189 #[.pointer (some ⟨bb, 0, none⟩), .pointer (some ⟨cb, 0, none⟩), .pointer (some ⟨gb, 0, none⟩)] w fun r w' =>
   r = .returned (.slice (some ⟨gc, 0, none⟩) c.length c.length) /\ w' = w.setCell ⟨bb, 0, none⟩ (.bool true) := by
 obtain ⟨b0, b1⟩ := one_cell h.bg
 obtain ⟨c0, -⟩ := one_cell h.cl
 have aa : bb ≠ cb := fun e => by
  have h1 := h.bg
  rw [e, h.cl] at h1
  simp only [Option.some.injEq, Obj.cells.injEq] at h1
  exact absurd h1.2.1 (by decide)
 have c1 : (w.setCell ⟨bb, 0, none⟩ (.bool true)).cell? ⟨cb, 0, none⟩ = some (.slice (some ⟨gc, 0, none⟩) c.length c.length) :=
  (World.cell?_of_block (w := w) (a := ⟨cb, 0, none⟩) (Below.heap_setCell w ⟨bb, 0, none⟩ _ cb (fun e => aa e.symm))).trans c0
 generalize c.length = n at c1 ⊢
 clear h c0
 go_enter func189, ntmps189
 go_wp2_with fail
 go_ret
 exact ⟨rfl, rfl⟩
theorem zcz {s : Sy.Lts} (hR : Sy.Right s) (p : Nat) : ∀ x ∈ Sy.steps s p, 0 <= x.1 /\ x.1 < 1000 /\ 0 <= x.2 /\ x.2 < (s.n.toNat : Int) := fun x hx => by
 have h1 := hR.ok _ ((Sy.zDn s p x).1 hx)
 have h2 := hR.m2
 simp only at h1
 omega
theorem zbt {s : Sy.Lts} (hR : Sy.Right s) (p : Nat) : (Sy.steps s p).length <= 1000000 := by
 have h1 := Sy.zCo (lt := Sy.lt3) s.es
 have h2 := hR.len
 unfold Sy.steps Sy.sorted
 rw [List.length_map]
 have := List.length_filter_le (fun e : Sy.Edge => e.1 == (p : Int)) (Sy.norm Sy.lt3 s.es)
 omega
def zBj (wr : World) (x : Sig) (v : Value) (wc : World) : Prop :=
 ∃ xb, v = .pointer (some ⟨xb, 0, none⟩) /\ (wc.cell? ⟨xb, 0, none⟩ = some (.int .i64 (x.1 : Nat)) /\ wc.cell? ⟨xb, 1, none⟩ = some (.string ⟨(Rd.text x.2).toArray⟩)) /\ Up wr wc
theorem Tryz.zH6 (w : World) : (zeroValue 3).run prog w = .ok (.int .i64 0) w := by kernel_rfl
def zwn (w : World) (bb cb gb B : Nat) (s : Sy.Lts) (gc : Nat) (c : List Nat) (r : Ending) (w' : World) : Prop :=
 (Rd.next s c = c /\ r = .returned (.slice none 0 0) /\ Up w w') \/
 (Rd.next s c ≠ c /\ ∃ g, r = .returned (.slice (some ⟨g, 0, none⟩) c.length c.length) /\ w.heap.size <= g /\ zCt w' bb cb gb B s true g (Rd.next s c) /\ Turned (fun k => k = cb) w w')
theorem zbc {H : Type} {P : Program} {k : TypeId} {R : Value -> Option (DataW H × List MemPlace)} {w w' : World} {b n : Nat} {D : DataW H} (h : w.ownsMap P k R b n D) (hk : w'.heap[b]? = w.heap[b]?) : w'.ownsMap P k R b n D := by
 obtain ⟨es, clock, hb, r⟩ := h
 exact ⟨es, clock, hk.trans hb, r⟩
theorem zgv {l : List Nat} {n i v : Nat} (h : i < n) (hl : l.length = i) : (l ++ List.replicate (n - i) 0).set i v = (l ++ [v]) ++ List.replicate (n - (i + 1)) 0 := by
 rw [List.set_append_right _ _ (by omega), hl, Nat.sub_self, show n - i = (n - (i + 1)) + 1 by omega, List.replicate_succ, List.set_cons_zero, List.append_assoc]
 rfl
theorem zyg {s : Sy.Lts} (hR : Sy.Right s) {c : List Nat} (aa : Rd.Small c) (p : Nat) : zrv (Rd.sig s c p) := by
 refine ⟨aa p, ?_⟩
 have h1 := zpu (Rd.sig s c p).2 (fun x hx => by
  have h1 := (Sy.zCx x _).1 hx
  obtain ⟨y, hy, rfl⟩ := List.mem_map.1 h1
  have h2 := zcz hR p y hy
  have h3 := aa y.2.toNat
  simp only
  omega)
 have h2 : (Rd.sig s c p).2.length <= 1000000 := by
  have := Sy.zCo (lt := Sy.lt2) ((Sy.steps s p).map fun x => (x.1, ((c.getD x.2.toNat 0 : Nat) : Int)))
  have h3 := zbt hR p
  rw [List.length_map] at this
  exact Nat.le_trans this h3
 unfold maxLen; omega
theorem zwe {s : Sy.Lts} {c : List Nat} {p : Nat} (h : p < c.length) : (Rd.sigs s c)[p]'(by rw [Rd.zE6]; exact h) = Rd.sig s c p := by simp [Rd.sigs]
theorem zzk {s : Sy.Lts} (hR : Sy.Right s) {c : List Nat} (aa : Rd.Small c) : ∀ x ∈ Rd.sigs s c, zrv x := fun x hx => by
 obtain ⟨p, _, rfl⟩ := List.mem_map.1 hx
 exact zyg hR aa p
theorem zp8 {s : Sy.Lts} (hR : Sy.Right s) {c : List Nat} (aa : Rd.Small c) (i : Nat) : ∀ x ∈ Rd.seen ((Rd.sigs s c).take i), zrv x := fun x hx =>
 zzk hR aa x (List.mem_of_mem_take ((Rd.mem_seen _ _).1 hx))
theorem zbh {W x : World} {a1 a2 : Addr} {v1 v2 : Value} (h : x.cell? a1 = some v1 /\ x.cell? a2 = some v2 /\ Up W x) : Up W x := h.2.2
theorem zoh {W x : World} {a1 a2 : Addr} {v1 v2 : Value} (h1 : W.cell? a1 = some v1) (h2 : W.cell? a2 = some v2) (hu : Up W x) : x.cell? a1 = some v1 /\ x.cell? a2 = some v2 /\ Up W x :=
 ⟨hu.cell h1, hu.cell h2, hu⟩
theorem zyh {X x1 : World} {a1 a2 : Value} {e : TypeId} (hu : Up (X.alloc (.cells #[a1, a2] e (0, 0))) x1) : x1.heap[X.heap.size]? = some (.cells #[a1, a2] e (0, 0)) :=
 (hu.block _ (by show X.heap.size < (X.heap.push _).size; simp)).trans (by show (X.heap.push _)[X.heap.size]? = _; simp)
theorem zAq {X x1 : World} {a1 a2 : Value} {e : TypeId} (hu : Up (X.alloc (.cells #[a1, a2] e (0, 0))).drew x1) : x1.heap[X.heap.size]? = some (.cells #[a1, a2] e (0, 0)) := zyh (X := X) (((Up.refl _).drew).trans hu)
theorem zo7 {W : World} {b : Nat} {a : Value} {e : TypeId} (h : W.heap[b]? = some (.cells #[a] e (0, 0))) (u : Value) : (W.setCell ⟨b, 0, none⟩ u).heap[b]? = some (.cells #[u] e (0, 0)) := by
 have aa : Row W b e 1 [a] := ⟨_, h, rfl, by simp, rfl⟩
 obtain ⟨arr, h1, h2, h3, h4⟩ := aa.set 0 u
 have e : arr.toList.take ([a].set 0 u).length = arr.toList := List.take_of_length_le (by simp [h2])
 rw [e] at h4
 have : arr = #[u] := Array.toList_inj.1 (by simpa using h4)
 rw [h1, this]
theorem Up.zHv {S : Nat -> Prop} {w w1 : World} (h : Up w w1) : Turned S w w1 := ⟨h.os, h.tape, h.output, h.size, fun k hk _ => h.block k hk⟩
theorem zpc {a b : List Nat} (h : a.map Int.ofNat = b.map Int.ofNat) : a = b :=
 List.map_inj_right (fun x y e => Int.ofNat.inj e) |>.1 h
theorem zzb {X x1 : World} {b : Nat} {o : Obj} (h : X.heap[b]? = some o) (hu : Up X x1) : x1.heap[b]? = some o := (hu.block _ (za0 h)).trans h
theorem zow {w : World} {b : Nat} {a1 a2 : Value} {e : TypeId} (h : w.heap[b]? = some (.cells #[a1, a2] e (0, 0))) : (w.cell? ⟨b, 0, none⟩ = some a1 /\ w.cell? ⟨b, 1, none⟩ = some a2) /\ w.frozen? ⟨b, 0, none⟩ = false /\ w.frozen? ⟨b, 1, none⟩ = false := by
 refine ⟨⟨?_, ?_⟩, ?_, ?_⟩ <;> simp [World.cell?, World.frozen?, h]
theorem zkt {s : Sy.Lts} {c : List Nat} {i k : Nat} {x : Sig} (hx : Rd.sig s c i = x) (hk : c.getD i 0 = k) : x = (k, Sy.norm Sy.lt2 (zca c (Sy.steps s i))) := by
 rw [<- hx, <- hk]; rfl
theorem zti {w : World} {bb cb gb B gc : Nat} {s : Sy.Lts} {c : List Nat} (h : zCt w bb cb gb B s true gc c) (hR : Sy.Right s) (hT : Tab w) (hc : c.length = s.n.toNat) (aV : Rd.Small c) :
  Calls prog 189 #[.pointer (some ⟨bb, 0, none⟩), .pointer (some ⟨cb, 0, none⟩), .pointer (some ⟨gb, 0, none⟩)] w (zwn w bb cb gb B s gc c) := by
 obtain ⟨i0, hi, a6, a7, a8⟩ := info_parts Tryz.zFu
 have bo := @run_makeMap prog
 obtain ⟨b0, b1⟩ := one_cell h.bg
 obtain ⟨c0, c1⟩ := one_cell h.cl
 obtain ⟨g0, g1⟩ := one_cell h.gr
 obtain ⟨n, hn⟩ := nm (c.length)
 rw [<- hn] at c0 hc
 have a9 : n <= 1000 := by rw [hc]; have := hR.n1; omega
 have HN := zh hn
 have aW := zh hc
 have HE := zh h
 have HR := zh hR
 have HT := zh hT
 have ay := zh aV
 have c0' : ∀ o, (w.alloc o).cell? ⟨cb, 0, none⟩ = some (.slice (some ⟨gc, 0, none⟩) n n) := fun o => ((Up.refl w).alloc o).cell c0
 clear hn hc h hR hT aV
 go_enter func189, ntmps189
 go_wp2_with (at_make; refine wpList_make_full _ rfl _ _ 27 rfl 0 3 i0 (.int .i64 0) 1 underlying27 hi a6 a7 _ _ _ _ n rfl rfl rfl rfl (by rw [a8]; omega) (by unfold maxLen; omega) (Nat.zero_le _) ?_; intro w1 aA af; (have e1 := (((Up.refl w).alloc (.map #[] 0)).grown af (by simp)).cell c0))
 obtain ⟨aa, -, -, -⟩ := Row.of aA
 have aB : (w.alloc (.map #[] 0)).heap.size = w.heap.size + 1 := by simp
 rw [aB] at aa
 have an : Row w1 (w.heap.size + 1) 3 n (ints (List.replicate n 0)) := by
  have e : (madeCells (Value.int .i64 0).cells (n * 1)).toList = ints (List.replicate n 0) := by
   rw [Nat.mul_one, zcm]; exact toList_madeCells_one _ _
  rw [<- e]; simpa using aa
 have ao : w1.ownsMap (H := Unit) prog 274 (plainElem prog 3) w.heap.size 0 (.map []) := (World.ownsMap_made w _ _ _).kept af (by simp)
 have aq : Up w w1 := ((Up.refl w).alloc _).grown af (by simp)
 clear aA af aa aB
 go_loopw [20] (fun sv wr => ∃ i : Nat, i <= n /\ sv = .int .i64 i /\ wr.ownsMap (H := Unit) prog 274 (plainElem prog 3) w.heap.size i (pmap zdd (Rd.seen ((Rd.sigs s c).take i))) /\
   Row wr (w.heap.size + 1) 3 n (ints ((Rd.next s c).take i ++ List.replicate (n - i) 0)) /\ Up w wr)
  (fun sv _ => n - (intOf sv).toNat)
 case atStart => exact ⟨0, Nat.zero_le _, rfl, ao, an, aq⟩
 case round =>
  clear ao an aq e1
  obtain ⟨i, aw, rfl, ab, aa, au⟩ := hrel
  by_cases hlt : i < n
  ·obtain ⟨x, hx⟩ : ∃ x, Rd.sig s c i = x := ⟨_, rfl⟩
   have aj : zrv x := by rw [<- hx]; exact zyg HR.out ay.out i
   obtain ⟨sl, ak⟩ := nm (Rd.seen ((Rd.sigs s c).take i))
   have aM : i < (Rd.sigs s c).length := by rw [Rd.zE6, <- HN.out]; exact hlt
   have aO : (Rd.sigs s c)[i] = x := by rw [zwe (by rw [<- HN.out]; exact hlt), hx]
   have aX : Hid sl.Nodup := zh (by rw [ak]; exact Rd.zEm _)
   have ba : sl.length <= i := by rw [ak]; have := Rd.zCq ((Rd.sigs s c).take i); rw [List.length_take] at this; omega
   have av : Hid ((x ∈ sl -> Rd.seen ((Rd.sigs s c).take (i + 1)) = sl) /\ (x ∉ sl -> Rd.seen ((Rd.sigs s c).take (i + 1)) = sl ++ [x])) := zh (by
    subst ak
    subst aO
    exact ⟨Rd.zEu aM, Rd.zEz aM⟩)
   have aC : Hid ((Rd.next s c).take (i + 1) = (Rd.next s c).take i ++ [Rd.place sl x]) := zh (by
    subst ak
    subst aO
    exact Rd.zEr (Rd.sigs s c) i aM)
   have ax : Hid (zmi zdd sl x) := zh (fun a ha e => znk (zp8 HR.out ay.out i a (by rw [<- ak]; exact ha)) aj e)
   have aD : Hid (∀ y ∈ sl, zmi zdd sl y) := zh (fun y hy a ha e => znk (zp8 HR.out ay.out i a (by rw [<- ak]; exact ha)) (zp8 HR.out ay.out i y (by rw [<- ak]; exact hy)) e)
   have al := zij x aj.1 aj.2
   rw [<- ak] at ab
   have aY : ((Rd.next s c).take i).length = i := by rw [List.length_take, Rd.zDh, <- HN.out]; omega
   have aP := zh aY
   obtain ⟨k, hk⟩ : ∃ k, c.getD i 0 = k := ⟨_, rfl⟩
   have aZ : zk9 w gc 0 (c.map Int.ofNat) := by have := HE.out.row; rw [znt] at this; exact this.zJv
   have a0 : w.cell? ⟨gc, i, none⟩ = some (.int .i64 (k : Nat)) := by
    have := aZ i (by rw [List.length_map, <- HN.out]; exact hlt)
    rw [Nat.zero_add] at this
    rw [this, <- hk]
    simp [List.getD, show i < c.length by rw [<- HN.out]; exact hlt]
   have d0 := au.cell a0
   have HX := zh hx
   have HK := zh hk
   have aE := zh ab
   have aQ := zh aa
   have am := zh au
   have aF := au
   clear hx aj ak aM aO aY aZ a0 hk ab aa au
   go_upto_region 9 with fail
   go_cut [8] (zBj wr x)
   case first =>
    have d1 := aF.cell c0
    have d2 := aF.cell g0
    have hl := zcz HR.out i
    have bc := zbt HR.out i
    go_region_held3 (fun x => x.cell? ⟨gb, 0, none⟩ = some (.pointer (some ⟨B, 0, none⟩)) /\ x.cell? ⟨cb, 0, none⟩ = some (.slice (some ⟨gc, 0, none⟩) n n) /\ Up wr x)
     ((refine zoh d2 d1 ?_; first
      | exact (Up.refl _).drew
      | exact Up.trans (zbh (by assumption)) (by assumption)
      | exact Up.alloc (zbh (by assumption)) _
      | exact Up.alloc k2 _
      | exact Up.setCell (Up.setCell (zbh (by assumption)) (Nat.le_refl wr.heap.size) _) (Nat.le_refl wr.heap.size) _
      | exact Up.setCell (Up.setCell (zbh (by assumption)) k1.size _) k1.size _))
     (first
     | (go_at_call 128; refine (zp7 (HE.out.graph.up (am.out.trans (zbh (by assumption)))) HR.out (by rw [<- aW.out]; exact hlt)).mono ?_; rintro r x1 ⟨v1, rfl, a1, bd⟩; (have k1 : Up wr x1 := Up.trans (zbh (by assumption)) a1); (try (have q : x1.heap[wr.heap.size]? = _ := zAq a1; obtain ⟨⟨q0, q1⟩, q2, q3⟩ := zow q)))
     | (go_at_call 190; refine (zxs (Sy.steps s i) k c v1 _ _ (HT.out.up (am.out.trans (zbh (by assumption)))) (bd.up (by first | exact Up.refl _ | exact (Up.refl _).alloc _)) (Row.zKg ((am.out.trans (zbh (by assumption))).row HE.out.row) HN.out.symm) bc (by rw [<- HN.out]; exact a9) (by rw [<- HN.out, aW.out]; exact hl) ay.out).mono ?_; rintro r x2 ⟨rfl, ag⟩; (have k2 : Up wr x2 := Up.trans (zbh (by assumption)) ag); (first | (have q := zzb q ag; obtain ⟨⟨q0, q1⟩, q2, q3⟩ := zow q) | (have q := zyh ag; obtain ⟨⟨q0, q1⟩, q2, q3⟩ := zow q) | skip)))
    all_goals go_wp2_with fail
    all_goals go_meet
    all_goals
     first
      | exact ⟨_, rfl, by rw [zkt HX.out HK.out]; exact zam (e := 274) (by show (x2.heap.push _)[x2.heap.size]? = _; simp), k2.alloc _⟩
      | exact ⟨_, rfl, by rw [zkt HX.out HK.out]; exact ⟨(zfo q _ _).1, (zfo q _ _).2.1⟩, (k2.setCell (Nat.le_refl _) _).setCell (Nat.le_refl _) _⟩
      | exact ⟨_, rfl, by rw [zkt HX.out HK.out]; exact ⟨(zfo q _ _).1, (zfo q _ _).2.1⟩, (k2.setCell k1.size _).setCell k1.size _⟩
   case rest =>
    obtain ⟨xb, rfl, ⟨x0, x1⟩, aN⟩ := hcut
    have ab := zbc aE.out (aN.block _ aE.out.lt)
    have aa := aN.row aQ.out
    unfold zKj at al
    have aG := aa.free i
    have aH : (ints ((Rd.next s c).take i ++ List.replicate (n - i) 0)).length = n := by
     rw [zaz, List.length_append, List.length_replicate, aP.out]; omega
    obtain ⟨u0, be⟩ : ∃ u, wc.cell? ⟨w.heap.size + 1, i, none⟩ = some u := ⟨_, aa.cell (List.getElem?_eq_getElem (by omega))⟩
    have ac := zh aa
    have a2 := zh ab
    have a3 := zh (am.out.trans aN)
    clear aa aH aN
    by_cases aw : x ∈ sl
    ·have aR : Maps.has (pmap zdd sl) (zdd x) = true := zxx zdd zff sl x ax.out aw
     go_wp2_with (at_lookup; refine wpList_lookup_own_ok_int _ rfl _ _ 272 rfl 274 3 .i64 zsy underlying272 underlying3 (Tryz.zH6 _) w.heap.size i _ rfl ab _ _ rfl al ?_; intro c' aI aS; (obtain rfl : c' = ((Rd.place sl x : Nat) : Int) := by (rw [zrn zdd zff sl aX.out x ax.out aw] at aI; simpa using aI.symm)); clear aI aS)
     have aT : Rd.seen ((Rd.sigs s c).take (i + 1)) = sl := av.out.1 aw
     have ae := ac.out.set i (.int .i64 ((Rd.place sl x : Nat) : Int))
     rw [<- ints_set, zgv hlt aP.out, <- aC.out] at ae
     have ai : wc.ownsMap (H := Unit) prog 274 (plainElem prog 3) w.heap.size (i + 1) (pmap zdd (Rd.seen ((Rd.sigs s c).take (i + 1)))) := by rw [aT]; exact ab.mono (by omega)
     go_roundw
     case rel => exact ⟨i + 1, by omega, by go_num, ai.setCell (by simp) _, ae, a3.out.setCell (by simp) _⟩
     case measure => simp [intOf]; omega
    ·have aR : Maps.has (pmap zdd sl) (zdd x) = false := zzl zdd zff sl x ax.out aw
     have bp : Maps.size (pmap zdd sl) = sl.length := zsk zdd zff sl aX.out aD.out
     go_wp2_with (first
      | (at_lookup; refine wpList_lookup_own_ok_int _ rfl _ _ 272 rfl 274 3 .i64 zsy underlying272 underlying3 (Tryz.zH6 _) w.heap.size i _ rfl ab _ _ rfl al ?_; intro c' aI aS; clear aI aS)
      | (at_len; refine wpList_len_own _ rfl _ 272 rfl 274 3 underlying272 _ w.heap.size i _ rfl ab ?_)
      | (at_mapUpdate; refine wpList_mapUpdate_own _ rfl _ _ _ 272 rfl 274 3 zsy underlying272 _ w.heap.size i _ rfl ab (by unfold maxLen; omega) _ _ _ rfl rfl al _ [] (plainElem_int underlying3 (WalkArith.wf_i64 (by omega))) ?_; intro w2 aJ ad; have ag := ad.cell be (by simp); have bq : w2.frozen? ⟨w.heap.size + 1, i, none⟩ = false := (World.frozen?_of_block (ad.block _ ac.out.lt (by simp))).trans aG))
     have aT : Rd.seen ((Rd.sigs s c).take (i + 1)) = sl ++ [x] := av.out.2 aw
     have aK : Rd.place sl x = sl.length := Rd.zGa aw
     have ah := ac.out.keep (ad.block _ ac.out.lt (by simp))
     have ae := ah.set i (.int .i64 ((sl.length : Nat) : Int))
     rw [<- ints_set, zgv hlt aP.out, <- aK, <- aC.out] at ae
     have ai : w2.ownsMap (H := Unit) prog 274 (plainElem prog 3) w.heap.size (i + 1) (pmap zdd (Rd.seen ((Rd.sigs s c).take (i + 1)))) := by rw [aT, zdz]; exact aJ
     go_roundw
     case rel => exact ⟨i + 1, by omega, by go_num, ai.setCell (by simp) _, by rw [<- aK]; exact ae, (a3.out.grown ad (by simp)).setCell (by simp) _⟩
     case measure => simp [intOf]; omega
  ·obtain rfl : i = n := by omega
   have ah : Row wr (w.heap.size + 1) 3 i (ints (Rd.next s c)) := by
    have e : (Rd.next s c).take i ++ List.replicate (i - i) 0 = Rd.next s c := by
     rw [Nat.sub_self, List.replicate_zero, List.append_nil, List.take_of_length_le (by rw [Rd.zDh, HN.out]; omega)]
    rw [<- e]; exact aa
   have d0 := au.cell c0
   have d1 := (au.free c0).trans c1
   have ac := zh ah
   have am := zh au
   clear aa ah ab au
   obtain ⟨eb, a4⟩ : ∃ eb, decide ((Rd.next s c).map Int.ofNat = c.map Int.ofNat) = eb := ⟨_, rfl⟩
   have aU := zh a4
   have a5 : ∀ W, Up wr W -> Calls prog 191 #[.slice (some ⟨w.heap.size + 1, 0, none⟩) i i, .slice (some ⟨gc, 0, none⟩) i i] W (Eql W eb) := fun W hW => by
    rw [<- aU.out]
    exact zr6 (Row.zKg (hW.row ac.out) (by rw [Rd.zDh, HN.out])) (Row.zKg ((am.out.trans hW).row HE.out.row) HN.out.symm) (by rw [List.length_map, Rd.zDh, <- HN.out]; omega) (by rw [List.length_map, <- HN.out]; omega)
   clear a4
   cases eb
   ·go_wp2_with (go_at_call 191; refine (a5 _ (Up.refl _)).mono ?_; rintro r w2 ⟨rfl, ag⟩; have d2 := ag.cell d0; have d3 := (ag.free d0).trans d1)
    go_ret
    have bf : Rd.next s c ≠ c := fun e => by
     have h1 := aU.out
     rw [e] at h1
     simp at h1
    have H2 := HE.out.up (am.out.trans ag)
    have bh : gb ≠ cb := fun e => by
     have h1 := H2.gr
     rw [e, H2.cl] at h1
     simp only [Option.some.injEq, Obj.cells.injEq] at h1
     exact absurd h1.2.1 (by decide)
    have bi : bb ≠ cb := fun e => by
     have h1 := H2.bg
     rw [e, H2.cl] at h1
     simp only [Option.some.injEq, Obj.cells.injEq] at h1
     exact absurd h1.2.1 (by decide)
    have bj : cb < w.heap.size := za0 HE.out.cl
    have aL := ag.row ac.out
    refine .inr ⟨bf, w.heap.size + 1, by rw [<- HN.out]; rfl, by omega, ⟨?_, ?_, ?_, ?_, ?_⟩, ?_⟩
    ·exact (Below.heap_setCell w2 ⟨cb, 0, none⟩ _ bb bi).trans H2.bg
    ·rw [Rd.zDh, <- HN.out]; exact zo7 H2.cl _
    ·rw [Rd.zDh, <- HN.out]; exact aL.keep (Below.heap_setCell w2 ⟨cb, 0, none⟩ _ _ (by simp only; omega))
    ·exact (Below.heap_setCell w2 ⟨cb, 0, none⟩ _ gb bh).trans H2.gr
    ·obtain ⟨w0, h1, h2, h3, h4⟩ := H2.sep
     exact ⟨w0, h1, h2.setCell h3 _, h3, h4⟩
    ·exact Turned.setCell (S := fun k => k = cb) (p := ⟨cb, 0, none⟩) ((am.out.trans ag).zHv) (.inl rfl) _
   ·go_wp2_with (go_at_call 191; refine (a5 _ (Up.refl _)).mono ?_; rintro r w2 ⟨rfl, ag⟩; have d2 := ag.cell d0; have d3 := (ag.free d0).trans d1)
    go_ret
    exact .inl ⟨zpc (of_decide_eq_true aU.out), rfl, am.out.trans ag⟩
end Go.Proofs.YtoaoajfjcfcmhaaGreatDoor
