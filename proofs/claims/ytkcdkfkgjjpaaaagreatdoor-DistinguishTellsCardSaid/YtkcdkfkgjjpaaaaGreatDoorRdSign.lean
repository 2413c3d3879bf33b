/- Walks: slices.Compare at two integers each, the order of pairs, slices.SortFunc at pairs. Walk: rounds.sign. -/
import Derived.Test.YtkcdkfkgjjpaaaaGreatDoorRdCompact
import Derived.Test.YtkcdkfkgjjpaaaaGreatDoorSySort
import Derived.Shelf.SlSortCmp.QuietGrown
import Derived.Test.YtkcdkfkgjjpaaaaGreatDoorSyEach
import Derived.Test.YtkcdkfkgjjpaaaaGreatDoorRdRefM
import Derived.Test.YtkcdkfkgjjpaaaaGreatDoorQOrd
import Derived.Lib.AppendIntMem
import Derived.Lib.ItoaLen
import Derived.Lib.Slices
import Derived.Laws.IdiomStrings
import Derived.OwnWalk
import Derived.BigCall
import Derived.Deep.Cut

namespace Go.Proofs.YtkcdkfkgjjpaaaaGreatDoor
open Go.RowKit Go.Sort Go.Shelf
set_option linter.unusedVariables false
set_option linter.unusedSimpArgs false

def cf2 (x y : Int × Int) : Int := if cmpI x.1 y.1 ≠ 0 then cmpI x.1 y.1 else cmpI x.2 y.2

theorem lt_cf2 : ltOf cf2 = Sy.lt2 := by
  funext x y
  unfold ltOf Sy.lt2
  congr 1
  unfold cf2 cmpI
  apply propext
  repeat' split
  all_goals omega

set_option maxHeartbeats 2000000 in
set_option maxRecDepth 100000 in
theorem compare_two (a b c d : Int) (g h cg ch : Nat) (w : World) (g0 : w.cell? ⟨g, 0, none⟩ = some (.int .i64 a)) (g1 : w.cell? ⟨g, 1, none⟩ = some (.int .i64 b)) (h0 : w.cell? ⟨h, 0, none⟩ = some (.int .i64 c)) (h1 : w.cell? ⟨h, 1, none⟩ = some (.int .i64 d)) :
    Calls Tryz.prog 232 #[.slice (some ⟨g, 0, none⟩) 2 cg, .slice (some ⟨h, 0, none⟩) 2 ch] w fun e w' => e = .returned (.int .i64 (cf2 (a, b) (c, d))) ∧ w = w' := by
  obtain ⟨p, hp⟩ : ∃ p, cmpI a c = p := ⟨_, rfl⟩
  obtain ⟨q, hq⟩ : ∃ q, cmpI b d = q := ⟨_, rfl⟩
  have HP := fun W => Lib.hid (by have := cmp_any a c W; rw [hp] at this; exact this)
  have HQ := fun W => Lib.hid (by have := cmp_any b d W; rw [hq] at this; exact this)
  have HF : Hid (cf2 (a, b) (c, d) = if p ≠ 0 then p else q) := Lib.hid (by unfold cf2; rw [hp, hq])
  rw [HF.out]
  clear hp hq HF
  by_cases h0p : p = 0
  · subst h0p
    by_cases h0q : q = 0
    · subst h0q
      go_enter Tryz.func232, Tryz.ntmps232
      go_wp2_with fail
      refine wp_loop_rounds 3 ?_
      iterate 3
        rw [rounds_succ]
        go_wp2_with (first
          | (go_at_call 40; (with_reducible refine (HP _).out.mono ?_); rintro e w1 ⟨rfl, rfl⟩)
          | (go_at_call 40; (with_reducible refine (HQ _).out.mono ?_); rintro e w1 ⟨rfl, rfl⟩))
      go_ret
      exact ⟨rfl, rfl⟩
    · have qq : (q != 0) = true := by simpa using h0q
      go_enter Tryz.func232, Tryz.ntmps232
      go_wp2_with fail
      refine wp_loop_rounds 2 ?_
      iterate 2
        rw [rounds_succ]
        go_wp2_with (first
          | (go_at_call 40; (with_reducible refine (HP _).out.mono ?_); rintro e w1 ⟨rfl, rfl⟩)
          | (go_at_call 40; (with_reducible refine (HQ _).out.mono ?_); rintro e w1 ⟨rfl, rfl⟩))
      go_ret
      exact ⟨by simp, rfl⟩
  · have qp : (p != 0) = true := by simpa using h0p
    go_enter Tryz.func232, Tryz.ntmps232
    go_wp2_with fail
    refine wp_loop_rounds 1 ?_
    iterate 1
      rw [rounds_succ]
      go_wp2_with (go_at_call 40; (with_reducible refine (HP _).out.mono ?_); rintro e w1 ⟨rfl, rfl⟩)
    go_ret
    exact ⟨by simp [h0p], rfl⟩

theorem grow2 (w : World) (A B : Obj) (n : Nat) : ∃ q os, ((w.alloc A).alloc B).drewN n = grow (w.drewN q) os :=
  ⟨n, #[A, B], by simp only [alloc_eq_grow]; show grow (grow (w.drewN n) #[A]) #[B] = _; rw [grow_grow]; rfl⟩

set_option maxHeartbeats 2000000 in
set_option maxRecDepth 100000 in
theorem pair_order (x y : Int × Int) (w : World) : Calls Tryz.prog 231 #[.agg #[.int .i64 x.1, .int .i64 x.2], .agg #[.int .i64 y.1, .int .i64 y.2]] w fun e w' =>
    e = .returned (.int .i64 (cf2 x y)) ∧ ∃ q os, w' = grow (w.drewN q) os := by
  obtain ⟨x1, x2⟩ := x
  obtain ⟨y1, y2⟩ := y
  simp only
  obtain ⟨r, hr⟩ : ∃ r, cf2 (x1, x2) (y1, y2) = r := ⟨_, rfl⟩
  have HC := fun W g h cg ch g0 g1 h0 h1 => Lib.hid (compare_two x1 x2 y1 y2 g h cg ch W g0 g1 h0 h1)
  rw [hr] at HC ⊢
  clear hr
  go_enter Tryz.func231, Tryz.ntmps231
  go_wp2_with fail
  refine wp_region_still_tail 2 (by kernel_rfl) (by kernel_rfl) ?_
  simp only [List.take_succ_cons, List.take_zero, List.drop_succ_cons, List.drop_zero]
  change wpStill _ _ (World.drew _) _ _ _
  repeat still_step
  refine wpStill_nil ?_
  change wpList _ _ _ _ _ (World.drew _)
  go_wp2_with (go_at_call 232; (with_reducible refine (HC _ _ _ _ _ (by go_simp) (by go_simp) (by go_simp) (by go_simp)).out.mono ?_); rintro e w4 ⟨rfl, rfl⟩)
  go_ret
  exact ⟨rfl, grow2 w _ _ 1⟩

theorem sort_pairs (g cap : Nat) (l : List (Int × Int)) (w : World) (hr : Row w g 253 (cap * 2) (cells2 l)) (hm : l.length ≤ 1000000) :
    Calls Tryz.prog 230 #[.slice (some ⟨g, 0, none⟩) l.length cap, .func (.func 231) #[] #[]] w (SortedRow two 253 2 Sy.lt2 w g cap l) := by
  have eg : ∀ args w, (callFunc 231 args).run Tryz.prog w = .ok (.enter 231 args) w := enters_of Tryz.func231 (by kernel_rfl) rfl
  have hcon := AnyQ.slices_SortFunc Tryz.laysSortP 2 Tryz.isAgg253 Tryz.sizeOf253 two two_len two_one cf2 (by rw [lt_cf2]; exact tot_swo Sy.tot2) 231 #[] g 0 cap l.toArray w eg
    (fun m os dk _ x y => pair_order x y _) (hr.holdsK two_len) hr.lt (by simp; omega)
  rw [lt_cf2] at hcon
  refine hcon.mono fun e w' ⟨he, d, n, os, hp, hs, hw⟩ => ?_
  subst he
  exact sortedRow_of two_len hr hp hs hw

theorem sortP_nil (fv : Value) (w : World) : Calls Tryz.prog 230 #[.slice none 0 0, fv] w fun r w' => r = .returned (.tuple #[]) ∧ w' = w :=
  AnyF.slices_SortFunc_none Tryz.laysSortP none 0 fv w

/-- Pairs sorted, then each once. -/
def SortedOwn (w : World) (base : Nat) (v : Value) (l : List (Int × Int)) : Prop := w.ownsRow base 253 2 v l.length (cells2 l)

theorem own2 {w : World} {base g cap : Nat} {l : List (Int × Int)} {e : TypeId} (hb : base ≤ g) (hr : Row w g e (cap * 2) (cells2 l)) (hn : l.length ≤ cap) (hc : cap ≤ maxLen) : w.ownsRow base e 2 (.slice (some ⟨g, 0, none⟩) l.length cap) l.length (cells2 l) := by
  have h := hr.owns (n := l.length) (size := 2) hn hc (cells2_len l)
  refine ⟨h.1, ?_⟩
  rcases h.2 with ⟨h1, h2⟩ | ⟨g', cap', cur, a, b, r⟩
  · cases h1
  · simp only [Value.slice.injEq, Option.some.injEq, Addr.mk.injEq, and_true, true_and] at a
    obtain ⟨rfl, rfl⟩ := a
    exact .inr ⟨_, _, cur, rfl, hb, r⟩

theorem sortP_any {base : Nat} {v : Value} {l : List (Int × Int)} {W : World} (ho : W.ownsRow base 253 2 v l.length (cells2 l)) (hm : l.length ≤ 1000000) :
    Calls Tryz.prog 230 #[v, .func (.func 231) #[] #[]] W fun r W' =>
      r = .returned (.tuple #[]) ∧ ∃ l' : List (Int × Int), l'.Perm l ∧ l'.Pairwise (fun a b => Sy.lt2 b a = false) ∧ W'.ownsRow base 253 2 v l'.length (cells2 l') ∧ Turned (fun k => v.ownBlock = some k) W W' := by
  have hb := ho.lt
  rcases owns_cases ho with ⟨rfl, h0, -⟩ | ⟨g, cap, rfl, hr, hn, hc, -⟩
  · refine (sortP_nil _ W).mono fun r W' ⟨h1, h2⟩ => ⟨h1, l, List.Perm.refl _, ?_, by rw [h2]; exact ho, by rw [h2]; exact Turned.refl _ _⟩
    rw [List.eq_nil_of_length_eq_zero h0]; exact List.Pairwise.nil
  · refine (sort_pairs g cap l W hr hm).mono fun r W' ⟨h1, l', h2, h3, h4, h5⟩ => ⟨h1, l', h2, h3, ?_, h5.mono (fun i _ (e : i = g) => by rw [e]; rfl)⟩
    rw [← h2.length_eq] at hn ⊢
    exact own2 (hb g rfl).1 h4 hn hc

theorem compactP_any {base : Nat} {v : Value} {l : List (Int × Int)} {W : World} (ho : W.ownsRow base 253 2 v l.length (cells2 l)) (hm : l.length ≤ 1000000) :
    Calls Tryz.prog 233 #[v] W fun r W' => ∃ v', r = .returned v' ∧ W'.ownsRow base 253 2 v' (Sy.cpt l).length (cells2 (Sy.cpt l)) ∧ Turned (fun k => v.ownBlock = some k) W W' := by
  have hb := ho.lt
  rcases owns_cases ho with ⟨rfl, h0, -⟩ | ⟨g, cap, rfl, hr, hn, hc, -⟩
  · refine (compact_pairs_nil W).mono fun r W' ⟨h1, h2⟩ => ⟨_, h1, ?_, by rw [← h2]; exact Turned.refl _ _⟩
    rw [List.eq_nil_of_length_eq_zero h0]; exact World.ownsRow_nil _ _ _ _
  · refine (compact_pairs g cap l W hr hn hm hc).mono fun r W' ⟨h1, h2, h3, h4⟩ => ⟨_, h1, own2 (hb g rfl).1 h3 h2 hc, h4.mono (fun i _ (e : i = g) => by rw [e]; rfl)⟩

end Go.Proofs.YtkcdkfkgjjpaaaaGreatDoor

namespace Go.Proofs.YtkcdkfkgjjpaaaaGreatDoor
open Go.RowKit Go.Sort Go.Shelf
set_option linter.unusedVariables false
set_option linter.unusedSimpArgs false

theorem Tryz.byteInfo : (Tryz.prog.info? 5).map (fun i => (i.zero, i.size, i.bytes)) = some (some (.int .u8 0), 1, 1) := by kernel_rfl
theorem Tryz.arrInfo : (Tryz.prog.info? 253).map (fun i => (i.zero, i.size, i.bytes)) = some (some (.agg #[.int .i64 0, .int .i64 0]), 2, 16) := by kernel_rfl

/-- The table of powers of ten stands where the program lays it. -/
def Tab (w : World) : Prop := Lib.TabIs Tryz.prog w "internal/strconv.uint64pow10" .u64 Lib.pow10Tab

theorem Tab.up {w w1 : World} (h : Tab w) (hu : Up w w1) : Tab w1 := Lib.tabBelow_of_tabIs h w1 hu

theorem Tab.below {w w1 : World} {B : Nat} (h : Tab w) (hu : Up w w1) (hB : w.heap.size ≤ B) : Lib.TabBelow Tryz.prog B w1 "internal/strconv.uint64pow10" .u64 Lib.pow10Tab :=
  fun w' hb => Lib.tabBelow_of_tabIs h w' (Below.trans hu (hb.mono hB))

theorem appendInt_any (B n : Nat) (i : Int) (h0 : -9223372036854775808 ≤ i) (h1 : i ≤ 9223372036854775807) (sv : Value) (xs : List Value) (w : World) (hown : w.ownsRow B 5 1 sv n xs) (hBw : B ≤ w.heap.size) (hlim : n + 21 ≤ 140737488355328)
    (htab : Lib.TabBelow Tryz.prog B w "internal/strconv.uint64pow10" .u64 Lib.pow10Tab) :
    Calls Tryz.prog 208 #[sv, .int .i64 i, .int .i64 10] w fun e w' => ∃ v', e = .returned v' ∧ w'.ownsRow B 5 1 v' (n + (Lib.itoa i).length) (xs ++ Lib.byteCells (Lib.itoa i)) ∧ Below B w w' ∧ Lib.OthersKept 5 none w w' :=
  Any.strconv_AppendInt_10 Tryz.laysAppendInt B n i h0 h1 sv xs w hown hBw hlim htab

/-- The bytes that were gathered since a world. -/
structure Gathered (w0 w : World) (l : List UInt8) (v : Value) : Prop where
  up : Up w0 w
  own : w.ownsRow w0.heap.size 5 1 v l.length (Lib.byteCells l)

/-- A number and a blank, gathered. -/
theorem Gathered.put {w0 w w1 w2 : World} {l k : List UInt8} {v v1 v2 : Value} {o : Obj} (h : Gathered w0 w l v) (hb : Below w0.heap.size w w1)
    (h1 : w1.ownsRow w0.heap.size 5 1 v1 (l.length + k.length) (Lib.byteCells l ++ Lib.byteCells k)) (h2 : w2.ownsRow w0.heap.size 5 1 v2 (l.length + k.length + 1) (Lib.byteCells l ++ Lib.byteCells k ++ [Value.int .u8 32]))
    (hg : (w1.alloc o).grownBy w2 v1.ownBlock) : Gathered w0 w2 (l ++ (k ++ [32])) v2 := by
  refine ⟨?_, ?_⟩
  · exact Up.grown (Up.alloc (Below.trans h.up hb) o) hg (fun g hk => (h1.lt g hk).1)
  · have e : Lib.byteCells (l ++ (k ++ [32])) = Lib.byteCells l ++ Lib.byteCells k ++ [Value.int .u8 32] := by simp [Lib.byteCells]
    have el : (l ++ (k ++ [32])).length = l.length + k.length + 1 := by simp; omega
    rw [e, el]; exact h2

/-- What another block than bytes bears stays. -/
theorem kept_put {w w1 w2 : World} {b n : Nat} {o x : Obj} {base : Nat} {v1 : Value} {xs : List Value} (hx : w.heap[b]? = some x) (hne : ∀ c fz, x ≠ .cells c 5 fz) (ho : Lib.OthersKept 5 none w w1)
    (h1 : w1.ownsRow base 5 1 v1 n xs) (hg : (w1.alloc o).grownBy w2 v1.ownBlock) : w1.heap[b]? = some x ∧ w2.heap[b]? = some x := by
  have e1 := ho b x hx (by simp) hne
  have l1 := lt_of_block' e1
  refine ⟨e1, (hg.block b (by simp; omega) (fun e => ?_)).trans ((Below.heap_alloc w1 o b l1).trans e1)⟩
  obtain ⟨cur, hc⟩ := owns_type h1 e.symm
  rw [e1, Option.some.injEq] at hc
  exact hne _ _ hc

theorem Gathered.string {w0 w : World} {l : List UInt8} {v : Value} (h : Gathered w0 w l v) : ∃ ao n c, v = .slice ao n c ∧ (convert 269 9 (.slice ao n c)).run Tryz.prog w = .ok (.string ⟨l.toArray⟩) w := by
  rcases owns_cases h.own with ⟨rfl, h0, -⟩ | ⟨g, cap, rfl, hr, -⟩
  · obtain rfl : l = [] := List.eq_nil_of_length_eq_zero h0
    exact ⟨none, 0, 0, rfl, by kernel_rfl⟩
  · exact ⟨_, _, cap, rfl, run_convert_bytes_back (P := Tryz.prog) w 269 9 5 ⟨g, 0, none⟩ cap l Tryz.underlying269 Tryz.underlying5 Tryz.underlying9 (fun j hj => h.own.cells (g := g) rfl j _ (by simp [Lib.byteCells, hj]))⟩

/-- What is seen of steps by some classes. -/
def seenBy (c : List Nat) (l : List (Int × Int)) : List (Int × Int) := l.map fun x => (x.1, ((c.getD x.2.toNat 0 : Nat) : Int))

/-- What sign leaves. -/
def Signed (w : World) (k : Int) (c : List Nat) (l : List (Int × Int)) (r : Ending) (w' : World) : Prop :=
  r = .returned (.agg #[.int .i64 k, .string ⟨(Rd.text (Sy.norm Sy.lt2 (seenBy c l))).toArray⟩]) ∧ Up w w'

theorem grown_cell {x x' : World} {v : Value} {a : Addr} {u : Value} (hg : x.grownBy x' v.ownBlock) (hc : x.cell? a = some u) (hne : v.ownBlock ≠ some a.block) : x'.cell? a = some u :=
  (World.cell?_of_block (w := x) (a := a) (hg.block a.block (World.block_lt_of_cell? x _ hc) (fun e => hne e.symm))).trans hc

theorem pair_set {W : World} {b : Nat} {a1 a2 : Value} {e : TypeId} (h : W.heap[b]? = some (.cells #[a1, a2] e (0, 0))) (u1 u2 : Value) :
    ((W.setCell ⟨b, 0, none⟩ u1).setCell ⟨b, 1, none⟩ u2).cell? ⟨b, 0, none⟩ = some u1 ∧ ((W.setCell ⟨b, 0, none⟩ u1).setCell ⟨b, 1, none⟩ u2).cell? ⟨b, 1, none⟩ = some u2 ∧
    Turned (fun k => k = b) W ((W.setCell ⟨b, 0, none⟩ u1).setCell ⟨b, 1, none⟩ u2) := by
  have hrow : Row W b e 2 [a1, a2] := ⟨_, h, rfl, by simp, rfl⟩
  have h1 := (hrow.set 0 u1).set 1 u2
  exact ⟨h1.cell rfl, h1.cell rfl, ((Turned.refl (fun k => k = b) W).setCell (p := ⟨b, 0, none⟩) (.inl rfl) u1).setCell (p := ⟨b, 1, none⟩) (.inl rfl) u2⟩

/-- Pairs under way. -/
structure SignAt (w wr : World) (v : Value) (m : Nat) (l : List (Int × Int)) : Prop where
  up : Up w wr
  res : wr.heap[w.heap.size]? = some (.cells #[.int .i64 0, .string { data := #[] }] 281 (0, 0))
  own : wr.ownsRow (w.heap.size + 1) 253 2 v m (cells2 l)

theorem SignAt.mono {w wr wq : World} {v : Value} {m : Nat} {l : List (Int × Int)} (h : SignAt w wr v m l) (hu : Up wr wq) : SignAt w wq v m l :=
  ⟨h.up.trans hu, (hu.block _ (lt_of_block' h.res)).trans h.res, hu.owns h.own⟩

theorem SignAt.push {w wr wq : World} {v v' : Value} {m m' : Nat} {l l' : List (Int × Int)} (h : SignAt w wr v m l) (hown : wq.ownsRow (w.heap.size + 1) 253 2 v' m' (cells2 l')) (hg : wr.grownBy wq v.ownBlock) : SignAt w wq v' m' l' := by
  have hva : ∀ k, v.ownBlock = some k → w.heap.size + 1 ≤ k := fun k hk => (h.own.lt k hk).1
  exact ⟨h.up.grown hg (fun k hk => by have := hva k hk; omega), (hg.block _ (lt_of_block' h.res) (fun e => by have := hva _ e.symm; omega)).trans h.res, hown⟩

theorem SignAt.turned {w wr wq : World} {v v' : Value} {m m' : Nat} {l l' : List (Int × Int)} (h : SignAt w wr v m l) (hown : wq.ownsRow (w.heap.size + 1) 253 2 v' m' (cells2 l')) (hT : Turned (fun k => v.ownBlock = some k) wr wq) : SignAt w wq v' m' l' := by
  have hva : ∀ k, v.ownBlock = some k → w.heap.size + 1 ≤ k := fun k hk => (h.own.lt k hk).1
  refine ⟨?_, (hT.block _ (lt_of_block' h.res) (fun e => by have := hva _ e; omega)).trans h.res, hown⟩
  have h1 : Turned (fun j => w.heap.size ≤ j) w wq := (Turned.below h.up).trans hT (fun i hi e => by have := hva i e; omega)
  exact ⟨h1.os, h1.tape, h1.output, h1.size, fun i hi => h1.block i hi (by omega)⟩

theorem text_snoc (l : List (Int × Int)) (a b : Int) : Rd.text (l ++ [(a, b)]) = Rd.text l ++ (Lib.itoa a ++ [32]) ++ (Lib.itoa b ++ [32]) := by
  simp [Rd.text, Tm.flat, Tm.enc]

theorem text_len : ∀ (l : List (Int × Int)), (∀ x ∈ l, 0 ≤ x.1 ∧ x.1 ≤ 1000 ∧ 0 ≤ x.2 ∧ x.2 ≤ 1000) → (Rd.text l).length ≤ 44 * l.length := by
  refine Sy.snoc_ind (fun _ => by simp [Rd.text, Tm.flat, Tm.enc]) ?_
  rintro l ⟨a, b⟩ ih h
  have h1 := ih (fun x hx => h x (by simp [hx]))
  have h2 := h (a, b) (by simp)
  simp only at h2
  have ha := Lib.itoa_length_le a (by omega) (by omega)
  have hb := Lib.itoa_length_le b (by omega) (by omega)
  rw [text_snoc]
  simp only [List.length_append, List.length_singleton]
  omega

set_option maxHeartbeats 8000000 in
set_option maxRecDepth 100000 in
theorem sign_any (l : List (Int × Int)) (k : Int) (c : List Nat) (v cv : Value) (w : World) (hT : Tab w) (hv : Ls2 w v l) (hc : Lst w cv (c.map Int.ofNat)) (hl : l.length ≤ 1000000) (hcl : c.length ≤ 1000)
    (hok : ∀ x ∈ l, 0 ≤ x.1 ∧ x.1 < 1000 ∧ 0 ≤ x.2 ∧ x.2 < c.length) (hsm : Rd.Small c) :
    Calls Tryz.prog 197 #[v, .int .i64 k, cv] w (Signed w k c l) := by
  obtain ⟨i0, hi, hz0, hz1, hz2⟩ := info_parts Tryz.byteInfo
  obtain ⟨j0, hj, gz0, gz1, gz2⟩ := info_parts Tryz.arrInfo
  obtain ⟨ao, cap, g, off, rfl, ha, hx⟩ := hv
  obtain ⟨bo, cap2, g2, off2, rfl, hb, hy⟩ := hc
  rw [List.length_map] at hb ⊢
  obtain ⟨n, hn⟩ : ∃ n, n = l.length := ⟨_, rfl⟩
  obtain ⟨m, hm⟩ : ∃ m, m = c.length := ⟨_, rfl⟩
  rw [← hn] at ha hl ⊢
  rw [← hm] at hb hcl ⊢
  have HA := Lib.hid ha
  have HB := Lib.hid hb
  have HX := Lib.hid hx
  have HY := Lib.hid hy
  have HN := Lib.hid hn
  have HM := Lib.hid hm
  have HOK := Lib.hid hok
  have HSM := Lib.hid hsm
  have HT := Lib.hid hT
  clear ha hb hx hy hn hm hok hsm hT
  have h0 : SignAt w (w.alloc (.cells #[.int .i64 0, .string { data := #[] }] 281)) (.slice none 0 0) 0 [] := ⟨(Up.refl w).alloc _, heap_alloc_new w _, World.ownsRow_nil _ _ _ _⟩
  have H0 := Lib.hid h0
  clear h0
  go_enter Tryz.func197, Tryz.ntmps197
  go_wp2_with fail
  go_loopw [7, 15] (fun t s wr => ∃ (j : Nat), s = .int .i64 j ∧ j ≤ n ∧ Hid (SignAt w wr t j (seenBy c (l.take j)))) (fun _ s _ => n - (intOf s).toNat)
  case atStart => exact ⟨0, rfl, Nat.zero_le _, H0⟩
  case round =>
    obtain ⟨j, rfl, hjn, HR⟩ := hrel
    by_cases hlt : j < n
    · obtain rfl := HA.out (by omega)
      have hjl : j < l.length := by rw [← HN.out]; exact hlt
      obtain ⟨x, hx⟩ : ∃ x, l.getD j (0, 0) = x := ⟨_, rfl⟩
      have hok := HOK.out x (by rw [← hx, ← getD_of (0, 0) hjl]; exact List.getElem_mem hjl)
      have hcc := HX.out j hjl
      rw [hx] at hcc
      obtain ⟨x1, x2⟩ := x
      obtain ⟨z, hz⟩ : ∃ z : Nat, x2 = (z : Int) := ⟨x2.toNat, by have := hok.2.2.1; simp only at this; omega⟩
      subst hz
      simp only at hcc hok
      have hzm : z < m := by rw [HM.out]; omega
      obtain rfl := HB.out (by omega)
      obtain ⟨y, hy⟩ : ∃ y, c.getD z 0 = y := ⟨_, rfl⟩
      have hyc := HY.out z (by rw [List.length_map, ← HM.out]; exact hzm)
      rw [show (c.map Int.ofNat).getD z 0 = (y : Int) by rw [← hy]; simp [List.getD, show z < c.length by rw [← HM.out]; exact hzm]] at hyc
      have hR := HR.out
      have d0 := hR.up.cell hcc.1
      have d1 := hR.up.cell hcc.2
      have dy := hR.up.cell hyc
      have HJ : Hid (seenBy c (l.take (j + 1)) = seenBy c (l.take j) ++ [(x1, (y : Int))]) := Lib.hid (by
        rw [List.take_succ_eq_append_getElem hjl, getD_of (0, 0) hjl, hx]
        unfold seenBy
        rw [List.map_append, List.map_cons, List.map_nil, Int.toNat_natCast, hy])
      obtain ⟨w5, hw5⟩ : ∃ w5, w5 = wr.alloc (.cells #[.int .i64 x1, .int .i64 (z : Nat)] 92) := ⟨_, rfl⟩
      have hu5 : Up wr w5 := by rw [hw5]; exact (Up.refl wr).alloc _
      have hb5 : w5.heap[wr.heap.size]? = some (.cells #[.int .i64 x1, .int .i64 (z : Nat)] 92 (0, 0)) := by rw [hw5]; exact heap_alloc_new wr _
      obtain ⟨e0, e1⟩ := two_cells hb5
      have hS0 := And.intro e0 (And.intro e1 (hu5.cell dy))
      have hR5 := hR.mono hu5
      obtain ⟨av, q5, hsh⟩ := owns_shape' hR5.own
      subst hsh
      have HR5 := Lib.hid hR5
      have hbs : Hid (w.heap.size + 1 ≤ w5.heap.size) := Lib.hid (lt_of_block' hR5.res)
      have qz1 : (z : Int) < (m : Int) := by omega
      have HNB : Hid ((Value.slice av j q5).ownBlock ≠ some wr.heap.size ∧ (Value.slice av j q5).ownBlock ≠ some g2) := Lib.hid ⟨fun e => by
        obtain ⟨cur, hcur⟩ := owns_type hR5.own e
        rw [hb5] at hcur
        simp only [Option.some.injEq, Obj.cells.injEq] at hcur
        exact absurd hcur.2.1 (by decide), fun e => by
        have h1 := (hR5.own.lt g2 e).1
        have h2 := World.block_lt_of_cell? w _ hyc
        simp only at h2
        omega⟩
      clear hx hcc hok hy hyc hR hR5 hjl dy e0 e1 hu5 hb5
      go_upto_region 5 with fail
      rw [← hw5]
      clear hw5 d0 d1
      refine wp_region_ord 11 [(0, true), (1, true), (2, true), (3, true), (4, true), (5, true), (6, true), (7, true), (8, true), (9, false), (10, false)] (fun w' => w'.cell? ⟨wr.heap.size, 0, none⟩ = some (.int .i64 x1) ∧ w'.cell? ⟨wr.heap.size, 1, none⟩ = some (.int .i64 (z : Nat)) ∧ w'.cell? ⟨g2, off2 + z, none⟩ = some (.int .i64 (y : Nat))) (by kernel_rfl) (by kernel_rfl) (fun _ _ _ _ _ h => h) hS0 ?_
      iterate 9
        refine WO.still rfl rfl (fun K hK => ?_)
        apply Exists.intro
        refine ⟨?_, hK _ ?_⟩
        · intro w' hS
          obtain ⟨s1, s2, s3⟩ := hS
          go_simp
          first | done | rfl | exact ⟨rfl, rfl⟩
        clear hK K
      refine WO.act rfl rfl (fun K hK => ?_)
      go_simp
      refine hK _ _ ?_ ?_
      · have hu' := (Up.refl w5).alloc (.cells #[.int .i64 x1, .int .i64 (y : Nat)] 253)
        exact ⟨hu'.cell hS0.1, hu'.cell hS0.2.1, hu'.cell hS0.2.2⟩
      clear hK K
      refine WO.act rfl rfl (fun K hK => ?_)
      refine wp_append_own (.tmp 19) (.tmp 28) 307 rfl (w.heap.size + 1) 253 j0 (.agg #[.int .i64 0, .int .i64 0]) 2 16 Tryz.underlying307 hj gz0 gz1 gz2 rfl (by decide) (.slice av j q5) j _ rfl (Up.owns (w := w5) ((Up.refl w5).alloc _) HR5.out.own) _ 1 1 [.int .i64 x1, .int .i64 (y : Nat)] rfl rfl (cells_new2 _ _ _ _) (two_one (x1, (y : Int))) (by unfold maxLen; omega) (by omega) (by have := hbs.out; show _ ≤ (w5.alloc _).heap.size; simp only [World.size_alloc]; omega) ?_
      intro v' x9 hown9 hgrow9 hat9
      obtain ⟨a9, c9, rfl⟩ := owns_shape' hown9
      have hg9 : (w5.alloc (.cells #[.int .i64 x1, .int .i64 (y : Nat)] 253)).grownBy x9 (Value.slice av j q5).ownBlock := ⟨hgrow9.os, hgrow9.tape, hgrow9.output, hgrow9.size, hgrow9.block⟩
      have hu' := (Up.refl w5).alloc (.cells #[.int .i64 x1, .int .i64 (y : Nat)] 253)
      have hS9 := And.intro (grown_cell hg9 (hu'.cell hS0.1) HNB.out.1) (And.intro (grown_cell hg9 (hu'.cell hS0.2.1) HNB.out.1) (grown_cell hg9 (hu'.cell hS0.2.2) HNB.out.2))
      refine hK _ _ hS9 ?_
      clear hK K
      have HNX : Hid (SignAt w x9 (.slice a9 (j + 1) c9) (j + 1) (seenBy c (l.take (j + 1)))) := Lib.hid (by
        have hown := hown9
        rw [show cells2 (seenBy c (l.take j)) ++ [Value.int .i64 x1, .int .i64 (y : Nat)] = cells2 (seenBy c (l.take (j + 1))) by rw [HJ.out, cells2_append]; rfl] at hown
        exact (HR5.out.mono hu').push hown hg9)
      clear hown9 hgrow9 hat9 hg9 hu' hS9
      refine WO.last rfl rfl (fun K hK => ?_)
      go_simp
      refine hK _ _ ?_
      clear hK K
      go_wp2_with fail
      go_roundw
      case rel => exact ⟨j + 1, by go_num, by omega, HNX⟩
      case measure => simp [intOf]; omega
    · obtain rfl : j = n := by omega
      have hR := HR.out
      have htk : l.take j = l := by rw [HN.out, List.take_length]
      rw [htk] at hR
      have hsl : (seenBy c l).length = j := by simp [seenBy, HN.out]
      obtain ⟨av, q5, hsh⟩ := owns_shape' hR.own
      subst hsh
      have hSO := sortP_any (l := seenBy c l) (by rw [hsl]; exact hR.own) (by rw [hsl]; exact hl)
      have HSL := Lib.hid hsl
      have HSO := Lib.hid hSO
      have HR2 := Lib.hid hR
      clear hR hSO HR hsl htk
      go_wp2_with fail
      (with_reducible refine HSO.out.mono ?_)
      rintro e W1 ⟨rfl, l', hp, hpw, hown1, hT1⟩
      have hl' : l'.length = j := by rw [hp.length_eq, HSL.out]
      rw [hl'] at hown1
      have S1 : SignAt w W1 (.slice av j q5) j l' := HR2.out.turned hown1 hT1
      have hCO := compactP_any (l := l') (by rw [hl']; exact S1.own) (by rw [hl']; exact hl)
      have hnorm : Sy.cpt l' = Sy.norm Sy.lt2 (seenBy c l) := Sy.cpt_norm Sy.tot2 l' _ hpw (fun x => hp.mem_iff)
      rw [hnorm] at hCO
      have hps : ∀ x ∈ Sy.norm Sy.lt2 (seenBy c l), 0 ≤ x.1 ∧ x.1 ≤ 1000 ∧ 0 ≤ x.2 ∧ x.2 ≤ 1000 := fun x hx => by
        have h1 := (Sy.mem_norm x _).1 hx
        obtain ⟨y, hy, rfl⟩ := List.mem_map.1 h1
        have h2 := HOK.out y hy
        have h3 := HSM.out y.2.toNat
        simp only
        omega
      have hpl : (Sy.norm Sy.lt2 (seenBy c l)).length ≤ 1000000 := by
        have := Sy.norm_len (lt := Sy.lt2) (seenBy c l)
        rw [HSL.out] at this; omega
      have HCO := Lib.hid hCO
      have HS1 := Lib.hid S1
      clear hCO S1 hp hpw hown1 hT1 hl' hnorm HSO HR2
      go_wp2_with fail
      (with_reducible refine HCO.out.mono ?_)
      rintro e W2 ⟨v2, rfl, hown2, hT2⟩
      have S2 : SignAt w W2 v2 _ _ := HS1.out.turned hown2 hT2
      obtain ⟨ps, hpse⟩ : ∃ ps, ps = Sy.norm Sy.lt2 (seenBy c l) := ⟨_, rfl⟩
      unfold Signed
      rw [← hpse] at S2 hown2 hps hpl ⊢
      have hL2 : Ls2 W2 v2 ps := owns_ls2 hown2
      obtain ⟨p, hpn⟩ : ∃ p, p = ps.length := ⟨_, rfl⟩
      obtain ⟨a2, q2, g3, o3, rfl, ha3, hc3⟩ := hL2
      rw [← hpn] at ha3 hpl S2 ⊢
      have HA3 := Lib.hid ha3
      have HC3 := Lib.hid hc3
      have HPS := Lib.hid hps
      have HPN := Lib.hid hpn
      have HS2 := Lib.hid S2
      have HT2' := Lib.hid (HT.out.up S2.up)
      have HPSE := Lib.hid hpse
      clear ha3 hc3 hps hpn S2 hown2 hT2 HCO HS1 hpse
      go_wp2_with fail
      go_loopw [10, 36] (fun b s wr => ∃ j : Nat, s = .int .i64 j ∧ j ≤ p ∧ Hid (Gathered W2 wr (Rd.text (ps.take j)) b)) (fun _ s _ => p - (intOf s).toNat)
      case atStart => exact ⟨0, rfl, Nat.zero_le _, Lib.hid ⟨Up.refl _, World.ownsRow_nil _ _ _ _⟩⟩
      case round =>
        obtain ⟨i, rfl, hip, HG⟩ := hrel
        by_cases hlt2 : i < p
        · obtain rfl := HA3.out (by omega)
          have hil : i < ps.length := by rw [← HPN.out]; exact hlt2
          obtain ⟨x, hx⟩ : ∃ x, ps.getD i (0, 0) = x := ⟨_, rfl⟩
          have hok := HPS.out x (by rw [← hx, ← getD_of (0, 0) hil]; exact List.getElem_mem hil)
          have hcc := HC3.out i hil
          rw [hx] at hcc
          obtain ⟨x1, x2⟩ := x
          simp only at hcc hok
          have hG := HG.out
          have d0 := hG.up.cell hcc.1
          have d1 := hG.up.cell hcc.2
          have HJ : Hid (Rd.text (ps.take (i + 1)) = Rd.text (ps.take i) ++ (Lib.itoa x1 ++ [32]) ++ (Lib.itoa x2 ++ [32])) := Lib.hid (by
            rw [List.take_succ_eq_append_getElem hil, getD_of (0, 0) hil, hx, text_snoc])
          have htl : (Rd.text (ps.take i)).length ≤ 44000000 := by
            have := text_len (ps.take i) (fun x hx => HPS.out x (List.mem_of_mem_take hx))
            rw [List.length_take] at this; omega
          obtain ⟨tx, htx⟩ : ∃ tx, tx = Rd.text (ps.take i) := ⟨_, rfl⟩
          rw [← htx] at hG htl HJ
          have la := Lib.itoa_length_le x1 (by omega) (by omega)
          have lb := Lib.itoa_length_le x2 (by omega) (by omega)
          have hB2 := hG.up.size
          obtain ⟨av1, aq1, hsh⟩ := owns_shape' hG.own
          subst hsh
          have hb5 := heap_alloc_new wr (.cells #[.int .i64 x1, .int .i64 x2] 253)
          have hu5 := (Up.refl wr).alloc (.cells #[.int .i64 x1, .int .i64 x2] 253)
          have HX2 := Lib.hid hok
          have hG5 : Gathered W2 (wr.alloc (.cells #[.int .i64 x1, .int .i64 x2] 253)) tx (.slice av1 tx.length aq1) := ⟨hG.up.trans hu5, hu5.owns hG.own⟩
          have hA1 := appendInt_any W2.heap.size tx.length x1 (by omega) (by omega) _ _ _ hG5.own (Nat.le_trans hB2 hu5.size) (by omega) (HT2'.out.below hG5.up (Nat.le_refl _))
          have HA1 := Lib.hid hA1
          have HG5 := Lib.hid hG5
          have HB5 := Lib.hid hb5
          clear hx hcc hok hG hG5 hA1 hb5 hu5 htx hil HG
          go_wp2_with fail
          (with_reducible refine HA1.out.mono ?_)
          revert HG5 HB5
          generalize hw5 : wr.alloc (.cells #[.int .i64 x1, .int .i64 x2] 253) = w5
          have hs5 : w5.heap.size = wr.heap.size + 1 := by rw [← hw5]; simp
          clear hw5 HA1
          intro HG5 HB5
          rintro e w6 ⟨v6, rfl, hown6, hb6, ho6⟩
          have hs6 : W2.heap.size ≤ w6.heap.size := Nat.le_trans (Nat.le_trans hB2 (by omega : wr.heap.size ≤ w5.heap.size)) hb6.size
          have HO6 := Lib.hid ho6
          have HBL6 := Lib.hid hb6
          have HOWN6 := Lib.hid hown6
          clear ho6 hb6 d0 d1
          go_wp2_with (at_builtin; refine wpList_append_own _ rfl _ _ 269 rfl W2.heap.size 5 i0 (.int .u8 0) 1 1 Tryz.underlying269 hi hz0 hz1 hz2 rfl (by decide) _ _ _ rfl (hown6.alloc _) ⟨w6.heap.size, 0, none⟩ 1 1 [Value.int .u8 32] rfl rfl (by intro j u' hj; match j, hj with | 0, hj => simp at hj; subst hj; simp [Addr.add]) (by intro u' hu'; simp at hu'; subst hu'; rfl) (by unfold maxLen; omega) (by omega) (by simp; omega) ?_; intro v7 w7 hown7 hgrow7 _; (have K := Gathered.put HG5.out HBL6.out hown6 hown7 hgrow7); (have K2 := kept_put HB5.out (by intro c fz e; simp at e) HO6.out hown6 hgrow7); (obtain ⟨av7, aq7, rfl⟩ := owns_shape' hown7); (replace K := Lib.hid K); (have k1 : w7.cell? ⟨wr.heap.size, 1, none⟩ = some (.int .i64 x2) := (by simp [World.cell?, K2.2])); (replace K2 := Lib.hid K2); (clear hown7 hgrow7 hown6))
          have hlk : (tx ++ (Lib.itoa x1 ++ [32])).length = tx.length + (Lib.itoa x1).length + 1 := by simp; omega
          have hs7 : W2.heap.size ≤ w7.heap.size := K.out.up.size
          have hA2 := appendInt_any W2.heap.size _ x2 (by have := HX2.out; omega) (by have := HX2.out; omega) _ _ w7 K.out.own hs7 (by rw [hlk]; omega) (HT2'.out.below K.out.up (Nat.le_refl _))
          obtain ⟨ty, hty⟩ : ∃ ty, ty = tx ++ (Lib.itoa x1 ++ [32]) := ⟨_, rfl⟩
          rw [← hty] at hA2 hlk K HJ
          have HA2 := Lib.hid hA2
          clear hA2 k1 hty
          (with_reducible refine HA2.out.mono ?_)
          rintro e w8 ⟨v8, rfl, hown8, hb8, ho8⟩
          have hs8 : W2.heap.size ≤ w8.heap.size := Nat.le_trans hs7 hb8.size
          have HO8 := Lib.hid ho8
          have HBL8 := Lib.hid hb8
          clear ho8 hb8 HA2
          go_wp2_with (at_builtin; refine wpList_append_own _ rfl _ _ 269 rfl W2.heap.size 5 i0 (.int .u8 0) 1 1 Tryz.underlying269 hi hz0 hz1 hz2 rfl (by decide) _ _ _ rfl (hown8.alloc _) ⟨w8.heap.size, 0, none⟩ 1 1 [Value.int .u8 32] rfl rfl (by intro j u' hj; match j, hj with | 0, hj => simp at hj; subst hj; simp [Addr.add]) (by intro u' hu'; simp at hu'; subst hu'; rfl) (by unfold maxLen; omega) (by omega) (by simp; omega) ?_; intro v9 w9 hown9 hgrow9 _; (have KK := Gathered.put K.out HBL8.out hown8 hown9 hgrow9); (obtain ⟨av9, aq9, rfl⟩ := owns_shape' hown9); (replace KK := Lib.hid KK); (clear hown9 hgrow9 hown8))
          go_roundw
          case rel => exact ⟨i + 1, by go_num, by omega, Lib.hid (by rw [HJ.out]; have h := KK.out; rw [hlk] at h; exact h)⟩
          case measure => simp [intOf]; omega
        · obtain rfl : i = p := by omega
          have hG := HG.out
          rw [show ps.take i = ps by rw [HPN.out, List.take_length]] at hG
          obtain ⟨a7, n7, c7, rfl, hcv⟩ := hG.string
          have hr := (hG.up.block _ (lt_of_block' HS2.out.res)).trans HS2.out.res
          obtain ⟨r0, r1⟩ := two_cells hr
          have f0 : wr.frozen? ⟨w.heap.size, 0, none⟩ = false := by simp [World.frozen?, hr]
          have f1 : wr.frozen? ⟨w.heap.size, 1, none⟩ = false := by simp [World.frozen?, hr]
          have HG2 := Lib.hid hG
          have HRB := Lib.hid hr
          obtain ⟨bs, hbs⟩ : ∃ bs : ByteArray, bs = ⟨(Rd.text ps).toArray⟩ := ⟨_, rfl⟩
          rw [← hbs] at hcv
          have HBS := Lib.hid hbs
          clear hG hr HG hbs
          go_wp2_with fail
          obtain ⟨z0, z1, hT⟩ := pair_set HRB.out (.int .i64 k) (.string bs)
          refine bodyPost_ret (v := .agg #[.int .i64 k, .string bs]) (by simp [results, Tryz.results197, go_sem, z0, z1]) rfl ⟨?_, up_turned (HS2.out.up.trans HG2.out.up) (Nat.le_refl _) hT⟩
          rw [HBS.out, HPSE.out]

end Go.Proofs.YtkcdkfkgjjpaaaaGreatDoor
