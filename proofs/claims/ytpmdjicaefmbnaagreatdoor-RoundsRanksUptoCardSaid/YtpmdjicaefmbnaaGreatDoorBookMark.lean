/- append onto a slice that the call owns: what else keeps its rows. No function of the program is named. The marks of a list, as the book makes them: markInts, by its contract. Lists of lists of integers in memory, as the book keeps and grows them: what a store, an append and a call that makes memory leave. Walks: the book's lists of integers, marked: putInts. Walks: the book's lists of integers, grown: growInts. Walks: the book's lists of integers, asked for their marks; asked whether they are as they were. -/
import Derived.Test.YtpmdjicaefmbnaaGreatDoorMem
import Derived.Maps.AppendAt
import Derived.Test.YtpmdjicaefmbnaaGreatDoorLst
import Derived.Deep.DeepCutAuto
import Derived.RegionTactic
import Derived.BigRegion
import Derived.Deep.RegionHeld3

namespace Go.Proofs.YtpmdjicaefmbnaaGreatDoor
open Go.RowKit
set_option linter.unusedVariables false
set_option linter.unusedSimpArgs false

/-- Rows that keep: those that do not lie in the slice's own block, and those that are no longer there than the slice. -/
def Keeps (w w' : World) (v : Value) (n size : Nat) : Prop :=
  ∀ (b size' n0 : Nat) (e' : TypeId) (v0 : Value) (ys : List Value), w.ownsRow b e' size' v0 n0 ys → (v0.ownBlock = v.ownBlock → n0 * size' ≤ n * size) → w'.ownsRow b e' size' v0 n0 ys

theorem run_append_keep {P : Program} (w : World) (base : Nat) (t ty e : TypeId) (i : TypeInfo) (z : Value) (size bytes : Nat) (ht : P.underlying t = some (.slice e)) (hi : P.info? e = some i) (hz : i.zero = some z)
    (hsize : i.size = size) (hby : i.bytes = bytes) (hzs : z.cells.size = size) (hsz : 0 < size)
    (v : Value) (n : Nat) (xs : List Value) (hown : w.ownsRow base e size v n xs)
    (a : Addr) (m c : Nat) (news : List Value) (hl : news.length = m * size) (hnews : ∀ j u, news[j]? = some u → w.cell? (a.add j) = some u) (h1 : ∀ u ∈ news, u.oneCell' = true)
    (h63 : n + m ≤ maxLen) (hbytes : (n + m) * bytes ≤ 140737488355328) (hbase : base ≤ w.heap.size) :
    ∃ v' w', (Builtin.append_ #[t, t] ty #[v, .slice (some a) m c]).run P w = .ok v' w' ∧ w'.ownsRow base e size v' (n + m) (xs ++ news) ∧ w.grownBy w' v.ownBlock ∧
      (v'.ownBlock = v.ownBlock ∨ v'.ownBlock = some w.heap.size) ∧ Keeps w w' v n size := by
  obtain ⟨v', w', hr, h2, h3, _, h5⟩ := run_append_own_at (P := P) w base t ty e i z size bytes ht hi hz hsize hby hzs hsz v n xs hown a m c news hl hnews h1 h63 hbytes hbase
  refine ⟨v', w', hr, h2, h3, h5, ?_⟩
  intro b size' n0 e' v0 ys h0 hle
  rcases hown.2 with ⟨rfl, rfl⟩ | ⟨g, cap, cur, rfl, hbg, hg, hnc, hcm, hcs, htake⟩
  · exact owns_keep h0 (fun k hk => h3.block k (owns_lt h0 hk) (by simp [Value.ownBlock]))
  · by_cases hsame : v0.ownBlock = some g
    · by_cases hroom : n + m ≤ cap
      · have hfit : n * i.size + news.length ≤ cur.size := by rw [hl, hcs, hsize, ← Nat.add_mul]; exact Nat.mul_le_mul_right _ hroom
        have hr2 := run_append_room (P := P) w t ty e i ht hi g n cap cur hg a m c news (by rw [hsize]; exact hl) hnews h1 hroom hfit
        rw [hr2] at hr
        simp only [Result.ok.injEq] at hr
        obtain ⟨_, rfl⟩ := hr
        have hle' : n0 * size' ≤ n * size := hle (by rw [hsame]; rfl)
        refine ⟨h0.1, ?_⟩
        rcases h0.2 with ⟨rfl, _⟩ | ⟨g0, cap0, cur0, rfl, b0, k0, n00, m0, s0, t0⟩
        · cases hsame
        · simp only [Value.ownBlock, Option.some.injEq] at hsame
          subst hsame
          rw [hg] at k0
          simp only [Option.some.injEq, Obj.cells.injEq, and_true] at k0
          obtain ⟨rfl, rfl⟩ := k0
          refine .inr ⟨g0, cap0, _, rfl, b0, setRow_heap w g0 cur _ _ _ hg, n00, m0, ?_, ?_⟩
          · rw [← s0]
            simp only [List.size_toArray, List.length_append, List.length_take, List.length_drop, Array.length_toList]
            omega
          · rw [← t0]
            show List.take (n0 * size') (List.take (n * i.size) cur.toList ++ news ++ List.drop (n * i.size + news.length) cur.toList) = _
            have hlen : (List.take (n * i.size) cur.toList).length = n * i.size := by rw [List.length_take, Array.length_toList]; omega
            rw [List.append_assoc, List.take_append_of_le_length (by rw [hlen, hsize]; exact hle'), List.take_take, Nat.min_eq_left (by rw [hsize]; exact hle')]
      · have holds : ∀ j u, xs[j]? = some u → w.cell? ((⟨g, 0, none⟩ : Addr).add j) = some u := hown.cells (g := g) rfl
        have hr2 := run_append_grow (P := P) w t ty e i z ht hi hz ⟨g, 0, none⟩ n cap xs (by rw [hsize]; exact hown.1) holds a m c news (by rw [hsize]; exact hl) hnews (by omega) (by simp only [maxLen] at h63; omega) (growslice_fits (by omega) (by rw [hby]; exact hbytes))
        rw [hr2] at hr
        simp only [Result.ok.injEq] at hr
        obtain ⟨_, rfl⟩ := hr
        exact owns_keep h0 (fun k hk => Below.heap_alloc w.drew _ k (owns_lt h0 hk))
    · exact owns_keep h0 (fun k hk => h3.block k (owns_lt h0 hk) (by rw [show Value.ownBlock (.slice (some ⟨g, 0, none⟩) n cap) = some g from rfl]; intro e; rw [e] at hk; exact hsame hk))

/-- At the operation, for the walk. -/
theorem wpList_append_keep {P : Program} {w : World} {ops : Array Oper} {rest : List Oper} {o : Oper} {a : Act} {Q : Exit → Act → World → Prop} (hgd : o.guard = none) (s x : Operand) (t : TypeId)
    (ho : o.op = .call { callee := .builtin .append, args := #[s, x], argTypes := #[t, t] })
    (base : Nat) (e : TypeId) (i : TypeInfo) (z : Value) (size bytes : Nat) (ht : P.underlying t = some (.slice e)) (hi : P.info? e = some i) (hz : i.zero = some z)
    (hsize : i.size = size) (hby : i.bytes = bytes) (hzs : z.cells.size = size) (hsz : 0 < size)
    (v : Value) (n : Nat) (xs : List Value) (hs : a.eval s = v) (hown : w.ownsRow base e size v n xs)
    (ad : Addr) (m c : Nat) (news : List Value) (hx : a.eval x = .slice (some ad) m c) (hl : news.length = m * size) (hnews : ∀ j u, news[j]? = some u → w.cell? (ad.add j) = some u) (h1 : ∀ u ∈ news, u.oneCell' = true)
    (h63 : n + m ≤ maxLen) (hbytes : (n + m) * bytes ≤ 140737488355328) (hbase : base ≤ w.heap.size)
    (h : ∀ v' w', w'.ownsRow base e size v' (n + m) (xs ++ news) → w.grownBy w' v.ownBlock → (v'.ownBlock = v.ownBlock ∨ v'.ownBlock = some w.heap.size) → Keeps w w' v n size → wpList P ops Q rest (a.put o.dst v') w') :
    wpList P ops Q (o :: rest) a w := by
  refine wpList_plain hgd fun K hK => ?_
  obtain ⟨v', w', hr, h2, h3, h4, h5⟩ := run_append_keep (P := P) w base t o.type e i z size bytes ht hi hz hsize hby hzs hsz v n xs hown ad m c news hl hnews h1 h63 hbytes hbase
  unfold Oper.wp execOp
  simp only [ho, resolve, invoke, builtin, Sem.run_bind, Sem.run_pure, Result.andThen_ok, List.map_toArray, List.map_cons, List.map_nil, hs, hx, hr]
  exact hK _ _ (h v' w' h2 h3 h4 h5)

end Go.Proofs.YtpmdjicaefmbnaaGreatDoor

namespace Go.Proofs.YtpmdjicaefmbnaaGreatDoor
open Go.RowKit
set_option linter.unusedVariables false
set_option linter.unusedSimpArgs false

/-- The marks of the list i, from a place on, so many. -/
def marks (i k0 n : Nat) : List Int := (List.range n).map fun (k : Nat) => -1000000 * (i : Int) - ((k0 + k : Nat) : Int) - 7

theorem marks_len (i k0 n : Nat) : (marks i k0 n).length = n := by simp [marks]

theorem marks_zero (i k0 : Nat) : marks i k0 0 = [] := rfl

theorem marks_succ (i k0 n : Nat) : marks i k0 (n + 1) = marks i k0 n ++ [-1000000 * (i : Int) - ((k0 + n : Nat) : Int) - 7] := by
  simp [marks, List.range_succ]

theorem marks_append (i k0 n m : Nat) : marks i k0 n ++ marks i (k0 + n) m = marks i k0 (n + m) := by
  induction m with
  | zero => simp [marks_zero]
  | succ m ih => rw [marks_succ, ← List.append_assoc, ih, ← Nat.add_assoc, marks_succ, Nat.add_assoc]

theorem marks_get (i k0 n k : Nat) (h : k < n) : (marks i k0 n).getD k 0 = -1000000 * (i : Int) - ((k0 + k : Nat) : Int) - 7 := by
  simp [marks, List.getD, h]

theorem Tryz.intInfoM : (Tryz.prog.info? 3).map (fun i => (i.zero, i.size, i.bytes)) = some (some (.int .i64 0), 1, 8) := by kernel_rfl

/-- A new list. -/
def NewInts (w : World) (xs : List Int) (r : Ending) (w' : World) : Prop := ∃ v, r = .returned v ∧ w'.ownsRow w.heap.size 3 1 v xs.length (xs.map (Value.int .i64)) ∧ Up w w'

set_option maxHeartbeats 1000000 in
set_option maxRecDepth 100000 in
theorem markInts_any (i k0 n : Nat) (w : World) (hi : i ≤ 1000000) (hk : k0 ≤ 1000000) (hn : n ≤ 1000000) :
    Calls Tryz.prog 139 #[.int .i64 i, .int .i64 k0, .int .i64 n] w (NewInts w (marks i k0 n)) := by
  obtain ⟨i0, hi0, hz0, hz1, hz2⟩ := info_parts Tryz.intInfoM
  have HMS : Hid (∀ k, marks i k0 (k + 1) = marks i k0 k ++ [-1000000 * (i : Int) - ((k0 + k : Nat) : Int) - 7]) := fun k => marks_succ i k0 k
  have HML : Hid (∀ k, (marks i k0 k).length = k) := fun k => marks_len i k0 k
  have hsum : IntKind.i64.wrap ((k0 : Int) + (n : Int)) = (k0 : Int) + (n : Int) := IntWalk.i64_in _ (by omega)
  go_enter Tryz.func139, Tryz.ntmps139
  go_wp2_with fail
  go_loopw [7, 8] (fun lv j wr => ∃ k : Nat, k ≤ n ∧ j = .int .i64 ((k0 + k : Nat) : Int) ∧ wr.ownsRow w.heap.size 3 1 lv k ((marks i k0 k).map (Value.int .i64)) ∧ Up w wr) (fun _ j _ => (k0 + n) - (intOf j).toNat)
  case atStart => exact ⟨0, Nat.zero_le _, by simp, World.ownsRow_nil _ _ _ _, Up.refl w⟩
  case round =>
    obtain ⟨k, hkn, rfl, hown, hup⟩ := hrel
    have hsz := hup.size
    by_cases hlt : k < n
    · have q1 : decide (((k0 + k : Nat) : Int) < (k0 : Int) + (n : Int)) = true := by simp; omega
      obtain ⟨so, sc, rfl⟩ := owns_shape' hown
      obtain ⟨x, hx⟩ : ∃ x, x = k0 + k := ⟨_, rfl⟩
      rw [← hx] at q1
      have HX := Lib.hid hx
      have hxl : (x : Int) ≤ 2000000 := by omega
      have hil : (i : Int) ≤ 1000000 := by omega
      have m1 : IntKind.i64.wrap (-1000000 * (i : Int)) = -1000000 * (i : Int) := IntWalk.i64_in _ (by omega)
      have m2 : IntKind.i64.wrap (-1000000 * (i : Int) - (x : Int)) = -1000000 * (i : Int) - (x : Int) := IntWalk.i64_in _ (by omega)
      have m3 : IntKind.i64.wrap (-1000000 * (i : Int) - (x : Int) - 7) = -1000000 * (i : Int) - (x : Int) - 7 := IntWalk.i64_in _ (by omega)
      rw [← hx]
      clear hx
      go_wp2_with (at_builtin; (refine wpList_append_own _ rfl _ _ 34 rfl w.heap.size 3 i0 (.int .i64 0) 1 8 Tryz.underlying34 hi0 hz0 hz1 hz2 rfl (by decide) _ k _ rfl (hown.alloc _) ⟨wr.heap.size, 0, none⟩ 1 1 [.int .i64 (-1000000 * (i : Int) - (x : Int) - 7)] rfl rfl (cell_one_new wr _ _) (ints_oneCell .i64 [-1000000 * (i : Int) - (x : Int) - 7]) (by unfold maxLen; omega) (by omega) (by simp; omega) ?_); intro v' w2 hown' hgrow' hnil'; clear hnil')
      go_roundw
      case rel => exact ⟨k + 1, by omega, by rw [HX.out]; go_num, by rw [HMS.out, List.map_append, ← HX.out]; exact hown', (hup.alloc _).grown hgrow' (fun g hg => (hown.lt g hg).1)⟩
      case measure => have hxx := HX.out; clear m1 m2 m3; simp [intOf]; omega
    · have q1 : decide (((k0 + k : Nat) : Int) < (k0 : Int) + (n : Int)) = false := by simp; omega
      obtain rfl : k = n := by omega
      go_wp2_with fail
      go_ret
      exact ⟨_, rfl, by rw [HML.out]; exact hown, hup⟩

end Go.Proofs.YtpmdjicaefmbnaaGreatDoor

namespace Go.Proofs.YtpmdjicaefmbnaaGreatDoor
open Go.RowKit
set_option linter.unusedVariables false
set_option linter.unusedSimpArgs false

/-- The i-th of some slices. -/
def nth (vs : List Value) (i : Nat) : Value := vs.getD i (.slice none 0 0)

/-- No two of some slices lie in one block. -/
def Apt (vs : List Value) : Prop := ∀ i j g, i < vs.length → j < vs.length → i ≠ j → (nth vs i).ownBlock = some g → (nth vs j).ownBlock ≠ some g

/-- The blocks of some slices. -/
def InV (vs : List Value) (k : Nat) : Prop := ∃ i, i < vs.length ∧ (nth vs i).ownBlock = some k

/-- Slices that read as lists. -/
def Els (w : World) (vs : List Value) (C : Nat → List Int) : Prop := ∀ i, i < vs.length → w.ownsRow 0 3 1 (nth vs i) (C i).length ((C i).map (Value.int .i64))

theorem Els.up {w w' : World} {vs : List Value} {C : Nat → List Int} (h : Els w vs C) (hu : Up w w') : Els w' vs C := fun i hi => hu.owns (h i hi)
theorem Els.lt {w : World} {vs : List Value} {C : Nat → List Int} (h : Els w vs C) {k : Nat} (hk : InV vs k) : k < w.heap.size := by
  obtain ⟨i, hi, hg⟩ := hk
  exact owns_lt (h i hi) hg

theorem nth_get {vs : List Value} {i : Nat} (h : i < vs.length) : vs[i]? = some (nth vs i) := by simp [nth, List.getD, h]

def upd (C : Nat → List Int) (i : Nat) (x : List Int) (j : Nat) : List Int := if j = i then x else C j

theorem upd_same (C : Nat → List Int) (i : Nat) (x : List Int) : upd C i x i = x := by simp [upd]
theorem upd_other {C : Nat → List Int} {i j : Nat} {x : List Int} (h : j ≠ i) : upd C i x j = C j := by simp [upd, h]

theorem Els.set {w : World} {vs : List Value} {C : Nat → List Int} (h : Els w vs C) (ha : Apt vs) {i g cap k : Nat} (hi : i < vs.length) (hv : nth vs i = .slice (some ⟨g, 0, none⟩) (C i).length cap) (x : Int) :
    Els (w.setCell ⟨g, k, none⟩ (.int .i64 x)) vs (upd C i ((C i).set k x)) := by
  intro j hj
  by_cases hji : j = i
  · subst hji
    rw [upd_same, List.length_set]
    have h0 := h j hj
    rw [hv] at h0 ⊢
    obtain ⟨hr, h1, h2, h3⟩ := Row.of h0
    have := hr.set k (.int .i64 x)
    rw [← List.map_set] at this
    exact this.owns h1 h2 (by simp)
  · rw [upd_other hji]
    refine owns_keep (h j hj) (fun k' hk => Below.heap_setCell _ _ _ _ ?_)
    rintro rfl
    exact ha i j _ hi hj (fun e => hji e.symm) (by rw [hv]; rfl) hk

/-- The first marks, the rest as it was. -/
def mixI (M c : List Int) (k : Nat) : List Int := M.take k ++ c.drop k

theorem mixI_zero (M c : List Int) : mixI M c 0 = c := by simp [mixI]
theorem mixI_all {M c : List Int} (h : M.length = c.length) : mixI M c c.length = M := by simp [mixI, ← h]
theorem mixI_len {M c : List Int} (h : M.length = c.length) {k : Nat} (hk : k ≤ c.length) : (mixI M c k).length = c.length := by simp [mixI]; omega
theorem mixI_set {M c : List Int} (h : M.length = c.length) {k : Nat} (hk : k < c.length) : (mixI M c k).set k (M.getD k 0) = mixI M c (k + 1) := by
  apply List.ext_getElem?
  intro j
  simp only [mixI, List.getElem?_set, List.getElem?_append, List.length_append, List.length_take, List.length_drop, List.getElem?_take, List.getElem?_drop, List.getD]
  rw [show min k M.length = k by omega, show min (k + 1) M.length = k + 1 by omega]
  by_cases h1 : k = j
  · subst h1
    rw [if_pos rfl, if_pos (by omega), if_pos (by omega), if_pos (by omega), List.getElem?_eq_getElem (by omega)]
    rfl
  · rw [if_neg h1]
    by_cases h2 : j < k
    · rw [if_pos h2, if_pos h2, if_pos (by omega), if_pos (by omega)]
    · rw [if_neg h2, if_neg (by omega)]
      congr 1; omega

/-- Rows of another element type lie elsewhere. -/
theorem Els.ne {w : World} {vs : List Value} {C : Nat → List Int} (h : Els w vs C) {base size m : Nat} {e : TypeId} {v : Value} {xs : List Value} (hv : w.ownsRow base e size v m xs) (he : e ≠ 3) {g : Nat} (hg : v.ownBlock = some g) : ¬ InV vs g := by
  rintro ⟨i, hi, hk⟩
  obtain ⟨c1, e1⟩ := owns_type hv hg
  obtain ⟨c2, e2⟩ := owns_type (h i hi) hk
  rw [e1] at e2
  simp only [Option.some.injEq, Obj.cells.injEq] at e2
  exact he e2.2.1

theorem Els.ne_box {w : World} {vs : List Value} {C : Nat → List Int} (h : Els w vs C) {g : Nat} {cs : Array Value} {e : TypeId} (hb : w.heap[g]? = some (.cells cs e (0, 0))) (he : e ≠ 3) : ¬ InV vs g := by
  rintro ⟨i, hi, hk⟩
  obtain ⟨cur, hh⟩ := owns_type (h i hi) hk
  rw [hb] at hh
  simp only [Option.some.injEq, Obj.cells.injEq] at hh
  exact he hh.2.1

end Go.Proofs.YtpmdjicaefmbnaaGreatDoor

namespace Go.Proofs.YtpmdjicaefmbnaaGreatDoor
open Go.RowKit
set_option linter.unusedVariables false
set_option linter.unusedSimpArgs false

/-- The book's lists of integers lie in vi, which stands in the book's first field. -/
structure BookI (w : World) (bk : Nat) (vi : Value) (vs : List Value) : Prop where
  c0 : w.cell? ⟨bk, 0, none⟩ = some vi
  ri : w.ownsRow 0 34 1 vi vs.length vs

/-- In the loops: what may have turned since w. -/
structure PutSt (w wr : World) (vs : List Value) (C : Nat → List Int) : Prop where
  el : Els wr vs C
  tur : Turned (InV vs) w wr

theorem PutSt.up {w wr w' : World} {vs : List Value} {C : Nat → List Int} (h : PutSt w wr vs C) (hu : Up wr w') : PutSt w w' vs C :=
  ⟨h.el.up hu, h.tur.trans (T := fun _ => False) ⟨hu.os, hu.tape, hu.output, hu.size, fun k hk _ => hu.block k hk⟩ (fun _ _ h => h.elim)⟩

theorem PutSt.set {w wr : World} {vs : List Value} {C : Nat → List Int} (h : PutSt w wr vs C) (ha : Apt vs) {i g cap k : Nat} (hi : i < vs.length) (hv : nth vs i = .slice (some ⟨g, 0, none⟩) (C i).length cap) (x : Int) :
    PutSt w (wr.setCell ⟨g, k, none⟩ (.int .i64 x)) vs (upd C i ((C i).set k x)) :=
  ⟨h.el.set ha hi hv x, h.tur.setCell (p := ⟨g, k, none⟩) (.inl ⟨i, hi, by rw [hv]; rfl⟩) _⟩

/-- The contents behind i rounds. -/
def putC (C : Nat → List Int) (i j : Nat) : List Int := if j < i then marks j 0 (C j).length else C j

theorem putC_zero (C : Nat → List Int) : putC C 0 = C := by funext j; simp [putC]
theorem putC_at (C : Nat → List Int) (i : Nat) : putC C i i = C i := by simp [putC]
theorem putC_len (C : Nat → List Int) (i j : Nat) : (putC C i j).length = (C j).length := by unfold putC; split <;> simp [marks_len]
theorem putC_succ (C : Nat → List Int) (i : Nat) : upd (putC C i) i (marks i 0 (C i).length) = putC C (i + 1) := by
  funext j
  by_cases h : j = i
  · subst h; simp [upd, putC]
  · simp only [upd, h, if_false, putC]
    by_cases h2 : j < i
    · rw [if_pos h2, if_pos (by omega)]
    · rw [if_neg h2, if_neg (by omega)]

theorem upd_upd (C : Nat → List Int) (i : Nat) (x y : List Int) : upd (upd C i x) i y = upd C i y := by
  funext j; simp only [upd]; split <;> rfl

/-- What stays of the book while its lists turn. -/
structure PutEnv (w : World) (bk : Nat) (ao : Option Addr) (ci g : Nat) (vs : List Value) : Prop where
  c0 : ∀ wr, Turned (InV vs) w wr → wr.cell? ⟨bk, 0, none⟩ = some (.slice ao vs.length ci)
  el : ∀ wr i, Turned (InV vs) w wr → i < vs.length → ao = some ⟨g, 0, none⟩ ∧ wr.cell? ⟨g, i, none⟩ = some (nth vs i)

theorem BookI.env {w : World} {bk : Nat} {vi : Value} {vs : List Value} {C : Nat → List Int} {bc : Array Value} (h : BookI w bk vi vs) (he : Els w vs C) (hb : w.heap[bk]? = some (.cells bc 50 (0, 0))) :
    ∃ ao ci g, vi = .slice ao vs.length ci ∧ PutEnv w bk ao ci g vs := by
  have hnb : ¬ InV vs bk := he.ne_box hb (by decide)
  rcases owns_cases h.ri with ⟨rfl, h0, _⟩ | ⟨g, ci, rfl, hr, _⟩
  · refine ⟨none, 0, 0, by rw [h0], fun wr ht => ?_, fun wr i ht hi => ?_⟩
    · rw [h0]; exact ht.cell h.c0 hnb
    · omega
  · refine ⟨_, ci, g, rfl, fun wr ht => ht.cell h.c0 hnb, fun wr i ht hi => ⟨rfl, ?_⟩⟩
    exact ht.cell (hr.cell (nth_get hi)) (he.ne h.ri (by decide) rfl)

set_option maxHeartbeats 4000000 in
set_option maxRecDepth 100000 in
theorem putInts_any {w : World} {bk : Nat} {vi : Value} {vs : List Value} {C : Nat → List Int} {bc : Array Value} (h : BookI w bk vi vs) (he : Els w vs C) (ha : Apt vs) (hb : w.heap[bk]? = some (.cells bc 50 (0, 0))) (hm : vs.length ≤ 400) (hC : ∀ i, i < vs.length → (C i).length ≤ 1000000) :
    Calls Tryz.prog 72 #[.pointer (some ⟨bk, 0, none⟩)] w fun r w' => r = .returned (.tuple #[]) ∧ PutSt w w' vs (putC C vs.length) := by
  obtain ⟨ao, ci, g, rfl, hen⟩ := h.env he hb
  have HE := Lib.hid hen
  have H0 : Hid (PutSt w w vs (putC C 0)) := by rw [putC_zero]; exact ⟨he, Turned.refl _ _⟩
  obtain ⟨m, hmm⟩ : ∃ m, m = vs.length := ⟨_, rfl⟩
  have HM := Lib.hid hmm
  have HC := Lib.hid hC
  have HA := Lib.hid ha
  rw [← hmm] at hm ⊢
  have c00 := hen.c0 w (Turned.refl _ _)
  rw [← hmm] at c00
  clear h he ha hb hmm hC hen
  go_enter Tryz.func72, Tryz.ntmps72
  go_wp2_with fail
  go_loopw [2] (fun i wr => ∃ k : Nat, k ≤ m ∧ i = .int .i64 k ∧ PutSt w wr vs (putC C k)) (fun i _ => m - (intOf i).toNat)
  case atStart => exact ⟨0, Nat.zero_le _, rfl, H0.out⟩
  case round =>
    clear H0
    obtain ⟨k, hk, rfl, hP⟩ := hrel
    have d0 := HE.out.c0 wr hP.tur
    rw [← HM.out] at d0
    by_cases hlt : k < m
    · have hkv : k < vs.length := by rw [← HM.out]; exact hlt
      obtain ⟨rfl, d1⟩ := HE.out.el wr k hP.tur hkv
      have hel := hP.el k hkv
      rw [putC_at] at hel
      have hcl := HC.out k hkv
      obtain ⟨n, hn⟩ : ∃ n, n = (C k).length := ⟨_, rfl⟩
      rw [← hn] at hel hcl
      obtain ⟨vo, vc, hv⟩ := owns_shape' hel
      have qk : (k : Int) < (m : Int) := by omega
      rw [hv] at d1
      have HN := Lib.hid hn
      have HV := Lib.hid hv
      have HP := Lib.hid hP
      have HEL := Lib.hid hel
      obtain ⟨wo, hwo⟩ : ∃ wo, wo = wr := ⟨_, rfl⟩
      rw [← hwo] at d0 d1 HP HEL ⊢
      clear hP hn hv hel c00 hwo
      go_wp2_with (go_at_call 139; refine (markInts_any k 0 n _ (by omega) (by omega) hcl).mono ?_; rintro r w1 ⟨mv, rfl, hmo, hup⟩)
      rw [marks_len] at hmo
      obtain ⟨mo, mc, rfl⟩ := owns_shape' hmo
      have hml : (marks k 0 n).length = (C k).length := by rw [marks_len, HN.out]
      have HS0 : Hid (PutSt w w1 vs (upd (putC C k) k (mixI (marks k 0 n) (C k) 0))) := by
        have e : upd (putC C k) k (mixI (marks k 0 n) (C k) 0) = putC C k := by
          funext j
          by_cases hj : j = k
          · subst hj; rw [upd_same, mixI_zero, putC_at]
          · rw [upd_other hj]
        rw [e]; exact HP.out.up hup
      have HMO := Lib.hid hmo
      have HML := Lib.hid hml
      clear hmo hml d0 d1
      go_wp2_with fail
      go_loopw [4] (fun j wr => ∃ kk : Nat, kk ≤ n ∧ j = .int .i64 kk ∧ PutSt w wr vs (upd (putC C k) k (mixI (marks k 0 n) (C k) kk)) ∧ wr.ownsRow wo.heap.size 3 1 (.slice mo n mc) n ((marks k 0 n).map (Value.int .i64))) (fun j _ => n - (intOf j).toNat)
      case atStart => exact ⟨0, Nat.zero_le _, rfl, HS0.out, HMO.out⟩
      case round =>
        clear HS0 HMO
        obtain ⟨kk, hkk, rfl, hQ, hmr⟩ := hrel
        by_cases hlt2 : kk < n
        · have e0 := HE.out.c0 wr hQ.tur
          rw [← HM.out] at e0
          obtain ⟨_, e1⟩ := HE.out.el wr k hQ.tur hkv
          have hel := hQ.el k hkv
          rw [upd_same, mixI_len HML.out (by rw [← HN.out]; exact hkk), ← HN.out, HV.out] at hel
          rcases owns_cases hel with ⟨_, h0, _⟩ | ⟨gv, cv, hvv, hrv, _⟩
          · omega
          simp only [Value.slice.injEq, true_and] at hvv
          obtain ⟨rfl, rfl⟩ := hvv
          rw [HV.out] at e1
          rcases owns_cases hmr with ⟨_, h0, _⟩ | ⟨gm, cm, hvv, hrm, _⟩
          · omega
          simp only [Value.slice.injEq, true_and] at hvv
          obtain ⟨rfl, rfl⟩ := hvv
          rw [Nat.mul_one] at hrv hrm
          have hgm : wo.heap.size ≤ gm := (hmr.lt gm rfl).1
          have hgv : gv < wo.heap.size := by have := HEL.out; rw [HV.out] at this; exact owns_lt this rfl
          obtain ⟨x, hx⟩ : ∃ x, x = (marks k 0 n).getD kk 0 := ⟨_, rfl⟩
          have e2 : wr.cell? ⟨gm, kk, none⟩ = some (.int .i64 x) := hrm.cell (by rw [hx]; simp [List.getD, marks_len, hlt2])
          have hmixl := mixI_len HML.out (k := kk) (by rw [← HN.out]; exact hkk)
          rw [← HN.out] at hmixl
          have e3 : wr.cell? ⟨gv, kk, none⟩ = some (.int .i64 ((mixI (marks k 0 n) (C k) kk).getD kk 0)) := hrv.cell (by simp [List.getD, hmixl, hlt2])
          have f3 := hrv.free kk
          obtain ⟨y, hy⟩ : ∃ y, y = (mixI (marks k 0 n) (C k) kk).getD kk 0 := ⟨_, rfl⟩
          rw [← hy] at e3
          have qkk : (kk : Int) < (n : Int) := by omega
          have HX := Lib.hid hx
          have HQ := Lib.hid hQ
          have HMR := Lib.hid hmr
          clear hx hy hQ hmr hel hrv hrm hmixl
          go_wp2_with fail
          go_region
          go_wp2_with fail
          go_roundw
          case rel =>
            refine ⟨kk + 1, by omega, by go_num, ?_, ?_⟩
            · have hnew := HQ.out.set HA.out (k := kk) hkv (g := gv) (cap := vc) (by rw [HV.out, upd_same, mixI_len HML.out (by rw [← HN.out]; exact hkk), ← HN.out]) x
              have hms := mixI_set HML.out (k := kk) (by rw [← HN.out]; exact hlt2)
              rw [← HX.out] at hms
              rw [upd_same, upd_upd, hms] at hnew
              exact hnew.up (by repeat (first | (with_reducible exact Up.refl _) | (with_reducible apply Up.drew) | (with_reducible apply Up.drewN)))
            · exact owns_keep HMR.out (fun g' hg' => Below.heap_setCell _ _ _ _ (by simp only [Value.ownBlock, Option.some.injEq] at hg'; simp only [ne_eq]; omega))
          case measure => simp [intOf]; omega
        · obtain rfl : kk = n := by omega
          go_wp2_with fail
          go_roundw
          case rel =>
            refine ⟨k + 1, by omega, by go_num, ?_⟩
            have := hQ
            rw [HN.out, mixI_all (by rw [marks_len]), putC_succ] at this
            exact this
          case measure => simp [intOf]; omega
    · obtain rfl : k = m := by omega
      go_wp2_with fail
      go_end0
      exact ⟨rfl, hP⟩

end Go.Proofs.YtpmdjicaefmbnaaGreatDoor

namespace Go.Proofs.YtpmdjicaefmbnaaGreatDoor
open Go.RowKit
set_option linter.unusedVariables false
set_option linter.unusedSimpArgs false

theorem own_none_len {w : World} {base size n : Nat} {e : TypeId} {v : Value} {xs : List Value} (h : w.ownsRow base e size v n xs) (hv : v.ownBlock = none) : n = 0 := by
  rcases h.2 with ⟨_, h0⟩ | ⟨g, cap, cur, rfl, _⟩
  · exact h0
  · cases hv

/-- A row of one element type keeps while a slice of another grows. -/
theorem Keeps.other {w w' : World} {v : Value} {n size base b m size' : Nat} {e e' : TypeId} {xs ys : List Value} {v0 : Value} (h : Keeps w w' v n size) (hv : w.ownsRow base e size v n xs) (h0 : w.ownsRow b e' size' v0 m ys) (he : e ≠ e') : w'.ownsRow b e' size' v0 m ys := by
  refine h _ _ _ _ _ _ h0 (fun hh => ?_)
  cases hg : v.ownBlock with
  | none =>
    rw [hg] at hh
    rw [own_none_len h0 hh]; simp
  | some g =>
    rw [hg] at hh
    obtain ⟨c1, e1⟩ := owns_type hv hg
    obtain ⟨c2, e2⟩ := owns_type h0 hh
    rw [e1] at e2
    simp only [Option.some.injEq, Obj.cells.injEq] at e2
    exact absurd e2.2.1 he

structure GrowSt (w wr : World) (vs : List Value) (L : Nat → Nat) (outs : List Value) : Prop where
  el : Els wr vs (fun j => marks j 0 (L j))
  oel : Els wr outs (fun j => marks j 0 (L j + 96))
  obl : ∀ j g, j < outs.length → (nth outs j).ownBlock = some g → (nth vs j).ownBlock = some g ∨ w.heap.size ≤ g
  tur : Turned (InV vs) w wr

/-- While one of the lists grows. -/
structure GrowIn (w wo wr : World) (vs : List Value) (L : Nat → Nat) (outs : List Value) (i : Nat) (lv : Value) (n : Nat) : Prop where
  st : GrowSt w wr vs L outs
  lrow : wr.ownsRow 0 3 1 lv n ((marks i 0 n).map (Value.int .i64))
  lbl : ∀ g, lv.ownBlock = some g → (nth vs i).ownBlock = some g ∨ wo.heap.size ≤ g
  ge : L i ≤ n
  sz : w.heap.size ≤ wo.heap.size ∧ wo.heap.size ≤ wr.heap.size
  olt : ∀ j g, j < outs.length → (nth outs j).ownBlock = some g → g < wo.heap.size
  vlt : ∀ j g, j < vs.length → (nth vs j).ownBlock = some g → g < w.heap.size

theorem Turned.upR {S : Nat → Prop} {w wr w' : World} (h : Turned S w wr) (hu : Up wr w') : Turned S w w' :=
  h.trans (T := fun _ => False) ⟨hu.os, hu.tape, hu.output, hu.size, fun k hk _ => hu.block k hk⟩ (fun _ _ h => h.elim)

theorem GrowSt.up {w wr w' : World} {vs : List Value} {L : Nat → Nat} {outs : List Value} (h : GrowSt w wr vs L outs) (hu : Up wr w') : GrowSt w w' vs L outs :=
  ⟨h.el.up hu, h.oel.up hu, h.obl, h.tur.upR hu⟩

theorem GrowIn.up {w wo wr w' : World} {vs : List Value} {L : Nat → Nat} {outs : List Value} {i n : Nat} {lv : Value} (h : GrowIn w wo wr vs L outs i lv n) (hu : Up wr w') : GrowIn w wo w' vs L outs i lv n :=
  ⟨h.st.up hu, hu.owns h.lrow, h.lbl, h.ge, ⟨h.sz.1, Nat.le_trans h.sz.2 hu.size⟩, h.olt, h.vlt⟩

theorem GrowIn.app {w wo w1 w2 : World} {vs : List Value} {L : Nat → Nat} {outs : List Value} {i n m : Nat} {lv v' : Value} (h : GrowIn w wo w1 vs L outs i lv n) (ha : Apt vs) (hi : i < vs.length) (ho : outs.length = i)
    (hown : w2.ownsRow 0 3 1 v' (n + m) ((marks i 0 n).map (Value.int .i64) ++ (marks i n m).map (Value.int .i64))) (hg : w1.grownBy w2 lv.ownBlock) (hat : v'.ownBlock = lv.ownBlock ∨ v'.ownBlock = some w1.heap.size) (hk : Keeps w1 w2 lv n 1) :
    GrowIn w wo w2 vs L outs i v' (n + m) := by
  have hs := h.sz
  have hgs := hg.size
  refine ⟨⟨?_, ?_, h.st.obl, ?_⟩, ?_, ?_, by have := h.ge; omega, ⟨hs.1, by omega⟩, h.olt, h.vlt⟩
  · intro j hj
    have h0 := h.st.el j hj
    refine hk _ _ _ _ _ _ h0 (fun hh => ?_)
    rw [marks_len]
    by_cases hji : j = i
    · subst hji; have := h.ge; omega
    · cases hl : lv.ownBlock with
      | none => rw [hl] at hh; have := own_none_len h0 hh; rw [marks_len] at this; omega
      | some g =>
        rw [hl] at hh
        rcases h.lbl g hl with h2 | h2
        · exact absurd hh (ha i j g hi hj (fun e => hji e.symm) h2)
        · have := h.vlt j g hj hh; omega
  · intro j hj
    have h0 := h.st.oel j hj
    refine hk _ _ _ _ _ _ h0 (fun hh => ?_)
    rw [marks_len]
    cases hl : lv.ownBlock with
    | none => rw [hl] at hh; have := own_none_len h0 hh; rw [marks_len] at this; omega
    | some g =>
      rw [hl] at hh
      exfalso
      have h3 := h.olt j g hj hh
      rcases h.lbl g hl with h2 | h2
      · have h4 := h.vlt i g hi h2
        rcases h.st.obl j g hj hh with h5 | h5
        · exact ha i j g hi (by omega) (by omega) h2 h5
        · omega
      · omega
  · refine h.st.tur.grown hg (fun k hk => ?_)
    rcases h.lbl k hk with h2 | h2
    · exact .inl ⟨i, hi, h2⟩
    · right; omega
  · have e := marks_append i 0 n m
    rw [Nat.zero_add] at e
    rw [← e, List.map_append]; exact hown
  · intro g hg2
    rcases hat with h2 | h2
    · exact h.lbl g (h2 ▸ hg2)
    · rw [h2] at hg2; simp only [Option.some.injEq] at hg2; right; omega

theorem owns_posG {w : World} {n size base : Nat} {e : TypeId} {v : Value} {xs : List Value} (h : w.ownsRow base e size v n xs) (hn : 0 < n) :
    ∃ g cap, v = .slice (some ⟨g, 0, none⟩) n cap ∧ Row w g e (cap * size) xs := by
  rcases owns_cases h with ⟨_, h0, _⟩ | ⟨g, cap, hv, hr, h1, h2, _⟩
  · omega
  · exact ⟨g, cap, hv, hr⟩

theorem add_plain0 (b i : Nat) : (⟨b, 0, none⟩ : Addr).add i = ⟨b, i, none⟩ := by
  unfold Addr.add
  split
  · rename_i h; subst h; rfl
  · simp

theorem nth_snoc (vs : List Value) (v : Value) (j : Nat) : nth (vs ++ [v]) j = if j = vs.length then v else nth vs j := by
  simp only [nth, List.getD, List.getElem?_append]
  by_cases h : j < vs.length
  · simp [h, show ¬ j = vs.length by omega]
  · by_cases h2 : j = vs.length
    · subst h2; simp
    · simp [h, h2, show ¬ j - vs.length = 0 by omega]

/-- One more list has grown. -/
theorem GrowIn.out {w wo w3 w4 : World} {vs : List Value} {L : Nat → Nat} {outs : List Value} {i m : Nat} {lv vo : Value} {e : TypeId} {xs : List Value} (h : GrowIn w wo w3 vs L outs i lv (L i + 96)) (ho : outs.length = i) (hvo : w3.ownsRow w.heap.size e 1 vo m xs) (he : e ≠ 3)
    (hg : w3.grownBy w4 vo.ownBlock) (hk : Keeps w3 w4 vo m 1) : GrowSt w w4 vs L (outs ++ [lv]) := by
  have hs := h.sz
  refine ⟨fun j hj => hk.other hvo (h.st.el j hj) he, ?_, ?_, ?_⟩
  · intro j hj
    rw [List.length_append, List.length_singleton] at hj
    rw [nth_snoc]
    by_cases hji : j = outs.length
    · subst hji
      rw [if_pos rfl, marks_len]
      subst ho
      exact hk.other hvo h.lrow he
    · rw [if_neg hji]
      exact hk.other hvo (h.st.oel j (by omega)) he
  · intro j g hj hh
    rw [List.length_append, List.length_singleton] at hj
    rw [nth_snoc] at hh
    by_cases hji : j = outs.length
    · subst hji
      rw [if_pos rfl] at hh
      subst ho
      rcases h.lbl g hh with h2 | h2
      · exact .inl h2
      · right; omega
    · rw [if_neg hji] at hh
      exact h.st.obl j g (by omega) hh
  · exact h.st.tur.grown hg (fun k hk => .inr (hvo.lt k hk).1)

theorem one_cell_slice' (a : Option Addr) (n c : Nat) : ∀ u ∈ [Value.slice a n c], u.oneCell' = true := by
  intro u hu
  simp only [List.mem_singleton] at hu
  subst hu; rfl

theorem Tryz.sliceInfoG : (Tryz.prog.info? 34).map (fun i => (i.zero, i.size, i.bytes)) = some (some (.slice none 0 0), 1, 24) := by kernel_rfl

/-- What growInts leaves. -/
def Grew (w : World) (vs : List Value) (L : Nat → Nat) (r : Ending) (w' : World) : Prop :=
  ∃ vo outs, r = .returned vo ∧ outs.length = vs.length ∧ w'.ownsRow w.heap.size 34 1 vo vs.length outs ∧ GrowSt w w' vs L outs

set_option maxHeartbeats 4000000 in
set_option maxRecDepth 100000 in
theorem growInts_any {w : World} {bk : Nat} {vi : Value} {vs : List Value} {L : Nat → Nat} {bc : Array Value} (h : BookI w bk vi vs) (he : Els w vs (fun j => marks j 0 (L j))) (ha : Apt vs) (hb : w.heap[bk]? = some (.cells bc 50 (0, 0))) (hm : vs.length ≤ 400) (hL : ∀ i, i < vs.length → L i ≤ 900000) :
    Calls Tryz.prog 83 #[.pointer (some ⟨bk, 0, none⟩)] w (Grew w vs L) := by
  obtain ⟨i0, hi, hz0, hz1, hz2⟩ := info_parts Tryz.sliceInfoG
  obtain ⟨j0, hj, hy0, hy1, hy2⟩ := info_parts Tryz.intInfoM
  obtain ⟨ao, ci, g, rfl, hen⟩ := h.env he hb
  have HE := Lib.hid hen
  have H0 : Hid (GrowSt w w vs L []) := ⟨he, fun j hj => by simp at hj, fun j g hj => by simp at hj, Turned.refl _ _⟩
  have HV : Hid (∀ j g, j < vs.length → (nth vs j).ownBlock = some g → g < w.heap.size) := fun j g hj hg => owns_lt (he j hj) hg
  obtain ⟨m, hmm⟩ : ∃ m, m = vs.length := ⟨_, rfl⟩
  have HM := Lib.hid hmm
  have HL := Lib.hid hL
  have HA := Lib.hid ha
  rw [← hmm] at hm
  have c00 := hen.c0 w (Turned.refl _ _)
  rw [← hmm] at c00
  clear h he ha hb hmm hL hen
  go_enter Tryz.func83, Tryz.ntmps83
  go_wp2_with fail
  go_loopw [3, 4] (fun vo i wr => ∃ (k : Nat) (outs : List Value), k ≤ m ∧ i = .int .i64 k ∧ outs.length = k ∧ wr.ownsRow w.heap.size 34 1 vo k outs ∧ GrowSt w wr vs L outs) (fun _ i _ => m - (intOf i).toNat)
  case atStart => exact ⟨0, [], Nat.zero_le _, rfl, rfl, World.ownsRow_nil _ _ _ _, H0.out⟩
  case round =>
    clear H0 c00
    obtain ⟨k, outs, hk, rfl, hol, hvo, hG⟩ := hrel
    have d0 := HE.out.c0 wr hG.tur
    rw [← HM.out] at d0
    by_cases hlt : k < m
    · have hkv : k < vs.length := by rw [← HM.out]; exact hlt
      obtain ⟨rfl, d1⟩ := HE.out.el wr k hG.tur hkv
      have hLk := HL.out k hkv
      obtain ⟨n, hn⟩ : ∃ n, n = L k := ⟨_, rfl⟩
      have hel : wr.ownsRow 0 3 1 (nth vs k) n ((marks k 0 n).map (Value.int .i64)) := by have := hG.el k hkv; simp only [marks_len] at this; rw [← hn] at this; exact this
      rw [← hn] at hLk
      have qk : (k : Int) < (m : Int) := by omega
      obtain ⟨vo', vc', hvv⟩ := owns_shape' hvo
      obtain ⟨eo, ec, hev⟩ := owns_shape' hel
      have HGI : Hid (GrowIn w wr wr vs L outs k (nth vs k) (n + 0)) := ⟨hG, hel, fun g hg => .inl hg, by omega, ⟨hG.tur.size, Nat.le_refl _⟩, fun j g hj hg => owns_lt (hG.oel j hj) hg, HV.out⟩
      rw [hev] at d1 HGI
      have HN := Lib.hid hn
      have HOL := Lib.hid hol
      have HVO := Lib.hid hvo
      have HEV := Lib.hid hev
      have hws : w.heap.size ≤ wr.heap.size := hG.tur.size
      obtain ⟨wo, hwo⟩ : ∃ wo, wo = wr := ⟨_, rfl⟩
      rw [← hwo] at d0 d1 HGI HVO hws ⊢
      subst hvv
      clear hG hn hol hvo hel hev hwo
      go_wp2_with fail
      go_loopw [5, 6] (fun lv j wr => ∃ c : Nat, c ≤ 16 ∧ j = .int .i64 c ∧ GrowIn w wo wr vs L outs k lv (n + c) ∧ wr.ownsRow w.heap.size 34 1 (.slice vo' k vc') k outs) (fun _ j _ => 16 - (intOf j).toNat)
      case atStart => exact ⟨0, by omega, rfl, HGI.out, HVO.out⟩
      case round =>
        clear HGI HVO d0 d1
        obtain ⟨c, hc, rfl, hI, hvo⟩ := hrel
        have hsz := hI.sz
        obtain ⟨lo, lc, rfl⟩ := owns_shape' hI.lrow
        have HI := Lib.hid hI
        have HVO := Lib.hid hvo
        obtain ⟨x, hx⟩ : ∃ x, x = n + c := ⟨_, rfl⟩
        rw [← hx] at HI ⊢
        have hxl : x ≤ 900016 := by omega
        have HX := Lib.hid hx
        clear hI hvo hx
        by_cases hlt2 : c < 16
        · have qc : (c : Int) < 16 := by omega
          go_wp2_with (first
            | (go_at_call 139; refine (markInts_any k x 1 _ (by omega) (by omega) (by omega)).mono ?_; rintro r w1 ⟨mv, rfl, hmo, hup⟩; rw [marks_len] at hmo; (obtain ⟨gm, cm, rfl, hrm⟩ := owns_posG hmo (by omega)); (have HI1 := Lib.hid (HI.out.up hup)); (have HVO1 := Lib.hid (hup.owns HVO.out)); (have hs1 := hup.size); (have hrm2 := Lib.hid hrm); clear hmo hrm)
            | (at_builtin; (refine wpList_append_keep rfl _ _ 34 rfl 0 3 j0 (.int .i64 0) 1 8 Tryz.underlying34 hj hy0 hy1 hy2 rfl (by decide) (.slice lo x lc) x _ rfl HI1.out.lrow ⟨gm, 0, none⟩ 1 cm ((marks k x 1).map (Value.int .i64)) rfl (by rw [List.length_map, marks_len]) (fun j u hu => (by have := hrm2.out.cell hu; rw [add_plain0]; exact this)) (ints_oneCell .i64 _) (by unfold maxLen; omega) (by omega) (Nat.zero_le _) ?_); intro v' w2 hown' hgrow' hat' hkeep'))
          have hI2 := HI1.out.app HA.out hkv HOL.out (m := 1) hown' hgrow' hat' hkeep'
          have hvo2 := hkeep'.other HI1.out.lrow HVO1.out (by decide)
          go_roundw
          case rel => exact ⟨c + 1, by omega, by go_num, by rw [HX.out] at hI2; exact hI2, hvo2⟩
          case measure => simp [intOf]; omega
        · obtain rfl : c = 16 := by omega
          go_wp2_with (first
            | (go_at_call 139; refine (markInts_any k x 80 _ (by omega) (by omega) (by omega)).mono ?_; rintro r w1 ⟨mv, rfl, hmo, hup⟩; rw [marks_len] at hmo; (obtain ⟨gm, cm, rfl, hrm⟩ := owns_posG hmo (by omega)); (have HI1 := Lib.hid (HI.out.up hup)); (have HVO1 := Lib.hid (hup.owns HVO.out)); (have hs1 := hup.size); (have hrm2 := Lib.hid hrm); clear hmo hrm)
            | (at_builtin; (refine wpList_append_keep rfl _ _ 34 rfl 0 3 j0 (.int .i64 0) 1 8 Tryz.underlying34 hj hy0 hy1 hy2 rfl (by decide) (.slice lo x lc) x _ rfl HI1.out.lrow ⟨gm, 0, none⟩ 80 cm ((marks k x 80).map (Value.int .i64)) rfl (by rw [List.length_map, marks_len]) (fun j u hu => (by have := hrm2.out.cell hu; rw [add_plain0]; exact this)) (ints_oneCell .i64 _) (by unfold maxLen; omega) (by omega) (Nat.zero_le _) ?_); intro v' w2 hown' hgrow' hat' hkeep'; (have HI2 := Lib.hid (HI1.out.app HA.out hkv HOL.out (m := 80) hown' hgrow' hat' hkeep')); (have HVO2 := Lib.hid (hkeep'.other HI1.out.lrow HVO1.out (by decide))); (obtain ⟨no, nc, rfl⟩ := owns_shape' hown'); (have hg2 := hgrow'.size); clear hown' hgrow' hat' hkeep')
            | (at_builtin; (refine wpList_append_keep rfl _ _ 26 rfl w.heap.size 34 i0 (.slice none 0 0) 1 24 Tryz.underlying26 hi hz0 hz1 hz2 rfl (by decide) (.slice vo' k vc') k _ rfl (HVO2.out.alloc _) ⟨w2.heap.size, 0, none⟩ 1 1 [.slice no (x + 80) nc] rfl rfl (cell_one_new _ _ _) (one_cell_slice' _ _ _) (by unfold maxLen; omega) (by omega) (by simp; omega) ?_); intro v3 w4 hown3 hgrow3 hat3 hkeep3))
          have hI4 : GrowIn w wo (w2.alloc (.cells #[.slice no (x + 80) nc] 34)) vs L outs k (.slice no (x + 80) nc) (L k + 96) := by
            have := HI2.out.up ((Up.refl w2).alloc (.cells #[.slice no (x + 80) nc] 34))
            rw [show x + 80 = L k + 96 by rw [HX.out, HN.out]] at this ⊢
            exact this
          have hG4 := hI4.out HOL.out (HVO2.out.alloc _) (by decide) hgrow3 hkeep3
          have hol4 : (outs ++ [Value.slice no (x + 80) nc]).length = k + 1 := by rw [List.length_append, HOL.out]; rfl
          go_wp2_with fail
          go_roundw
          case rel => exact ⟨k + 1, _, by omega, by go_num, hol4, hown3, hG4⟩
          case measure => simp [intOf]; omega
    · obtain rfl : k = m := by omega
      go_wp2_with fail
      go_ret
      exact ⟨_, outs, rfl, by rw [hol, HM.out], by rw [← HM.out]; exact hvo, hG⟩

end Go.Proofs.YtpmdjicaefmbnaaGreatDoor

namespace Go.Proofs.YtpmdjicaefmbnaaGreatDoor
open Go.RowKit
set_option linter.unusedVariables false
set_option linter.unusedSimpArgs false

set_option maxHeartbeats 4000000 in
set_option maxRecDepth 100000 in
theorem markedInts_any {w : World} {base : Nat} {vo : Value} {vs : List Value} {L : Nat → Nat} (hr : w.ownsRow base 34 1 vo vs.length vs) (he : Els w vs (fun j => marks j 0 (L j))) (hm : vs.length ≤ 400) (hL : ∀ i, i < vs.length → L i ≤ 1000000) :
    Calls Tryz.prog 94 #[vo] w fun r w' => r = .returned (.bool true) ∧ Up w w' := by
  have hrow : ∃ ao ci g, vo = .slice ao vs.length ci ∧ ∀ i, i < vs.length → ao = some ⟨g, 0, none⟩ ∧ w.cell? ⟨g, i, none⟩ = some (nth vs i) := by
    rcases owns_cases hr with ⟨rfl, h0, _⟩ | ⟨g, ci, rfl, hr, _⟩
    · exact ⟨none, 0, 0, by rw [h0], fun i hi => by omega⟩
    · exact ⟨_, ci, g, rfl, fun i hi => ⟨rfl, hr.cell (nth_get hi)⟩⟩
  obtain ⟨ao, ci, g, rfl, hc⟩ := hrow
  obtain ⟨m, hmm⟩ : ∃ m, m = vs.length := ⟨_, rfl⟩
  have HM := Lib.hid hmm
  have HL := Lib.hid hL
  have HC := Lib.hid hc
  have HE := Lib.hid he
  rw [← hmm] at hm ⊢
  clear hr he hmm hL hc
  go_enter Tryz.func94, Tryz.ntmps94
  go_wp2_with fail
  go_loopw [3] (fun i wr => ∃ k : Nat, k ≤ m ∧ i = .int .i64 k ∧ Up w wr) (fun i _ => m - (intOf i).toNat)
  case atStart => exact ⟨0, Nat.zero_le _, rfl, Up.refl w⟩
  case round =>
    obtain ⟨k, hk, rfl, hup⟩ := hrel
    by_cases hlt : k < m
    · have hkv : k < vs.length := by rw [← HM.out]; exact hlt
      obtain ⟨rfl, d1⟩ := HC.out k hkv
      have hLk := HL.out k hkv
      have hel : w.ownsRow 0 3 1 (nth vs k) (L k) ((marks k 0 (L k)).map (Value.int .i64)) := by have := HE.out k hkv; simp only [marks_len] at this; exact this
      obtain ⟨n, hn⟩ : ∃ n, n = L k := ⟨_, rfl⟩
      rw [← hn] at hel hLk
      obtain ⟨eo, ec, hev⟩ := owns_shape' hel
      rw [hev] at d1 hel
      have HEL := Lib.hid hel
      have qk : (k : Int) < (m : Int) := by omega
      have e1 := hup.cell d1
      have HD := Lib.hid d1
      have HS : Hid (∀ w1 v, Up wr w1 → Lst w1 v (marks k 0 n) → Calls Tryz.prog 31 #[.slice eo n ec, v] w1 (Same w1 true)) := fun w1 v hu hv => sameInts_same (by rw [marks_len]; omega) (owns_lst ((hup.trans hu).owns HEL.out)) hv
      clear hn hel hev d1
      go_wp2_with fail
      go_region_held3 (fun w => w.cell? ⟨g, k, none⟩ = some (.slice eo n ec)) (first | assumption) (first
        | (go_at_call 139; refine (markInts_any k 0 n _ (by omega) (by omega) hLk).mono ?_; rintro r w1 ⟨mv, rfl, hmo, hup1⟩; (have hu1 : Up wr w1 := Up.trans (by repeat (first | (with_reducible exact Up.refl _) | assumption | (with_reducible apply Up.drewN) | (with_reducible apply Up.drew))) hup1); (have e2 := hu1.cell e1))
        | (go_at_call 31; (with_reducible refine (HS.out _ mv ?_ ?_).mono ?_); (repeat (first | (with_reducible exact Up.refl _) | assumption | (with_reducible apply Up.drewN) | (with_reducible apply Up.drew))); (refine (owns_lst hmo).up ?_; repeat (first | (with_reducible exact Up.refl _) | assumption | (with_reducible apply Up.drewN) | (with_reducible apply Up.drew))); rintro r w2 ⟨rfl, q2, hq2⟩; (have hu2 : Up wr w2 := by (rw [hq2]; repeat (first | (with_reducible exact Up.refl _) | assumption | (with_reducible apply Up.drewN) | (with_reducible apply Up.drew)))); (have e3 := hu2.cell e1); clear hq2))
      go_wp2_with fail
      go_roundw
      case rel => exact ⟨k + 1, by omega, by go_num, by repeat (first | exact hup.trans hu2 | (with_reducible apply Up.drewN) | (with_reducible apply Up.drew))⟩
      case measure => simp [intOf]; omega
    · obtain rfl : k = m := by omega
      go_wp2_with fail
      go_ret
      exact ⟨rfl, hup⟩

theorem quiet_same {P : Program} {f : FuncId} {args : Array Value} {w : World} {n : Nat} {b : Bool} (h : Calls P f args (w.drewN n) (Same (w.drewN n) b)) : Calls P f args (w.drewN n) fun e w' => e = .returned (.bool b) ∧ ∃ m, w' = w.drewN m :=
  h.mono fun _ _ ⟨he, q, hq⟩ => ⟨he, n + q, by rw [hq]; simp [World.drewN, Nat.add_assoc]⟩

theorem quiet_same_add {P : Program} {f : FuncId} {args : Array Value} {w : World} {a n : Nat} {b : Bool} (h : Calls P f args (w.drewN (a + n)) (Same (w.drewN (a + n)) b)) : Calls P f args (w.drewN (a + n)) fun e w' => e = .returned (.bool b) ∧ ∃ m, w' = w.drewN (a + m) :=
  h.mono fun _ _ ⟨he, q, hq⟩ => ⟨he, n + q, by rw [hq]; simp [World.drewN, Nat.add_assoc]⟩

set_option maxHeartbeats 4000000 in
set_option maxRecDepth 100000 in
theorem stillInts_any {w : World} {bk base : Nat} {vi vw : Value} {vs us : List Value} {C : Nat → List Int} (c0 : w.cell? ⟨bk, 0, none⟩ = some vi) (c1 : w.cell? ⟨bk, 1, none⟩ = some vw) (hr : w.ownsRow base 34 1 vi vs.length vs) (hu : w.ownsRow base 34 1 vw vs.length us) (hul : us.length = vs.length)
    (he : Els w vs C) (hf : Els w us C) (hm : vs.length ≤ 400) (hL : ∀ i, i < vs.length → (C i).length ≤ 1000000) :
    Calls Tryz.prog 61 #[.pointer (some ⟨bk, 0, none⟩)] w fun r w' => r = .returned (.bool true) ∧ Up w w' := by
  have hrow : ∃ ao ci g, vi = .slice ao vs.length ci ∧ ∀ i, i < vs.length → ao = some ⟨g, 0, none⟩ ∧ w.cell? ⟨g, i, none⟩ = some (nth vs i) := by
    rcases owns_cases hr with ⟨rfl, h0, _⟩ | ⟨g, ci, rfl, hr, _⟩
    · exact ⟨none, 0, 0, by rw [h0], fun i hi => by omega⟩
    · exact ⟨_, ci, g, rfl, fun i hi => ⟨rfl, hr.cell (nth_get hi)⟩⟩
  have hrow2 : ∃ ao ci g, vw = .slice ao vs.length ci ∧ ∀ i, i < vs.length → ao = some ⟨g, 0, none⟩ ∧ w.cell? ⟨g, i, none⟩ = some (nth us i) := by
    rcases owns_cases hu with ⟨rfl, h0, _⟩ | ⟨g, ci, rfl, hr, _⟩
    · exact ⟨none, 0, 0, by rw [h0], fun i hi => by omega⟩
    · exact ⟨_, ci, g, rfl, fun i hi => ⟨rfl, hr.cell (nth_get (by rw [hul]; exact hi))⟩⟩
  obtain ⟨ao, ci, g, rfl, hc⟩ := hrow
  obtain ⟨bo, di, g', rfl, hd⟩ := hrow2
  obtain ⟨m, hmm⟩ : ∃ m, m = vs.length := ⟨_, rfl⟩
  have HM := Lib.hid hmm
  have HL := Lib.hid hL
  have HC := Lib.hid hc
  have HD := Lib.hid hd
  have HE := Lib.hid he
  have HF := Lib.hid hf
  have HUL := Lib.hid hul
  rw [← hmm] at hm c0 c1
  clear hr hu he hf hmm hL hc hd hul
  go_enter Tryz.func61, Tryz.ntmps61
  go_wp2_with fail
  go_loopw [3] (fun i wr => ∃ (k q : Nat), k ≤ m ∧ i = .int .i64 k ∧ wr = w.drewN q) (fun i _ => m - (intOf i).toNat)
  case atStart => exact ⟨0, 0, Nat.zero_le _, rfl, rfl⟩
  case round =>
    obtain ⟨k, q, hk, rfl, rfl⟩ := hrel
    by_cases hlt : k < m
    · have hkv : k < vs.length := by rw [← HM.out]; exact hlt
      obtain ⟨rfl, d1⟩ := HC.out k hkv
      obtain ⟨rfl, d2⟩ := HD.out k hkv
      have hLk := HL.out k hkv
      have hel := HE.out k hkv
      have hfl := HF.out k (by rw [HUL.out]; exact hkv)
      obtain ⟨eo, ec, hev⟩ := owns_shape' hel
      obtain ⟨fo, fc, hfv⟩ := owns_shape' hfl
      obtain ⟨n, hn⟩ : ∃ n, n = (C k).length := ⟨_, rfl⟩
      rw [hev] at d1 hel
      rw [hfv] at d2 hfl
      rw [← hn] at d1 d2 hLk hel hfl
      have qk : (k : Int) < (m : Int) := by omega
      have HS : Hid (∀ w1, Up w w1 → Calls Tryz.prog 31 #[.slice eo n ec, .slice fo n fc] w1 (Same w1 true)) := fun w1 hu => sameInts_same (by rw [← hn]; exact hLk) (owns_lst (hu.owns hel)) (owns_lst (hu.owns hfl))
      clear hn hel hfl hev hfv
      go_wp2_with fail
      go_quiet ((go_at_call 31; first | exact quiet_same (HS.out _ (by repeat (first | (with_reducible exact Up.refl _) | (with_reducible apply Up.drewN) | (with_reducible apply Up.drew)))) | exact quiet_same_add (HS.out _ (by repeat (first | (with_reducible exact Up.refl _) | (with_reducible apply Up.drewN) | (with_reducible apply Up.drew))))))
      go_wp2_with fail
      go_roundw
      case rel => exact ⟨k + 1, _, by omega, by go_num, rfl⟩
      case measure => simp [intOf]; omega
    · obtain rfl : k = m := by omega
      go_wp2_with fail
      go_ret
      exact ⟨rfl, (Up.refl w).drewN q⟩

end Go.Proofs.YtpmdjicaefmbnaaGreatDoor
