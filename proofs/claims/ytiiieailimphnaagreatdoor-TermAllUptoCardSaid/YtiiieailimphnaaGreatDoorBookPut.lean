/- append onto a slice that the call owns: what else keeps its rows. No function of the program is named. The marks of a list, as the book makes them: markInts, by its contract. Lists of lists of integers in memory, as the book keeps and grows them: what a store, an append and a call that makes memory leave. Walks: the book's lists of integers, marked: putInts. -/
import Derived.Test.YtiiieailimphnaaGreatDoorMem
import Derived.Maps.AppendAt
import Derived.Test.YtiiieailimphnaaGreatDoorLst
import Derived.Deep.DeepCutAuto
import Derived.RegionTactic
import Derived.BigRegion

namespace Go.Proofs.YtiiieailimphnaaGreatDoor
open Go.RowKit
set_option linter.unusedVariables false
set_option linter.unusedSimpArgs false

/-- Rows that keep: those that do not lie in the slice's own block, and those that are no longer there than the slice. -/
def Keeps (w w' : World) (v : Value) (n size : Nat) : Prop :=
  ∀ (b size' n0 : Nat) (e' : TypeId) (v0 : Value) (ys : List Value), w.ownsRow b e' size' v0 n0 ys → (v0.ownBlock = v.ownBlock → n0 * size' ≤ n * size) → w'.ownsRow b e' size' v0 n0 ys

theorem run_append_keep {P : Program} (w : World) (base : Nat) (t ty e : TypeId) (i : TypeInfo) (z : Value) (size bytes : Nat) (ht : P.underlying t = some (.slice e)) (hi : P.info? e = some i) (hz : i.zero = some z)
    (hsize : i.size = size) (hby : i.bytes = bytes) (hzs : z.cells.size = size) (hsz : 0 < size)
    (v : Value) (n : Nat) (xs : List Value) (hown : w.ownsRow base e size v n xs)
    (a : Addr) (m c : Nat) (news : List Value) (hl : news.length = m * size) (hnews : ∀ j u, news[j]? = some u → w.cell? (a.add j) = some u) (h1 : ∀ u ∈ news, u.oneCell' = true)
    (h63 : n + m ≤ maxLen) (hbytes : (n + m) * bytes ≤ 140737488355328) (hbase : base ≤ w.heap.size) :
    ∃ v' w', (Builtin.append_ #[t, t] ty #[v, .slice (some a) m c]).run P w = .ok v' w' ∧ w'.ownsRow base e size v' (n + m) (xs ++ news) ∧ w.grownBy w' v.ownBlock ∧
      (v'.ownBlock = v.ownBlock ∨ v'.ownBlock = some w.heap.size) ∧ Keeps w w' v n size := by
  obtain ⟨v', w', hr, h2, h3, _, h5⟩ := run_append_own_at (P := P) w base t ty e i z size bytes ht hi hz hsize hby hzs hsz v n xs hown a m c news hl hnews h1 h63 hbytes hbase
  refine ⟨v', w', hr, h2, h3, h5, ?_⟩
  intro b size' n0 e' v0 ys h0 hle
  rcases hown.2 with ⟨rfl, rfl⟩ | ⟨g, cap, cur, rfl, hbg, hg, hnc, hcm, hcs, htake⟩
  · exact owns_keep h0 (fun k hk => h3.block k (owns_lt h0 hk) (by simp [Value.ownBlock]))
  · by_cases hsame : v0.ownBlock = some g
    · by_cases hroom : n + m ≤ cap
      · have hfit : n * i.size + news.length ≤ cur.size := by rw [hl, hcs, hsize, ← Nat.add_mul]; exact Nat.mul_le_mul_right _ hroom
        have hr2 := run_append_room (P := P) w t ty e i ht hi g n cap cur hg a m c news (by rw [hsize]; exact hl) hnews h1 hroom hfit
        rw [hr2] at hr
        simp only [Result.ok.injEq] at hr
        obtain ⟨_, rfl⟩ := hr
        have hle' : n0 * size' ≤ n * size := hle (by rw [hsame]; rfl)
        refine ⟨h0.1, ?_⟩
        rcases h0.2 with ⟨rfl, _⟩ | ⟨g0, cap0, cur0, rfl, b0, k0, n00, m0, s0, t0⟩
        · cases hsame
        · simp only [Value.ownBlock, Option.some.injEq] at hsame
          subst hsame
          rw [hg] at k0
          simp only [Option.some.injEq, Obj.cells.injEq, and_true] at k0
          obtain ⟨rfl, rfl⟩ := k0
          refine .inr ⟨g0, cap0, _, rfl, b0, setRow_heap w g0 cur _ _ _ hg, n00, m0, ?_, ?_⟩
          · rw [← s0]
            simp only [List.size_toArray, List.length_append, List.length_take, List.length_drop, Array.length_toList]
            omega
          · rw [← t0]
            show List.take (n0 * size') (List.take (n * i.size) cur.toList ++ news ++ List.drop (n * i.size + news.length) cur.toList) = _
            have hlen : (List.take (n * i.size) cur.toList).length = n * i.size := by rw [List.length_take, Array.length_toList]; omega
            rw [List.append_assoc, List.take_append_of_le_length (by rw [hlen, hsize]; exact hle'), List.take_take, Nat.min_eq_left (by rw [hsize]; exact hle')]
      · have holds : ∀ j u, xs[j]? = some u → w.cell? ((⟨g, 0, none⟩ : Addr).add j) = some u := hown.cells (g := g) rfl
        have hr2 := run_append_grow (P := P) w t ty e i z ht hi hz ⟨g, 0, none⟩ n cap xs (by rw [hsize]; exact hown.1) holds a m c news (by rw [hsize]; exact hl) hnews (by omega) (by simp only [maxLen] at h63; omega) (growslice_fits (by omega) (by rw [hby]; exact hbytes))
        rw [hr2] at hr
        simp only [Result.ok.injEq] at hr
        obtain ⟨_, rfl⟩ := hr
        exact owns_keep h0 (fun k hk => Below.heap_alloc w.drew _ k (owns_lt h0 hk))
    · exact owns_keep h0 (fun k hk => h3.block k (owns_lt h0 hk) (by rw [show Value.ownBlock (.slice (some ⟨g, 0, none⟩) n cap) = some g from rfl]; intro e; rw [e] at hk; exact hsame hk))

/-- At the operation, for the walk. -/
theorem wpList_append_keep {P : Program} {w : World} {ops : Array Oper} {rest : List Oper} {o : Oper} {a : Act} {Q : Exit → Act → World → Prop} (hgd : o.guard = none) (s x : Operand) (t : TypeId)
    (ho : o.op = .call { callee := .builtin .append, args := #[s, x], argTypes := #[t, t] })
    (base : Nat) (e : TypeId) (i : TypeInfo) (z : Value) (size bytes : Nat) (ht : P.underlying t = some (.slice e)) (hi : P.info? e = some i) (hz : i.zero = some z)
    (hsize : i.size = size) (hby : i.bytes = bytes) (hzs : z.cells.size = size) (hsz : 0 < size)
    (v : Value) (n : Nat) (xs : List Value) (hs : a.eval s = v) (hown : w.ownsRow base e size v n xs)
    (ad : Addr) (m c : Nat) (news : List Value) (hx : a.eval x = .slice (some ad) m c) (hl : news.length = m * size) (hnews : ∀ j u, news[j]? = some u → w.cell? (ad.add j) = some u) (h1 : ∀ u ∈ news, u.oneCell' = true)
    (h63 : n + m ≤ maxLen) (hbytes : (n + m) * bytes ≤ 140737488355328) (hbase : base ≤ w.heap.size)
    (h : ∀ v' w', w'.ownsRow base e size v' (n + m) (xs ++ news) → w.grownBy w' v.ownBlock → (v'.ownBlock = v.ownBlock ∨ v'.ownBlock = some w.heap.size) → Keeps w w' v n size → wpList P ops Q rest (a.put o.dst v') w') :
    wpList P ops Q (o :: rest) a w := by
  refine wpList_plain hgd fun K hK => ?_
  obtain ⟨v', w', hr, h2, h3, h4, h5⟩ := run_append_keep (P := P) w base t o.type e i z size bytes ht hi hz hsize hby hzs hsz v n xs hown ad m c news hl hnews h1 h63 hbytes hbase
  unfold Oper.wp execOp
  simp only [ho, resolve, invoke, builtin, Sem.run_bind, Sem.run_pure, Result.andThen_ok, List.map_toArray, List.map_cons, List.map_nil, hs, hx, hr]
  exact hK _ _ (h v' w' h2 h3 h4 h5)

end Go.Proofs.YtiiieailimphnaaGreatDoor

namespace Go.Proofs.YtiiieailimphnaaGreatDoor
open Go.RowKit
set_option linter.unusedVariables false
set_option linter.unusedSimpArgs false

/-- The marks of the list i, from a place on, so many. -/
def marks (i k0 n : Nat) : List Int := (List.range n).map fun (k : Nat) => -1000000 * (i : Int) - ((k0 + k : Nat) : Int) - 7

theorem marks_len (i k0 n : Nat) : (marks i k0 n).length = n := by simp [marks]

theorem marks_zero (i k0 : Nat) : marks i k0 0 = [] := rfl

theorem marks_succ (i k0 n : Nat) : marks i k0 (n + 1) = marks i k0 n ++ [-1000000 * (i : Int) - ((k0 + n : Nat) : Int) - 7] := by
  simp [marks, List.range_succ]

theorem marks_append (i k0 n m : Nat) : marks i k0 n ++ marks i (k0 + n) m = marks i k0 (n + m) := by
  induction m with
  | zero => simp [marks_zero]
  | succ m ih => rw [marks_succ, ← List.append_assoc, ih, ← Nat.add_assoc, marks_succ, Nat.add_assoc]

theorem marks_get (i k0 n k : Nat) (h : k < n) : (marks i k0 n).getD k 0 = -1000000 * (i : Int) - ((k0 + k : Nat) : Int) - 7 := by
  simp [marks, List.getD, h]

theorem Tryz.intInfoM : (Tryz.prog.info? 3).map (fun i => (i.zero, i.size, i.bytes)) = some (some (.int .i64 0), 1, 8) := by kernel_rfl

/-- A new list. -/
def NewInts (w : World) (xs : List Int) (r : Ending) (w' : World) : Prop := ∃ v, r = .returned v ∧ w'.ownsRow w.heap.size 3 1 v xs.length (xs.map (Value.int .i64)) ∧ Up w w'

set_option maxHeartbeats 1000000 in
set_option maxRecDepth 100000 in
theorem markInts_any (i k0 n : Nat) (w : World) (hi : i ≤ 1000000) (hk : k0 ≤ 1000000) (hn : n ≤ 1000000) :
    Calls Tryz.prog 100 #[.int .i64 i, .int .i64 k0, .int .i64 n] w (NewInts w (marks i k0 n)) := by
  obtain ⟨i0, hi0, hz0, hz1, hz2⟩ := info_parts Tryz.intInfoM
  have HMS : Hid (∀ k, marks i k0 (k + 1) = marks i k0 k ++ [-1000000 * (i : Int) - ((k0 + k : Nat) : Int) - 7]) := fun k => marks_succ i k0 k
  have HML : Hid (∀ k, (marks i k0 k).length = k) := fun k => marks_len i k0 k
  have hsum : IntKind.i64.wrap ((k0 : Int) + (n : Int)) = (k0 : Int) + (n : Int) := IntWalk.i64_in _ (by omega)
  go_enter Tryz.func100, Tryz.ntmps100
  go_wp2_with fail
  go_loopw [7, 8] (fun lv j wr => ∃ k : Nat, k ≤ n ∧ j = .int .i64 ((k0 + k : Nat) : Int) ∧ wr.ownsRow w.heap.size 3 1 lv k ((marks i k0 k).map (Value.int .i64)) ∧ Up w wr) (fun _ j _ => (k0 + n) - (intOf j).toNat)
  case atStart => exact ⟨0, Nat.zero_le _, by simp, World.ownsRow_nil _ _ _ _, Up.refl w⟩
  case round =>
    obtain ⟨k, hkn, rfl, hown, hup⟩ := hrel
    have hsz := hup.size
    by_cases hlt : k < n
    · have q1 : decide (((k0 + k : Nat) : Int) < (k0 : Int) + (n : Int)) = true := by simp; omega
      obtain ⟨so, sc, rfl⟩ := owns_shape' hown
      obtain ⟨x, hx⟩ : ∃ x, x = k0 + k := ⟨_, rfl⟩
      rw [← hx] at q1
      have HX := Lib.hid hx
      have hxl : (x : Int) ≤ 2000000 := by omega
      have hil : (i : Int) ≤ 1000000 := by omega
      have m1 : IntKind.i64.wrap (-1000000 * (i : Int)) = -1000000 * (i : Int) := IntWalk.i64_in _ (by omega)
      have m2 : IntKind.i64.wrap (-1000000 * (i : Int) - (x : Int)) = -1000000 * (i : Int) - (x : Int) := IntWalk.i64_in _ (by omega)
      have m3 : IntKind.i64.wrap (-1000000 * (i : Int) - (x : Int) - 7) = -1000000 * (i : Int) - (x : Int) - 7 := IntWalk.i64_in _ (by omega)
      rw [← hx]
      clear hx
      go_wp2_with (at_builtin; (refine wpList_append_own _ rfl _ _ 29 rfl w.heap.size 3 i0 (.int .i64 0) 1 8 Tryz.underlying29 hi0 hz0 hz1 hz2 rfl (by decide) _ k _ rfl (hown.alloc _) ⟨wr.heap.size, 0, none⟩ 1 1 [.int .i64 (-1000000 * (i : Int) - (x : Int) - 7)] rfl rfl (cell_one_new wr _ _) (ints_oneCell .i64 [-1000000 * (i : Int) - (x : Int) - 7]) (by unfold maxLen; omega) (by omega) (by simp; omega) ?_); intro v' w2 hown' hgrow' hnil'; clear hnil')
      go_roundw
      case rel => exact ⟨k + 1, by omega, by rw [HX.out]; go_num, by rw [HMS.out, List.map_append, ← HX.out]; exact hown', (hup.alloc _).grown hgrow' (fun g hg => (hown.lt g hg).1)⟩
      case measure => have hxx := HX.out; clear m1 m2 m3; simp [intOf]; omega
    · have q1 : decide (((k0 + k : Nat) : Int) < (k0 : Int) + (n : Int)) = false := by simp; omega
      obtain rfl : k = n := by omega
      go_wp2_with fail
      go_ret
      exact ⟨_, rfl, by rw [HML.out]; exact hown, hup⟩

end Go.Proofs.YtiiieailimphnaaGreatDoor

namespace Go.Proofs.YtiiieailimphnaaGreatDoor
open Go.RowKit
set_option linter.unusedVariables false
set_option linter.unusedSimpArgs false

/-- The i-th of some slices. -/
def nth (vs : List Value) (i : Nat) : Value := vs.getD i (.slice none 0 0)

/-- No two of some slices lie in one block. -/
def Apt (vs : List Value) : Prop := ∀ i j g, i < vs.length → j < vs.length → i ≠ j → (nth vs i).ownBlock = some g → (nth vs j).ownBlock ≠ some g

/-- The blocks of some slices. -/
def InV (vs : List Value) (k : Nat) : Prop := ∃ i, i < vs.length ∧ (nth vs i).ownBlock = some k

/-- Slices that read as lists. -/
def Els (w : World) (vs : List Value) (C : Nat → List Int) : Prop := ∀ i, i < vs.length → w.ownsRow 0 3 1 (nth vs i) (C i).length ((C i).map (Value.int .i64))

theorem Els.up {w w' : World} {vs : List Value} {C : Nat → List Int} (h : Els w vs C) (hu : Up w w') : Els w' vs C := fun i hi => hu.owns (h i hi)
theorem Els.lt {w : World} {vs : List Value} {C : Nat → List Int} (h : Els w vs C) {k : Nat} (hk : InV vs k) : k < w.heap.size := by
  obtain ⟨i, hi, hg⟩ := hk
  exact owns_lt (h i hi) hg

theorem nth_get {vs : List Value} {i : Nat} (h : i < vs.length) : vs[i]? = some (nth vs i) := by simp [nth, List.getD, h]

def upd (C : Nat → List Int) (i : Nat) (x : List Int) (j : Nat) : List Int := if j = i then x else C j

theorem upd_same (C : Nat → List Int) (i : Nat) (x : List Int) : upd C i x i = x := by simp [upd]
theorem upd_other {C : Nat → List Int} {i j : Nat} {x : List Int} (h : j ≠ i) : upd C i x j = C j := by simp [upd, h]

theorem Els.set {w : World} {vs : List Value} {C : Nat → List Int} (h : Els w vs C) (ha : Apt vs) {i g cap k : Nat} (hi : i < vs.length) (hv : nth vs i = .slice (some ⟨g, 0, none⟩) (C i).length cap) (x : Int) :
    Els (w.setCell ⟨g, k, none⟩ (.int .i64 x)) vs (upd C i ((C i).set k x)) := by
  intro j hj
  by_cases hji : j = i
  · subst hji
    rw [upd_same, List.length_set]
    have h0 := h j hj
    rw [hv] at h0 ⊢
    obtain ⟨hr, h1, h2, h3⟩ := Row.of h0
    have := hr.set k (.int .i64 x)
    rw [← List.map_set] at this
    exact this.owns h1 h2 (by simp)
  · rw [upd_other hji]
    refine owns_keep (h j hj) (fun k' hk => Below.heap_setCell _ _ _ _ ?_)
    rintro rfl
    exact ha i j _ hi hj (fun e => hji e.symm) (by rw [hv]; rfl) hk

/-- The first marks, the rest as it was. -/
def mix (M c : List Int) (k : Nat) : List Int := M.take k ++ c.drop k

theorem mix_zero (M c : List Int) : mix M c 0 = c := by simp [mix]
theorem mix_all {M c : List Int} (h : M.length = c.length) : mix M c c.length = M := by simp [mix, ← h]
theorem mix_len {M c : List Int} (h : M.length = c.length) {k : Nat} (hk : k ≤ c.length) : (mix M c k).length = c.length := by simp [mix]; omega
theorem mix_set {M c : List Int} (h : M.length = c.length) {k : Nat} (hk : k < c.length) : (mix M c k).set k (M.getD k 0) = mix M c (k + 1) := by
  apply List.ext_getElem?
  intro j
  simp only [mix, List.getElem?_set, List.getElem?_append, List.length_append, List.length_take, List.length_drop, List.getElem?_take, List.getElem?_drop, List.getD]
  rw [show min k M.length = k by omega, show min (k + 1) M.length = k + 1 by omega]
  by_cases h1 : k = j
  · subst h1
    rw [if_pos rfl, if_pos (by omega), if_pos (by omega), if_pos (by omega), List.getElem?_eq_getElem (by omega)]
    rfl
  · rw [if_neg h1]
    by_cases h2 : j < k
    · rw [if_pos h2, if_pos h2, if_pos (by omega), if_pos (by omega)]
    · rw [if_neg h2, if_neg (by omega)]
      congr 1; omega

/-- Rows of another element type lie elsewhere. -/
theorem Els.ne {w : World} {vs : List Value} {C : Nat → List Int} (h : Els w vs C) {base size m : Nat} {e : TypeId} {v : Value} {xs : List Value} (hv : w.ownsRow base e size v m xs) (he : e ≠ 3) {g : Nat} (hg : v.ownBlock = some g) : ¬ InV vs g := by
  rintro ⟨i, hi, hk⟩
  obtain ⟨c1, e1⟩ := owns_type hv hg
  obtain ⟨c2, e2⟩ := owns_type (h i hi) hk
  rw [e1] at e2
  simp only [Option.some.injEq, Obj.cells.injEq] at e2
  exact he e2.2.1

theorem Els.ne_box {w : World} {vs : List Value} {C : Nat → List Int} (h : Els w vs C) {g : Nat} {cs : Array Value} {e : TypeId} (hb : w.heap[g]? = some (.cells cs e (0, 0))) (he : e ≠ 3) : ¬ InV vs g := by
  rintro ⟨i, hi, hk⟩
  obtain ⟨cur, hh⟩ := owns_type (h i hi) hk
  rw [hb] at hh
  simp only [Option.some.injEq, Obj.cells.injEq] at hh
  exact he hh.2.1

end Go.Proofs.YtiiieailimphnaaGreatDoor

namespace Go.Proofs.YtiiieailimphnaaGreatDoor
open Go.RowKit
set_option linter.unusedVariables false
set_option linter.unusedSimpArgs false

/-- The book's lists of integers lie in vi, which stands in the book's first field. -/
structure BookI (w : World) (bk : Nat) (vi : Value) (vs : List Value) : Prop where
  c0 : w.cell? ⟨bk, 0, none⟩ = some vi
  ri : w.ownsRow 0 29 1 vi vs.length vs

/-- In the loops: what may have turned since w. -/
structure PutSt (w wr : World) (vs : List Value) (C : Nat → List Int) : Prop where
  el : Els wr vs C
  tur : Turned (InV vs) w wr

theorem PutSt.up {w wr w' : World} {vs : List Value} {C : Nat → List Int} (h : PutSt w wr vs C) (hu : Up wr w') : PutSt w w' vs C :=
  ⟨h.el.up hu, h.tur.trans (T := fun _ => False) ⟨hu.os, hu.tape, hu.output, hu.size, fun k hk _ => hu.block k hk⟩ (fun _ _ h => h.elim)⟩

theorem PutSt.set {w wr : World} {vs : List Value} {C : Nat → List Int} (h : PutSt w wr vs C) (ha : Apt vs) {i g cap k : Nat} (hi : i < vs.length) (hv : nth vs i = .slice (some ⟨g, 0, none⟩) (C i).length cap) (x : Int) :
    PutSt w (wr.setCell ⟨g, k, none⟩ (.int .i64 x)) vs (upd C i ((C i).set k x)) :=
  ⟨h.el.set ha hi hv x, h.tur.setCell (p := ⟨g, k, none⟩) (.inl ⟨i, hi, by rw [hv]; rfl⟩) _⟩

/-- The contents behind i rounds. -/
def putC (C : Nat → List Int) (i j : Nat) : List Int := if j < i then marks j 0 (C j).length else C j

theorem putC_zero (C : Nat → List Int) : putC C 0 = C := by funext j; simp [putC]
theorem putC_at (C : Nat → List Int) (i : Nat) : putC C i i = C i := by simp [putC]
theorem putC_len (C : Nat → List Int) (i j : Nat) : (putC C i j).length = (C j).length := by unfold putC; split <;> simp [marks_len]
theorem putC_succ (C : Nat → List Int) (i : Nat) : upd (putC C i) i (marks i 0 (C i).length) = putC C (i + 1) := by
  funext j
  by_cases h : j = i
  · subst h; simp [upd, putC]
  · simp only [upd, h, if_false, putC]
    by_cases h2 : j < i
    · rw [if_pos h2, if_pos (by omega)]
    · rw [if_neg h2, if_neg (by omega)]

theorem upd_upd (C : Nat → List Int) (i : Nat) (x y : List Int) : upd (upd C i x) i y = upd C i y := by
  funext j; simp only [upd]; split <;> rfl

/-- What stays of the book while its lists turn. -/
structure PutEnv (w : World) (bk : Nat) (ao : Option Addr) (ci g : Nat) (vs : List Value) : Prop where
  c0 : ∀ wr, Turned (InV vs) w wr → wr.cell? ⟨bk, 0, none⟩ = some (.slice ao vs.length ci)
  el : ∀ wr i, Turned (InV vs) w wr → i < vs.length → ao = some ⟨g, 0, none⟩ ∧ wr.cell? ⟨g, i, none⟩ = some (nth vs i)

theorem BookI.env {w : World} {bk : Nat} {vi : Value} {vs : List Value} {C : Nat → List Int} {bc : Array Value} (h : BookI w bk vi vs) (he : Els w vs C) (hb : w.heap[bk]? = some (.cells bc 49 (0, 0))) :
    ∃ ao ci g, vi = .slice ao vs.length ci ∧ PutEnv w bk ao ci g vs := by
  have hnb : ¬ InV vs bk := he.ne_box hb (by decide)
  rcases owns_cases h.ri with ⟨rfl, h0, _⟩ | ⟨g, ci, rfl, hr, _⟩
  · refine ⟨none, 0, 0, by rw [h0], fun wr ht => ?_, fun wr i ht hi => ?_⟩
    · rw [h0]; exact ht.cell h.c0 hnb
    · omega
  · refine ⟨_, ci, g, rfl, fun wr ht => ht.cell h.c0 hnb, fun wr i ht hi => ⟨rfl, ?_⟩⟩
    exact ht.cell (hr.cell (nth_get hi)) (he.ne h.ri (by decide) rfl)

set_option maxHeartbeats 4000000 in
set_option maxRecDepth 100000 in
theorem putInts_any {w : World} {bk : Nat} {vi : Value} {vs : List Value} {C : Nat → List Int} {bc : Array Value} (h : BookI w bk vi vs) (he : Els w vs C) (ha : Apt vs) (hb : w.heap[bk]? = some (.cells bc 49 (0, 0))) (hm : vs.length ≤ 400) (hC : ∀ i, i < vs.length → (C i).length ≤ 1000000) :
    Calls Tryz.prog 46 #[.pointer (some ⟨bk, 0, none⟩)] w fun r w' => r = .returned (.tuple #[]) ∧ PutSt w w' vs (putC C vs.length) := by
  obtain ⟨ao, ci, g, rfl, hen⟩ := h.env he hb
  have HE := Lib.hid hen
  have H0 : Hid (PutSt w w vs (putC C 0)) := by rw [putC_zero]; exact ⟨he, Turned.refl _ _⟩
  obtain ⟨m, hmm⟩ : ∃ m, m = vs.length := ⟨_, rfl⟩
  have HM := Lib.hid hmm
  have HC := Lib.hid hC
  have HA := Lib.hid ha
  rw [← hmm] at hm ⊢
  have c00 := hen.c0 w (Turned.refl _ _)
  rw [← hmm] at c00
  clear h he ha hb hmm hC hen
  go_enter Tryz.func46, Tryz.ntmps46
  go_wp2_with fail
  go_loopw [2] (fun i wr => ∃ k : Nat, k ≤ m ∧ i = .int .i64 k ∧ PutSt w wr vs (putC C k)) (fun i _ => m - (intOf i).toNat)
  case atStart => exact ⟨0, Nat.zero_le _, rfl, H0.out⟩
  case round =>
    clear H0
    obtain ⟨k, hk, rfl, hP⟩ := hrel
    have d0 := HE.out.c0 wr hP.tur
    rw [← HM.out] at d0
    by_cases hlt : k < m
    · have hkv : k < vs.length := by rw [← HM.out]; exact hlt
      obtain ⟨rfl, d1⟩ := HE.out.el wr k hP.tur hkv
      have hel := hP.el k hkv
      rw [putC_at] at hel
      have hcl := HC.out k hkv
      obtain ⟨n, hn⟩ : ∃ n, n = (C k).length := ⟨_, rfl⟩
      rw [← hn] at hel hcl
      obtain ⟨vo, vc, hv⟩ := owns_shape' hel
      have qk : (k : Int) < (m : Int) := by omega
      rw [hv] at d1
      have HN := Lib.hid hn
      have HV := Lib.hid hv
      have HP := Lib.hid hP
      have HEL := Lib.hid hel
      obtain ⟨wo, hwo⟩ : ∃ wo, wo = wr := ⟨_, rfl⟩
      rw [← hwo] at d0 d1 HP HEL ⊢
      clear hP hn hv hel c00 hwo
      go_wp2_with (go_at_call 100; refine (markInts_any k 0 n _ (by omega) (by omega) hcl).mono ?_; rintro r w1 ⟨mv, rfl, hmo, hup⟩)
      rw [marks_len] at hmo
      obtain ⟨mo, mc, rfl⟩ := owns_shape' hmo
      have hml : (marks k 0 n).length = (C k).length := by rw [marks_len, HN.out]
      have HS0 : Hid (PutSt w w1 vs (upd (putC C k) k (mix (marks k 0 n) (C k) 0))) := by
        have e : upd (putC C k) k (mix (marks k 0 n) (C k) 0) = putC C k := by
          funext j
          by_cases hj : j = k
          · subst hj; rw [upd_same, mix_zero, putC_at]
          · rw [upd_other hj]
        rw [e]; exact HP.out.up hup
      have HMO := Lib.hid hmo
      have HML := Lib.hid hml
      clear hmo hml d0 d1
      go_wp2_with fail
      go_loopw [4] (fun j wr => ∃ kk : Nat, kk ≤ n ∧ j = .int .i64 kk ∧ PutSt w wr vs (upd (putC C k) k (mix (marks k 0 n) (C k) kk)) ∧ wr.ownsRow wo.heap.size 3 1 (.slice mo n mc) n ((marks k 0 n).map (Value.int .i64))) (fun j _ => n - (intOf j).toNat)
      case atStart => exact ⟨0, Nat.zero_le _, rfl, HS0.out, HMO.out⟩
      case round =>
        clear HS0 HMO
        obtain ⟨kk, hkk, rfl, hQ, hmr⟩ := hrel
        by_cases hlt2 : kk < n
        · have e0 := HE.out.c0 wr hQ.tur
          rw [← HM.out] at e0
          obtain ⟨_, e1⟩ := HE.out.el wr k hQ.tur hkv
          have hel := hQ.el k hkv
          rw [upd_same, mix_len HML.out (by rw [← HN.out]; exact hkk), ← HN.out, HV.out] at hel
          rcases owns_cases hel with ⟨_, h0, _⟩ | ⟨gv, cv, hvv, hrv, _⟩
          · omega
          simp only [Value.slice.injEq, true_and] at hvv
          obtain ⟨rfl, rfl⟩ := hvv
          rw [HV.out] at e1
          rcases owns_cases hmr with ⟨_, h0, _⟩ | ⟨gm, cm, hvv, hrm, _⟩
          · omega
          simp only [Value.slice.injEq, true_and] at hvv
          obtain ⟨rfl, rfl⟩ := hvv
          rw [Nat.mul_one] at hrv hrm
          have hgm : wo.heap.size ≤ gm := (hmr.lt gm rfl).1
          have hgv : gv < wo.heap.size := by have := HEL.out; rw [HV.out] at this; exact owns_lt this rfl
          obtain ⟨x, hx⟩ : ∃ x, x = (marks k 0 n).getD kk 0 := ⟨_, rfl⟩
          have e2 : wr.cell? ⟨gm, kk, none⟩ = some (.int .i64 x) := hrm.cell (by rw [hx]; simp [List.getD, marks_len, hlt2])
          have hmixl := mix_len HML.out (k := kk) (by rw [← HN.out]; exact hkk)
          rw [← HN.out] at hmixl
          have e3 : wr.cell? ⟨gv, kk, none⟩ = some (.int .i64 ((mix (marks k 0 n) (C k) kk).getD kk 0)) := hrv.cell (by simp [List.getD, hmixl, hlt2])
          have f3 := hrv.free kk
          obtain ⟨y, hy⟩ : ∃ y, y = (mix (marks k 0 n) (C k) kk).getD kk 0 := ⟨_, rfl⟩
          rw [← hy] at e3
          have qkk : (kk : Int) < (n : Int) := by omega
          have HX := Lib.hid hx
          have HQ := Lib.hid hQ
          have HMR := Lib.hid hmr
          clear hx hy hQ hmr hel hrv hrm hmixl
          go_wp2_with fail
          go_region
          go_wp2_with fail
          go_roundw
          case rel =>
            refine ⟨kk + 1, by omega, by go_num, ?_, ?_⟩
            · have hnew := HQ.out.set HA.out (k := kk) hkv (g := gv) (cap := vc) (by rw [HV.out, upd_same, mix_len HML.out (by rw [← HN.out]; exact hkk), ← HN.out]) x
              have hms := mix_set HML.out (k := kk) (by rw [← HN.out]; exact hlt2)
              rw [← HX.out] at hms
              rw [upd_same, upd_upd, hms] at hnew
              exact hnew.up (by repeat (first | (with_reducible exact Up.refl _) | (with_reducible apply Up.drew) | (with_reducible apply Up.drewN)))
            · exact owns_keep HMR.out (fun g' hg' => Below.heap_setCell _ _ _ _ (by simp only [Value.ownBlock, Option.some.injEq] at hg'; simp only [ne_eq]; omega))
          case measure => simp [intOf]; omega
        · obtain rfl : kk = n := by omega
          go_wp2_with fail
          go_roundw
          case rel =>
            refine ⟨k + 1, by omega, by go_num, ?_⟩
            have := hQ
            rw [HN.out, mix_all (by rw [marks_len]), putC_succ] at this
            exact this
          case measure => simp [intOf]; omega
    · obtain rfl : k = m := by omega
      go_wp2_with fail
      go_end0
      exact ⟨rfl, hP⟩

end Go.Proofs.YtiiieailimphnaaGreatDoor
