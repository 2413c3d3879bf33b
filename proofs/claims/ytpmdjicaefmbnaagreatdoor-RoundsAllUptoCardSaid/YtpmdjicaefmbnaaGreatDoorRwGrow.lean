/- Lists of lists of integers: SameRows where both sides read alike; their marks, as the book makes them: markRows, by its contract. The book's lists of lists: marked (putRows); grown (growRows); asked for their marks; asked whether they are as they were. Begun from the text of the lists of integers (BookPut, BookMark). The book's lists of lists: grown (growRows); asked for their marks; asked whether they are as they were. Begun from the text of the lists of integers (BookMark). -/
import Derived.Test.YtpmdjicaefmbnaaGreatDoorBookMark
import Derived.Deep.RegionHeld3

namespace Go.Proofs.YtpmdjicaefmbnaaGreatDoor.Rw
open Go.RowKit
set_option linter.unusedVariables false
set_option linter.unusedSimpArgs false

/-- A slice of slices that reads as a list of lists. -/
def LstR (w : World) (v : Value) (rows : List (List Int)) : Prop := ∃ ao cap g off, v = .slice ao rows.length cap ∧ (0 < rows.length → ao = some ⟨g, off, none⟩) ∧ ∀ i, i < rows.length → ∃ x, w.cell? ⟨g, off + i, none⟩ = some x ∧ Lst w x (rows.getD i [])

theorem LstR.up {w w1 : World} {v : Value} {rows : List (List Int)} (h : LstR w v rows) (hu : Up w w1) : LstR w1 v rows := by
  obtain ⟨ao, cap, g, off, hv, ha, hc⟩ := h
  refine ⟨ao, cap, g, off, hv, ha, fun i hi => ?_⟩
  obtain ⟨x, h1, h2⟩ := hc i hi
  exact ⟨x, hu.cell h1, h2.up hu⟩

set_option maxHeartbeats 1000000 in
set_option maxRecDepth 100000 in
theorem sameRows_same {v u : Value} {rows : List (List Int)} {w : World} (hm : rows.length ≤ 1000000) (hr : ∀ i, i < rows.length → (rows.getD i []).length ≤ 1000000) (hv : LstR w v rows) (hu : LstR w u rows) :
    Calls Tryz.prog 20 #[v, u] w (Same w true) := by
  obtain ⟨ao, c, g, off, rfl, ha, hx⟩ := hv
  obtain ⟨bo, d, h, off2, rfl, hb, hy⟩ := hu
  have HX := Lib.hid hx
  have HY := Lib.hid hy
  have HA := Lib.hid ha
  have HB := Lib.hid hb
  have HR := Lib.hid hr
  obtain ⟨n, hn⟩ : ∃ n, n = rows.length := ⟨_, rfl⟩
  rw [← hn] at hm HA HB ⊢
  have HN := Lib.hid hn
  have qn : ((n : Int) != (n : Int)) = false := by simp
  clear hn hx hy ha hb hr
  go_enter Tryz.func20, Tryz.ntmps20
  go_wp2_with fail
  go_loopw [5] (fun i wr => ∃ j q : Nat, j ≤ n ∧ i = .int .i64 j ∧ wr = w.drewN q) (fun i _ => n - (intOf i).toNat)
  case atStart => exact ⟨0, 0, Nat.zero_le _, rfl, rfl⟩
  case round =>
    obtain ⟨j, q, hj, rfl, rfl⟩ := hrel
    by_cases hlt : j < n
    · obtain rfl := HA.out (by omega)
      obtain rfl := HB.out (by omega)
      obtain ⟨x, cx, lx⟩ := HX.out j (by rw [← HN.out]; exact hlt)
      obtain ⟨y, cy, ly⟩ := HY.out j (by rw [← HN.out]; exact hlt)
      have hl := HR.out j (by rw [← HN.out]; exact hlt)
      have HS : Hid (∀ w1, Up w w1 → Calls Tryz.prog 31 #[x, y] w1 (Same w1 true)) := fun w1 hu => sameInts_same hl (lx.up hu) (ly.up hu)
      obtain ⟨ex, ecx, eg, eo, rfl, -, -⟩ := lx
      obtain ⟨fx, fcx, fg, fo, rfl, -, -⟩ := ly
      obtain ⟨m, hmm⟩ : ∃ m, m = (rows.getD j []).length := ⟨_, rfl⟩
      rw [← hmm] at cx cy HS
      clear hl hmm
      go_wp2_with fail
      go_quiet ((go_at_call 31; first | exact quiet_same (HS.out _ (by repeat (first | (with_reducible exact Up.refl _) | (with_reducible apply Up.drewN) | (with_reducible apply Up.drew)))) | exact quiet_same_add (HS.out _ (by repeat (first | (with_reducible exact Up.refl _) | (with_reducible apply Up.drewN) | (with_reducible apply Up.drew))))))
      go_wp2_with fail
      go_roundw
      case rel => exact ⟨j + 1, _, by omega, by go_num, rfl⟩
      case measure => simp [intOf]; omega
    · obtain rfl : j = n := by omega
      go_wp2_with fail
      go_ret
      exact ⟨rfl, _, rfl⟩

theorem owns_type_ne {w : World} {g : Nat} {e e' : TypeId} {base size n base' size' n' : Nat} {v v' : Value} {xs xs' : List Value} (h : w.ownsRow base e size v n xs) (h' : w.ownsRow base' e' size' v' n' xs') (he : e ≠ e') (hg : v.ownBlock = some g) : v'.ownBlock ≠ some g := by
  intro hg'
  obtain ⟨cur, hh⟩ := owns_type h hg
  obtain ⟨cur2, hh2⟩ := owns_type h' hg'
  rw [hh] at hh2
  simp only [Option.some.injEq, Obj.cells.injEq] at hh2
  exact he hh2.2.1

/-- A mark: a list of two, in memory from b on. -/
def Mk (b : Nat) (w : World) (i k : Nat) (x : Value) : Prop := w.ownsRow b 3 1 x 2 ([-1 - (i : Int), (k : Int)].map (Value.int .i64))

/-- The marks of the list i, from a place on, so many. -/
def Mks (b : Nat) (w : World) (i k0 n : Nat) (xs : List Value) : Prop := xs.length = n ∧ ∀ j, j < n → Mk b w i (k0 + j) (nth xs j)

theorem Mks.keep {b : Nat} {w w1 : World} {i k0 n : Nat} {xs : List Value} (h : Mks b w i k0 n xs) (hk : ∀ j g, j < n → (nth xs j).ownBlock = some g → w1.heap[g]? = w.heap[g]?) : Mks b w1 i k0 n xs :=
  ⟨h.1, fun j hj => owns_keep (h.2 j hj) (fun g hg => hk j g hj hg)⟩

theorem Mks.up {b : Nat} {w w1 : World} {i k0 n : Nat} {xs : List Value} (h : Mks b w i k0 n xs) (hu : Up w w1) : Mks b w1 i k0 n xs := ⟨h.1, fun j hj => hu.owns (h.2 j hj)⟩

theorem Mks.nil (b : Nat) (w : World) (i k0 : Nat) : Mks b w i k0 0 [] := ⟨rfl, fun j hj => by omega⟩

theorem Mks.base {b b0 : Nat} {w : World} {i k0 n : Nat} {xs : List Value} (h : Mks b w i k0 n xs) (hb : b0 ≤ b) : Mks b0 w i k0 n xs := ⟨h.1, fun j hj => owns_base (h.2 j hj) hb⟩

/-- Behind an append to a slice of another kind. -/
theorem Mks.grown {b : Nat} {w w1 : World} {i k0 n base size m : Nat} {e : TypeId} {v : Value} {xs ys : List Value} (h : Mks b w i k0 n xs) (hv : w.ownsRow base e size v m ys) (he : e ≠ 3) (hg : w.grownBy w1 v.ownBlock) : Mks b w1 i k0 n xs :=
  h.keep fun j g hj hb => hg.block g (owns_lt (h.2 j hj) hb) (fun e0 => owns_type_ne (h.2 j hj) hv (Ne.symm he) hb e0.symm)

/-- Behind a store to a block of another kind. -/
theorem Mks.set {b : Nat} {w : World} {i k0 n base size m g k : Nat} {e : TypeId} {v : Value} {xs ys : List Value} (h : Mks b w i k0 n xs) (hv : w.ownsRow base e size v m ys) (he : e ≠ 3) (hg : v.ownBlock = some g) (u : Value) : Mks b (w.setCell ⟨g, k, none⟩ u) i k0 n xs :=
  h.keep fun j g' hj hb => Below.heap_setCell _ _ _ _ (fun e0 => owns_type_ne (h.2 j hj) hv (Ne.symm he) hb (by rw [e0]; exact hg))

theorem Mks.app {b : Nat} {w : World} {i k0 n m : Nat} {xs ys : List Value} (h : Mks b w i k0 n xs) (h' : Mks b w i (k0 + n) m ys) : Mks b w i k0 (n + m) (xs ++ ys) := by
  refine ⟨by rw [List.length_append, h.1, h'.1], fun j hj => ?_⟩
  by_cases hlt : j < n
  · have : nth (xs ++ ys) j = nth xs j := by simp [nth, List.getD, List.getElem?_append, h.1, hlt]
    rw [this]; exact h.2 j hlt
  · have : nth (xs ++ ys) j = nth ys (j - n) := by simp [nth, List.getD, List.getElem?_append, h.1, hlt]
    rw [this]
    have h2 := h'.2 (j - n) (by omega)
    rw [show k0 + n + (j - n) = k0 + j by omega] at h2
    exact h2

theorem Mk.slice {b : Nat} {w : World} {i k : Nat} {x : Value} (h : Mk b w i k x) : ∃ ao c, x = .slice ao 2 c := owns_shape' h

theorem Mks.one {b : Nat} {w : World} {i k0 n : Nat} {xs : List Value} (h : Mks b w i k0 n xs) : ∀ u ∈ xs, u.oneCell' = true := by
  intro u hu
  obtain ⟨j, hj, rfl⟩ := List.mem_iff_getElem.1 hu
  obtain ⟨ao, c, hh⟩ := (h.2 j (by rw [← h.1]; exact hj)).slice
  rw [show xs[j] = nth xs j by simp [nth, List.getD, hj], hh]; rfl

/-- A new list of marks. -/
def NewRows (w : World) (i k0 n : Nat) (r : Ending) (w' : World) : Prop := ∃ v ms, r = .returned v ∧ w'.ownsRow w.heap.size 34 1 v n ms ∧ Mks w.heap.size w' i k0 n ms ∧ Up w w'

theorem mk_new (w : World) (i k : Nat) : Mk w.heap.size (w.alloc (.cells #[.int .i64 (-1 - (i : Int)), .int .i64 (k : Nat)] 3)) i k (.slice (some ⟨w.heap.size, 0, none⟩) 2 2) :=
  ⟨rfl, .inr ⟨w.heap.size, 2, _, rfl, Nat.le_refl _, heap_alloc_new w _, Nat.le_refl _, by decide, rfl, rfl⟩⟩

theorem Mks.snoc {b : Nat} {w : World} {i k0 n : Nat} {xs : List Value} {x : Value} (h : Mks b w i k0 n xs) (hx : Mk b w i (k0 + n) x) : Mks b w i k0 (n + 1) (xs ++ [x]) :=
  h.app ⟨rfl, fun j hj => by obtain rfl : j = 0 := by omega
                             exact hx⟩

theorem Tryz.sliceInfoW : (Tryz.prog.info? 34).map (fun i => (i.zero, i.size, i.bytes)) = some (some (.slice none 0 0), 1, 24) := by kernel_rfl

set_option maxHeartbeats 1000000 in
set_option maxRecDepth 100000 in
theorem markRows_any (i k0 n : Nat) (w : World) (hi : i ≤ 1000000) (hk : k0 ≤ 1000000) (hn : n ≤ 1000000) :
    Calls Tryz.prog 147 #[.int .i64 i, .int .i64 k0, .int .i64 n] w (NewRows w i k0 n) := by
  obtain ⟨i0, hi0, hz0, hz1, hz2⟩ := info_parts Tryz.sliceInfoW
  have hsum : IntKind.i64.wrap ((k0 : Int) + (n : Int)) = (k0 : Int) + (n : Int) := IntWalk.i64_in _ (by omega)
  go_enter Tryz.func147, Tryz.ntmps147
  go_wp2_with fail
  go_loopw [7, 8] (fun lv j wr => ∃ (k : Nat) (ms : List Value), k ≤ n ∧ j = .int .i64 ((k0 + k : Nat) : Int) ∧ wr.ownsRow w.heap.size 34 1 lv k ms ∧ Mks w.heap.size wr i k0 k ms ∧ Up w wr) (fun _ j _ => (k0 + n) - (intOf j).toNat)
  case atStart => exact ⟨0, [], Nat.zero_le _, by simp, World.ownsRow_nil _ _ _ _, Mks.nil _ _ _ _, Up.refl w⟩
  case round =>
    obtain ⟨k, ms, hkn, rfl, hown, hms, hup⟩ := hrel
    have hsz := hup.size
    by_cases hlt : k < n
    · have q1 : decide (((k0 + k : Nat) : Int) < (k0 : Int) + (n : Int)) = true := by simp; omega
      obtain ⟨so, sc, rfl⟩ := owns_shape' hown
      have HMS := Lib.hid hms
      obtain ⟨x, hx⟩ : ∃ x, x = k0 + k := ⟨_, rfl⟩
      rw [← hx] at q1
      have HX := Lib.hid hx
      have hxl : (x : Int) ≤ 2000000 := by omega
      have hil : (i : Int) ≤ 1000000 := by omega
      have m1 : IntKind.i64.wrap (-1 - (i : Int)) = -1 - (i : Int) := IntWalk.i64_in _ (by omega)
      rw [← hx]
      clear hx hms
      obtain ⟨wa, hwa⟩ : ∃ wa, wa = (wr.alloc (.cells #[.int .i64 (-1 - (i : Int)), .int .i64 (x : Nat)] 3)).alloc (.cells #[.slice (some ⟨wr.heap.size, 0, none⟩) 2 2] 34) := ⟨_, rfl⟩
      have HWA := Lib.hid hwa
      have hsa : wa.heap.size = wr.heap.size + 2 := by rw [hwa]; simp
      have hua : Up wr wa := by rw [hwa]; exact ((Up.refl wr).alloc _).alloc _
      have hmk : Mk w.heap.size wa i x (.slice (some ⟨wr.heap.size, 0, none⟩) 2 2) := by rw [hwa]; exact owns_base (((Up.refl _).alloc _).owns (mk_new wr i x)) hsz
      have hca : ∀ j u, ([.slice (some ⟨wr.heap.size, 0, none⟩) 2 2] : List Value)[j]? = some u → wa.cell? ((⟨wr.heap.size + 1, 0, none⟩ : Addr).add j) = some u := by
        have h0 := cell_one_new (wr.alloc (.cells #[.int .i64 (-1 - (i : Int)), .int .i64 (x : Nat)] 3)) (.slice (some ⟨wr.heap.size, 0, none⟩) 2 2) 34
        rw [World.size_alloc] at h0
        rw [hwa]; exact h0
      clear hwa
      go_wp2_with (at_builtin; (try simp only [World.size_alloc]); (try rw [← HWA.out]); (refine wpList_append_own _ rfl _ _ 26 rfl w.heap.size 34 i0 (.slice none 0 0) 1 24 Tryz.underlying26 hi0 hz0 hz1 hz2 rfl (by decide) _ k _ rfl (hua.owns hown) ⟨wr.heap.size + 1, 0, none⟩ 1 1 [.slice (some ⟨wr.heap.size, 0, none⟩) 2 2] rfl rfl hca (one_cell_slice' _ _ _) (by unfold maxLen; omega) (by omega) (by omega) ?_); intro v' w2 hown' hgrow' hnil'; clear hnil')
      go_roundw
      case rel =>
        have hm2 : Mks w.heap.size wa i k0 (k + 1) (ms ++ [.slice (some ⟨wr.heap.size, 0, none⟩) 2 2]) := (HMS.out.up hua).snoc (by rw [← HX.out]; exact hmk)
        exact ⟨k + 1, _, by omega, by rw [HX.out]; go_num, hown', hm2.grown (hua.owns hown) (by decide) hgrow', (hup.trans hua).grown hgrow' (fun g hg => ((hua.owns hown).lt g hg).1)⟩
      case measure => have hxx := HX.out; clear m1; simp [intOf]; omega
    · have q1 : decide (((k0 + k : Nat) : Int) < (k0 : Int) + (n : Int)) = false := by simp; omega
      obtain rfl : k = n := by omega
      go_wp2_with fail
      go_ret
      exact ⟨_, ms, rfl, hown, hms, hup⟩

end Go.Proofs.YtpmdjicaefmbnaaGreatDoor.Rw

namespace Go.Proofs.YtpmdjicaefmbnaaGreatDoor.Rw
open Go.RowKit
set_option linter.unusedVariables false
set_option linter.unusedSimpArgs false

/-- Slices that read as lists of slices. -/
def Els (w : World) (vs : List Value) (X : Nat → List Value) : Prop := ∀ i, i < vs.length → w.ownsRow 0 34 1 (nth vs i) (X i).length (X i)

theorem Els.up {w w' : World} {vs : List Value} {X : Nat → List Value} (h : Els w vs X) (hu : Up w w') : Els w' vs X := fun i hi => hu.owns (h i hi)
theorem Els.lt {w : World} {vs : List Value} {X : Nat → List Value} (h : Els w vs X) {k : Nat} (hk : InV vs k) : k < w.heap.size := by
  obtain ⟨i, hi, hg⟩ := hk
  exact owns_lt (h i hi) hg

def upd (X : Nat → List Value) (i : Nat) (x : List Value) (j : Nat) : List Value := if j = i then x else X j

theorem upd_same (X : Nat → List Value) (i : Nat) (x : List Value) : upd X i x i = x := by simp [upd]
theorem upd_other {X : Nat → List Value} {i j : Nat} {x : List Value} (h : j ≠ i) : upd X i x j = X j := by simp [upd, h]
theorem upd_upd (X : Nat → List Value) (i : Nat) (x y : List Value) : upd (upd X i x) i y = upd X i y := by
  funext j; simp only [upd]; split <;> rfl

theorem Els.set {w : World} {vs : List Value} {X : Nat → List Value} (h : Els w vs X) (ha : Apt vs) {i g cap k : Nat} (hi : i < vs.length) (hv : nth vs i = .slice (some ⟨g, 0, none⟩) (X i).length cap) (x : Value) :
    Els (w.setCell ⟨g, k, none⟩ x) vs (upd X i ((X i).set k x)) := by
  intro j hj
  by_cases hji : j = i
  · subst hji
    rw [upd_same, List.length_set]
    have h0 := h j hj
    rw [hv] at h0 ⊢
    obtain ⟨hr, h1, h2, h3⟩ := Row.of h0
    exact (hr.set k x).owns h1 h2 (by simp)
  · rw [upd_other hji]
    refine owns_keep (h j hj) (fun k' hk => Below.heap_setCell _ _ _ _ ?_)
    rintro rfl
    exact ha i j _ hi hj (fun e => hji e.symm) (by rw [hv]; rfl) hk

/-- The first marks, the rest as it was. -/
def mix (M c : List Value) (k : Nat) : List Value := M.take k ++ c.drop k

theorem mix_zero (M c : List Value) : mix M c 0 = c := by simp [mix]
theorem mix_all {M c : List Value} (h : M.length = c.length) : mix M c c.length = M := by simp [mix, ← h]
theorem mix_len {M c : List Value} (h : M.length = c.length) {k : Nat} (hk : k ≤ c.length) : (mix M c k).length = c.length := by simp [mix]; omega
theorem mix_set {M c : List Value} (h : M.length = c.length) {k : Nat} (hk : k < c.length) : (mix M c k).set k (nth M k) = mix M c (k + 1) := by
  apply List.ext_getElem?
  intro j
  simp only [nth, mix, List.getElem?_set, List.getElem?_append, List.length_append, List.length_take, List.length_drop, List.getElem?_take, List.getElem?_drop, List.getD]
  rw [show min k M.length = k by omega, show min (k + 1) M.length = k + 1 by omega]
  by_cases h1 : k = j
  · subst h1
    rw [if_pos rfl, if_pos (by omega), if_pos (by omega), if_pos (by omega), List.getElem?_eq_getElem (by omega)]
    rfl
  · rw [if_neg h1]
    by_cases h2 : j < k
    · rw [if_pos h2, if_pos h2, if_pos (by omega), if_pos (by omega)]
    · rw [if_neg h2, if_neg (by omega)]
      congr 1; omega

/-- Rows of another element type lie elsewhere. -/
theorem Els.ne {w : World} {vs : List Value} {X : Nat → List Value} (h : Els w vs X) {base size m : Nat} {e : TypeId} {v : Value} {xs : List Value} (hv : w.ownsRow base e size v m xs) (he : e ≠ 34) {g : Nat} (hg : v.ownBlock = some g) : ¬ InV vs g := by
  rintro ⟨i, hi, hk⟩
  exact owns_type_ne hv (h i hi) he hg hk

theorem Els.ne_box {w : World} {vs : List Value} {X : Nat → List Value} (h : Els w vs X) {g : Nat} {cs : Array Value} {e : TypeId} (hb : w.heap[g]? = some (.cells cs e (0, 0))) (he : e ≠ 34) : ¬ InV vs g := by
  rintro ⟨i, hi, hk⟩
  obtain ⟨cur, hh⟩ := owns_type (h i hi) hk
  rw [hb] at hh
  simp only [Option.some.injEq, Obj.cells.injEq] at hh
  exact he hh.2.1

/-- The book's lists of lists lie in vi, which stands in the book's field. -/
structure BookI (w : World) (bk : Nat) (vi : Value) (vs : List Value) : Prop where
  c0 : w.cell? ⟨bk, 16, none⟩ = some vi
  ri : w.ownsRow 0 26 1 vi vs.length vs

/-- In the loops: what may have turned since w. -/
structure PutSt (w wr : World) (vs : List Value) (X : Nat → List Value) : Prop where
  el : Els wr vs X
  tur : Turned (InV vs) w wr

theorem PutSt.up {w wr w' : World} {vs : List Value} {X : Nat → List Value} (h : PutSt w wr vs X) (hu : Up wr w') : PutSt w w' vs X :=
  ⟨h.el.up hu, h.tur.trans (T := fun _ => False) ⟨hu.os, hu.tape, hu.output, hu.size, fun k hk _ => hu.block k hk⟩ (fun _ _ h => h.elim)⟩

theorem PutSt.set {w wr : World} {vs : List Value} {X : Nat → List Value} (h : PutSt w wr vs X) (ha : Apt vs) {i g cap k : Nat} (hi : i < vs.length) (hv : nth vs i = .slice (some ⟨g, 0, none⟩) (X i).length cap) (x : Value) :
    PutSt w (wr.setCell ⟨g, k, none⟩ x) vs (upd X i ((X i).set k x)) :=
  ⟨h.el.set ha hi hv x, h.tur.setCell (p := ⟨g, k, none⟩) (.inl ⟨i, hi, by rw [hv]; rfl⟩) _⟩

/-- What stays of the book while its lists turn. -/
structure PutEnv (w : World) (bk : Nat) (ao : Option Addr) (ci g : Nat) (vs : List Value) : Prop where
  c0 : ∀ wr, Turned (InV vs) w wr → wr.cell? ⟨bk, 16, none⟩ = some (.slice ao vs.length ci)
  el : ∀ wr i, Turned (InV vs) w wr → i < vs.length → ao = some ⟨g, 0, none⟩ ∧ wr.cell? ⟨g, i, none⟩ = some (nth vs i)

theorem BookI.env {w : World} {bk : Nat} {vi : Value} {vs : List Value} {X : Nat → List Value} {bc : Array Value} (h : BookI w bk vi vs) (he : Els w vs X) (hb : w.heap[bk]? = some (.cells bc 50 (0, 0))) :
    ∃ ao ci g, vi = .slice ao vs.length ci ∧ PutEnv w bk ao ci g vs := by
  have hnb : ¬ InV vs bk := he.ne_box hb (by decide)
  rcases owns_cases h.ri with ⟨rfl, h0, _⟩ | ⟨g, ci, rfl, hr, _⟩
  · refine ⟨none, 0, 0, by rw [h0], fun wr ht => ?_, fun wr i ht hi => ?_⟩
    · rw [h0]; exact ht.cell h.c0 hnb
    · omega
  · refine ⟨_, ci, g, rfl, fun wr ht => ht.cell h.c0 hnb, fun wr i ht hi => ⟨rfl, ?_⟩⟩
    exact ht.cell (hr.cell (nth_get hi)) (he.ne h.ri (by decide) rfl)

/-- The lists ahead of the k-th are marked. -/
def MkTo (b : Nat) (wr : World) (C X : Nat → List Value) (k : Nat) : Prop := ∀ j, j < k → Mks b wr j 0 (C j).length (X j)
def LenAs (vs : List Value) (C X : Nat → List Value) : Prop := ∀ j, j < vs.length → (X j).length = (C j).length

set_option maxHeartbeats 4000000 in
set_option maxRecDepth 100000 in
theorem putRows_any {w : World} {bk : Nat} {vi : Value} {vs : List Value} {C : Nat → List Value} {bc : Array Value} (h : BookI w bk vi vs) (he : Els w vs C) (ha : Apt vs) (hb : w.heap[bk]? = some (.cells bc 50 (0, 0))) (hm : vs.length ≤ 400) (hC : ∀ i, i < vs.length → (C i).length ≤ 1000000) :
    Calls Tryz.prog 80 #[.pointer (some ⟨bk, 0, none⟩)] w fun r w' => r = .returned (.tuple #[]) ∧ ∃ X, PutSt w w' vs X ∧ MkTo w.heap.size w' C X vs.length := by
  obtain ⟨ao, ci, g, rfl, hen⟩ := h.env he hb
  have HE := Lib.hid hen
  have H0 : Hid (PutSt w w vs C) := ⟨he, Turned.refl _ _⟩
  obtain ⟨m, hmm⟩ : ∃ m, m = vs.length := ⟨_, rfl⟩
  have HM := Lib.hid hmm
  have HC := Lib.hid hC
  have HA := Lib.hid ha
  rw [← hmm] at hm ⊢
  have c00 := hen.c0 w (Turned.refl _ _)
  rw [← hmm] at c00
  clear h he ha hb hmm hC hen
  go_enter Tryz.func80, Tryz.ntmps80
  go_wp2_with fail
  go_loopw [2] (fun i wr => ∃ (k : Nat) (X : Nat → List Value), k ≤ m ∧ i = .int .i64 k ∧ PutSt w wr vs X ∧ LenAs vs C X ∧ MkTo w.heap.size wr C X k) (fun i _ => m - (intOf i).toNat)
  case atStart => exact ⟨0, C, Nat.zero_le _, rfl, H0.out, fun j hj => rfl, fun j hj => by omega⟩
  case round =>
    clear H0
    obtain ⟨k, X, hk, rfl, hP, hLA, hMT⟩ := hrel
    have d0 := HE.out.c0 wr hP.tur
    rw [← HM.out] at d0
    by_cases hlt : k < m
    · have hkv : k < vs.length := by rw [← HM.out]; exact hlt
      obtain ⟨rfl, d1⟩ := HE.out.el wr k hP.tur hkv
      have hel := hP.el k hkv
      have hcl := HC.out k hkv
      have hxc := hLA k hkv
      obtain ⟨n, hn⟩ : ∃ n, n = (X k).length := ⟨_, rfl⟩
      rw [← hn] at hel hxc
      rw [← hxc] at hcl
      obtain ⟨vo, vc, hv⟩ := owns_shape' hel
      have qk : (k : Int) < (m : Int) := by omega
      rw [hv] at d1
      have HN := Lib.hid hn
      have HXC := Lib.hid hxc
      have HV := Lib.hid hv
      have HP := Lib.hid hP
      have HEL := Lib.hid hel
      have HLA := Lib.hid hLA
      have hws : w.heap.size ≤ wr.heap.size := hP.tur.size
      have HMT := Lib.hid hMT
      obtain ⟨wo, hwo⟩ : ∃ wo, wo = wr := ⟨_, rfl⟩
      rw [← hwo] at d0 d1 HP HEL HMT hws ⊢
      clear hP hn hv hel c00 hwo hLA hMT hxc
      go_wp2_with (go_at_call 147; refine (markRows_any k 0 n _ (by omega) (by omega) hcl).mono ?_; rintro r w1 ⟨mv, ms, rfl, hmo, hms, hup⟩)
      obtain ⟨mo, mc, rfl⟩ := owns_shape' hmo
      have hml : ms.length = (X k).length := by rw [hms.1, HN.out]
      have HS0 : Hid (PutSt w w1 vs (upd X k (mix ms (X k) 0)) ∧ MkTo w.heap.size w1 C X k ∧ Mks w.heap.size w1 k 0 n ms) := by
        have e : upd X k (mix ms (X k) 0) = X := by
          funext j
          by_cases hj : j = k
          · subst hj; rw [upd_same, mix_zero]
          · rw [upd_other hj]
        rw [e]; exact ⟨HP.out.up hup, fun j hj => (HMT.out j hj).up hup, hms.base hws⟩
      have HMO := Lib.hid hmo
      have HML := Lib.hid hml
      clear hmo hml d0 d1 hms
      go_wp2_with fail
      go_loopw [4] (fun j wr => ∃ kk : Nat, kk ≤ n ∧ j = .int .i64 kk ∧ PutSt w wr vs (upd X k (mix ms (X k) kk)) ∧ MkTo w.heap.size wr C X k ∧ Mks w.heap.size wr k 0 n ms ∧ wr.ownsRow wo.heap.size 34 1 (.slice mo n mc) n ms) (fun j _ => n - (intOf j).toNat)
      case atStart => exact ⟨0, Nat.zero_le _, rfl, HS0.out.1, HS0.out.2.1, HS0.out.2.2, HMO.out⟩
      case round =>
        clear HS0 HMO
        obtain ⟨kk, hkk, rfl, hQ, hMK, hMS, hmr⟩ := hrel
        by_cases hlt2 : kk < n
        · have e0 := HE.out.c0 wr hQ.tur
          rw [← HM.out] at e0
          obtain ⟨_, e1⟩ := HE.out.el wr k hQ.tur hkv
          have hel := hQ.el k hkv
          rw [upd_same, mix_len HML.out (by rw [← HN.out]; exact hkk), ← HN.out, HV.out] at hel
          have HEL2 := Lib.hid hel
          rcases owns_cases hel with ⟨_, h0, _⟩ | ⟨gv, cv, hvv, hrv, _⟩
          · omega
          simp only [Value.slice.injEq, true_and] at hvv
          obtain ⟨rfl, rfl⟩ := hvv
          rw [HV.out] at e1
          rcases owns_cases hmr with ⟨_, h0, _⟩ | ⟨gm, cm, hvv, hrm, _⟩
          · omega
          simp only [Value.slice.injEq, true_and] at hvv
          obtain ⟨rfl, rfl⟩ := hvv
          rw [Nat.mul_one] at hrv hrm
          have hgm : wo.heap.size ≤ gm := (hmr.lt gm rfl).1
          have hgv : gv < wo.heap.size := by have := HEL.out; rw [HV.out] at this; exact owns_lt this rfl
          obtain ⟨x, hx⟩ : ∃ x, x = nth ms kk := ⟨_, rfl⟩
          have hmsl := hMS.1
          have e2 : wr.cell? ⟨gm, kk, none⟩ = some x := hrm.cell (by rw [hx]; exact nth_get (by rw [hmsl]; exact hlt2))
          obtain ⟨xo, xc, hxs⟩ := (hMS.2 kk hlt2).slice
          have hmixl := mix_len HML.out (k := kk) (by rw [← HN.out]; exact hkk)
          rw [← HN.out] at hmixl
          have e3 : wr.cell? ⟨gv, kk, none⟩ = some (nth (mix ms (X k) kk) kk) := hrv.cell (nth_get (by rw [hmixl]; exact hlt2))
          have f3 := hrv.free kk
          obtain ⟨y, hy⟩ : ∃ y, y = nth (mix ms (X k) kk) kk := ⟨_, rfl⟩
          rw [← hy] at e3
          have qkk : (kk : Int) < (n : Int) := by omega
          have HX := Lib.hid hx
          rw [← hx] at hxs
          subst hxs
          have HQ := Lib.hid hQ
          have HMR := Lib.hid hmr
          have HMK := Lib.hid hMK
          have HMS := Lib.hid hMS
          clear hx hy hQ hmr hel hrv hrm hmixl hMK hMS hmsl
          go_wp2_with fail
          go_region
          go_wp2_with fail
          go_roundw
          case rel =>
            refine ⟨kk + 1, by omega, by go_num, ?_, ?_, ?_, ?_⟩
            · have hnew := HQ.out.set HA.out (k := kk) hkv (g := gv) (cap := vc) (by rw [HV.out, upd_same, mix_len HML.out (by rw [← HN.out]; exact hkk), ← HN.out]) (.slice xo 2 xc)
              have hms := mix_set HML.out (k := kk) (by rw [← HN.out]; exact hlt2)
              rw [← HX.out] at hms
              rw [upd_same, upd_upd, hms] at hnew
              exact hnew.up (by repeat (first | (with_reducible exact Up.refl _) | (with_reducible apply Up.drew) | (with_reducible apply Up.drewN)))
            · exact fun j hj => ((HMK.out j hj).set HEL2.out (by decide) rfl _).up (by repeat (first | (with_reducible exact Up.refl _) | (with_reducible apply Up.drew) | (with_reducible apply Up.drewN)))
            · exact (HMS.out.set HEL2.out (by decide) rfl _).up (by repeat (first | (with_reducible exact Up.refl _) | (with_reducible apply Up.drew) | (with_reducible apply Up.drewN)))
            · exact owns_keep HMR.out (fun g' hg' => Below.heap_setCell _ _ _ _ (by simp only [Value.ownBlock, Option.some.injEq] at hg'; simp only [ne_eq]; omega))
          case measure => simp [intOf]; omega
        · obtain rfl : kk = n := by omega
          go_wp2_with fail
          go_roundw
          case rel =>
            have hQ2 := hQ
            rw [HN.out, mix_all HML.out] at hQ2
            refine ⟨k + 1, upd X k ms, by omega, by go_num, hQ2, fun j hj => ?_, fun j hj => ?_⟩
            · by_cases hjk : j = k
              · subst hjk; rw [upd_same, hMS.1]; exact HXC.out
              · rw [upd_other hjk]; exact HLA.out j hj
            · by_cases hjk : j = k
              · subst hjk; rw [upd_same, ← HXC.out]; exact hMS
              · rw [upd_other hjk]; exact hMK j (by omega)
          case measure => simp [intOf]; omega
    · obtain rfl : k = m := by omega
      go_wp2_with fail
      go_end0
      exact ⟨rfl, X, hP, hMT⟩

end Go.Proofs.YtpmdjicaefmbnaaGreatDoor.Rw

namespace Go.Proofs.YtpmdjicaefmbnaaGreatDoor.Rw
open Go.RowKit
set_option linter.unusedVariables false
set_option linter.unusedSimpArgs false

/-- Slices that read as marks. -/
def MEls (b : Nat) (w : World) (vs : List Value) (L : Nat → Nat) : Prop := ∀ i, i < vs.length → ∃ xs, w.ownsRow 0 34 1 (nth vs i) (L i) xs ∧ Mks b w i 0 (L i) xs

theorem MEls.up {b : Nat} {w w' : World} {vs : List Value} {L : Nat → Nat} (h : MEls b w vs L) (hu : Up w w') : MEls b w' vs L := fun i hi => by
  obtain ⟨xs, h1, h2⟩ := h i hi
  exact ⟨xs, hu.owns h1, h2.up hu⟩

theorem Mks.keeps {b : Nat} {w w' : World} {i k0 n base size m : Nat} {e : TypeId} {v : Value} {xs ys : List Value} (h : Mks b w i k0 n xs) (hk : Keeps w w' v m size) (hv : w.ownsRow base e size v m ys) (he : e ≠ 3) : Mks b w' i k0 n xs :=
  ⟨h.1, fun j hj => hk.other hv (h.2 j hj) he⟩

theorem MEls.els {b : Nat} {w : World} {vs : List Value} {L : Nat → Nat} (h : MEls b w vs L) : ∃ X, Els w vs X := by
  refine ⟨fun i => if hi : i < vs.length then (h i hi).choose else [], fun i hi => ?_⟩
  have h1 := (h i hi).choose_spec
  simp only [hi, dite_true]
  rw [h1.2.1]; exact h1.1

theorem MEls.lt {b : Nat} {w : World} {vs : List Value} {L : Nat → Nat} (h : MEls b w vs L) {j g : Nat} (hj : j < vs.length) (hg : (nth vs j).ownBlock = some g) : g < w.heap.size := by
  obtain ⟨xs, h1, -⟩ := h j hj
  exact owns_lt h1 hg

structure GrowSt (b : Nat) (w wr : World) (vs : List Value) (L : Nat → Nat) (outs : List Value) : Prop where
  el : MEls b wr vs L
  oel : MEls b wr outs (fun j => L j + 96)
  obl : ∀ j g, j < outs.length → (nth outs j).ownBlock = some g → (nth vs j).ownBlock = some g ∨ w.heap.size ≤ g
  tur : Turned (InV vs) w wr

/-- While one of the lists grows. -/
structure GrowIn (b : Nat) (w wo wr : World) (vs : List Value) (L : Nat → Nat) (outs : List Value) (i : Nat) (lv : Value) (n : Nat) : Prop where
  st : GrowSt b w wr vs L outs
  lrow : ∃ xs, wr.ownsRow 0 34 1 lv n xs ∧ Mks b wr i 0 n xs
  lbl : ∀ g, lv.ownBlock = some g → (nth vs i).ownBlock = some g ∨ wo.heap.size ≤ g
  ge : L i ≤ n
  sz : w.heap.size ≤ wo.heap.size ∧ wo.heap.size ≤ wr.heap.size
  olt : ∀ j g, j < outs.length → (nth outs j).ownBlock = some g → g < wo.heap.size
  vlt : ∀ j g, j < vs.length → (nth vs j).ownBlock = some g → g < w.heap.size

theorem GrowSt.up {b : Nat} {w wr w' : World} {vs : List Value} {L : Nat → Nat} {outs : List Value} (h : GrowSt b w wr vs L outs) (hu : Up wr w') : GrowSt b w w' vs L outs :=
  ⟨h.el.up hu, h.oel.up hu, h.obl, h.tur.upR hu⟩

theorem GrowIn.up {b : Nat} {w wo wr w' : World} {vs : List Value} {L : Nat → Nat} {outs : List Value} {i n : Nat} {lv : Value} (h : GrowIn b w wo wr vs L outs i lv n) (hu : Up wr w') : GrowIn b w wo w' vs L outs i lv n :=
  ⟨h.st.up hu, by obtain ⟨xs, h1, h2⟩ := h.lrow; exact ⟨xs, hu.owns h1, h2.up hu⟩, h.lbl, h.ge, ⟨h.sz.1, Nat.le_trans h.sz.2 hu.size⟩, h.olt, h.vlt⟩

theorem GrowIn.app {b : Nat} {w wo w1 w2 : World} {vs : List Value} {L : Nat → Nat} {outs : List Value} {i n m : Nat} {lv v' : Value} {xs ys : List Value} (h : GrowIn b w wo w1 vs L outs i lv n) (ha : Apt vs) (hi : i < vs.length) (ho : outs.length = i)
    (hlr : w1.ownsRow 0 34 1 lv n xs) (hlm : Mks b w1 i 0 n xs) (hnm : Mks b w1 i n m ys)
    (hown : w2.ownsRow 0 34 1 v' (n + m) (xs ++ ys)) (hg : w1.grownBy w2 lv.ownBlock) (hat : v'.ownBlock = lv.ownBlock ∨ v'.ownBlock = some w1.heap.size) (hk : Keeps w1 w2 lv n 1) :
    GrowIn b w wo w2 vs L outs i v' (n + m) := by
  have hs := h.sz
  have hgs := hg.size
  refine ⟨⟨?_, ?_, h.st.obl, ?_⟩, ?_, ?_, by have := h.ge; omega, ⟨hs.1, by omega⟩, h.olt, h.vlt⟩
  · intro j hj
    obtain ⟨zs, h0, h0m⟩ := h.st.el j hj
    refine ⟨zs, hk _ _ _ _ _ _ h0 (fun hh => ?_), h0m.keeps hk hlr (by decide)⟩
    by_cases hji : j = i
    · subst hji; have := h.ge; omega
    · cases hl : lv.ownBlock with
      | none => rw [hl] at hh; have := own_none_len h0 hh; omega
      | some g =>
        rw [hl] at hh
        rcases h.lbl g hl with h2 | h2
        · exact absurd hh (ha i j g hi hj (fun e => hji e.symm) h2)
        · have := h.vlt j g hj hh; omega
  · intro j hj
    obtain ⟨zs, h0, h0m⟩ := h.st.oel j hj
    refine ⟨zs, hk _ _ _ _ _ _ h0 (fun hh => ?_), h0m.keeps hk hlr (by decide)⟩
    cases hl : lv.ownBlock with
    | none => rw [hl] at hh; have := own_none_len h0 hh; omega
    | some g =>
      rw [hl] at hh
      exfalso
      have h3 := h.olt j g hj hh
      rcases h.lbl g hl with h2 | h2
      · have h4 := h.vlt i g hi h2
        rcases h.st.obl j g hj hh with h5 | h5
        · exact ha i j g hi (by omega) (by omega) h2 h5
        · omega
      · omega
  · refine h.st.tur.grown hg (fun k hk => ?_)
    rcases h.lbl k hk with h2 | h2
    · exact .inl ⟨i, hi, h2⟩
    · right; omega
  · refine ⟨xs ++ ys, hown, (hlm.keeps hk hlr (by decide)).app ?_⟩
    rw [Nat.zero_add]; exact hnm.keeps hk hlr (by decide)
  · intro g hg2
    rcases hat with h2 | h2
    · exact h.lbl g (h2 ▸ hg2)
    · rw [h2] at hg2; simp only [Option.some.injEq] at hg2; right; omega

/-- One more list has grown. -/
theorem GrowIn.out {b : Nat} {w wo w3 w4 : World} {vs : List Value} {L : Nat → Nat} {outs : List Value} {i m : Nat} {lv vo : Value} {xs : List Value} (h : GrowIn b w wo w3 vs L outs i lv (L i + 96)) (ho : outs.length = i) (hvo : w3.ownsRow w.heap.size 26 1 vo m xs)
    (hg : w3.grownBy w4 vo.ownBlock) (hk : Keeps w3 w4 vo m 1) : GrowSt b w w4 vs L (outs ++ [lv]) := by
  have hs := h.sz
  have keep : ∀ {v : Value} {j n : Nat}, (∃ ys, w3.ownsRow 0 34 1 v n ys ∧ Mks b w3 j 0 n ys) → ∃ ys, w4.ownsRow 0 34 1 v n ys ∧ Mks b w4 j 0 n ys := by
    rintro v j n ⟨ys, h1, h2⟩
    exact ⟨ys, hk.other hvo h1 (by decide), h2.keeps hk hvo (by decide)⟩
  refine ⟨fun j hj => keep (h.st.el j hj), ?_, ?_, ?_⟩
  · intro j hj
    rw [List.length_append, List.length_singleton] at hj
    rw [nth_snoc]
    by_cases hji : j = outs.length
    · subst hji
      rw [if_pos rfl]
      subst ho
      exact keep h.lrow
    · rw [if_neg hji]
      exact keep (h.st.oel j (by omega))
  · intro j g hj hh
    rw [List.length_append, List.length_singleton] at hj
    rw [nth_snoc] at hh
    by_cases hji : j = outs.length
    · subst hji
      rw [if_pos rfl] at hh
      subst ho
      rcases h.lbl g hh with h2 | h2
      · exact .inl h2
      · right; omega
    · rw [if_neg hji] at hh
      exact h.st.obl j g (by omega) hh
  · exact h.st.tur.grown hg (fun k hk => .inr (hvo.lt k hk).1)

theorem Tryz.sliceInfoR : (Tryz.prog.info? 26).map (fun i => (i.zero, i.size, i.bytes)) = some (some (.slice none 0 0), 1, 24) := by kernel_rfl

/-- What growRows leaves. -/
def Grew (b : Nat) (w : World) (vs : List Value) (L : Nat → Nat) (r : Ending) (w' : World) : Prop :=
  ∃ vo outs, r = .returned vo ∧ outs.length = vs.length ∧ w'.ownsRow w.heap.size 26 1 vo vs.length outs ∧ GrowSt b w w' vs L outs

set_option maxHeartbeats 4000000 in
set_option maxRecDepth 100000 in
theorem growRows_any {b : Nat} {w : World} {bk : Nat} {vi : Value} {vs : List Value} {L : Nat → Nat} {bc : Array Value} (h : BookI w bk vi vs) (he : MEls b w vs L) (ha : Apt vs) (hb : w.heap[bk]? = some (.cells bc 50 (0, 0))) (hm : vs.length ≤ 400) (hL : ∀ i, i < vs.length → L i ≤ 900000) (hbw : b ≤ w.heap.size) :
    Calls Tryz.prog 91 #[.pointer (some ⟨bk, 0, none⟩)] w (Grew b w vs L) := by
  obtain ⟨i0, hi, hz0, hz1, hz2⟩ := info_parts Tryz.sliceInfoR
  obtain ⟨j0, hj, hy0, hy1, hy2⟩ := info_parts Tryz.sliceInfoW
  obtain ⟨X0, hX0⟩ := he.els
  obtain ⟨ao, ci, g, rfl, hen⟩ := h.env hX0 hb
  have HE := Lib.hid hen
  have H0 : Hid (GrowSt b w w vs L []) := ⟨he, fun j hj => by simp at hj, fun j g hj => by simp at hj, Turned.refl _ _⟩
  have HV : Hid (∀ j g, j < vs.length → (nth vs j).ownBlock = some g → g < w.heap.size) := fun j g hj hg => he.lt hj hg
  obtain ⟨m, hmm⟩ : ∃ m, m = vs.length := ⟨_, rfl⟩
  have HM := Lib.hid hmm
  have HL := Lib.hid hL
  have HA := Lib.hid ha
  rw [← hmm] at hm
  have c00 := hen.c0 w (Turned.refl _ _)
  rw [← hmm] at c00
  clear h he ha hb hmm hL hen hX0
  go_enter Tryz.func91, Tryz.ntmps91
  go_wp2_with fail
  go_loopw [3, 4] (fun vo i wr => ∃ (k : Nat) (outs : List Value), k ≤ m ∧ i = .int .i64 k ∧ outs.length = k ∧ wr.ownsRow w.heap.size 26 1 vo k outs ∧ GrowSt b w wr vs L outs) (fun _ i _ => m - (intOf i).toNat)
  case atStart => exact ⟨0, [], Nat.zero_le _, rfl, rfl, World.ownsRow_nil _ _ _ _, H0.out⟩
  case round =>
    clear H0 c00
    obtain ⟨k, outs, hk, rfl, hol, hvo, hG⟩ := hrel
    have d0 := HE.out.c0 wr hG.tur
    rw [← HM.out] at d0
    by_cases hlt : k < m
    · have hkv : k < vs.length := by rw [← HM.out]; exact hlt
      obtain ⟨rfl, d1⟩ := HE.out.el wr k hG.tur hkv
      have hLk := HL.out k hkv
      obtain ⟨n, hn⟩ : ∃ n, n = L k := ⟨_, rfl⟩
      obtain ⟨es, hel, hem⟩ := hG.el k hkv
      rw [← hn] at hLk hel hem
      have qk : (k : Int) < (m : Int) := by omega
      obtain ⟨vo', vc', hvv⟩ := owns_shape' hvo
      obtain ⟨eo, ec, hev⟩ := owns_shape' hel
      have HGI : Hid (GrowIn b w wr wr vs L outs k (nth vs k) (n + 0)) := ⟨hG, ⟨es, hel, hem⟩, fun g hg => .inl hg, by omega, ⟨hG.tur.size, Nat.le_refl _⟩, fun j g hj hg => hG.oel.lt hj hg, HV.out⟩
      rw [hev] at d1 HGI
      have HN := Lib.hid hn
      have HOL := Lib.hid hol
      have HVO := Lib.hid hvo
      have HEV := Lib.hid hev
      have hws : w.heap.size ≤ wr.heap.size := hG.tur.size
      obtain ⟨wo, hwo⟩ : ∃ wo, wo = wr := ⟨_, rfl⟩
      rw [← hwo] at d0 d1 HGI HVO hws ⊢
      subst hvv
      clear hG hn hol hvo hel hem hev hwo
      go_wp2_with fail
      go_loopw [5, 6] (fun lv j wr => ∃ c : Nat, c ≤ 16 ∧ j = .int .i64 c ∧ GrowIn b w wo wr vs L outs k lv (n + c) ∧ wr.ownsRow w.heap.size 26 1 (.slice vo' k vc') k outs) (fun _ j _ => 16 - (intOf j).toNat)
      case atStart => exact ⟨0, by omega, rfl, HGI.out, HVO.out⟩
      case round =>
        clear HGI HVO d0 d1
        obtain ⟨c, hc, rfl, hI, hvo⟩ := hrel
        have hsz := hI.sz
        obtain ⟨ls, hlr, hlm⟩ := hI.lrow
        obtain ⟨lo, lc, rfl⟩ := owns_shape' hlr
        have HI := Lib.hid hI
        have HVO := Lib.hid hvo
        have HLR := Lib.hid hlr
        have HLM := Lib.hid hlm
        obtain ⟨x, hx⟩ : ∃ x, x = n + c := ⟨_, rfl⟩
        rw [← hx] at HI HLR HLM ⊢
        have hxl : x ≤ 900016 := by omega
        have HX := Lib.hid hx
        clear hI hvo hx hlr hlm
        by_cases hlt2 : c < 16
        · have qc : (c : Int) < 16 := by omega
          go_wp2_with (first
            | (go_at_call 147; refine (markRows_any k x 1 _ (by omega) (by omega) (by omega)).mono ?_; rintro r w1 ⟨mv, ms, rfl, hmo, hms, hup⟩; (obtain ⟨gm, cm, rfl, hrm⟩ := owns_posG hmo (by omega)); (have HI1 := Lib.hid (HI.out.up hup)); (have HVO1 := Lib.hid (hup.owns HVO.out)); (have HLR1 := Lib.hid (hup.owns HLR.out)); (have HLM1 := Lib.hid (HLM.out.up hup)); (have HMS := Lib.hid (hms.base (b0 := b) (by omega))); (have hs1 := hup.size); (have hrm2 := Lib.hid hrm); clear hmo hrm hms)
            | (at_builtin; (refine wpList_append_keep rfl _ _ 26 rfl 0 34 j0 (.slice none 0 0) 1 24 Tryz.underlying26 hj hy0 hy1 hy2 rfl (by decide) (.slice lo x lc) x _ rfl HLR1.out ⟨gm, 0, none⟩ 1 cm ms rfl HMS.out.1 (fun j u hu => (by have := hrm2.out.cell hu; rw [add_plain0]; exact this)) HMS.out.one (by unfold maxLen; omega) (by omega) (Nat.zero_le _) ?_); intro v' w2 hown' hgrow' hat' hkeep'))
          have hI2 := HI1.out.app HA.out hkv HOL.out HLR1.out HLM1.out HMS.out hown' hgrow' hat' hkeep'
          have hvo2 := hkeep'.other HLR1.out HVO1.out (by decide)
          go_roundw
          case rel => exact ⟨c + 1, by omega, by go_num, by rw [HX.out] at hI2; exact hI2, hvo2⟩
          case measure => simp [intOf]; omega
        · obtain rfl : c = 16 := by omega
          go_wp2_with (first
            | (go_at_call 147; refine (markRows_any k x 80 _ (by omega) (by omega) (by omega)).mono ?_; rintro r w1 ⟨mv, ms, rfl, hmo, hms, hup⟩; (obtain ⟨gm, cm, rfl, hrm⟩ := owns_posG hmo (by omega)); (have HI1 := Lib.hid (HI.out.up hup)); (have HVO1 := Lib.hid (hup.owns HVO.out)); (have HLR1 := Lib.hid (hup.owns HLR.out)); (have HLM1 := Lib.hid (HLM.out.up hup)); (have HMS := Lib.hid (hms.base (b0 := b) (by omega))); (have hs1 := hup.size); (have hrm2 := Lib.hid hrm); clear hmo hrm hms)
            | (at_builtin; (refine wpList_append_keep rfl _ _ 26 rfl 0 34 j0 (.slice none 0 0) 1 24 Tryz.underlying26 hj hy0 hy1 hy2 rfl (by decide) (.slice lo x lc) x _ rfl HLR1.out ⟨gm, 0, none⟩ 80 cm ms rfl HMS.out.1 (fun j u hu => (by have := hrm2.out.cell hu; rw [add_plain0]; exact this)) HMS.out.one (by unfold maxLen; omega) (by omega) (Nat.zero_le _) ?_); intro v' w2 hown' hgrow' hat' hkeep'; (have HI2 := Lib.hid (HI1.out.app HA.out hkv HOL.out HLR1.out HLM1.out HMS.out hown' hgrow' hat' hkeep')); (have HVO2 := Lib.hid (hkeep'.other HLR1.out HVO1.out (by decide))); (obtain ⟨no, nc, rfl⟩ := owns_shape' hown'); (have hg2 := hgrow'.size); clear hown' hgrow' hat' hkeep')
            | (at_builtin; (refine wpList_append_keep rfl _ _ 46 rfl w.heap.size 26 i0 (.slice none 0 0) 1 24 Tryz.underlying46 hi hz0 hz1 hz2 rfl (by decide) (.slice vo' k vc') k _ rfl (HVO2.out.alloc _) ⟨w2.heap.size, 0, none⟩ 1 1 [.slice no (x + 80) nc] rfl rfl (cell_one_new _ _ _) (one_cell_slice' _ _ _) (by unfold maxLen; omega) (by omega) (by simp; omega) ?_); intro v3 w4 hown3 hgrow3 hat3 hkeep3))
          have hI4 : GrowIn b w wo (w2.alloc (.cells #[.slice no (x + 80) nc] 26)) vs L outs k (.slice no (x + 80) nc) (L k + 96) := by
            have := HI2.out.up ((Up.refl w2).alloc (.cells #[.slice no (x + 80) nc] 26))
            rw [show x + 80 = L k + 96 by rw [HX.out, HN.out]] at this ⊢
            exact this
          have hG4 := hI4.out HOL.out (HVO2.out.alloc _) hgrow3 hkeep3
          have hol4 : (outs ++ [Value.slice no (x + 80) nc]).length = k + 1 := by rw [List.length_append, HOL.out]; rfl
          go_wp2_with fail
          go_roundw
          case rel => exact ⟨k + 1, _, by omega, by go_num, hol4, hown3, hG4⟩
          case measure => simp [intOf]; omega
    · obtain rfl : k = m := by omega
      go_wp2_with fail
      go_ret
      exact ⟨_, outs, rfl, by rw [hol, HM.out], by rw [← HM.out]; exact hvo, hG⟩

/-- Marks read as lists of two. -/
def markLists (i k0 n : Nat) : List (List Int) := (List.range n).map fun (k : Nat) => [-1 - (i : Int), ((k0 + k : Nat) : Int)]

theorem markLists_len (i k0 n : Nat) : (markLists i k0 n).length = n := by simp [markLists]
theorem markLists_get {i k0 n j : Nat} (h : j < n) : (markLists i k0 n).getD j [] = [-1 - (i : Int), ((k0 + j : Nat) : Int)] := by simp [markLists, List.getD, h]

theorem Mks.lst {b : Nat} {w : World} {base i k0 n : Nat} {v : Value} {xs : List Value} (ho : w.ownsRow base 34 1 v n xs) (h : Mks b w i k0 n xs) : LstR w v (markLists i k0 n) := by
  rcases owns_cases ho with ⟨rfl, rfl, _⟩ | ⟨g, cap, rfl, hr, _⟩
  · exact ⟨none, 0, 0, 0, rfl, fun h => by simp [markLists] at h, fun i hi => by simp [markLists] at hi⟩
  · refine ⟨_, cap, g, 0, by rw [markLists_len], fun _ => rfl, fun j hj => ?_⟩
    rw [markLists_len] at hj
    refine ⟨nth xs j, by rw [Nat.zero_add]; exact hr.cell (nth_get (by rw [h.1]; exact hj)), ?_⟩
    rw [markLists_get hj]
    exact owns_lst (h.2 j hj)

set_option maxHeartbeats 4000000 in
set_option maxRecDepth 100000 in
theorem markedRows_any {b : Nat} {w : World} {base : Nat} {vo : Value} {vs : List Value} {L : Nat → Nat} (hr : w.ownsRow base 26 1 vo vs.length vs) (he : MEls b w vs L) (hm : vs.length ≤ 400) (hL : ∀ i, i < vs.length → L i ≤ 1000000) :
    Calls Tryz.prog 102 #[vo] w fun r w' => r = .returned (.bool true) ∧ Up w w' := by
  have hrow : ∃ ao ci g, vo = .slice ao vs.length ci ∧ ∀ i, i < vs.length → ao = some ⟨g, 0, none⟩ ∧ w.cell? ⟨g, i, none⟩ = some (nth vs i) := by
    rcases owns_cases hr with ⟨rfl, h0, _⟩ | ⟨g, ci, rfl, hr, _⟩
    · exact ⟨none, 0, 0, by rw [h0], fun i hi => by omega⟩
    · exact ⟨_, ci, g, rfl, fun i hi => ⟨rfl, hr.cell (nth_get hi)⟩⟩
  obtain ⟨ao, ci, g, rfl, hc⟩ := hrow
  obtain ⟨m, hmm⟩ : ∃ m, m = vs.length := ⟨_, rfl⟩
  have HM := Lib.hid hmm
  have HL := Lib.hid hL
  have HC := Lib.hid hc
  have HE := Lib.hid he
  rw [← hmm] at hm ⊢
  clear hr he hmm hL hc
  go_enter Tryz.func102, Tryz.ntmps102
  go_wp2_with fail
  go_loopw [3] (fun i wr => ∃ k : Nat, k ≤ m ∧ i = .int .i64 k ∧ Up w wr) (fun i _ => m - (intOf i).toNat)
  case atStart => exact ⟨0, Nat.zero_le _, rfl, Up.refl w⟩
  case round =>
    obtain ⟨k, hk, rfl, hup⟩ := hrel
    by_cases hlt : k < m
    · have hkv : k < vs.length := by rw [← HM.out]; exact hlt
      obtain ⟨rfl, d1⟩ := HC.out k hkv
      have hLk := HL.out k hkv
      obtain ⟨es, hel, hem⟩ := HE.out k hkv
      obtain ⟨n, hn⟩ : ∃ n, n = L k := ⟨_, rfl⟩
      rw [← hn] at hel hem hLk
      have hlr := Mks.lst hel hem
      obtain ⟨eo, ec, hev⟩ := owns_shape' hel
      rw [hev] at d1 hlr
      have qk : (k : Int) < (m : Int) := by omega
      have e1 := hup.cell d1
      have HD := Lib.hid d1
      have HS : Hid (∀ w1 v, Up wr w1 → LstR w1 v (markLists k 0 n) → Calls Tryz.prog 20 #[.slice eo n ec, v] w1 (Same w1 true)) := fun w1 v hu hv => sameRows_same (by rw [markLists_len]; omega) (fun i hi => by rw [markLists_len] at hi; rw [markLists_get hi]; simp) (hlr.up (hup.trans hu)) hv
      clear hn hel hem hlr hev d1
      go_wp2_with fail
      go_region_held3 (fun w => w.cell? ⟨g, k, none⟩ = some (.slice eo n ec)) (first | assumption) (first
        | (go_at_call 147; refine (markRows_any k 0 n _ (by omega) (by omega) hLk).mono ?_; rintro r w1 ⟨mv, ms, rfl, hmo, hms, hup1⟩; (have hu1 : Up wr w1 := Up.trans (by repeat (first | (with_reducible exact Up.refl _) | assumption | (with_reducible apply Up.drewN) | (with_reducible apply Up.drew))) hup1); (have e2 := hu1.cell e1))
        | (go_at_call 20; (with_reducible refine (HS.out _ mv ?_ ?_).mono ?_); (repeat (first | (with_reducible exact Up.refl _) | assumption | (with_reducible apply Up.drewN) | (with_reducible apply Up.drew))); (refine (Mks.lst hmo hms).up ?_; repeat (first | (with_reducible exact Up.refl _) | assumption | (with_reducible apply Up.drewN) | (with_reducible apply Up.drew))); rintro r w2 ⟨rfl, q2, hq2⟩; (have hu2 : Up wr w2 := by (rw [hq2]; repeat (first | (with_reducible exact Up.refl _) | assumption | (with_reducible apply Up.drewN) | (with_reducible apply Up.drew)))); (have e3 := hu2.cell e1); clear hq2))
      go_wp2_with fail
      go_roundw
      case rel => exact ⟨k + 1, by omega, by go_num, by repeat (first | exact hup.trans hu2 | (with_reducible apply Up.drewN) | (with_reducible apply Up.drew))⟩
      case measure => simp [intOf]; omega
    · obtain rfl : k = m := by omega
      go_wp2_with fail
      go_ret
      exact ⟨rfl, hup⟩

/-- Slices of slices that read, each, as some list of lists. -/
def Rds (w : World) (vs us : List Value) : Prop := ∀ i, i < vs.length → ∃ rows, rows.length ≤ 1000000 ∧ (∀ j, j < rows.length → (rows.getD j []).length ≤ 1000000) ∧ LstR w (nth vs i) rows ∧ LstR w (nth us i) rows

set_option maxHeartbeats 4000000 in
set_option maxRecDepth 100000 in
theorem stillRows_any {w : World} {bk base : Nat} {vi vw : Value} {vs us : List Value} (c0 : w.cell? ⟨bk, 16, none⟩ = some vi) (c1 : w.cell? ⟨bk, 17, none⟩ = some vw) (hr : w.ownsRow base 26 1 vi vs.length vs) (hu : w.ownsRow base 26 1 vw vs.length us) (hul : us.length = vs.length)
    (he : Rds w vs us) (hm : vs.length ≤ 400) :
    Calls Tryz.prog 69 #[.pointer (some ⟨bk, 0, none⟩)] w fun r w' => r = .returned (.bool true) ∧ Up w w' := by
  have hrow : ∃ ao ci g, vi = .slice ao vs.length ci ∧ ∀ i, i < vs.length → ao = some ⟨g, 0, none⟩ ∧ w.cell? ⟨g, i, none⟩ = some (nth vs i) := by
    rcases owns_cases hr with ⟨rfl, h0, _⟩ | ⟨g, ci, rfl, hr, _⟩
    · exact ⟨none, 0, 0, by rw [h0], fun i hi => by omega⟩
    · exact ⟨_, ci, g, rfl, fun i hi => ⟨rfl, hr.cell (nth_get hi)⟩⟩
  have hrow2 : ∃ ao ci g, vw = .slice ao vs.length ci ∧ ∀ i, i < vs.length → ao = some ⟨g, 0, none⟩ ∧ w.cell? ⟨g, i, none⟩ = some (nth us i) := by
    rcases owns_cases hu with ⟨rfl, h0, _⟩ | ⟨g, ci, rfl, hr, _⟩
    · exact ⟨none, 0, 0, by rw [h0], fun i hi => by omega⟩
    · exact ⟨_, ci, g, rfl, fun i hi => ⟨rfl, hr.cell (nth_get (by rw [hul]; exact hi))⟩⟩
  obtain ⟨ao, ci, g, rfl, hc⟩ := hrow
  obtain ⟨bo, di, g', rfl, hd⟩ := hrow2
  obtain ⟨m, hmm⟩ : ∃ m, m = vs.length := ⟨_, rfl⟩
  have HM := Lib.hid hmm
  have HC := Lib.hid hc
  have HD := Lib.hid hd
  have HE := Lib.hid he
  rw [← hmm] at hm c0 c1
  clear hr hu he hmm hc hd hul
  go_enter Tryz.func69, Tryz.ntmps69
  go_wp2_with fail
  go_loopw [3] (fun i wr => ∃ (k q : Nat), k ≤ m ∧ i = .int .i64 k ∧ wr = w.drewN q) (fun i _ => m - (intOf i).toNat)
  case atStart => exact ⟨0, 0, Nat.zero_le _, rfl, rfl⟩
  case round =>
    obtain ⟨k, q, hk, rfl, rfl⟩ := hrel
    by_cases hlt : k < m
    · have hkv : k < vs.length := by rw [← HM.out]; exact hlt
      obtain ⟨rfl, d1⟩ := HC.out k hkv
      obtain ⟨rfl, d2⟩ := HD.out k hkv
      obtain ⟨rows, r1, r2, hel, hfl⟩ := HE.out k hkv
      have HS : Hid (∀ w1, Up w w1 → Calls Tryz.prog 20 #[nth vs k, nth us k] w1 (Same w1 true)) := fun w1 hu => sameRows_same r1 r2 (hel.up hu) (hfl.up hu)
      obtain ⟨eo, ec, _, _, hev, -, -⟩ := hel
      obtain ⟨fo, fc, _, _, hfv, -, -⟩ := hfl
      rw [hev] at d1 HS
      rw [hfv] at d2 HS
      obtain ⟨n, hn⟩ : ∃ n, n = rows.length := ⟨_, rfl⟩
      rw [← hn] at d1 d2 HS
      have qk : (k : Int) < (m : Int) := by omega
      clear hn hev hfv r1 r2
      go_wp2_with fail
      go_quiet ((go_at_call 20; first | exact quiet_same (HS.out _ (by repeat (first | (with_reducible exact Up.refl _) | (with_reducible apply Up.drewN) | (with_reducible apply Up.drew)))) | exact quiet_same_add (HS.out _ (by repeat (first | (with_reducible exact Up.refl _) | (with_reducible apply Up.drewN) | (with_reducible apply Up.drew))))))
      go_wp2_with fail
      go_roundw
      case rel => exact ⟨k + 1, _, by omega, by go_num, rfl⟩
      case measure => simp [intOf]; omega
    · obtain rfl : k = m := by omega
      go_wp2_with fail
      go_ret
      exact ⟨rfl, (Up.refl w).drewN q⟩

end Go.Proofs.YtpmdjicaefmbnaaGreatDoor.Rw
