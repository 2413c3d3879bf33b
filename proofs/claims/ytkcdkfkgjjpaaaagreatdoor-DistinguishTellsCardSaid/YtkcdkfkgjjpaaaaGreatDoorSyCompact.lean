/- Walks: slices.Clone at edges, at steps, at integers. Printed by mkcompact.py. Walk: slices.Compact at edges. -/
import Derived.Test.YtkcdkfkgjjpaaaaGreatDoorSyMem
import Derived.WalkLawsBesides
import Derived.Laws.StructEq
import Derived.BigRegion
import Derived.Laws.IdiomCopy
import Derived.StillTailTactics

namespace Go.Proofs.YtkcdkfkgjjpaaaaGreatDoor
open Go.RowKit Go.Sort
set_option linter.unusedVariables false
set_option linter.unusedSimpArgs false

/-- What a clone leaves: a slice of the call's own. -/
def Cloned (e : TypeId) (size n : Nat) (xs : List Value) (w : World) (r : Ending) (w' : World) : Prop := ∃ v', r = .returned v' ∧ w'.ownsRow w.heap.size e size v' n xs ∧ Below w.heap.size w w'

theorem owns_empty (w : World) (e : TypeId) (size : Nat) : (w.alloc (.cells #[] e)).ownsRow w.heap.size e size (.slice (some ⟨w.heap.size, 0, none⟩) 0 0) 0 [] :=
  ⟨by simp, .inr ⟨w.heap.size, 0, #[], rfl, Nat.le_refl _, heap_alloc_new w _, Nat.le_refl _, by simp [maxLen], by simp, by simp⟩⟩

theorem Addr_add_plain (b o i : Nat) : (⟨b, o, none⟩ : Addr).add i = ⟨b, o + i, none⟩ := by
  unfold Addr.add
  split
  · rename_i h; subst h; rfl
  · rfl

/-- Integers as cells. -/
def ivs (l : List Int) : List Value := l.map (Value.int .i64)
theorem ivs_len (l : List Int) : (ivs l).length = l.length := by simp [ivs]
theorem ivs_one (l : List Int) : ∀ u ∈ ivs l, u.oneCell' = true := by
  intro u hu
  obtain ⟨_, _, rfl⟩ := List.mem_map.1 hu
  rfl
theorem ivs_at {w : World} {g off : Nat} {xs : List Int} (h : IntsAt w g off xs) : ∀ j u, (ivs xs)[j]? = some u → w.cell? ((⟨g, off, none⟩ : Addr).add j) = some u := by
  intro j u hj
  have hjl : j < xs.length := by have := (List.getElem?_eq_some_iff.1 hj).1; rwa [ivs_len] at this
  rw [show (ivs xs)[j]? = some (.int .i64 (xs.getD j 0)) by simp [ivs, hjl], Option.some.injEq] at hj
  rw [← hj, Addr_add_plain]
  exact h j hjl

theorem cells2_at {w : World} {g off : Nat} {l : List (Int × Int)} (h : Twos w g off l) : ∀ j u, (cells2 l)[j]? = some u → w.cell? ((⟨g, off, none⟩ : Addr).add j) = some u := by
  intro j u hj
  have hjl : j < l.length * 2 := by have := (List.getElem?_eq_some_iff.1 hj).1; rwa [cells2_len] at this
  rw [Addr_add_plain]
  obtain ⟨i, c, hc, rfl⟩ : ∃ i c, c < 2 ∧ j = i * 2 + c := ⟨j / 2, j % 2, by omega, by omega⟩
  have g1 := cells2_get l i (by omega)
  have g2 := h i (by omega)
  match c, hc with
  | 0, _ => rw [Nat.add_zero, g1.1, Option.some.injEq] at hj; rw [← hj]; exact g2.1
  | 1, _ => rw [g1.2, Option.some.injEq] at hj; rw [← hj, ← Nat.add_assoc]; exact g2.2

theorem cells3_at {w : World} {g off : Nat} {l : List Sy.Edge} (h : Tris w g off l) : ∀ j u, (cells3 l)[j]? = some u → w.cell? ((⟨g, off, none⟩ : Addr).add j) = some u := by
  intro j u hj
  have hjl : j < l.length * 3 := by have := (List.getElem?_eq_some_iff.1 hj).1; rwa [cells3_len] at this
  rw [Addr_add_plain]
  obtain ⟨i, c, hc, rfl⟩ : ∃ i c, c < 3 ∧ j = i * 3 + c := ⟨j / 3, j % 3, by omega, by omega⟩
  have g1 := cells3_get l i (by omega)
  have g2 := h i (by omega)
  match c, hc with
  | 0, _ => rw [Nat.add_zero, g1.1, Option.some.injEq] at hj; rw [← hj]; exact g2.1
  | 1, _ => rw [g1.2.1, Option.some.injEq] at hj; rw [← hj, ← Nat.add_assoc]; exact g2.2.1
  | 2, _ => rw [g1.2.2, Option.some.injEq] at hj; rw [← hj, ← Nat.add_assoc]; exact g2.2.2

theorem Tryz.edgesInfo : (Tryz.prog.info? 67).map (fun i => (i.zero, i.size, i.bytes)) = some (some (.agg #[.int .i64 0, .int .i64 0, .int .i64 0]), 3, 24) := by kernel_rfl

set_option maxHeartbeats 2000000 in
set_option maxRecDepth 100000 in
theorem clone_edges {xs : List Sy.Edge} {v : Value} {w : World} (hv : Ls3 w v xs) (hm : xs.length ≤ 1000000) :
    Calls Tryz.prog 36 #[v] w (Cloned 67 3 xs.length (cells3 xs) w) := by
  obtain ⟨i0, hi, hz0, hz1, hz2⟩ := info_parts Tryz.edgesInfo
  have hq := Lib.run_eql_slice_nil (P := Tryz.prog)
  obtain ⟨ao, cap, g, off, rfl, ha, hx⟩ := hv
  cases ao with
  | none =>
    obtain rfl : xs = [] := List.eq_nil_of_length_eq_zero (by
      rcases Nat.eq_zero_or_pos xs.length with h | h
      · exact h
      · exact absurd (ha h) (by simp))
    have hq1 := fun w => hq w 25 67 none 0 cap 0 0 Tryz.underlying25
    clear hx ha hm hq
    simp only [List.length_nil]
    go_enter Tryz.func36, Tryz.ntmps36
    go_wp2_with fail
    go_ret
    exact ⟨_, rfl, World.ownsRow_nil _ _ _ _, Below.refl _ _⟩
  | some a =>
    have hq1 := fun w => hq w 25 67 (some a) xs.length cap 0 0 Tryz.underlying25
    have hat : ∀ j u, (cells3 xs)[j]? = some u → (w.alloc (.cells #[] 67)).cell? (a.add j) = some u := by
      intro j u hj
      have hl : 0 < xs.length := by
        have := (List.getElem?_eq_some_iff.1 hj).1
        rw [cells3_len] at this; omega
      have := ha hl
      simp only [Option.some.injEq] at this
      subst this
      exact ((Up.refl w).alloc _).cell (cells3_at hx j u hj)
    have hlen := cells3_len xs
    have HL := Lib.hid hlen
    have HAT := Lib.hid hat
    obtain ⟨n, hn⟩ : ∃ n, n = xs.length := ⟨_, rfl⟩
    rw [← hn] at hm hq1 ⊢
    have HN := Lib.hid hn
    clear hx ha hq hat hlen hn
    go_enter Tryz.func36, Tryz.ntmps36
    go_wp2_with (at_builtin; refine wpList_append_own _ rfl _ _ 25 rfl w.heap.size 67 i0 (.agg #[.int .i64 0, .int .i64 0, .int .i64 0]) 3 24 Tryz.underlying25 hi hz0 hz1 hz2 rfl (by decide) _ _ _ rfl (owns_empty w _ _) a n cap (cells3 xs) rfl (by rw [HL.out, HN.out]) HAT.out (cells3_one xs) (by unfold maxLen; omega) (by omega) (by simp) ?_; intro v1 w1 hown1 hgrow1 _)
    go_ret
    refine ⟨v1, rfl, by simpa using hown1, ?_⟩
    exact ((Below.refl _ _).alloc (Nat.le_refl _) _).grown hgrow1 (by simp) (fun k hk => by cases hk; exact Nat.le_refl _)

theorem Tryz.stepsInfo : (Tryz.prog.info? 92).map (fun i => (i.zero, i.size, i.bytes)) = some (some (.agg #[.int .i64 0, .int .i64 0]), 2, 16) := by kernel_rfl

theorem Tryz.intsInfo : (Tryz.prog.info? 3).map (fun i => (i.zero, i.size, i.bytes)) = some (some (.int .i64 0), 1, 8) := by kernel_rfl

set_option maxHeartbeats 2000000 in
set_option maxRecDepth 100000 in
theorem clone_ints {xs : List Int} {v : Value} {w : World} (hv : Lst w v xs) (hm : xs.length ≤ 1000000) :
    Calls Tryz.prog 154 #[v] w (Cloned 3 1 xs.length (ivs xs) w) := by
  obtain ⟨i0, hi, hz0, hz1, hz2⟩ := info_parts Tryz.intsInfo
  have hq := Lib.run_eql_slice_nil (P := Tryz.prog)
  obtain ⟨ao, cap, g, off, rfl, ha, hx⟩ := hv
  cases ao with
  | none =>
    obtain rfl : xs = [] := List.eq_nil_of_length_eq_zero (by
      rcases Nat.eq_zero_or_pos xs.length with h | h
      · exact h
      · exact absurd (ha h) (by simp))
    have hq1 := fun w => hq w 35 3 none 0 cap 0 0 Tryz.underlying35
    clear hx ha hm hq
    simp only [List.length_nil]
    go_enter Tryz.func154, Tryz.ntmps154
    go_wp2_with fail
    go_ret
    exact ⟨_, rfl, World.ownsRow_nil _ _ _ _, Below.refl _ _⟩
  | some a =>
    have hq1 := fun w => hq w 35 3 (some a) xs.length cap 0 0 Tryz.underlying35
    have hat : ∀ j u, (ivs xs)[j]? = some u → (w.alloc (.cells #[] 3)).cell? (a.add j) = some u := by
      intro j u hj
      have hl : 0 < xs.length := by
        have := (List.getElem?_eq_some_iff.1 hj).1
        rw [ivs_len] at this; omega
      have := ha hl
      simp only [Option.some.injEq] at this
      subst this
      exact ((Up.refl w).alloc _).cell (ivs_at hx j u hj)
    have hlen := ivs_len xs
    have HL := Lib.hid hlen
    have HAT := Lib.hid hat
    obtain ⟨n, hn⟩ : ∃ n, n = xs.length := ⟨_, rfl⟩
    rw [← hn] at hm hq1 ⊢
    have HN := Lib.hid hn
    clear hx ha hq hat hlen hn
    go_enter Tryz.func154, Tryz.ntmps154
    go_wp2_with (at_builtin; refine wpList_append_own _ rfl _ _ 35 rfl w.heap.size 3 i0 (.int .i64 0) 1 8 Tryz.underlying35 hi hz0 hz1 hz2 rfl (by decide) _ _ _ rfl (owns_empty w _ _) a n cap (ivs xs) rfl (by rw [HL.out, HN.out]; omega) HAT.out (ivs_one xs) (by unfold maxLen; omega) (by omega) (by simp) ?_; intro v1 w1 hown1 hgrow1 _)
    go_ret
    refine ⟨v1, rfl, by simpa using hown1, ?_⟩
    exact ((Below.refl _ _).alloc (Nat.le_refl _) _).grown hgrow1 (by simp) (fun k hk => by cases hk; exact Nat.le_refl _)

end Go.Proofs.YtkcdkfkgjjpaaaaGreatDoor

namespace Go.Proofs.YtkcdkfkgjjpaaaaGreatDoor
open Go.RowKit Go.Sort
set_option linter.unusedVariables false
set_option linter.unusedSimpArgs false

theorem edge_eq (a b c d e f : Int) (w : World) : (Op.equalIn 10000 67 (.agg #[.int .i64 a, .int .i64 b, .int .i64 c]) (.agg #[.int .i64 d, .int .i64 e, .int .i64 f])).run Tryz.prog w = .ok (a == d && (b == e && c == f)) w := by
  have u3 := Tryz.underlying3
  have a3 := Tryz.isAgg3
  have z3 := Tryz.sizeOf3
  have hS : Tryz.prog.underlying 67 = some (.struct (Tryz.prog.fieldsOf 67)) := by kernel_rfl
  rw [show (10000 : Nat) = 9999 + 1 from rfl, run_equalIn_agg w 9999 67 _ _ hS (by kernel_rfl)]
  simp only [Program.fieldsOf, Tryz.underlying67]
  go_simp
  by_cases h1 : a = d <;> by_cases h2 : b = e <;> by_cases h3 : c = f <;> simp [h1, h2, h3]

theorem getD_lt {α : Type} {l : List α} {i : Nat} {d x : α} (h : l.getD i d = x) (hi : i < l.length) : l[i]? = some x := by
  rw [← h]; simp [List.getD, hi]

theorem tri_at {w : World} {g c : Nat} {e : TypeId} {m : List Sy.Edge} (h : Row w g e c (cells3 m)) (i j : Nat) (hj : j = i * 3) (hi : i < m.length) (x1 x2 x3 : Int) (hx : m.getD i (0, 0, 0) = (x1, x2, x3)) :
    w.cell? ⟨g, j, none⟩ = some (.int .i64 x1) ∧ w.cell? ⟨g, j + 1, none⟩ = some (.int .i64 x2) ∧ w.cell? ⟨g, j + 2, none⟩ = some (.int .i64 x3) := by
  subst hj
  have hc := cells3_get m i hi
  rw [hx] at hc
  exact ⟨h.cell hc.1, h.cell hc.2.1, h.cell hc.2.2⟩

theorem cells3_set : ∀ (m : List Sy.Edge) (i : Nat) (x1 x2 x3 : Int), cells3 (m.set i (x1, x2, x3)) = (((cells3 m).set (i * 3) (.int .i64 x1)).set (i * 3 + 1) (.int .i64 x2)).set (i * 3 + 2) (.int .i64 x3)
  | [], i, _, _, _ => by simp [cells3]
  | y :: m, 0, x1, x2, x3 => by simp [cells3, tri]
  | y :: m, i + 1, x1, x2, x3 => by
    have ih := cells3_set m i x1 x2 x3
    rw [show (i + 1) * 3 = i * 3 + 3 by omega]
    simp only [cells3, List.set_cons_succ, List.flatMap_cons] at ih ⊢
    rw [ih]
    simp [tri]

theorem tri_set {w : World} {g c : Nat} {e : TypeId} {m : List Sy.Edge} (h : Row w g e c (cells3 m)) (i j : Nat) (hj : j = i * 3) (x1 x2 x3 : Int) :
    Row (((w.setCell ⟨g, j, none⟩ (.int .i64 x1)).setCell ⟨g, j + 1, none⟩ (.int .i64 x2)).setCell ⟨g, j + 2, none⟩ (.int .i64 x3)) g e c (cells3 (m.set i (x1, x2, x3))) := by
  subst hj
  rw [cells3_set]
  exact ((h.set _ _).set _ _).set _ _

/-- A row of which a part from a place on was written over keeps what stands ahead of it. -/
theorem Row.setCells {g cap : Nat} {e : TypeId} : ∀ (vs : List Value) (o : Nat) {w : World} {xs : List Value}, Row w g e cap xs → o ≤ xs.length → Row (w.setCells g o vs) g e cap (xs.take o)
  | [], o, w, xs, h, ho => by
    obtain ⟨cur, hg, hs, hl, ht⟩ := h
    refine ⟨cur, hg, hs, by rw [List.length_take]; omega, ?_⟩
    rw [List.length_take, Nat.min_eq_left ho, ← ht, List.take_take, Nat.min_eq_left (by rw [← ht] at ho; simp at ho; omega)]
  | v :: vs, o, w, xs, h, ho => by
    have h1 := h.set o v
    by_cases he : o < xs.length
    · have h2 := Row.setCells vs (o + 1) h1 (by rw [List.length_set]; omega)
      obtain ⟨cur, hg, hs, hl, ht⟩ := h2
      have e1 : ((xs.set o v).take (o + 1)).take o = xs.take o := by
        rw [List.take_take, Nat.min_eq_left (by omega), List.take_set, List.set_eq_of_length_le (by rw [List.length_take]; omega)]
      have e2 : (xs.take o).length = o := by rw [List.length_take]; omega
      have e3 : ((xs.set o v).take (o + 1)).length = o + 1 := by rw [List.length_take, List.length_set]; omega
      refine ⟨cur, hg, hs, by rw [e2]; rw [e3] at hl; omega, ?_⟩
      rw [e3] at ht
      rw [e2, ← e1, ← ht, List.take_take, Nat.min_eq_left (by omega)]
    · have e : o = xs.length := by omega
      subst e
      have e4 : xs.set xs.length v = xs := List.set_eq_of_length_le (Nat.le_refl _)
      rw [e4] at h1
      rw [List.take_length]
      exact Row.setCells_past vs h1
where
  Row.setCells_past {g cap : Nat} {e : TypeId} {xs : List Value} : ∀ (vs : List Value) {w : World}, Row w g e cap xs → Row (w.setCells g (xs.length + 1) vs) g e cap xs := by
    suffices h : ∀ (vs : List Value) (o : Nat) {w : World}, xs.length ≤ o → Row w g e cap xs → Row (w.setCells g o vs) g e cap xs from fun vs w hr => h vs _ (by omega) hr
    intro vs
    induction vs with
    | nil => intro o w _ hr; exact hr
    | cons v vs ih =>
      intro o w ho hr
      refine ih (o + 1) (by omega) ?_
      have := hr.set o v
      rwa [List.set_eq_of_length_le ho] at this

theorem setCells_turned {S : Nat → Prop} {w0 : World} (g : Nat) (hS : S g) : ∀ (vs : List Value) (o : Nat) {w : World}, Turned S w0 w → Turned S w0 (w.setCells g o vs)
  | [], _, _, h => h
  | v :: vs, o, _, h => setCells_turned g hS vs (o + 1) (h.setCell (p := ⟨g, o, none⟩) (.inl hS) v)

/-- clear of structs of integers. -/
theorem run_clear_agg {P : Program} (w : World) (t e ty : TypeId) (z : Value) (k : Nat) (ht : P.underlying t = some (.slice e)) (hv : ∀ w, (zeroValue e).run P w = .ok z w) (hz : z.cells = Array.replicate k (.int .i64 0)) (hk : 0 < k) (b o n c : Nat) (hn : 0 < n)
    (hc : ∀ j, j < n * k → (w.cell? ⟨b, o + j, none⟩).isSome = true) (hf : ∀ j, j < n * k → w.frozen? ⟨b, o + j, none⟩ = false) :
    (Builtin.clear_ #[t] ty #[.slice (some ⟨b, o, none⟩) n c]).run P w = .ok (.tuple #[]) (w.setCells b o (List.replicate (n * k) (.int .i64 0))) := by
  have hzc : (Builtin.zeroCells z.cells n).toList = List.replicate (n * k) (.int .i64 0) := by
    rw [hz]
    simp [Builtin.zeroCells]
    apply List.ext_getElem
    · simp
    · intro i h1 h2
      have hmod := Nat.mod_lt i hk
      simp [hmod]
  have hst := run_storeCells_cells (P := P) b o (List.replicate (n * k) (.int .i64 0)) 0 w (by simpa using hc) (by simpa using hf) (by intro v hv'; rw [List.eq_of_mem_replicate hv']; rfl)
  simp only [Nat.add_zero] at hst
  obtain ⟨m, rfl⟩ : ∃ m, n = m + 1 := ⟨n - 1, by omega⟩
  simp [Builtin.clear_, run_underlying ht, hv, hzc, hst]

theorem zero_edge (w : World) : (zeroValue 67).run Tryz.prog w = .ok (.agg #[.int .i64 0, .int .i64 0, .int .i64 0]) w := by kernel_rfl

theorem cells3_take : ∀ (m : List Sy.Edge) (i : Nat), cells3 (m.take i) = (cells3 m).take (i * 3)
  | [], i => by simp [cells3]
  | y :: m, 0 => by simp [cells3]
  | y :: m, i + 1 => by
    have ih := cells3_take m i
    rw [show (i + 1) * 3 = i * 3 + 3 by omega]
    simp only [cells3, List.take_succ_cons, List.flatMap_cons] at ih ⊢
    rw [ih]
    simp [tri]

/-- What Compact leaves: a row's first elements, each once. -/
def Compacted (e : TypeId) (k : Nat) (w : World) (g cap : Nat) (n : Nat) (xs : List Value) (r : Ending) (w' : World) : Prop :=
  r = .returned (.slice (some ⟨g, 0, none⟩) n cap) ∧ n ≤ cap ∧ Row w' g e (cap * k) xs ∧ Turned (fun j => j = g) w w'

set_option maxHeartbeats 8000000 in
set_option maxRecDepth 100000 in
theorem compact_edges (g cap : Nat) (l : List Sy.Edge) (w : World) (hr : Row w g 67 (cap * 3) (cells3 l)) (hn : l.length ≤ cap) (hm : l.length ≤ 1000000) (hcap : cap ≤ maxLen) :
    Calls Tryz.prog 162 #[.slice (some ⟨g, 0, none⟩) l.length cap] w (Compacted 67 3 w g cap (Sy.cpt l).length (cells3 (Sy.cpt l))) := by
  obtain ⟨n, hln⟩ : ∃ n, n = l.length := ⟨_, rfl⟩
  rw [← hln] at hn hm ⊢
  have HLN := Lib.hid hln
  have HR := Lib.hid hr
  unfold maxLen at hcap
  clear hln hr
  by_cases h2 : n < 2
  · have he : Hid (Sy.cpt l = l) := Lib.hid (by
      match l, HLN.out with
      | [], _ => rfl
      | [x], _ => rfl
      | _ :: _ :: _, h => simp at h; omega)
    go_enter Tryz.func162, Tryz.ntmps162
    go_wp2_with fail
    go_ret
    exact ⟨by rw [he.out, ← HLN.out]; rfl, by rw [he.out, ← HLN.out]; exact hn, by rw [he.out]; exact HR.out, Turned.refl _ _⟩
  · go_enter Tryz.func162, Tryz.ntmps162
    go_wp2_with fail
    go_loopw [3] (fun s3 wr => ∃ k q : Nat, s3 = .int .i64 k ∧ 1 ≤ k ∧ k ≤ n ∧ wr = w.drewN q ∧ Hid (Sy.cpt (l.take k) = l.take k)) (fun s3 _ => n - (intOf s3).toNat)
    case atStart => exact ⟨1, 0, rfl, Nat.le_refl _, by omega, rfl, Lib.hid (Sy.cpt_one l (by rw [← HLN.out]; omega))⟩
    case round =>
      obtain ⟨k, q, rfl, hk1, hkn, rfl, HK⟩ := hrel
      by_cases hlt : k < n
      · obtain ⟨x, hx⟩ : ∃ x, l.getD k (0, 0, 0) = x := ⟨_, rfl⟩
        obtain ⟨y, hy⟩ : ∃ y, l.getD (k - 1) (0, 0, 0) = y := ⟨_, rfl⟩
        obtain ⟨x1, x2, x3⟩ := x
        obtain ⟨y1, y2, y3⟩ := y
        have hkl : k < l.length := by rw [← HLN.out]; exact hlt
        obtain ⟨c1, c2, c3⟩ := tri_at HR.out k (k * 3) rfl hkl x1 x2 x3 hx
        obtain ⟨d1, d2, d3⟩ := tri_at HR.out (k - 1) ((k - 1) * 3) rfl (by omega) y1 y2 y3 hy
        have HX := Lib.hid hx
        have HY := Lib.hid hy
        have HKL := Lib.hid hkl
        have he := edge_eq x1 x2 x3 y1 y2 y3
        clear hx hy hkl
        by_cases hdup : (x1, x2, x3) = (y1, y2, y3)
        · have HE : Hid (l.getD k (0, 0, 0) = l.getD (k - 1) (0, 0, 0)) := Lib.hid (by rw [HX.out, HY.out, hdup])
          simp only [Prod.mk.injEq] at hdup
          obtain ⟨rfl, rfl, rfl⟩ := hdup
          simp only [beq_self_eq_true, Bool.and_self] at he
          go_wp2_with fail
          go_quiet (fail)
          go_wp2_with fail
          clear he c1 c2 c3 d1 d2 d3
          obtain ⟨q1, hq1⟩ : ∃ q1, w.drewN q1 = (w.drewN q).drew := ⟨q + 1, rfl⟩
          go_loopw [3, 5] (fun s3 s5 wr => ∃ (kk k2 : Nat) (m : List Sy.Edge), s3 = .int .i64 kk ∧ s5 = .int .i64 k2 ∧ 1 ≤ k2 ∧ k + k2 ≤ n ∧ Row wr g 67 (cap * 3) (cells3 m) ∧ Turned (fun j => j = g) w wr ∧ Hid (Sy.CptInv (0, 0, 0) l m (k + k2) kk)) (fun _ s5 _ => n - (intOf s5).toNat)
          case atStart => exact ⟨k, 1, l, rfl, rfl, Nat.le_refl _, by omega, HR.out, Turned.drewN (Turned.refl _ _) _, Lib.hid (Sy.CptInv.start HK.out hk1 HKL.out HE.out)⟩
          case round =>
            obtain ⟨kk, k2, m, rfl, rfl, h1, hle, hrow, hT, HI⟩ := hrel
            have hml : m.length = n := by rw [HI.out.len, HLN.out]
            have hkk := HI.out.lt
            by_cases hlt2 : k + k2 < n
            · obtain ⟨u, hu⟩ : ∃ u, l.getD (k + k2) (0, 0, 0) = u := ⟨_, rfl⟩
              obtain ⟨v, hv⟩ : ∃ v, l.getD (k + k2 - 1) (0, 0, 0) = v := ⟨_, rfl⟩
              obtain ⟨u1, u2, u3⟩ := u
              obtain ⟨v1, v2, v3⟩ := v
              obtain ⟨c1, c2, c3⟩ := tri_at hrow (k + k2) (k * 3 + k2 * 3) (by omega) (by omega) u1 u2 u3 (by rw [HI.out.high _ (by omega)]; exact hu)
              obtain ⟨d1, d2, d3⟩ := tri_at hrow (k + k2 - 1) (k * 3 + (k2 - 1) * 3) (by omega) (by omega) v1 v2 v3 (by rw [HI.out.high _ (by omega)]; exact hv)
              obtain ⟨o, ho⟩ : ∃ o, m.getD kk (0, 0, 0) = o := ⟨_, rfl⟩
              obtain ⟨o1, o2, o3⟩ := o
              obtain ⟨e1, e2, e3⟩ := tri_at hrow kk (kk * 3) rfl (by omega) o1 o2 o3 ho
              have f1 := hrow.free (kk * 3)
              have f2 := hrow.free (kk * 3 + 1)
              have f3 := hrow.free (kk * 3 + 2)
              have HROW := Lib.hid hrow
              have HT := Lib.hid hT
              have HU := Lib.hid hu
              have HV := Lib.hid hv
              have he := edge_eq u1 u2 u3 v1 v2 v3
              clear hu hv ho hrow hT hml
              by_cases huv : (u1, u2, u3) = (v1, v2, v3)
              · have HE2 : Hid (l.getD (k + k2) (0, 0, 0) = l.getD (k + k2 - 1) (0, 0, 0)) := Lib.hid (by rw [HU.out, HV.out, huv])
                simp only [Prod.mk.injEq] at huv
                obtain ⟨rfl, rfl, rfl⟩ := huv
                simp only [beq_self_eq_true, Bool.and_self] at he
                go_wp2_with fail
                go_quiet (fail)
                go_wp2_with fail
                go_roundw
                case rel => exact ⟨kk, k2 + 1, m, rfl, by go_num, by omega, by omega, HROW.out, Turned.drewN HT.out _, Lib.hid (HI.out.skip (by rw [← HLN.out]; omega) HE2.out)⟩
                case measure => simp [intOf]; omega
              · have hb : (u1 == v1 && (u2 == v2 && u3 == v3)) = false := by
                  cases hq : (u1 == v1 && (u2 == v2 && u3 == v3))
                  · rfl
                  · simp only [Bool.and_eq_true, beq_iff_eq] at hq
                    exact absurd (by rw [hq.1, hq.2.1, hq.2.2]) huv
                have HE2 : Hid (l.getD (k + k2) (0, 0, 0) ≠ l.getD (k + k2 - 1) (0, 0, 0)) := Lib.hid (by rw [HU.out, HV.out]; exact huv)
                rw [hb] at he
                clear hb huv
                go_wp2_with fail
                go_quiet (fail)
                go_wp2_with fail
                go_roundw
                case rel => exact ⟨kk + 1, k2 + 1, m.set kk (u1, u2, u3), by go_num, by go_num, by omega, by omega, tri_set (w := wr.drewN _) HROW.out kk (kk * 3) rfl u1 u2 u3, (((Turned.drewN HT.out _).setCell (.inl rfl) _).setCell (.inl rfl) _).setCell (.inl rfl) _, Lib.hid (by have := HI.out.keep (by rw [← HLN.out]; omega) HE2.out; rw [HU.out] at this; exact this)⟩
                case measure => simp [intOf]; omega
            · have hend : k + k2 = n := by omega
              have hk2 : kk < n := by omega
              obtain ⟨e1, e2⟩ := (show m.take kk = Sy.cpt l ∧ kk = (Sy.cpt l).length from Sy.CptInv.endd (by have := HI.out; rwa [hend, HLN.out] at this))
              have hall : ∀ j, j < (n - kk) * 3 → (wr.cell? ⟨g, kk * 3 + j, none⟩).isSome = true := fun j hj => by
                have hjl : kk * 3 + j < (cells3 m).length := by rw [cells3_len, hml]; omega
                rw [hrow.cell (List.getElem?_eq_getElem hjl)]; rfl
              have hcl : ∀ ty, (Builtin.clear_ #[25] ty #[.slice (some ⟨g, kk * 3, none⟩) (n - kk) (cap - kk)]).run Tryz.prog wr = .ok (.tuple #[]) (wr.setCells g (kk * 3) (List.replicate ((n - kk) * 3) (.int .i64 0))) :=
                fun ty => run_clear_agg wr _ _ ty _ 3 Tryz.underlying25 zero_edge rfl (by omega) g (kk * 3) (n - kk) _ (by omega) hall (fun j _ => hrow.free _)
              have HROW : Hid (Row (wr.setCells g (kk * 3) (List.replicate ((n - kk) * 3) (.int .i64 0))) g 67 (cap * 3) (cells3 (Sy.cpt l))) := Lib.hid (by
                have := hrow.setCells (List.replicate ((n - kk) * 3) (.int .i64 0)) (kk * 3) (by rw [cells3_len, hml]; omega)
                rwa [← cells3_take, e1] at this)
              have HT := Lib.hid (setCells_turned (S := fun j => j = g) g rfl (List.replicate ((n - kk) * 3) (.int .i64 0)) (kk * 3) hT)
              have HE2 := Lib.hid e2
              clear hall hrow hT hml e1 e2
              go_wp2
              go_ret
              exact ⟨by rw [← HE2.out]; rfl, by rw [← HE2.out]; omega, HROW.out, HT.out⟩
        · have hb : (x1 == y1 && (x2 == y2 && x3 == y3)) = false := by
            cases hq : (x1 == y1 && (x2 == y2 && x3 == y3))
            · rfl
            · simp only [Bool.and_eq_true, beq_iff_eq] at hq
              exact absurd (by rw [hq.1, hq.2.1, hq.2.2]) hdup
          have HE : Hid (l.getD k (0, 0, 0) ≠ l.getD (k - 1) (0, 0, 0)) := Lib.hid (by rw [HX.out, HY.out]; exact hdup)
          rw [hb] at he
          clear hb hdup
          go_wp2_with fail
          go_quiet (fail)
          go_wp2_with fail
          go_roundw
          case rel => exact ⟨k + 1, _, by go_num, by omega, by omega, rfl, Lib.hid (Sy.cpt_more (0, 0, 0) HK.out hk1 HKL.out HE.out)⟩
          case measure => simp [intOf]; omega
      · obtain rfl : k = n := by omega
        have he : Hid (Sy.cpt l = l) := Lib.hid (by have := HK.out; rw [HLN.out, List.take_length] at this; exact this)
        go_wp2_with fail
        go_ret
        exact ⟨by rw [he.out, ← HLN.out]; rfl, by rw [he.out, ← HLN.out]; exact hn, by rw [he.out]; exact HR.out, Turned.drewN (Turned.refl _ _) _⟩

theorem compact_edges_nil (w : World) : Calls Tryz.prog 162 #[.slice none 0 0] w fun r w' => r = .returned (.slice none 0 0) ∧ w = w' := by
  go_enter Tryz.func162, Tryz.ntmps162
  go_wp2_with fail
  go_ret
  exact ⟨rfl, rfl⟩

end Go.Proofs.YtkcdkfkgjjpaaaaGreatDoor
