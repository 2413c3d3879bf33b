/- Walks: slices.Clone at integers and at pairs; own. Printed by mkw5.py. -/
import Derived.Test.YtiiieailimphnaaGreatDoorTmW3
import Derived.StillTailTactics
import Derived.Deep.RegionWith
import Derived.Deep.RegionHeld3
namespace Go.Proofs.YtiiieailimphnaaGreatDoor
open Go.RowKit
set_option linter.unusedVariables false
set_option linter.unusedSimpArgs false

theorem Tryz.intInfo' : (Tryz.prog.info? 3).map (fun i => (i.zero, i.size, i.bytes)) = some (some (.int .i64 0), 1, 8) := by kernel_rfl
theorem Tryz.pairInfo : (Tryz.prog.info? 75).map (fun i => (i.zero, i.size, i.bytes)) = some (some (.agg #[.int .i64 0, .int .i64 0]), 2, 16) := by kernel_rfl

/-- What a clone leaves: a slice of the call's own. -/
def Cloned (e : TypeId) (size n : Nat) (xs : List Value) (w : World) (r : Ending) (w' : World) : Prop := ∃ v', r = .returned v' ∧ w'.ownsRow w.heap.size e size v' n xs ∧ Below w.heap.size w w'

theorem owns_empty (w : World) (e : TypeId) (size : Nat) : (w.alloc (.cells #[] e)).ownsRow w.heap.size e size (.slice (some ⟨w.heap.size, 0, none⟩) 0 0) 0 [] :=
  ⟨by simp, .inr ⟨w.heap.size, 0, #[], rfl, Nat.le_refl _, heap_alloc_new w _, Nat.le_refl _, by simp [maxLen], by simp, by simp⟩⟩

theorem Addr_add_plain (b o i : Nat) : (⟨b, o, none⟩ : Addr).add i = ⟨b, o + i, none⟩ := by
  unfold Addr.add
  split
  · rename_i h; subst h; rfl
  · rfl

theorem vals_at {w : World} {g off : Nat} {xs : List Int} (h : IntsAt w g off xs) : ∀ j u, (vals xs)[j]? = some u → w.cell? ((⟨g, off, none⟩ : Addr).add j) = some u := by
  intro j u hj
  have hjl : j < xs.length := by have := (List.getElem?_eq_some_iff.1 hj).1; rwa [vals_length] at this
  rw [vals_get hjl, Option.some.injEq] at hj
  rw [← hj, Addr_add_plain]
  exact h j hjl

theorem cellsP_at {w : World} {g off : Nat} {ps : List (Int × Int)} (h : PairsAt w g off ps) : ∀ j u, (cellsP ps)[j]? = some u → w.cell? ((⟨g, off, none⟩ : Addr).add j) = some u := by
  intro j u hj
  have hjl : j < ps.length * 2 := by have := (List.getElem?_eq_some_iff.1 hj).1; rwa [cellsP_length] at this
  rw [Addr_add_plain]
  rcases Nat.mod_two_eq_zero_or_one j with hm | hm
  · obtain ⟨i, rfl⟩ : ∃ i, j = i * 2 := ⟨j / 2, by omega⟩
    rw [cellsP_get0 ps i (by omega), Option.some.injEq] at hj
    rw [← hj]; exact (h i (by omega)).1
  · obtain ⟨i, rfl⟩ : ∃ i, j = i * 2 + 1 := ⟨j / 2, by omega⟩
    rw [cellsP_get1 ps i (by omega), Option.some.injEq] at hj
    rw [← hj, ← Nat.add_assoc]; exact (h i (by omega)).2

theorem clone_ints {xs : List Int} {v : Value} {w : World} (hv : Lst w v xs) (hm : xs.length ≤ 1000) :
    Calls Tryz.prog 111 #[v] w (Cloned 3 1 xs.length (vals xs) w) := by
  obtain ⟨i0, hi, hz0, hz1, hz2⟩ := info_parts Tryz.intInfo'
  have hq := Lib.run_eql_slice_nil (P := Tryz.prog)
  obtain ⟨ao, cap, g, off, rfl, ha, hx⟩ := hv
  cases ao with
  | none =>
    obtain rfl : xs = [] := List.eq_nil_of_length_eq_zero (by
      rcases Nat.eq_zero_or_pos xs.length with h | h
      · exact h
      · exact absurd (ha h) (by simp))
    have hq1 := fun w => hq w 29 3 none 0 cap 0 0 Tryz.underlying29
    clear hx ha hm hq
    simp only [List.length_nil]
    go_enter Tryz.func111, Tryz.ntmps111
    go_wp2_with fail
    go_ret
    exact ⟨_, rfl, World.ownsRow_nil _ _ _ _, Below.refl _ _⟩
  | some a =>
    have hq1 := fun w => hq w 29 3 (some a) xs.length cap 0 0 Tryz.underlying29
    have hat : ∀ j u, (vals xs)[j]? = some u → (w.alloc (.cells #[] 3)).cell? (a.add j) = some u := by
      intro j u hj
      have hl : 0 < xs.length := by
        have := (List.getElem?_eq_some_iff.1 hj).1
        rw [vals_length] at this; omega
      have := ha hl
      simp only [Option.some.injEq] at this
      subst this
      exact ((Up.refl w).alloc _).cell (vals_at hx j u hj)
    have hlen := vals_length xs
    have HL := Lib.hid hlen
    have HAT := Lib.hid hat
    obtain ⟨n, hn⟩ : ∃ n, n = xs.length := ⟨_, rfl⟩
    rw [← hn] at hm hq1 ⊢
    have HN := Lib.hid hn
    clear hx ha hq hat hlen hn
    go_enter Tryz.func111, Tryz.ntmps111
    go_wp2_with (at_builtin; refine wpList_append_own _ rfl _ _ 29 rfl w.heap.size 3 i0 (.int .i64 0) 1 8 Tryz.underlying29 hi hz0 hz1 hz2 rfl (by decide) _ _ _ rfl (owns_empty w _ _) a n cap (vals xs) rfl (by rw [HL.out, HN.out]; simp) HAT.out (vals_oneCell xs) (by unfold maxLen; omega) (by omega) (by simp) ?_; intro v1 w1 hown1 hgrow1 _)
    go_ret
    refine ⟨v1, rfl, by simpa using hown1, ?_⟩
    exact ((Below.refl _ _).alloc (Nat.le_refl _) _).grown hgrow1 (by simp) (fun k hk => by cases hk; exact Nat.le_refl _)

theorem clone_pairs {xs : List (Int × Int)} {v : Value} {w : World} (hv : Lsp w v xs) (hm : xs.length ≤ 1000) :
    Calls Tryz.prog 112 #[v] w (Cloned 75 2 xs.length (cellsP xs) w) := by
  obtain ⟨i0, hi, hz0, hz1, hz2⟩ := info_parts Tryz.pairInfo
  have hq := Lib.run_eql_slice_nil (P := Tryz.prog)
  obtain ⟨ao, cap, g, off, rfl, ha, hx⟩ := hv
  cases ao with
  | none =>
    obtain rfl : xs = [] := List.eq_nil_of_length_eq_zero (by
      rcases Nat.eq_zero_or_pos xs.length with h | h
      · exact h
      · exact absurd (ha h) (by simp))
    have hq1 := fun w => hq w 33 75 none 0 cap 0 0 Tryz.underlying33
    clear hx ha hm hq
    simp only [List.length_nil]
    go_enter Tryz.func112, Tryz.ntmps112
    go_wp2_with fail
    go_ret
    exact ⟨_, rfl, World.ownsRow_nil _ _ _ _, Below.refl _ _⟩
  | some a =>
    have hq1 := fun w => hq w 33 75 (some a) xs.length cap 0 0 Tryz.underlying33
    have hat : ∀ j u, (cellsP xs)[j]? = some u → (w.alloc (.cells #[] 75)).cell? (a.add j) = some u := by
      intro j u hj
      have hl : 0 < xs.length := by
        have := (List.getElem?_eq_some_iff.1 hj).1
        rw [cellsP_length] at this; omega
      have := ha hl
      simp only [Option.some.injEq] at this
      subst this
      exact ((Up.refl w).alloc _).cell (cellsP_at hx j u hj)
    have hlen := cellsP_length xs
    have HL := Lib.hid hlen
    have HAT := Lib.hid hat
    obtain ⟨n, hn⟩ : ∃ n, n = xs.length := ⟨_, rfl⟩
    rw [← hn] at hm hq1 ⊢
    have HN := Lib.hid hn
    clear hx ha hq hat hlen hn
    go_enter Tryz.func112, Tryz.ntmps112
    go_wp2_with (at_builtin; refine wpList_append_own _ rfl _ _ 33 rfl w.heap.size 75 i0 (.agg #[.int .i64 0, .int .i64 0]) 2 16 Tryz.underlying33 hi hz0 hz1 hz2 rfl (by decide) _ _ _ rfl (owns_empty w _ _) a n cap (cellsP xs) rfl (by rw [HL.out, HN.out]) HAT.out (cellsP_oneCell xs) (by unfold maxLen; omega) (by omega) (by simp) ?_; intro v1 w1 hown1 hgrow1 _)
    go_ret
    refine ⟨v1, rfl, by simpa using hown1, ?_⟩
    exact ((Below.refl _ _).alloc (Nat.le_refl _) _).grown hgrow1 (by simp) (fun k hk => by cases hk; exact Nat.le_refl _)

theorem two_heap {w : World} {A B : Obj} : ((w.alloc A).alloc B).heap[w.heap.size]? = some A ∧ ((w.alloc A).alloc B).heap[w.heap.size + 1]? = some B ∧ ((w.alloc A).alloc B).heap.size = w.heap.size + 2 := by
  have s1 : (w.alloc A).heap.size = w.heap.size + 1 := by simp
  refine ⟨(Below.heap_alloc (w.alloc A) B _ (by omega)).trans (heap_alloc_new w A), ?_, by simp⟩
  have := heap_alloc_new (w.alloc A) B
  rw [s1] at this; exact this

theorem carry {P Q : World} {g : Nat} {o : Obj} (hb : Below P.heap.size P Q) (h : P.heap[g]? = some o) : Q.heap[g]? = some o := (hb.block g (lt_of_block' h)).trans h

theorem set4 {w : World} {g : Nat} {t : TypeId} {a b c d e f : Value} (h : w.heap[g]? = some (.cells #[a, b, c, d, e, f] t (0, 0))) (x : Value) : (w.setCell ⟨g, 4, none⟩ x).heap[g]? = some (.cells #[a, b, c, d, x, f] t (0, 0)) := by
  simp [World.setCell, Array.getElem?_modify, h]
theorem set5 {w : World} {g : Nat} {t : TypeId} {a b c d e f : Value} (h : w.heap[g]? = some (.cells #[a, b, c, d, e, f] t (0, 0))) (x : Value) : (w.setCell ⟨g, 5, none⟩ x).heap[g]? = some (.cells #[a, b, c, d, e, x] t (0, 0)) := by
  simp [World.setCell, Array.getElem?_modify, h]

theorem setg {w : World} {g j : Nat} {o : Obj} (h : w.heap[g + 1]? = some o) (x : Value) : (w.setCell ⟨g, j, none⟩ x).heap[g + 1]? = some o :=
  (Below.heap_setCell w ⟨g, j, none⟩ x (g + 1) (by simp)).trans h

theorem ownsg1 {w : World} {g j n size : Nat} {e : TypeId} {v : Value} {xs : List Value} (h : w.ownsRow (g + 2) e size v n xs) (x : Value) : (w.setCell ⟨g + 1, j, none⟩ x).ownsRow (g + 2) e size v n xs :=
  owns_keep h (fun k hk => Below.heap_setCell w ⟨g + 1, j, none⟩ x k (by have := (h.lt k hk).1; simp only; omega))
theorem ownsg {w : World} {g j n size : Nat} {e : TypeId} {v : Value} {xs : List Value} (h : w.ownsRow (g + 2) e size v n xs) (x : Value) : (w.setCell ⟨g, j, none⟩ x).ownsRow (g + 2) e size v n xs :=
  owns_keep h (fun k hk => Below.heap_setCell w ⟨g, j, none⟩ x k (by have := (h.lt k hk).1; simp only; omega))

theorem base_up {w P : World} {g n size : Nat} {e : TypeId} {v : Value} {xs : List Value} {o : Obj} (h : w.ownsRow P.heap.size e size v n xs) (hg : P.heap[g + 1]? = some o) : w.ownsRow (g + 2) e size v n xs := owns_base h (lt_of_block' hg)

theorem cutW {Q : World → Prop} (C : World → Prop) (w : World) (h1 : C w) (h2 : ∀ w, C w → Q w) : Q w := h2 w h1

/-- What the drawn statement of own leaves. -/
structure OwnMid (t : Tm.T) (w : World) (g : Nat) (p1 p2 : Option Addr) (l1 q1 l2 q2 : Nat) (Wf : World) : Prop where
  box : Wf.heap[g]? = some (.cells #[.int .i64 t.kind, .int .i64 t.label, .int .i64 t.a, .int .i64 t.b, .slice p1 l1 q1, .slice p2 l2 q2] 35 (0, 0))
  res : Wf.heap[g + 1]? = some (.cells #[.int .i64 0, .int .i64 0, .int .i64 0, .int .i64 0, .slice none 0 0, .slice none 0 0] 35 (0, 0))
  o1 : Wf.ownsRow (g + 2) 3 1 (.slice p1 l1 q1) l1 (vals t.names)
  o2 : Wf.ownsRow (g + 2) 75 2 (.slice p2 l2 q2) l2 (cellsP t.pairs)
  up : Up w Wf

/-- What own leaves: the term, its lists the call's own. -/
def OwnDone (t : Tm.T) (w : World) (r : Ending) (w' : World) : Prop :=
  ∃ nv pv, r = .returned (tv t nv pv) ∧ TOwn w' t nv pv ∧ (∀ k, nv.ownBlock = some k ∨ pv.ownBlock = some k → w.heap.size ≤ k) ∧ Below w.heap.size w w'

theorem ownEnd {t : Tm.T} {w Wf : World} {g l1 q1 l2 q2 : Nat} {p1 p2 : Option Addr} (h : OwnMid t w g p1 p2 l1 q1 l2 q2 Wf) (hg : g = w.heap.size) (h1 : l1 = t.names.length) (h2 : l2 = t.pairs.length) (a b c d e f : Value) :
    OwnDone t w (.returned (.agg #[.int .i64 t.kind, .int .i64 t.label, .int .i64 t.a, .int .i64 t.b, .slice p1 l1 q1, .slice p2 l2 q2]))
      ((((((Wf.setCell ⟨g + 1, 0, none⟩ a).setCell ⟨g + 1, 1, none⟩ b).setCell ⟨g + 1, 2, none⟩ c).setCell ⟨g + 1, 3, none⟩ d).setCell ⟨g + 1, 4, none⟩ e).setCell ⟨g + 1, 5, none⟩ f) := by
  have k1 := ownsg1 (j := 5) (ownsg1 (j := 4) (ownsg1 (j := 3) (ownsg1 (j := 2) (ownsg1 (j := 1) (ownsg1 (j := 0) h.o1 a) b) c) d) e) f
  have k2 := ownsg1 (j := 5) (ownsg1 (j := 4) (ownsg1 (j := 3) (ownsg1 (j := 2) (ownsg1 (j := 1) (ownsg1 (j := 0) h.o2 a) b) c) d) e) f
  have hk : w.heap.size ≤ g + 1 := by omega
  refine ⟨_, _, rfl, ⟨?_, ?_⟩, ?_, ?_⟩
  · rw [← h1]; exact owns_base k1 (Nat.zero_le _)
  · rw [← h2]; exact owns_base k2 (Nat.zero_le _)
  · rintro k (hk | hk)
    · have := (k1.lt k hk).1; omega
    · have := (k2.lt k hk).1; omega
  · exact (((((h.up.setCell hk _).setCell hk _).setCell hk _).setCell hk _).setCell hk _).setCell hk _

set_option maxHeartbeats 8000000 in
set_option maxRecDepth 100000 in
theorem own_any (t : Tm.T) (nv pv : Value) (w : World) (h : TRead w t nv pv) (hn : t.names.length ≤ 1000) (hp : t.pairs.length ≤ 1000) :
    Calls Tryz.prog 79 #[tv t nv pv] w (OwnDone t w) := by
  obtain ⟨a1, c1, g1, o1, rfl, -⟩ := h.n
  obtain ⟨a2, c2, g2, o2, rfl, -⟩ := h.p
  have HN := Lib.hid h.n
  have HP := Lib.hid h.p
  obtain ⟨l1, hl1⟩ : ∃ l, l = t.names.length := ⟨_, rfl⟩
  obtain ⟨l2, hl2⟩ : ∃ l, l = t.pairs.length := ⟨_, rfl⟩
  rw [← hl1] at hn HN ⊢
  rw [← hl2] at hp HP ⊢
  have HL1 := Lib.hid hl1
  have HL2 := Lib.hid hl2
  clear h hl1 hl2
  unfold tv
  go_enter Tryz.func79, Tryz.ntmps79
  go_wp2_with fail
  obtain ⟨x0, x1, x2⟩ := two_heap (w := w) (A := .cells #[.int .i64 t.kind, .int .i64 t.label, .int .i64 t.a, .int .i64 t.b, .slice a1 l1 c1, .slice a2 l2 c2] 35) (B := .cells #[.int .i64 0, .int .i64 0, .int .i64 0, .int .i64 0, .slice none 0 0, .slice none 0 0] 35)
  have hU : Up w ((w.alloc (.cells #[.int .i64 t.kind, .int .i64 t.label, .int .i64 t.a, .int .i64 t.b, .slice a1 l1 c1, .slice a2 l2 c2] 35)).alloc (.cells #[.int .i64 0, .int .i64 0, .int .i64 0, .int .i64 0, .slice none 0 0, .slice none 0 0] 35)) := ((Up.refl w).alloc _).alloc _
  obtain ⟨W, hW⟩ : ∃ W, ((w.alloc (.cells #[.int .i64 t.kind, .int .i64 t.label, .int .i64 t.a, .int .i64 t.b, .slice a1 l1 c1, .slice a2 l2 c2] 35)).alloc (.cells #[.int .i64 0, .int .i64 0, .int .i64 0, .int .i64 0, .slice none 0 0, .slice none 0 0] 35)) = W := ⟨_, rfl⟩
  rw [hW] at x0 x1 x2 hU ⊢
  clear hW
  obtain ⟨g, hg⟩ : ∃ g, g = w.heap.size := ⟨_, rfl⟩
  rw [← hg] at x0 x1 x2 ⊢
  have HG := Lib.hid hg
  have X2 := Lib.hid x2
  have X0 := Lib.hid x0
  have X1 := Lib.hid x1
  obtain ⟨b0, b1, b2, b3, b4, b5, bf⟩ := six_cells x0
  clear hg x2 x0 x1
  have CN : Hid (∀ W', Up w W' → Calls Tryz.prog 111 #[.slice a1 l1 c1] W' (Cloned 3 1 l1 (vals t.names) W')) := fun W' hW => by
    have h := HN.out.up hW
    have e := HL1.out
    subst e
    exact clone_ints h hn
  have CP : Hid (∀ W', Up w W' → Calls Tryz.prog 112 #[.slice a2 l2 c2] W' (Cloned 75 2 l2 (cellsP t.pairs) W')) := fun W' hW => by
    have h := HP.out.up hW
    have e := HL2.out
    subst e
    exact clone_pairs h hp
  have hgw : w.heap.size ≤ g := Nat.le_of_eq HG.out.symm
  go_region_with (first
    | (go_at_call 111; (with_reducible refine (CN.out _ (by first | exact hU.drew | exact hUb | exact hUb.setCell hgw _)).mono ?_); rintro e w3 ⟨v1, rfl, hown1, hb3⟩; (obtain ⟨p1, q1, rfl⟩ := owns_shape' hown1); (have hUa : Up w w3 := Up.trans (by first | exact hU.drew | exact hUb | exact hUb.setCell hgw _) hb3); (have ya := carry hb3 (by first | exact X0.out | exact yb.out | exact set5 yb.out _)); (replace hown1 := base_up hown1 (by first | exact X1.out | exact zb.out | exact setg zb.out _)); (have za := Lib.hid (carry hb3 (by first | exact X1.out | exact zb.out | exact setg zb.out _))); (obtain ⟨d0, d1, d2, d3, d4, d5, df⟩ := six_cells ya); (replace ya := Lib.hid ya); (replace hown1 := Lib.hid hown1); (replace hb3 := Lib.hid hb3))
    | (go_at_call 112; (with_reducible refine (CP.out _ (by first | exact hU.drew | exact hUa | exact hUa.setCell hgw _)).mono ?_); rintro e w4 ⟨v2, rfl, hown2, hb4⟩; (obtain ⟨p2, q2, rfl⟩ := owns_shape' hown2); (have hUb : Up w w4 := Up.trans (by first | exact hU.drew | exact hUa | exact hUa.setCell hgw _) hb4); (have yb := carry hb4 (by first | exact X0.out | exact ya.out | exact set4 ya.out _)); (replace hown2 := base_up hown2 (by first | exact X1.out | exact za.out | exact setg za.out _)); (have zb := Lib.hid (carry hb4 (by first | exact X1.out | exact za.out | exact setg za.out _))); (obtain ⟨f0, f1, f2, f3, f4, f5, ff⟩ := six_cells yb); (replace yb := Lib.hid yb); (replace hown2 := Lib.hid hown2); (replace hb4 := Lib.hid hb4)))
  all_goals
    refine cutW (Q := fun W => Exit.then _ _ Exit.normal _ W) (OwnMid t w g p1 p2 l1 q1 l2 q2) _ ?_ ?_
    · refine ⟨?_, ?_, ?_, ?_, ?_⟩
      · first | exact set5 yb.out _ | exact set4 ya.out _ | exact set5 (set4 yb.out _) _ | exact set4 (set5 yb.out _) _ | exact set5 (set4 ya.out _) _ | exact set4 (set5 ya.out _) _
      · first | exact setg zb.out _ | exact setg za.out _ | exact setg (setg zb.out _) _ | exact setg (setg za.out _) _
      · first | exact ownsg hown1.out _ | exact ownsg (ownsg hown1.out _) _ | exact ownsg (Up.owns hb4.out hown1.out) _ | exact ownsg (ownsg (Up.owns hb4.out hown1.out) _) _ | exact ownsg (Up.owns hb4.out (ownsg hown1.out _)) _
      · first | exact ownsg hown2.out _ | exact ownsg (ownsg hown2.out _) _ | exact ownsg (Up.owns hb3.out hown2.out) _ | exact ownsg (ownsg (Up.owns hb3.out hown2.out) _) _ | exact ownsg (Up.owns hb3.out (ownsg hown2.out _)) _
      · first | exact hUb.setCell hgw _ | exact hUa.setCell hgw _ | exact (hUb.setCell hgw _).setCell hgw _ | exact (hUa.setCell hgw _).setCell hgw _
    intro Wf hM
    have HM := Lib.hid hM
    obtain ⟨c0, c1, c2, c3, c4, c5, cf⟩ := six_cells hM.box
    obtain ⟨r0, r1, r2, r3, r4, r5, rf⟩ := six_cells hM.res
    clear hM
    go_wp2_with fail
    obtain ⟨u0, u1, u2, u3, u4, u5, -⟩ := six_cells (six_set HM.out.res (.int .i64 t.kind) (.int .i64 t.label) (.int .i64 t.a) (.int .i64 t.b) (.slice p1 l1 q1) (.slice p2 l2 q2))
    exact bodyPost_ret (v := .agg #[.int .i64 t.kind, .int .i64 t.label, .int .i64 t.a, .int .i64 t.b, .slice p1 l1 q1, .slice p2 l2 q2]) (by simp [results, Tryz.results79, go_sem, u0, u1, u2, u3, u4, u5]) rfl (ownEnd HM.out HG.out HL1.out HL2.out _ _ _ _ _ _)

end Go.Proofs.YtiiieailimphnaaGreatDoor
