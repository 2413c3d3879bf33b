/- Walks: slices.SortFunc at edges by two orders; system.Sorted, system.Normal. -/
import Derived.Test.YtkcdkfkgjjpaaaaGreatDoorSyCompact
import Derived.Test.YtkcdkfkgjjpaaaaGreatDoorSyW2
import Derived.Test.YtkcdkfkgjjpaaaaGreatDoorLayS
import Derived.Shelf.SlSortCmp.WholeK
import Derived.Shelf.SlSortCmp.NoneTotal
namespace Go.Proofs.YtkcdkfkgjjpaaaaGreatDoor
open Go.RowKit Go.Sort Go.Shelf
set_option linter.unusedVariables false
set_option linter.unusedSimpArgs false

/-- What a sort leaves of a row. -/
def SortedRow {α : Type} (enc : α → List Value) (e : TypeId) (k : Nat) (lt : α → α → Bool) (w : World) (g cap : Nat) (l : List α) (r : Ending) (w' : World) : Prop :=
  r = .returned (.tuple #[]) ∧ ∃ l' : List α, l'.Perm l ∧ l'.Pairwise (fun a b => lt b a = false) ∧ Row w' g e (cap * k) (l'.flatMap enc) ∧ Turned (fun j => j = g) w w'

theorem sortedRow_of {α : Type} [Inhabited α] {enc : α → List Value} {e : TypeId} {k : Nat} {lt : α → α → Bool} {w w' : World} {g cap n : Nat} {l : List α} {d : Array α} {os : Array Obj} (hk : ∀ x, (enc x).length = k) (hr : Row w g e (cap * k) (l.flatMap enc))
    (hp : PermIn 0 l.toArray.size l.toArray d) (hs : SortedIn lt 0 l.toArray.size d) (hw : w' = sortWorldK enc k w g 0 n d os) : SortedRow enc e k lt w g cap l (.returned (.tuple #[])) w' := by
  obtain ⟨h1, h2⟩ := permIn_all hp
  rw [← h1] at hs
  subst hw
  exact ⟨rfl, d.toList, by simpa using h2, sortedIn_all hs, hr.sorted hk (by simpa using h1) n os, sort_turned n d os⟩

theorem sort_order (g cap : Nat) (l : List Sy.Edge) (w : World) (hr : Row w g 67 (cap * 3) (cells3 l)) (hm : l.length ≤ 1000000) :
    Calls Tryz.prog 37 #[.slice (some ⟨g, 0, none⟩) l.length cap, .func (.func 161) #[] #[]] w (SortedRow tri 67 3 Sy.lt3 w g cap l) := by
  have eg : ∀ args w, (callFunc 161 args).run Tryz.prog w = .ok (.enter 161 args) w := enters_of Tryz.func161 (by kernel_rfl) rfl
  have hcon := AnyQ.slices_SortFunc Tryz.laysSortE 3 Tryz.isAgg67 Tryz.sizeOf67 tri tri_len tri_one cf3 (by rw [lt_cf3]; exact tot_swo Sy.tot3) 161 #[] g 0 cap l.toArray w eg
    (fun m os dk _ x y => order_any x y _) (hr.holdsK tri_len) hr.lt (by simp; omega)
  rw [lt_cf3] at hcon
  refine hcon.mono fun e w' ⟨he, d, n, os, hp, hs, hw⟩ => ?_
  subst he
  exact sortedRow_of tri_len hr hp hs hw

theorem sort_turn (g cap : Nat) (l : List Sy.Edge) (w : World) (hr : Row w g 67 (cap * 3) (cells3 l)) (hm : l.length ≤ 1000000) :
    Calls Tryz.prog 37 #[.slice (some ⟨g, 0, none⟩) l.length cap, .func (.func 38) #[] #[]] w (SortedRow tri 67 3 Sy.lt3r w g cap l) := by
  have eg : ∀ args w, (callFunc 38 args).run Tryz.prog w = .ok (.enter 38 args) w := enters_of Tryz.func38 (by kernel_rfl) rfl
  have hcon := AnyQ.slices_SortFunc Tryz.laysSortE 3 Tryz.isAgg67 Tryz.sizeOf67 tri tri_len tri_one cf3r (by rw [lt_cf3r]; exact tot_swo Sy.tot3r) 38 #[] g 0 cap l.toArray w eg
    (fun m os dk _ x y => turn_any x y _) (hr.holdsK tri_len) hr.lt (by simp; omega)
  rw [lt_cf3r] at hcon
  refine hcon.mono fun e w' ⟨he, d, n, os, hp, hs, hw⟩ => ?_
  subst he
  exact sortedRow_of tri_len hr hp hs hw

theorem sort_nil (fv : Value) (w : World) : Calls Tryz.prog 37 #[.slice none 0 0, fv] w fun r w' => r = .returned (.tuple #[]) ∧ w' = w :=
  AnyF.slices_SortFunc_none Tryz.laysSortE none 0 fv w

theorem ownsE {w : World} {base g cap : Nat} {l : List Sy.Edge} {e : TypeId} (hb : base ≤ g) (hr : Row w g e (cap * 3) (cells3 l)) (hn : l.length ≤ cap) (hc : cap ≤ maxLen) : w.ownsRow base e 3 (.slice (some ⟨g, 0, none⟩) l.length cap) l.length (cells3 l) := by
  have h := hr.owns (n := l.length) (size := 3) hn hc (cells3_len l)
  refine ⟨h.1, ?_⟩
  rcases h.2 with ⟨h1, h2⟩ | ⟨g', cap', cur, a, b, r⟩
  · cases h1
  · simp only [Value.slice.injEq, Option.some.injEq, Addr.mk.injEq, and_true, true_and] at a
    obtain ⟨rfl, rfl⟩ := a
    exact .inr ⟨_, _, cur, rfl, hb, r⟩

/-- A world in which what was there stands, and what a new block bears has turned. -/
theorem up_turned {w w1 w2 : World} {g : Nat} (h : Up w w1) (hg : w.heap.size ≤ g) (k : Turned (fun j => j = g) w1 w2) : Up w w2 := by
  have h1 : Turned (fun j => w.heap.size ≤ j) w w1 := Turned.below h
  have h2 := h1.trans k (fun i hi e => by subst e; omega)
  exact ⟨h2.os, h2.tape, h2.output, h2.size, fun i hi => h2.block i hi (by omega)⟩

set_option maxHeartbeats 1000000 in
theorem sorted_any (l : List Sy.Edge) (v : Value) (w : World) (hv : Ls3 w v l) (hm : l.length ≤ 1000000) :
    Calls Tryz.prog 105 #[v] w fun r w' => ∃ v', r = .returned v' ∧ w'.ownsRow w.heap.size 67 3 v' (Sy.norm Sy.lt3 l).length (cells3 (Sy.norm Sy.lt3 l)) ∧ Up w w' := by
  have HC := Lib.hid (clone_edges hv hm)
  obtain ⟨ao, cap0, g0, off0, rfl, -, -⟩ := hv
  go_enter Tryz.func105, Tryz.ntmps105
  go_wp2_with fail
  (with_reducible refine HC.out.mono ?_)
  rintro e w1 ⟨v1, rfl, hown, hb⟩
  rcases owns_cases hown with ⟨rfl, h0, -⟩ | ⟨g, cap, rfl, hr, hn, hc, -⟩
  · have hl : l = [] := List.eq_nil_of_length_eq_zero h0
    have hn0 : Hid (Sy.norm Sy.lt3 l = []) := Lib.hid (by rw [hl]; rfl)
    have HB := Lib.hid hb
    clear hb hown h0 hl
    go_wp2_with (first
      | (go_at_call 37; (with_reducible refine (sort_nil _ _).mono ?_); rintro e w' ⟨rfl, rfl⟩)
      | (go_at_call 162; (with_reducible refine (compact_edges_nil _).mono ?_); rintro e w' ⟨rfl, rfl⟩))
    go_ret
    exact ⟨_, rfl, by rw [hn0.out]; exact World.ownsRow_nil _ _ _ _, HB.out⟩
  · have hgb : w.heap.size ≤ g := (hown.lt g rfl).1
    have hS := sort_order g cap l w1 hr hm
    have HS := Lib.hid hS
    have HB := Lib.hid hb
    have HGB := Lib.hid hgb
    clear hb hown hS hr hgb
    go_wp2_with fail
    (with_reducible refine HS.out.mono ?_)
    rintro e w2 ⟨rfl, l', hp, hpw, hr2, hT2⟩
    have hll : l'.length = l.length := hp.length_eq
    have hK := compact_edges g cap l' w2 hr2 (by omega) (by omega) hc
    rw [hll] at hK
    have HK := Lib.hid hK
    have HE : Hid (Sy.cpt l' = Sy.norm Sy.lt3 l) := Lib.hid (Sy.cpt_norm Sy.tot3 l' l hpw (fun x => hp.mem_iff))
    have HT2 := Lib.hid hT2
    clear hK hp hpw hr2 hll hT2
    go_wp2_with fail
    (with_reducible refine HK.out.mono ?_)
    rintro e w3 ⟨rfl, hn3, hr3, hT3⟩
    rw [HE.out] at hn3 hr3 ⊢
    have HR3 := Lib.hid hr3
    have HT3 := Lib.hid hT3
    clear hr3 hT3
    go_wp2_with fail
    go_ret
    exact ⟨_, rfl, ownsE HGB.out HR3.out hn3 hc, up_turned (up_turned HB.out HGB.out HT2.out) HGB.out HT3.out⟩

end Go.Proofs.YtkcdkfkgjjpaaaaGreatDoor
