/- Walks: slices.Compare at two integers each, the order of pairs, slices.SortFunc at pairs. -/
import Derived.Test.YtpmdjicaefmbnaaGreatDoorRdCompact
import Derived.Test.YtpmdjicaefmbnaaGreatDoorSySort
import Derived.Shelf.SlSortCmp.QuietGrown
namespace Go.Proofs.YtpmdjicaefmbnaaGreatDoor
open Go.RowKit Go.Sort Go.Shelf
set_option linter.unusedVariables false
set_option linter.unusedSimpArgs false

def cf2 (x y : Int × Int) : Int := if cmpI x.1 y.1 ≠ 0 then cmpI x.1 y.1 else cmpI x.2 y.2

theorem lt_cf2 : ltOf cf2 = Sy.lt2 := by
  funext x y
  unfold ltOf Sy.lt2
  congr 1
  unfold cf2 cmpI
  apply propext
  repeat' split
  all_goals omega

set_option maxHeartbeats 2000000 in
set_option maxRecDepth 100000 in
theorem compare_two (a b c d : Int) (g h cg ch : Nat) (w : World) (g0 : w.cell? ⟨g, 0, none⟩ = some (.int .i64 a)) (g1 : w.cell? ⟨g, 1, none⟩ = some (.int .i64 b)) (h0 : w.cell? ⟨h, 0, none⟩ = some (.int .i64 c)) (h1 : w.cell? ⟨h, 1, none⟩ = some (.int .i64 d)) :
    Calls Tryz.prog 161 #[.slice (some ⟨g, 0, none⟩) 2 cg, .slice (some ⟨h, 0, none⟩) 2 ch] w fun e w' => e = .returned (.int .i64 (cf2 (a, b) (c, d))) ∧ w = w' := by
  obtain ⟨p, hp⟩ : ∃ p, cmpI a c = p := ⟨_, rfl⟩
  obtain ⟨q, hq⟩ : ∃ q, cmpI b d = q := ⟨_, rfl⟩
  have HP := fun W => Lib.hid (by have := cmp_any a c W; rw [hp] at this; exact this)
  have HQ := fun W => Lib.hid (by have := cmp_any b d W; rw [hq] at this; exact this)
  have HF : Hid (cf2 (a, b) (c, d) = if p ≠ 0 then p else q) := Lib.hid (by unfold cf2; rw [hp, hq])
  rw [HF.out]
  clear hp hq HF
  by_cases h0p : p = 0
  · subst h0p
    by_cases h0q : q = 0
    · subst h0q
      go_enter Tryz.func161, Tryz.ntmps161
      go_wp2_with fail
      refine wp_loop_rounds 3 ?_
      iterate 3
        rw [rounds_succ]
        go_wp2_with (first
          | (go_at_call 46; (with_reducible refine (HP _).out.mono ?_); rintro e w1 ⟨rfl, rfl⟩)
          | (go_at_call 46; (with_reducible refine (HQ _).out.mono ?_); rintro e w1 ⟨rfl, rfl⟩))
      go_ret
      exact ⟨rfl, rfl⟩
    · have qq : (q != 0) = true := by simpa using h0q
      go_enter Tryz.func161, Tryz.ntmps161
      go_wp2_with fail
      refine wp_loop_rounds 2 ?_
      iterate 2
        rw [rounds_succ]
        go_wp2_with (first
          | (go_at_call 46; (with_reducible refine (HP _).out.mono ?_); rintro e w1 ⟨rfl, rfl⟩)
          | (go_at_call 46; (with_reducible refine (HQ _).out.mono ?_); rintro e w1 ⟨rfl, rfl⟩))
      go_ret
      exact ⟨by simp, rfl⟩
  · have qp : (p != 0) = true := by simpa using h0p
    go_enter Tryz.func161, Tryz.ntmps161
    go_wp2_with fail
    refine wp_loop_rounds 1 ?_
    iterate 1
      rw [rounds_succ]
      go_wp2_with (go_at_call 46; (with_reducible refine (HP _).out.mono ?_); rintro e w1 ⟨rfl, rfl⟩)
    go_ret
    exact ⟨by simp [h0p], rfl⟩

theorem grow2 (w : World) (A B : Obj) (n : Nat) : ∃ q os, ((w.alloc A).alloc B).drewN n = grow (w.drewN q) os :=
  ⟨n, #[A, B], by simp only [alloc_eq_grow]; show grow (grow (w.drewN n) #[A]) #[B] = _; rw [grow_grow]; rfl⟩

set_option maxHeartbeats 2000000 in
set_option maxRecDepth 100000 in
theorem pair_order (x y : Int × Int) (w : World) : Calls Tryz.prog 160 #[.agg #[.int .i64 x.1, .int .i64 x.2], .agg #[.int .i64 y.1, .int .i64 y.2]] w fun e w' =>
    e = .returned (.int .i64 (cf2 x y)) ∧ ∃ q os, w' = grow (w.drewN q) os := by
  obtain ⟨x1, x2⟩ := x
  obtain ⟨y1, y2⟩ := y
  simp only
  obtain ⟨r, hr⟩ : ∃ r, cf2 (x1, x2) (y1, y2) = r := ⟨_, rfl⟩
  have HC := fun W g h cg ch g0 g1 h0 h1 => Lib.hid (compare_two x1 x2 y1 y2 g h cg ch W g0 g1 h0 h1)
  rw [hr] at HC ⊢
  clear hr
  go_enter Tryz.func160, Tryz.ntmps160
  go_wp2_with fail
  refine wp_region_still_tail 2 (by kernel_rfl) (by kernel_rfl) ?_
  simp only [List.take_succ_cons, List.take_zero, List.drop_succ_cons, List.drop_zero]
  change wpStill _ _ (World.drew _) _ _ _
  repeat still_step
  refine wpStill_nil ?_
  change wpList _ _ _ _ _ (World.drew _)
  go_wp2_with (go_at_call 161; (with_reducible refine (HC _ _ _ _ _ (by go_simp) (by go_simp) (by go_simp) (by go_simp)).out.mono ?_); rintro e w4 ⟨rfl, rfl⟩)
  go_ret
  exact ⟨rfl, grow2 w _ _ 1⟩

theorem sort_pairs (g cap : Nat) (l : List (Int × Int)) (w : World) (hr : Row w g 217 (cap * 2) (cells2 l)) (hm : l.length ≤ 1000000) :
    Calls Tryz.prog 159 #[.slice (some ⟨g, 0, none⟩) l.length cap, .func (.func 160) #[] #[]] w (SortedRow two 217 2 Sy.lt2 w g cap l) := by
  have eg : ∀ args w, (callFunc 160 args).run Tryz.prog w = .ok (.enter 160 args) w := enters_of Tryz.func160 (by kernel_rfl) rfl
  have hcon := AnyQ.slices_SortFunc Tryz.laysSortP 2 Tryz.isAgg217 Tryz.sizeOf217 two two_len two_one cf2 (by rw [lt_cf2]; exact tot_swo Sy.tot2) 160 #[] g 0 cap l.toArray w eg
    (fun m os dk _ x y => pair_order x y _) (hr.holdsK two_len) hr.lt (by simp; omega)
  rw [lt_cf2] at hcon
  refine hcon.mono fun e w' ⟨he, d, n, os, hp, hs, hw⟩ => ?_
  subst he
  exact sortedRow_of two_len hr hp hs hw

theorem sortP_nil (fv : Value) (w : World) : Calls Tryz.prog 159 #[.slice none 0 0, fv] w fun r w' => r = .returned (.tuple #[]) ∧ w' = w :=
  AnyF.slices_SortFunc_none Tryz.laysSortP none 0 fv w

/-- Pairs sorted, then each once. -/
def SortedOwn (w : World) (base : Nat) (v : Value) (l : List (Int × Int)) : Prop := w.ownsRow base 217 2 v l.length (cells2 l)

theorem own2 {w : World} {base g cap : Nat} {l : List (Int × Int)} {e : TypeId} (hb : base ≤ g) (hr : Row w g e (cap * 2) (cells2 l)) (hn : l.length ≤ cap) (hc : cap ≤ maxLen) : w.ownsRow base e 2 (.slice (some ⟨g, 0, none⟩) l.length cap) l.length (cells2 l) := by
  have h := hr.owns (n := l.length) (size := 2) hn hc (cells2_len l)
  refine ⟨h.1, ?_⟩
  rcases h.2 with ⟨h1, h2⟩ | ⟨g', cap', cur, a, b, r⟩
  · cases h1
  · simp only [Value.slice.injEq, Option.some.injEq, Addr.mk.injEq, and_true, true_and] at a
    obtain ⟨rfl, rfl⟩ := a
    exact .inr ⟨_, _, cur, rfl, hb, r⟩

theorem sortP_any {base : Nat} {v : Value} {l : List (Int × Int)} {W : World} (ho : W.ownsRow base 217 2 v l.length (cells2 l)) (hm : l.length ≤ 1000000) :
    Calls Tryz.prog 159 #[v, .func (.func 160) #[] #[]] W fun r W' =>
      r = .returned (.tuple #[]) ∧ ∃ l' : List (Int × Int), l'.Perm l ∧ l'.Pairwise (fun a b => Sy.lt2 b a = false) ∧ W'.ownsRow base 217 2 v l'.length (cells2 l') ∧ Turned (fun k => v.ownBlock = some k) W W' := by
  have hb := ho.lt
  rcases owns_cases ho with ⟨rfl, h0, -⟩ | ⟨g, cap, rfl, hr, hn, hc, -⟩
  · refine (sortP_nil _ W).mono fun r W' ⟨h1, h2⟩ => ⟨h1, l, List.Perm.refl _, ?_, by rw [h2]; exact ho, by rw [h2]; exact Turned.refl _ _⟩
    rw [List.eq_nil_of_length_eq_zero h0]; exact List.Pairwise.nil
  · refine (sort_pairs g cap l W hr hm).mono fun r W' ⟨h1, l', h2, h3, h4, h5⟩ => ⟨h1, l', h2, h3, ?_, h5.mono (fun i _ (e : i = g) => by rw [e]; rfl)⟩
    rw [← h2.length_eq] at hn ⊢
    exact own2 (hb g rfl).1 h4 hn hc

theorem compactP_any {base : Nat} {v : Value} {l : List (Int × Int)} {W : World} (ho : W.ownsRow base 217 2 v l.length (cells2 l)) (hm : l.length ≤ 1000000) :
    Calls Tryz.prog 162 #[v] W fun r W' => ∃ v', r = .returned v' ∧ W'.ownsRow base 217 2 v' (Sy.cpt l).length (cells2 (Sy.cpt l)) ∧ Turned (fun k => v.ownBlock = some k) W W' := by
  have hb := ho.lt
  rcases owns_cases ho with ⟨rfl, h0, -⟩ | ⟨g, cap, rfl, hr, hn, hc, -⟩
  · refine (compact_pairs_nil W).mono fun r W' ⟨h1, h2⟩ => ⟨_, h1, ?_, by rw [← h2]; exact Turned.refl _ _⟩
    rw [List.eq_nil_of_length_eq_zero h0]; exact World.ownsRow_nil _ _ _ _
  · refine (compact_pairs g cap l W hr hn hm hc).mono fun r W' ⟨h1, h2, h3, h4⟩ => ⟨_, h1, own2 (hb g rfl).1 h3 h2 hc, h4.mono (fun i _ (e : i = g) => by rw [e]; rfl)⟩

end Go.Proofs.YtpmdjicaefmbnaaGreatDoor
