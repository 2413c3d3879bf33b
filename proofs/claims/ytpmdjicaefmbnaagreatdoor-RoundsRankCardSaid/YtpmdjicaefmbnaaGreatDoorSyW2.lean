/- Walks: cmp.Compare and cmp.Or at integers, system.order, the order of the edges turned round. -/
import Derived.Test.YtpmdjicaefmbnaaGreatDoorSyW1
import Derived.StillTailTactics
import Derived.Shelf.SlSortCmp.InsertionK
namespace Go.Proofs.YtpmdjicaefmbnaaGreatDoor
open Go.RowKit Go.Sort
set_option linter.unusedVariables false
set_option linter.unusedSimpArgs false

/-- How two integers stand to each other. -/
def cmpI (x y : Int) : Int := if x < y then -1 else if y < x then 1 else 0

theorem nan_no (x : Int) (w : World) : Calls Tryz.prog 121 #[.int .i64 x] w fun e w' => e = .returned (.bool false) ∧ w = w' := by
  have q : (x != x) = false := by simp
  go_enter Tryz.func121, Tryz.ntmps121
  go_wp2_with fail
  go_ret
  exact ⟨rfl, rfl⟩

theorem cmp_any (x y : Int) (w : World) : Calls Tryz.prog 46 #[.int .i64 x, .int .i64 y] w fun e w' => e = .returned (.int .i64 (cmpI x y)) ∧ w' = w := by
  have HN := fun z W => Lib.hid (nan_no z W)
  go_enter Tryz.func46, Tryz.ntmps46
  go_wp2_with (go_at_call 121; (with_reducible refine (HN _ _).out.mono ?_); rintro e w' ⟨rfl, rfl⟩)
  all_goals (go_ret; exact ⟨ret_int (by unfold cmpI; split <;> (try split) <;> first | rfl | omega), rfl⟩)

/-- The first of three that is not 0. -/
def or3 (a b c : Int) : Int := if a ≠ 0 then a else if b ≠ 0 then b else c

set_option maxHeartbeats 1000000 in
theorem or_any (a b c : Int) (g cap : Nat) (w : World) (h0 : w.cell? ⟨g, 0, none⟩ = some (.int .i64 a)) (h1 : w.cell? ⟨g, 1, none⟩ = some (.int .i64 b)) (h2 : w.cell? ⟨g, 2, none⟩ = some (.int .i64 c)) :
    Calls Tryz.prog 45 #[.slice (some ⟨g, 0, none⟩) 3 cap] w fun e w' => e = .returned (.int .i64 (or3 a b c)) ∧ w' = w := by
  by_cases ha : a = 0
  · by_cases hb : b = 0
    · subst ha hb
      by_cases hc : c = 0
      · subst hc
        go_enter Tryz.func45, Tryz.ntmps45
        go_wp2_with fail
        refine wp_loop_rounds 4 ?_
        iterate 4 (rw [rounds_succ]; go_wp2)
        go_ret
        exact ⟨rfl, rfl⟩
      · have qc : (c != 0) = true := by simpa using hc
        go_enter Tryz.func45, Tryz.ntmps45
        go_wp2_with fail
        refine wp_loop_rounds 3 ?_
        iterate 3 (rw [rounds_succ]; go_wp2)
        go_ret
        exact ⟨ret_int (by simp [or3]), rfl⟩
    · subst ha
      have qb : (b != 0) = true := by simpa using hb
      go_enter Tryz.func45, Tryz.ntmps45
      go_wp2_with fail
      refine wp_loop_rounds 2 ?_
      iterate 2 (rw [rounds_succ]; go_wp2)
      go_ret
      exact ⟨ret_int (by simp [or3, hb]), rfl⟩
  · have qa : (a != 0) = true := by simpa using ha
    go_enter Tryz.func45, Tryz.ntmps45
    go_wp2_with fail
    refine wp_loop_rounds 1 ?_
    iterate 1 (rw [rounds_succ]; go_wp2)
    go_ret
    exact ⟨ret_int (by simp [or3, ha]), rfl⟩

def cf3 (x y : Sy.Edge) : Int := or3 (cmpI x.1 y.1) (cmpI x.2.1 y.2.1) (cmpI x.2.2 y.2.2)
def cf3r (x y : Sy.Edge) : Int := or3 (cmpI x.2.2 y.2.2) (cmpI x.2.1 y.2.1) (cmpI x.1 y.1)

theorem lt_cf3 : ltOf cf3 = Sy.lt3 := by
  funext x y
  unfold ltOf Sy.lt3
  congr 1
  unfold cf3 or3 cmpI
  apply propext
  repeat' split
  all_goals omega
theorem lt_cf3r : ltOf cf3r = Sy.lt3r := by
  funext x y
  unfold ltOf Sy.lt3r
  congr 1
  unfold cf3r or3 cmpI
  apply propext
  repeat' split
  all_goals omega

theorem grow3 (w : World) (A B C : Obj) : ∃ q os, (((w.alloc A).alloc B).drew).alloc C = grow (w.drewN q) os :=
  ⟨1, #[A, B, C], by simp only [alloc_eq_grow]; show grow (grow (grow (w.drewN 1) #[A]) #[B]) #[C] = _; rw [grow_grow, grow_grow]; rfl⟩

set_option maxHeartbeats 2000000 in
set_option maxRecDepth 100000 in
theorem order_any (x y : Sy.Edge) (w : World) : Calls Tryz.prog 165 #[.agg #[.int .i64 x.1, .int .i64 x.2.1, .int .i64 x.2.2], .agg #[.int .i64 y.1, .int .i64 y.2.1, .int .i64 y.2.2]] w fun e w' =>
    e = .returned (.int .i64 (cf3 x y)) ∧ ∃ q os, w' = grow (w.drewN q) os := by
  obtain ⟨x1, x2, x3⟩ := x
  obtain ⟨y1, y2, y3⟩ := y
  unfold cf3
  simp only
  go_enter Tryz.func165, Tryz.ntmps165
  go_wp2_with fail
  refine wp_region_still_tail 15 (by kernel_rfl) (by kernel_rfl) ?_
  simp only [List.take_succ_cons, List.take_zero, List.drop_succ_cons, List.drop_zero]
  change wpStill _ _ (World.drew _) _ _ _
  repeat first | still_step | still_call (cmp_any _ _ _)
  refine wpStill_nil ?_
  change wpList _ _ _ _ _ (World.drew _)
  generalize h1 : cmpI x1 y1 = c1
  replace h1 := Lib.hid h1
  generalize h2 : cmpI x2 y2 = c2
  replace h2 := Lib.hid h2
  generalize h3 : cmpI x3 y3 = c3
  replace h3 := Lib.hid h3
  go_wp2_with (go_at_call 45; (with_reducible refine (or_any c1 c2 c3 _ _ _ (by go_simp) (by go_simp) (by go_simp)).mono ?_); rintro e w4 ⟨rfl, rfl⟩)
  go_ret
  exact ⟨by rw [h1.out, h2.out, h3.out]; rfl, grow3 w _ _ _⟩

set_option maxHeartbeats 2000000 in
set_option maxRecDepth 100000 in
theorem turn_any (x y : Sy.Edge) (w : World) : Calls Tryz.prog 44 #[.agg #[.int .i64 x.1, .int .i64 x.2.1, .int .i64 x.2.2], .agg #[.int .i64 y.1, .int .i64 y.2.1, .int .i64 y.2.2]] w fun e w' =>
    e = .returned (.int .i64 (cf3r x y)) ∧ ∃ q os, w' = grow (w.drewN q) os := by
  obtain ⟨x1, x2, x3⟩ := x
  obtain ⟨y1, y2, y3⟩ := y
  unfold cf3r
  simp only
  go_enter Tryz.func44, Tryz.ntmps44
  go_wp2_with fail
  refine wp_region_still_tail 15 (by kernel_rfl) (by kernel_rfl) ?_
  simp only [List.take_succ_cons, List.take_zero, List.drop_succ_cons, List.drop_zero]
  change wpStill _ _ (World.drew _) _ _ _
  repeat first | still_step | still_call (cmp_any _ _ _)
  refine wpStill_nil ?_
  change wpList _ _ _ _ _ (World.drew _)
  generalize h1 : cmpI x1 y1 = c1
  replace h1 := Lib.hid h1
  generalize h2 : cmpI x2 y2 = c2
  replace h2 := Lib.hid h2
  generalize h3 : cmpI x3 y3 = c3
  replace h3 := Lib.hid h3
  go_wp2_with (go_at_call 45; (with_reducible refine (or_any c3 c2 c1 _ _ _ (by go_simp) (by go_simp) (by go_simp)).mono ?_); rintro e w4 ⟨rfl, rfl⟩)
  go_ret
  exact ⟨by rw [h1.out, h2.out, h3.out]; rfl, grow3 w _ _ _⟩

end Go.Proofs.YtpmdjicaefmbnaaGreatDoor
