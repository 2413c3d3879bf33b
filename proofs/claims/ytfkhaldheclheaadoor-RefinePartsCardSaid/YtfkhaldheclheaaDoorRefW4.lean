/- Walks: Mark. -/
import Derived.Test.YtfkhaldheclheaaDoorRefW3
import Derived.Test.YtfkhaldheclheaaDoorRefHalf
import Derived.StillTailTactics
import Derived.Deep.RegionWith
namespace Go.Proofs.YtfkhaldheclheaaDoor
open Go.RowKit
set_option linter.unusedVariables false
set_option linter.unusedSimpArgs false

set_option maxHeartbeats 4000000 in
set_option maxRecDepth 100000 in
theorem drewN_two (w : World) (a b : Nat) : (w.drewN a).drewN b = w.drewN (a + b) := by
  simp [World.drewN, Nat.add_assoc]

set_option maxHeartbeats 4000000 in
set_option maxRecDepth 100000 in
theorem mark_no (B n nb c0n c1n c2n c3n ge gp gi gb e b f m p : Nat) (w : World) (he : e < n) (hb : b < nb) (hp : p < f + m) (hn : n ≤ 1000) (hfm : f + m ≤ n)
    (c0 : w.cell? ⟨B, 0, none⟩ = some (.slice (some ⟨ge, 0, none⟩) n c0n)) (c1 : w.cell? ⟨B, 1, none⟩ = some (.slice (some ⟨gp, 0, none⟩) n c1n))
    (c2 : w.cell? ⟨B, 2, none⟩ = some (.slice (some ⟨gi, 0, none⟩) n c2n)) (c3 : w.cell? ⟨B, 3, none⟩ = some (.slice (some ⟨gb, 0, none⟩) nb c3n))
    (ci : w.cell? ⟨gi, e, none⟩ = some (.int .i64 b)) (cp : w.cell? ⟨gp, e, none⟩ = some (.int .i64 p))
    (cf : w.cell? ⟨gb, b * 3, none⟩ = some (.int .i64 f)) (cm : w.cell? ⟨gb, b * 3 + 2, none⟩ = some (.int .i64 m)) :
    Calls Tryd.prog 11 #[.pointer (some ⟨B, 0, none⟩), .int .i64 e] w fun r w' =>
      r = .returned (.tuple #[.bool false, .nilIface]) ∧ ∃ q, w.drewN q = w' := by
  go_enter Tryd.func11, Tryd.ntmps11
  go_wp2_with (first
    | (go_at_call 17; refine (size_some _ _ _ _ _ c0).mono ?_; rintro e w' ⟨rfl, rfl⟩)
    | (go_at_call 22; refine (asked_in _ _ _ _ (by omega) (by omega)).mono ?_; rintro e w' ⟨rfl, rfl⟩))
  go_quiet (fail)
  go_wp2_with fail
  have hs : IntKind.i64.wrap ((f : Int) + (m : Int)) = (f : Int) + (m : Int) := IntWalk.i64_in _ (by omega)
  have hp' : (p : Int) < (f : Int) + (m : Int) := by omega
  go_quiet (fail)
  go_wp2_with fail
  go_ret2
  exact ⟨rfl, _, (drewN_two _ _ _).symm⟩

set_option maxHeartbeats 4000000 in
set_option maxRecDepth 100000 in
theorem mark_yes (B n nb c0n c1n c2n c3n ge gp gi gb e b f m p : Nat) (w : World) (he : e < n) (hb : b < nb) (hp : f + m ≤ p) (hpn : p < n) (hn : n ≤ 1000) (R : World → Prop)
    (c0 : w.cell? ⟨B, 0, none⟩ = some (.slice (some ⟨ge, 0, none⟩) n c0n)) (c1 : w.cell? ⟨B, 1, none⟩ = some (.slice (some ⟨gp, 0, none⟩) n c1n))
    (c2 : w.cell? ⟨B, 2, none⟩ = some (.slice (some ⟨gi, 0, none⟩) n c2n)) (c3 : w.cell? ⟨B, 3, none⟩ = some (.slice (some ⟨gb, 0, none⟩) nb c3n))
    (ci : w.cell? ⟨gi, e, none⟩ = some (.int .i64 b)) (cp : w.cell? ⟨gp, e, none⟩ = some (.int .i64 p))
    (cf : w.cell? ⟨gb, b * 3, none⟩ = some (.int .i64 f)) (cm : w.cell? ⟨gb, b * 3 + 2, none⟩ = some (.int .i64 m))
    (hsw : ∀ q, Calls Tryd.prog 27 #[.pointer (some ⟨B, 0, none⟩), .int .i64 p, .int .i64 (((f + m : Nat)) : Int)] (w.drewN q) fun r w' =>
      r = .returned (.tuple #[]) ∧ w'.cell? ⟨gb, b * 3 + 2, none⟩ = some (.int .i64 m) ∧ w'.frozen? ⟨gb, b * 3 + 2, none⟩ = false ∧ R w') :
    Calls Tryd.prog 11 #[.pointer (some ⟨B, 0, none⟩), .int .i64 e] w fun r w' =>
      r = .returned (.tuple #[.bool true, .nilIface]) ∧ ∃ w1, R w1 ∧ w1.setCell ⟨gb, b * 3 + 2, none⟩ (.int .i64 ((m + 1 : Nat) : Int)) = w' := by
  go_enter Tryd.func11, Tryd.ntmps11
  go_wp2_with (first
    | (go_at_call 17; refine (size_some _ _ _ _ _ c0).mono ?_; rintro e w' ⟨rfl, rfl⟩)
    | (go_at_call 22; refine (asked_in _ _ _ _ (by omega) (by omega)).mono ?_; rintro e w' ⟨rfl, rfl⟩))
  go_quiet (fail)
  go_wp2_with fail
  have hs : IntKind.i64.wrap ((f : Int) + (m : Int)) = (f : Int) + (m : Int) := IntWalk.i64_in _ (by omega)
  have hp' : (f : Int) + (m : Int) ≤ (p : Int) := by omega
  go_quiet (fail)
  go_wp2_with fail
  clear c0 c2 c3 ci
  have HS : Hid (∀ q, Calls Tryd.prog 27 #[.pointer (some ⟨B, 0, none⟩), .int .i64 p, .int .i64 ((f : Int) + (m : Int))] (w.drewN q) fun r w' =>
      r = .returned (.tuple #[]) ∧ w'.cell? ⟨gb, b * 3 + 2, none⟩ = some (.int .i64 m) ∧ w'.frozen? ⟨gb, b * 3 + 2, none⟩ = false ∧ R w') := hsw
  clear hsw
  refine wp_region_still_tail 17 (by kernel_rfl) (by kernel_rfl) ?_
  simp only [List.take_succ_cons, List.take_zero, List.drop_succ_cons, List.drop_zero]
  change wpStill _ _ (World.drew _) _ _ _
  repeat still_step
  refine wpStill_nil ?_
  change wpList _ _ _ _ _ (World.drew _)
  clear c1 cp cf cm
  go_wp2_with (go_at_call 27; refine (HS.out _).mono ?_; rintro e w1 ⟨rfl, k1, k2, k3⟩)
  go_ret2
  exact ⟨rfl, _, k3, rfl⟩

end Go.Proofs.YtfkhaldheclheaaDoor
