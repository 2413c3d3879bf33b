/- Walk: the first call whose answer the document fixes. -/
import Derived.Test.YtpmdjicaefmbnaaGreatDoorRdTop
namespace Go.Proofs.YtpmdjicaefmbnaaGreatDoor
open Go.RowKit Go.Sort Go.Maps
set_option linter.unusedVariables false
set_option linter.unusedSimpArgs false

/-- What the statements leave. -/
def Good (w : World) (r : Ending) (w' : World) : Prop := r = .returned (.bool true) ∧ Below w.heap.size w w'

/-- The system of the first call. -/
def live : Sy.Lts := ⟨4, 2, 0, [(0, 1, 1), (1, 1, 2), (3, 1, 2)]⟩
theorem live_right : Sy.right live = true := by decide
theorem live_last : Rd.last live = 2 := by decide +kernel
theorem live_rank : Rd.rank live 0 1 = 2 := by decide +kernel
theorem live_there : There live 0 1 := by unfold There live; decide

theorem live_ls {w W : World} (hu : Up (w.alloc (.cells #[.int .i64 0, .int .i64 1, .int .i64 1, .int .i64 1, .int .i64 1, .int .i64 2, .int .i64 3, .int .i64 1, .int .i64 2] 72)) W) : Ls3 W (.slice (some ⟨w.heap.size, 0, none⟩) 3 3) live.es := by
  have h : Row (w.alloc (.cells #[.int .i64 0, .int .i64 1, .int .i64 1, .int .i64 1, .int .i64 1, .int .i64 2, .int .i64 3, .int .i64 1, .int .i64 2] 72)) w.heap.size 72 9 (cells3 live.es) := Row.new w 72 (cells3 live.es)
  exact Ls3.up ⟨_, 3, w.heap.size, 0, rfl, fun _ => rfl, h.tris⟩ hu

theorem live_all {w W : World} {a : Addr} (hT : Tab w) (hG : ErrT w) (hE : w.cell? ⟨0, 0, none⟩ = some (.iface 299 (.pointer (some a))))
    (hu : Up (w.alloc (.cells #[.int .i64 0, .int .i64 1, .int .i64 1, .int .i64 1, .int .i64 1, .int .i64 2, .int .i64 3, .int .i64 1, .int .i64 2] 72)) W) :
    Calls Tryz.prog 11 #[.agg #[.int .i64 4, .int .i64 2, .int .i64 0, .slice (some ⟨w.heap.size, 0, none⟩) 3 3]] W fun r w' => ∃ av cv, r = .returned (.tuple #[.slice av 3 cv, .nilIface]) ∧ Up W w' := by
  have hu0 : Up w W := ((Up.refl w).alloc _).trans hu
  have h := all_any live (.slice (some ⟨w.heap.size, 0, none⟩) 3 3) _ _ W (hT.up hu0) (hu0.cell hG) (live_ls hu) (hu0.cell hE) (by unfold maxLen; decide)
  refine Calls.mono h ?_
  rintro r w' ⟨hu1, ⟨-, v, vs, rfl, ho, -⟩ | ⟨h1, -⟩⟩
  · rw [live_last] at ho
    obtain ⟨av, cv, rfl⟩ := owns_shape' ho
    exact ⟨av, cv, rfl, hu1⟩
  · rw [live_right] at h1; cases h1

theorem live_ranked {w W : World} {a : Addr} (hT : Tab w) (hG : ErrT w) (hE : w.cell? ⟨0, 0, none⟩ = some (.iface 299 (.pointer (some a))))
    (hu : Up (w.alloc (.cells #[.int .i64 0, .int .i64 1, .int .i64 1, .int .i64 1, .int .i64 1, .int .i64 2, .int .i64 3, .int .i64 1, .int .i64 2] 72)) W) :
    Calls Tryz.prog 23 #[.agg #[.int .i64 4, .int .i64 2, .int .i64 0, .slice (some ⟨w.heap.size, 0, none⟩) 3 3], .int .i64 0, .int .i64 1] W fun r w' => r = .returned (.tuple #[.int .i64 2, .nilIface]) ∧ Up W w' := by
  have hu0 : Up w W := ((Up.refl w).alloc _).trans hu
  have h := rank_in live (.slice (some ⟨w.heap.size, 0, none⟩) 3 3) 0 1 a .nilIface W live_right (hT.up hu0) (hu0.cell hG) (live_ls hu) (hu0.cell hE) (by unfold maxLen; decide) (by decide) (by decide)
  refine Calls.mono h ?_
  rintro r w' ⟨hu1, ⟨-, -, rfl⟩ | ⟨-, h2, -⟩ | ⟨h2, -⟩⟩
  · exact ⟨by simp only [Int.toNat_natCast]; rw [live_rank], hu1⟩
  · exact absurd live_there h2
  · rw [live_right] at h2; cases h2

set_option maxHeartbeats 4000000 in
set_option maxRecDepth 100000 in
theorem alive_any {w : World} {a : Addr} (hT : Tab w) (hG : ErrT w) (hE : w.cell? ⟨0, 0, none⟩ = some (.iface 299 (.pointer (some a)))) :
    Calls Tryz.prog 10 #[] w fun r w' => r = .returned (.bool true) ∧ Up w w' := by
  have HA := Lib.hid (fun W hu => live_all (W := W) hT hG hE hu)
  have HK := Lib.hid (fun W hu => live_ranked (W := W) hT hG hE hu)
  clear hT hG hE
  go_enter Tryz.func10, Tryz.ntmps10
  have hu1 : Up (w.alloc (.cells #[.int .i64 0, .int .i64 1, .int .i64 1, .int .i64 1, .int .i64 1, .int .i64 2, .int .i64 3, .int .i64 1, .int .i64 2] 72)) ((w.alloc (.cells #[.int .i64 0, .int .i64 1, .int .i64 1, .int .i64 1, .int .i64 1, .int .i64 2, .int .i64 3, .int .i64 1, .int .i64 2] 72)).alloc (.cells #[.int .i64 4, .int .i64 2, .int .i64 0, .slice (some ⟨w.heap.size, 0, none⟩) 3 3] 24)) := (Up.refl _).alloc _
  have hb1 := heap_alloc_new (w.alloc (.cells #[.int .i64 0, .int .i64 1, .int .i64 1, .int .i64 1, .int .i64 1, .int .i64 2, .int .i64 3, .int .i64 1, .int .i64 2] 72)) (.cells #[.int .i64 4, .int .i64 2, .int .i64 0, .slice (some ⟨w.heap.size, 0, none⟩) 3 3] 24)
  rw [World.size_alloc] at hb1
  have HU0 := Lib.hid (((Up.refl w).alloc (.cells #[.int .i64 0, .int .i64 1, .int .i64 1, .int .i64 1, .int .i64 1, .int .i64 2, .int .i64 3, .int .i64 1, .int .i64 2] 72)).trans hu1)
  have HB1 := Lib.hid hb1
  have HU1 := Lib.hid hu1
  clear hu1 hb1
  go_wp2_with (first
    | (go_at_call 11; refine (HA.out _ HU1.out).mono ?_; rintro r w2 ⟨av, cv, rfl, hu2⟩; (obtain ⟨⟨b0, b1, b2, b3⟩, -⟩ := four_cells ((hu2.block _ (lt_of_block' HB1.out)).trans HB1.out)))
    | (go_at_call 23; refine (HK.out _ (HU1.out.trans hu2)).mono ?_; rintro r w3 ⟨rfl, hu3⟩))
  go_ret
  exact ⟨rfl, (HU0.out.trans hu2).trans hu3⟩

end Go.Proofs.YtpmdjicaefmbnaaGreatDoor
