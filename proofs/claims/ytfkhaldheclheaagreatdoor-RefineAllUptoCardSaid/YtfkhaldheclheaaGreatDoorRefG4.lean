/- Walks: a step of the game: Mark. -/
import Derived.Test.YtfkhaldheclheaaGreatDoorRefG3
import Derived.Test.YtfkhaldheclheaaGreatDoorRefG2
import Derived.Test.YtfkhaldheclheaaGreatDoorRefR6
import Derived.StillTailTactics
import Derived.Deep.DeepCutAuto
namespace Go.Proofs.YtfkhaldheclheaaGreatDoor
open Go.RowKit
set_option linter.unusedVariables false
set_option linter.unusedSimpArgs false

/-- What a step leaves. -/
def StepDone (w0 W : World) (ab n bk : Nat) (F BF : Nat → Prop) (r : Ending) (w' : World) : Prop := r = .returned (.bool true) ∧ ∃ s', TeamTo w0 W ab n bk s' F BF w'

def BoolAt (b : Bool) (x : World) (v : Value) (w' : World) : Prop := v = .bool b ∧ ∃ q, w' = x.drewN q

theorem Up.turned {S : Nat → Prop} {w w1 : World} (h : Up w w1) : Turned S w w1 := ⟨h.os, h.tape, h.output, h.size, fun k hk _ => h.block k hk⟩

theorem index_yes (w : World) : Calls Tryz.prog 25 #[.nilIface, .bool true] w fun r w' => r = .returned (.bool true) ∧ w = w' := by
  go_enter Tryz.func25, Tryz.ntmps25
  go_wp2_with fail
  go_ret
  exact ⟨rfl, rfl⟩

set_option maxHeartbeats 8000000 in
set_option maxRecDepth 100000 in
theorem step_mark {w0 W : World} {ab n bk : Nat} {s : Rf.St} {F BF : Nat → Prop} {a1 a2 ai : Addr} (N : Int) (h : Team w0 W ab n bk s F BF) (hS : Sts w0 a1 a2 ai) :
    Calls Tryz.prog 13 #[.pointer (some ⟨ab, 0, none⟩), .agg #[.int .i64 1, .int .i64 N]] W (StepDone w0 W ab n bk F BF) := by
  obtain ⟨B, ve, vp, vi, vb, vB, vM, hp, hF⟩ := h.pl
  obtain ⟨aB, cB, rfl⟩ := owns_shape' hp.rB
  obtain ⟨aM, cM, rfl⟩ := owns_shape' hp.rM
  have hinv := Lib.hid h.inv
  have hn0 := h.hn
  have hbl := Rf.blocks_le h.inv
  obtain ⟨nb, hnb⟩ : ∃ nb, nb = s.blocks.length := ⟨_, rfl⟩
  have HNB := Lib.hid hnb
  have H := Lib.hid h
  have HP := Lib.hid hp
  have HF := Lib.hid hF
  have HST : Hid (Sts W a1 a2 ai) := hS.below h.bel
  have hab : ab < W.heap.size := lt_of_block hp.box
  rw [← hnb] at hbl
  obtain ⟨isB, hisB⟩ : ∃ b : Bool, (b = true ∧ 0 ≤ N ∧ N < (n : Int)) ∨ (b = false ∧ N < 0) ∨ (b = false ∧ 0 ≤ N ∧ (n : Int) ≤ N) := by
    by_cases g0 : 0 ≤ N
    · by_cases g1 : N < (n : Int)
      · exact ⟨true, .inl ⟨rfl, g0, g1⟩⟩
      · exact ⟨false, .inr (.inr ⟨rfl, g0, by omega⟩)⟩
    · exact ⟨false, .inr (.inl ⟨rfl, by omega⟩)⟩
  obtain ⟨hasB, hhasB⟩ : ∃ b : Bool, (b = true ∧ 0 ≤ N ∧ N < (nb : Int)) ∨ (b = false ∧ N < 0) ∨ (b = false ∧ 0 ≤ N ∧ (nb : Int) ≤ N) := by
    by_cases g0 : 0 ≤ N
    · by_cases g1 : N < (nb : Int)
      · exact ⟨true, .inl ⟨rfl, g0, g1⟩⟩
      · exact ⟨false, .inr (.inr ⟨rfl, g0, by omega⟩)⟩
    · exact ⟨false, .inr (.inl ⟨rfl, by omega⟩)⟩
  have c0 := hp.c0
  have c1 := hp.c1
  have c3 := hp.c3
  rw [← hnb] at c3
  clear h hS hp hF hnb
  go_enter Tryz.func13, Tryz.ntmps13
  go_upto_region 1 with fail
  have hup0 := (Up.refl W).alloc (.cells #[.int .i64 1, .int .i64 N] 65)
  have hbx0 : (W.alloc (.cells #[.int .i64 1, .int .i64 N] 65)).heap[W.heap.size]? = some (.cells #[.int .i64 1, .int .i64 N] 65 (0, 0)) := heap_alloc_new W _
  obtain ⟨x0, hx0⟩ : ∃ x0, W.alloc (.cells #[.int .i64 1, .int .i64 N] 65) = x0 := ⟨_, rfl⟩
  rw [hx0] at hup0 hbx0 ⊢
  clear hx0
  have hs0 : W.heap.size < x0.heap.size := lt_of_block hbx0
  have b0 : x0.cell? ⟨W.heap.size, 0, none⟩ = some (.int .i64 1) := by simp [World.cell?, hbx0]
  have b1 : x0.cell? ⟨W.heap.size, 1, none⟩ = some (.int .i64 N) := by simp [World.cell?, hbx0]
  have C0 := hup0.cell c0
  have C1 := hup0.cell c1
  have C3 := hup0.cell c3
  obtain ⟨bx, hbxe⟩ : ∃ bx, bx = W.heap.size := ⟨_, rfl⟩
  rw [← hbxe] at b0 b1 hbx0 hs0 ⊢
  have HBX := Lib.hid hbxe
  clear c0 c1 c3 hbxe
  go_cut [5] (BoolAt isB x0)
  case first =>
    rcases hisB with ⟨rfl, g0, g1⟩ | ⟨rfl, g0⟩ | ⟨rfl, g0, g1⟩
    · have qa : decide (0 ≤ N) = true := by simp; omega
      have qb : decide (N < (n : Int)) = true := by simp; omega
      go_quiet (fail)
      go_wp2_with fail
      go_meet
      exact ⟨rfl, _, rfl⟩
    · have qa : decide (0 ≤ N) = false := by simp; omega
      go_quiet (fail)
      go_wp2_with fail
      go_meet
      exact ⟨rfl, _, rfl⟩
    · have qa : decide (0 ≤ N) = true := by simp; omega
      have qb : decide (N < (n : Int)) = false := by simp; omega
      go_quiet (fail)
      go_wp2_with fail
      go_meet
      exact ⟨rfl, _, rfl⟩
  case rest =>
  obtain ⟨rfl, q0, rfl⟩ := hcut
  go_upto_region 2 with fail
  go_cut [6] (BoolAt hasB (x0.drewN q0))
  case first =>
    rcases hhasB with ⟨rfl, g0, g1⟩ | ⟨rfl, g0⟩ | ⟨rfl, g0, g1⟩
    · have qa : decide (0 ≤ N) = true := by simp; omega
      have qb : decide (N < (nb : Int)) = true := by simp; omega
      go_quiet (fail)
      go_wp2_with fail
      go_meet
      exact ⟨rfl, _, rfl⟩
    · have qa : decide (0 ≤ N) = false := by simp; omega
      go_quiet (fail)
      go_wp2_with fail
      go_meet
      exact ⟨rfl, _, rfl⟩
    · have qa : decide (0 ≤ N) = true := by simp; omega
      have qb : decide (N < (nb : Int)) = false := by simp; omega
      go_quiet (fail)
      go_wp2_with fail
      go_meet
      exact ⟨rfl, _, rfl⟩
  case rest =>
  obtain ⟨rfl, q1, rfl⟩ := hcut
  have hupx : Up W ((x0.drewN q0).drewN q1) := (hup0.drewN q0).drewN q1
  have hsx : bx < ((x0.drewN q0).drewN q1).heap.size := hs0
  have B0 : ((x0.drewN q0).drewN q1).cell? ⟨bx, 0, none⟩ = some (.int .i64 1) := b0
  have B1 : ((x0.drewN q0).drewN q1).cell? ⟨bx, 1, none⟩ = some (.int .i64 N) := b1
  have D0 : ((x0.drewN q0).drewN q1).cell? ⟨ab, 0, none⟩ = some (.pointer (some ⟨B, 0, none⟩)) := C0
  obtain ⟨x, hx⟩ : ∃ x, (x0.drewN q0).drewN q1 = x := ⟨_, rfl⟩
  rw [hx] at hupx hsx B0 B1 D0 ⊢
  clear hx hup0 hs0 b0 b1 C0 C1 C3 hbx0
  rcases hisB with ⟨rfl, g0, g1⟩ | hoff
  · obtain ⟨e, rfl⟩ := Int.eq_ofNat_of_zero_le g0
    have he : e < n := by omega
    have hMr := HP.out.rM
    rcases owns_cases hMr with ⟨_, h0, _⟩ | ⟨gM, cM', hv, _, _⟩
    · omega
    simp only [Value.slice.injEq, true_and] at hv
    obtain ⟨rfl, rfl⟩ := hv
    obtain ⟨mv, hmv⟩ : ∃ d, d = (s.marks n).getD e false := ⟨_, rfl⟩
    have HMk : Hid (∀ x1, Up x x1 → Calls Tryz.prog 16 #[.pointer (some ⟨B, 0, none⟩), .int .i64 (e : Nat)] x1 fun r w' => r = .returned (.tuple #[.bool (!mv), .nilIface]) ∧
        (w'.cell? ⟨ab, 0, none⟩ = some (.pointer (some ⟨B, 0, none⟩)) ∧ w'.cell? ⟨bx, 1, none⟩ = some (.int .i64 (e : Nat))) ∧ PartAt w' B ve vp vi vb (s.mark e).2 ∧ ∃ x1, Up W x1 ∧ Turned (Foot B ve vp vi vb) x1 w') := fun x1 hu => by
      rw [hmv, ← Rf.mark_did he]
      refine (mark_any (HP.out.up (hupx.trans hu)).part hinv.out hn0 he).mono fun r w' hh => ⟨hh.1, ⟨?_, ?_⟩, hh.2.1, x1, hupx.trans hu, hh.2.2.1⟩
      · exact hh.2.2.1.cell (p := ⟨ab, 0, none⟩) (hu.cell D0) HP.out.apA
      · exact hh.2.2.1.cell (p := ⟨bx, 1, none⟩) (hu.cell B1) (fun hf => by have := HP.out.part.foot_lt hf; have := HBX.out; simp only at *; omega)
    have HMV := Lib.hid hmv
    have hS0 : x.cell? ⟨ab, 0, none⟩ = some (.pointer (some ⟨B, 0, none⟩)) ∧ x.cell? ⟨bx, 1, none⟩ = some (.int .i64 (e : Nat)) := ⟨D0, B1⟩
    clear hmv hMr
    go_upto_region 5 with fail
    go_region_held3 (fun w => w.cell? ⟨ab, 0, none⟩ = some (.pointer (some ⟨B, 0, none⟩)) ∧ w.cell? ⟨bx, 1, none⟩ = some (.int .i64 (e : Nat))) (first | assumption) (first
      | (go_at_call 16; refine (HMk.out _ (by repeat (first | (with_reducible exact Up.refl _) | assumption | (with_reducible apply Up.drewN) | (with_reducible apply Up.drew)))).mono ?_; rintro r x2 ⟨rfl, hS2, hP2, hT2⟩))
    obtain ⟨x1, hu1, hT2⟩ := hT2
    have hR := HP.out.refT hu1 hT2
    have d1 := hR.c1
    have rM := Row.of hR.rM
    have eM : x2.cell? ⟨gM, e, none⟩ = some (.bool mv) := by rw [HMV.out]; exact rM.1.cell (bools_get (by rw [Rf.marks_len]; exact he))
    have fM := rM.1.free e
    obtain ⟨_, b1'⟩ := hS2
    have qe : (e : Int) < (n : Int) := by omega
    have HP2 := Lib.hid hP2
    have HT2 := Lib.hid hT2
    clear hP2 hT2 hR rM B0 B1 D0 hS0
    go_wp2_with fail
    go_quiet (fail)
    go_wp2_with fail
    go_region
    have qd : ((!mv) == (!mv)) = true := by simp
    go_wp2_with fail
    go_ret
    exact ⟨rfl, _, H.out.marked HP.out HF.out he hu1 HP2.out HT2.out _⟩
  · have hoff' : N < 0 ∨ (n : Int) ≤ N := by rcases hoff with ⟨_, h⟩ | ⟨_, _, h⟩ <;> omega
    obtain rfl : isB = false := by rcases hoff with ⟨h, _⟩ | ⟨h, _⟩ <;> exact h
    have HOff : Hid (∀ x1, Up x x1 → Calls Tryz.prog 16 #[.pointer (some ⟨B, 0, none⟩), .int .i64 N] x1 fun r w' => ∃ f, r = .returned (.tuple #[.bool false, .iface 77 (.pointer (some ⟨f, 0, none⟩))]) ∧
        (w'.cell? ⟨ab, 0, none⟩ = some (.pointer (some ⟨B, 0, none⟩)) ∧ w'.cell? ⟨bx, 1, none⟩ = some (.int .i64 N)) ∧ Up W w' ∧ (∃ x1, Up W x1 ∧ FaultAt x1 w' f layerRef (.iface 219 (.pointer (some ai)))) ∧ ∀ w2, Up w' w2 → Calls Tryz.prog 25 #[.iface 77 (.pointer (some ⟨f, 0, none⟩)), .bool false] w2 (IndexDone w2)) := fun x1 hu => by
      have hs := HST.out.below (hupx.trans hu)
      refine (mark_off (HP.out.up (hupx.trans hu)).part hinv.out hoff' hs.idx.var).mono ?_
      rintro r w' ⟨f, rfl, hf⟩
      have hu2 : Up x1 w' := hf.bel
      exact ⟨f, rfl, ⟨hu2.cell (hu.cell D0), hu2.cell (hu.cell B1)⟩, (hupx.trans hu).trans hu2, ⟨x1, hupx.trans hu, hf⟩, fault_index HST.out (hupx.trans hu) hf⟩
    have hS0 : x.cell? ⟨ab, 0, none⟩ = some (.pointer (some ⟨B, 0, none⟩)) ∧ x.cell? ⟨bx, 1, none⟩ = some (.int .i64 N) := ⟨D0, B1⟩
    go_upto_region 5 with fail
    go_region_held3 (fun w => w.cell? ⟨ab, 0, none⟩ = some (.pointer (some ⟨B, 0, none⟩)) ∧ w.cell? ⟨bx, 1, none⟩ = some (.int .i64 N)) (first | assumption) (first
      | (go_at_call 16; refine (HOff.out _ (by repeat (first | (with_reducible exact Up.refl _) | assumption | (with_reducible apply Up.drewN) | (with_reducible apply Up.drew)))).mono ?_; rintro r x2 ⟨f, rfl, hS2, hu2, hft, hI⟩; replace hI := Lib.hid hI))
    clear B0 B1 D0 hS0
    go_wp2_with (go_at_call 25; refine (hI.out _ (by repeat (first | (with_reducible exact Up.refl _) | assumption | (with_reducible apply Up.drewN) | (with_reducible apply Up.drew)))).mono ?_; rintro r x3 ⟨rfl, hu3⟩)
    go_ret
    exact ⟨rfl, s, (TeamTo.refl H.out).up (hu2.trans hu3)⟩

end Go.Proofs.YtfkhaldheclheaaGreatDoor

