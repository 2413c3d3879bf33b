/- Walks: a step of the game: Split. -/
import Derived.Test.YtfkhaldheclheaaGreatDoorRefG3
import Derived.Test.YtfkhaldheclheaaGreatDoorRefG4
import Derived.Test.YtfkhaldheclheaaGreatDoorRefR6
import Derived.StillTailTactics
import Derived.Deep.DeepCutAuto
namespace Go.Proofs.YtfkhaldheclheaaGreatDoor
open Go.RowKit
set_option linter.unusedVariables false
set_option linter.unusedSimpArgs false

set_option maxHeartbeats 8000000 in
set_option maxRecDepth 100000 in
theorem step_split {w0 W : World} {ab n bk : Nat} {s : Rf.St} {F BF : Nat → Prop} {a1 a2 ai : Addr} (N : Int) (h : Team w0 W ab n bk s F BF) (hS : Sts w0 a1 a2 ai) :
    Calls Tryz.prog 13 #[.pointer (some ⟨ab, 0, none⟩), .agg #[.int .i64 2, .int .i64 N]] W (StepDone w0 W ab n bk F BF) := by
  obtain ⟨B, ve, vp, vi, vb, vB, vM, hp, hF⟩ := h.pl
  obtain ⟨aB, cB, rfl⟩ := owns_shape' hp.rB
  obtain ⟨aM, cM, rfl⟩ := owns_shape' hp.rM
  have hinv := Lib.hid h.inv
  have hn0 := h.hn
  have hbl := Rf.blocks_le h.inv
  obtain ⟨nb, hnb⟩ : ∃ nb, nb = s.blocks.length := ⟨_, rfl⟩
  have HNB := Lib.hid hnb
  have H := Lib.hid h
  have HP := Lib.hid hp
  have HF := Lib.hid hF
  have HST : Hid (Sts W a1 a2 ai) := hS.below h.bel
  have hab : ab < W.heap.size := lt_of_block hp.box
  rw [← hnb] at hbl
  obtain ⟨isB, hisB⟩ : ∃ b : Bool, (b = true ∧ 0 ≤ N ∧ N < (n : Int)) ∨ (b = false ∧ N < 0) ∨ (b = false ∧ 0 ≤ N ∧ (n : Int) ≤ N) := by
    by_cases g0 : 0 ≤ N
    · by_cases g1 : N < (n : Int)
      · exact ⟨true, .inl ⟨rfl, g0, g1⟩⟩
      · exact ⟨false, .inr (.inr ⟨rfl, g0, by omega⟩)⟩
    · exact ⟨false, .inr (.inl ⟨rfl, by omega⟩)⟩
  obtain ⟨hasB, hhasB⟩ : ∃ b : Bool, (b = true ∧ 0 ≤ N ∧ N < (nb : Int)) ∨ (b = false ∧ N < 0) ∨ (b = false ∧ 0 ≤ N ∧ (nb : Int) ≤ N) := by
    by_cases g0 : 0 ≤ N
    · by_cases g1 : N < (nb : Int)
      · exact ⟨true, .inl ⟨rfl, g0, g1⟩⟩
      · exact ⟨false, .inr (.inr ⟨rfl, g0, by omega⟩)⟩
    · exact ⟨false, .inr (.inl ⟨rfl, by omega⟩)⟩
  have c0 := hp.c0
  have c1 := hp.c1
  have c3 := hp.c3
  rw [← hnb] at c3
  clear h hS hp hF hnb
  go_enter Tryz.func13, Tryz.ntmps13
  go_upto_region 1 with fail
  have hup0 := (Up.refl W).alloc (.cells #[.int .i64 2, .int .i64 N] 65)
  have hbx0 : (W.alloc (.cells #[.int .i64 2, .int .i64 N] 65)).heap[W.heap.size]? = some (.cells #[.int .i64 2, .int .i64 N] 65 (0, 0)) := heap_alloc_new W _
  obtain ⟨x0, hx0⟩ : ∃ x0, W.alloc (.cells #[.int .i64 2, .int .i64 N] 65) = x0 := ⟨_, rfl⟩
  rw [hx0] at hup0 hbx0 ⊢
  clear hx0
  have hs0 : W.heap.size < x0.heap.size := lt_of_block hbx0
  have b0 : x0.cell? ⟨W.heap.size, 0, none⟩ = some (.int .i64 2) := by simp [World.cell?, hbx0]
  have b1 : x0.cell? ⟨W.heap.size, 1, none⟩ = some (.int .i64 N) := by simp [World.cell?, hbx0]
  have C0 := hup0.cell c0
  have C1 := hup0.cell c1
  have C3 := hup0.cell c3
  obtain ⟨bx, hbxe⟩ : ∃ bx, bx = W.heap.size := ⟨_, rfl⟩
  rw [← hbxe] at b0 b1 hbx0 hs0 ⊢
  have HBX := Lib.hid hbxe
  clear c0 c1 c3 hbxe
  go_cut [5] (BoolAt isB x0)
  case first =>
    rcases hisB with ⟨rfl, g0, g1⟩ | ⟨rfl, g0⟩ | ⟨rfl, g0, g1⟩
    · have qa : decide (0 ≤ N) = true := by simp; omega
      have qb : decide (N < (n : Int)) = true := by simp; omega
      go_quiet (fail)
      go_wp2_with fail
      go_meet
      exact ⟨rfl, _, rfl⟩
    · have qa : decide (0 ≤ N) = false := by simp; omega
      go_quiet (fail)
      go_wp2_with fail
      go_meet
      exact ⟨rfl, _, rfl⟩
    · have qa : decide (0 ≤ N) = true := by simp; omega
      have qb : decide (N < (n : Int)) = false := by simp; omega
      go_quiet (fail)
      go_wp2_with fail
      go_meet
      exact ⟨rfl, _, rfl⟩
  case rest =>
  obtain ⟨rfl, q0, rfl⟩ := hcut
  go_upto_region 2 with fail
  go_cut [6] (BoolAt hasB (x0.drewN q0))
  case first =>
    rcases hhasB with ⟨rfl, g0, g1⟩ | ⟨rfl, g0⟩ | ⟨rfl, g0, g1⟩
    · have qa : decide (0 ≤ N) = true := by simp; omega
      have qb : decide (N < (nb : Int)) = true := by simp; omega
      go_quiet (fail)
      go_wp2_with fail
      go_meet
      exact ⟨rfl, _, rfl⟩
    · have qa : decide (0 ≤ N) = false := by simp; omega
      go_quiet (fail)
      go_wp2_with fail
      go_meet
      exact ⟨rfl, _, rfl⟩
    · have qa : decide (0 ≤ N) = true := by simp; omega
      have qb : decide (N < (nb : Int)) = false := by simp; omega
      go_quiet (fail)
      go_wp2_with fail
      go_meet
      exact ⟨rfl, _, rfl⟩
  case rest =>
  obtain ⟨rfl, q1, rfl⟩ := hcut
  have hupx : Up W ((x0.drewN q0).drewN q1) := (hup0.drewN q0).drewN q1
  have hsx : bx < ((x0.drewN q0).drewN q1).heap.size := hs0
  have B0 : ((x0.drewN q0).drewN q1).cell? ⟨bx, 0, none⟩ = some (.int .i64 2) := b0
  have B1 : ((x0.drewN q0).drewN q1).cell? ⟨bx, 1, none⟩ = some (.int .i64 N) := b1
  have D0 : ((x0.drewN q0).drewN q1).cell? ⟨ab, 0, none⟩ = some (.pointer (some ⟨B, 0, none⟩)) := C0
  obtain ⟨x, hx⟩ : ∃ x, (x0.drewN q0).drewN q1 = x := ⟨_, rfl⟩
  rw [hx] at hupx hsx B0 B1 D0 ⊢
  clear hx hup0 hs0 b0 b1 C0 C1 C3 hbx0
  rcases hhasB with ⟨rfl, g0, g1⟩ | hoff
  · obtain ⟨b, rfl⟩ := Int.eq_ofNat_of_zero_le g0
    have hb : b < s.blocks.length := by rw [← HNB.out]; omega
    obtain ⟨k, hk⟩ : ∃ d, d = (s.split b).1.getD 0 := ⟨_, rfl⟩
    obtain ⟨sp, hsp⟩ : ∃ d, d = (s.split b).1.isSome := ⟨_, rfl⟩
    have HSp : Hid (∀ x1, Up x x1 → Calls Tryz.prog 17 #[.pointer (some ⟨B, 0, none⟩), .int .i64 (b : Nat)] x1 fun r w' => r = .returned (.tuple #[.int .i64 (k : Nat), .bool sp, .nilIface]) ∧
        (w'.cell? ⟨ab, 0, none⟩ = some (.pointer (some ⟨B, 0, none⟩)) ∧ w'.cell? ⟨bx, 1, none⟩ = some (.int .i64 (b : Nat))) ∧ ∃ x1 vb', Up W x1 ∧ PartAt w' B ve vp vi vb' (s.split b).2 ∧ (∀ k, vb'.ownBlock = some k → vb.ownBlock = some k ∨ x1.heap.size ≤ k) ∧ Turned (Foot B ve vp vi vb) x1 w') := fun x1 hu => by
      rw [hk, hsp]
      refine (split_any (HP.out.up (hupx.trans hu)).part hinv.out hn0 hb).mono ?_
      rintro r w' ⟨rfl, vb', h1, h2, h3⟩
      refine ⟨rfl, ⟨?_, ?_⟩, x1, vb', hupx.trans hu, h1, h2, h3⟩
      · exact h3.cell (p := ⟨ab, 0, none⟩) (hu.cell D0) HP.out.apA
      · exact h3.cell (p := ⟨bx, 1, none⟩) (hu.cell B1) (fun hf => by have := HP.out.part.foot_lt hf; have := HBX.out; simp only at *; omega)
    have hS0 : x.cell? ⟨ab, 0, none⟩ = some (.pointer (some ⟨B, 0, none⟩)) ∧ x.cell? ⟨bx, 1, none⟩ = some (.int .i64 (b : Nat)) := ⟨D0, B1⟩
    have HK := Lib.hid hk
    have HSP := Lib.hid hsp
    clear hk hsp
    go_upto_region 12 with fail
    go_region_held3 (fun w => w.cell? ⟨ab, 0, none⟩ = some (.pointer (some ⟨B, 0, none⟩)) ∧ w.cell? ⟨bx, 1, none⟩ = some (.int .i64 (b : Nat))) (first | assumption) (first
      | (go_at_call 17; refine (HSp.out _ (by repeat (first | (with_reducible exact Up.refl _) | assumption | (with_reducible apply Up.drewN) | (with_reducible apply Up.drew)))).mono ?_; rintro r x2 ⟨rfl, hS2, x1, vb', hu1, hP2, hvb, hT2⟩))
    have hR := HP.out.refT hu1 hT2
    have hbx2 := HP.out.boxT hu1 hT2
    have hsr := Rf.split_ref hinv.out hb
    have HRs : Hid (∀ x3, Up x2 x3 → Calls Tryz.prog 26 #[.pointer (some ⟨ab, 1, none⟩), .int .i64 (b : Nat)] x3 fun r w' => r = .returned (.tuple #[.int .i64 (k : Nat), .bool sp]) ∧
        w'.cell? ⟨bx, 1, none⟩ = some (.int .i64 (b : Nat)) ∧ TeamTo w0 W ab n bk (s.split b).2 F BF w') := fun x3 hu => by
      have hmr := Rf.mem_ref hinv.out hb
      have hkr := Rf.marks_ref hinv.out hb
      have hbx3 := (hu.block ab (lt_of_block hbx2)).trans hbx2
      refine (refSplit_any (w := x3) (pb := ab) (po := 1) (n := n) (nb := s.blocks.length) (cnt := s.M b) (ll := (s.mem b).length) (inn := s.inn) (mk := s.marks n) (b : Int) sp (decide (2 * s.M b ≤ (s.mem b).length)) (hR.up hu) ?_ (by omega) (by rw [← HNB.out]; omega) hkr.symm (by rw [hmr]) (by rw [HSP.out]; exact hsr.1) rfl).mono ?_
      · simp [World.frozen?, hbx3]
      · rintro r w' ⟨rfl, h1, h2, h3⟩
        rw [← hmr] at h1
        have e2 := hsr.2.1
        rw [← HSP.out] at e2
        rw [e2] at h1
        refine ⟨?_, h2.cell (p := ⟨bx, 1, none⟩) (hu.cell hS2.2) (fun hf => ?_), H.out.parted HP.out HF.out hb hu1 hP2 hvb hT2 hu (by rw [hsr.2.2.2, ← HSP.out]; exact h1) h2 (by rw [← HSP.out]; exact h3)⟩
        · rw [HK.out, hsr.2.2.1, ← HSP.out]
        · have := HBX.out
          simp only at hf
          rcases hf with hf | hf | hf
          · omega
          · have := owns_lt HP.out.rB hf; omega
          · have := owns_lt HP.out.rM hf; omega
    clear hR hbx2 hsr hP2 hT2 hvb B0 B1 D0 hS0
    go_upto_region 15 with fail
    obtain ⟨_, b1'⟩ := hS2
    go_region_held3 (fun w => w.cell? ⟨bx, 1, none⟩ = some (.int .i64 (b : Nat))) (first | assumption) (first
      | (go_at_call 26; refine (HRs.out _ (by repeat (first | (with_reducible exact Up.refl _) | assumption | (with_reducible apply Up.drewN) | (with_reducible apply Up.drew)))).mono ?_; rintro r x4 ⟨rfl, hS4, hTT⟩))
    have qk : ((k : Int) == (k : Int)) = true := by simp
    have qs : (sp == sp) = true := by simp
    go_wp2_with fail
    go_ret
    exact ⟨rfl, _, hTT⟩
  · have hoff' : N < 0 ∨ (nb : Int) ≤ N := by rcases hoff with ⟨_, h⟩ | ⟨_, _, h⟩ <;> omega
    obtain rfl : hasB = false := by rcases hoff with ⟨h, _⟩ | ⟨h, _⟩ <;> exact h
    have HOff : Hid (∀ x1, Up x x1 → Calls Tryz.prog 17 #[.pointer (some ⟨B, 0, none⟩), .int .i64 N] x1 fun r w' => ∃ f, r = .returned (.tuple #[.int .i64 0, .bool false, .iface 77 (.pointer (some ⟨f, 0, none⟩))]) ∧
        (w'.cell? ⟨ab, 0, none⟩ = some (.pointer (some ⟨B, 0, none⟩)) ∧ w'.cell? ⟨bx, 1, none⟩ = some (.int .i64 N)) ∧ Up W w' ∧ (∃ x1, Up W x1 ∧ FaultAt x1 w' f layerRef (.iface 219 (.pointer (some ai)))) ∧ ∀ w2, Up w' w2 → Calls Tryz.prog 25 #[.iface 77 (.pointer (some ⟨f, 0, none⟩)), .bool false] w2 (IndexDone w2)) := fun x1 hu => by
      have hs := HST.out.below (hupx.trans hu)
      refine (split_off (HP.out.up (hupx.trans hu)).part (by rw [← HNB.out]; exact hoff') hs.idx.var hs.typ).mono ?_
      rintro r w' ⟨f, rfl, hf⟩
      have hu2 : Up x1 w' := hf.bel
      exact ⟨f, rfl, ⟨hu2.cell (hu.cell D0), hu2.cell (hu.cell B1)⟩, (hupx.trans hu).trans hu2, ⟨x1, hupx.trans hu, hf⟩, fault_index HST.out (hupx.trans hu) hf⟩
    have hS0 : x.cell? ⟨ab, 0, none⟩ = some (.pointer (some ⟨B, 0, none⟩)) ∧ x.cell? ⟨bx, 1, none⟩ = some (.int .i64 N) := ⟨D0, B1⟩
    go_upto_region 12 with fail
    go_region_held3 (fun w => w.cell? ⟨ab, 0, none⟩ = some (.pointer (some ⟨B, 0, none⟩)) ∧ w.cell? ⟨bx, 1, none⟩ = some (.int .i64 N)) (first | assumption) (first
      | (go_at_call 17; refine (HOff.out _ (by repeat (first | (with_reducible exact Up.refl _) | assumption | (with_reducible apply Up.drewN) | (with_reducible apply Up.drew)))).mono ?_; rintro r x2 ⟨f, rfl, hS2, hu2, hft, hI⟩; replace hI := Lib.hid hI))
    clear B0 B1 D0 hS0
    go_wp2_with (go_at_call 25; refine (hI.out _ (by repeat (first | (with_reducible exact Up.refl _) | assumption | (with_reducible apply Up.drewN) | (with_reducible apply Up.drew)))).mono ?_; rintro r x3 ⟨rfl, hu3⟩)
    go_ret
    exact ⟨rfl, s, (TeamTo.refl H.out).up (hu2.trans hu3)⟩

end Go.Proofs.YtfkhaldheclheaaGreatDoor

