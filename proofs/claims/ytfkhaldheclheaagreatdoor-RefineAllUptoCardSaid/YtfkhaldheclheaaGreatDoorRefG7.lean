/- Walks: a step of the game: Members. -/
import Derived.Test.YtfkhaldheclheaaGreatDoorRefG3
import Derived.Test.YtfkhaldheclheaaGreatDoorRefG4
import Derived.Test.YtfkhaldheclheaaGreatDoorRefR6
import Derived.StillTailTactics
import Derived.Deep.DeepCutAuto
namespace Go.Proofs.YtfkhaldheclheaaGreatDoor
open Go.RowKit
set_option linter.unusedVariables false
set_option linter.unusedSimpArgs false

set_option maxHeartbeats 8000000 in
set_option maxRecDepth 100000 in
theorem step_members {w0 W : World} {ab n bk : Nat} {s : Rf.St} {F BF : Nat → Prop} {a1 a2 ai : Addr} (N : Int) (h : Team w0 W ab n bk s F BF) (hS : Sts w0 a1 a2 ai) :
    Calls Tryz.prog 13 #[.pointer (some ⟨ab, 0, none⟩), .agg #[.int .i64 4, .int .i64 N]] W (StepDone w0 W ab n bk F BF) := by
  obtain ⟨B, ve, vp, vi, vb, vB, vM, hp, hF⟩ := h.pl
  obtain ⟨aB, cB, rfl⟩ := owns_shape' hp.rB
  obtain ⟨aM, cM, rfl⟩ := owns_shape' hp.rM
  have hinv := Lib.hid h.inv
  have hn0 := h.hn
  have hbl := Rf.blocks_le h.inv
  obtain ⟨nb, hnb⟩ : ∃ nb, nb = s.blocks.length := ⟨_, rfl⟩
  have HNB := Lib.hid hnb
  have H := Lib.hid h
  have HP := Lib.hid hp
  have HF := Lib.hid hF
  have HST : Hid (Sts W a1 a2 ai) := hS.below h.bel
  have hab : ab < W.heap.size := lt_of_block hp.box
  rw [← hnb] at hbl
  have hSS := hS
  obtain ⟨isB, hisB⟩ : ∃ b : Bool, (b = true ∧ 0 ≤ N ∧ N < (n : Int)) ∨ (b = false ∧ N < 0) ∨ (b = false ∧ 0 ≤ N ∧ (n : Int) ≤ N) := by
    by_cases g0 : 0 ≤ N
    · by_cases g1 : N < (n : Int)
      · exact ⟨true, .inl ⟨rfl, g0, g1⟩⟩
      · exact ⟨false, .inr (.inr ⟨rfl, g0, by omega⟩)⟩
    · exact ⟨false, .inr (.inl ⟨rfl, by omega⟩)⟩
  obtain ⟨hasB, hhasB⟩ : ∃ b : Bool, (b = true ∧ 0 ≤ N ∧ N < (nb : Int)) ∨ (b = false ∧ N < 0) ∨ (b = false ∧ 0 ≤ N ∧ (nb : Int) ≤ N) := by
    by_cases g0 : 0 ≤ N
    · by_cases g1 : N < (nb : Int)
      · exact ⟨true, .inl ⟨rfl, g0, g1⟩⟩
      · exact ⟨false, .inr (.inr ⟨rfl, g0, by omega⟩)⟩
    · exact ⟨false, .inr (.inl ⟨rfl, by omega⟩)⟩
  have c0 := hp.c0
  have c1 := hp.c1
  have c3 := hp.c3
  rw [← hnb] at c3
  clear h hS hp hF hnb
  go_enter Tryz.func13, Tryz.ntmps13
  go_upto_region 1 with fail
  have hup0 := (Up.refl W).alloc (.cells #[.int .i64 4, .int .i64 N] 65)
  have hbx0 : (W.alloc (.cells #[.int .i64 4, .int .i64 N] 65)).heap[W.heap.size]? = some (.cells #[.int .i64 4, .int .i64 N] 65 (0, 0)) := heap_alloc_new W _
  obtain ⟨x0, hx0⟩ : ∃ x0, W.alloc (.cells #[.int .i64 4, .int .i64 N] 65) = x0 := ⟨_, rfl⟩
  rw [hx0] at hup0 hbx0 ⊢
  clear hx0
  have hs0 : W.heap.size < x0.heap.size := lt_of_block hbx0
  have b0 : x0.cell? ⟨W.heap.size, 0, none⟩ = some (.int .i64 4) := by simp [World.cell?, hbx0]
  have b1 : x0.cell? ⟨W.heap.size, 1, none⟩ = some (.int .i64 N) := by simp [World.cell?, hbx0]
  have C0 := hup0.cell c0
  have C1 := hup0.cell c1
  have C3 := hup0.cell c3
  obtain ⟨bx, hbxe⟩ : ∃ bx, bx = W.heap.size := ⟨_, rfl⟩
  rw [← hbxe] at b0 b1 hbx0 hs0 ⊢
  have HBX := Lib.hid hbxe
  clear c0 c1 c3 hbxe
  go_cut [5] (BoolAt isB x0)
  case first =>
    rcases hisB with ⟨rfl, g0, g1⟩ | ⟨rfl, g0⟩ | ⟨rfl, g0, g1⟩
    · have qa : decide (0 ≤ N) = true := by simp; omega
      have qb : decide (N < (n : Int)) = true := by simp; omega
      go_quiet (fail)
      go_wp2_with fail
      go_meet
      exact ⟨rfl, _, rfl⟩
    · have qa : decide (0 ≤ N) = false := by simp; omega
      go_quiet (fail)
      go_wp2_with fail
      go_meet
      exact ⟨rfl, _, rfl⟩
    · have qa : decide (0 ≤ N) = true := by simp; omega
      have qb : decide (N < (n : Int)) = false := by simp; omega
      go_quiet (fail)
      go_wp2_with fail
      go_meet
      exact ⟨rfl, _, rfl⟩
  case rest =>
  obtain ⟨rfl, q0, rfl⟩ := hcut
  go_upto_region 2 with fail
  go_cut [6] (BoolAt hasB (x0.drewN q0))
  case first =>
    rcases hhasB with ⟨rfl, g0, g1⟩ | ⟨rfl, g0⟩ | ⟨rfl, g0, g1⟩
    · have qa : decide (0 ≤ N) = true := by simp; omega
      have qb : decide (N < (nb : Int)) = true := by simp; omega
      go_quiet (fail)
      go_wp2_with fail
      go_meet
      exact ⟨rfl, _, rfl⟩
    · have qa : decide (0 ≤ N) = false := by simp; omega
      go_quiet (fail)
      go_wp2_with fail
      go_meet
      exact ⟨rfl, _, rfl⟩
    · have qa : decide (0 ≤ N) = true := by simp; omega
      have qb : decide (N < (nb : Int)) = false := by simp; omega
      go_quiet (fail)
      go_wp2_with fail
      go_meet
      exact ⟨rfl, _, rfl⟩
  case rest =>
  obtain ⟨rfl, q1, rfl⟩ := hcut
  have hupx : Up W ((x0.drewN q0).drewN q1) := (hup0.drewN q0).drewN q1
  have hsx : bx < ((x0.drewN q0).drewN q1).heap.size := hs0
  have B0 : ((x0.drewN q0).drewN q1).cell? ⟨bx, 0, none⟩ = some (.int .i64 4) := b0
  have B1 : ((x0.drewN q0).drewN q1).cell? ⟨bx, 1, none⟩ = some (.int .i64 N) := b1
  have D0 : ((x0.drewN q0).drewN q1).cell? ⟨ab, 0, none⟩ = some (.pointer (some ⟨B, 0, none⟩)) := C0
  obtain ⟨x, hx⟩ : ∃ x, (x0.drewN q0).drewN q1 = x := ⟨_, rfl⟩
  rw [hx] at hupx hsx B0 B1 D0 ⊢
  clear hx hup0 hs0 b0 b1 C0 C1 C3 hbx0
  rcases hhasB with ⟨rfl, g0, g1⟩ | hoff
  · obtain ⟨b, rfl⟩ := Int.eq_ofNat_of_zero_le g0
    have hb : b < s.blocks.length := by rw [← HNB.out]; omega
    have hml := Rf.mem_len hinv.out hb
    have hbb := hinv.out.b1 b hb
    obtain ⟨m, hm⟩ : ∃ m, m = (s.mem b).length := ⟨_, rfl⟩
    have HQ : Hid (∀ x1, Up x x1 → Calls Tryz.prog 28 #[.pointer (some ⟨B, 0, none⟩), .int .i64 (b : Nat)] x1 fun r w' => ∃ g cap, r = .returned (.tuple #[.slice (some ⟨g, 0, none⟩) m cap, .nilIface]) ∧ (w'.cell? ⟨ab, 0, none⟩ = some (.pointer (some ⟨B, 0, none⟩)) ∧ w'.cell? ⟨bx, 1, none⟩ = some (.int .i64 (b : Nat))) ∧ Up W w' ∧
        w'.cell? ⟨ab, 4, none⟩ = some (.pointer (some ⟨bk, 0, none⟩)) ∧ Calls Tryz.prog 29 #[.pointer (some ⟨bk, 0, none⟩), .slice (some ⟨g, 0, none⟩) m cap] w' fun r w'' => r = .returned (.tuple #[]) ∧ TeamTo w0 W ab n bk s F BF w'' ∧ Turned BF w' w'') := fun x1 hu => by
      refine (members_any (HP.out.up (hupx.trans hu)).part hinv.out hn0 hb).mono ?_
      rintro r w' ⟨g, cap, rfl, hown, hbel⟩
      have hu2 : Up W w' := (hupx.trans hu).trans hbel
      have hg : x1.heap.size ≤ g ∧ _ := hown.lt g rfl
      have hss := (hupx.trans hu).size
      refine ⟨g, cap, by rw [hm], ⟨Up.cell hbel (hu.cell D0), Up.cell hbel (hu.cell B1)⟩, hu2, hu2.cell HP.out.c4, ?_⟩
      rw [hm]
      exact H.out.intsTo hu2 (owns_base hown (Nat.zero_le _)) (by omega) (fun g' hg' => by simp only [Value.ownBlock, Option.some.injEq] at hg'; omega)
    have hS0 : x.cell? ⟨ab, 0, none⟩ = some (.pointer (some ⟨B, 0, none⟩)) ∧ x.cell? ⟨bx, 1, none⟩ = some (.int .i64 (b : Nat)) := ⟨D0, B1⟩
    clear hm hml hbb
    go_upto_region 21 with fail
    go_region_held3 (fun w => w.cell? ⟨ab, 0, none⟩ = some (.pointer (some ⟨B, 0, none⟩)) ∧ w.cell? ⟨bx, 1, none⟩ = some (.int .i64 (b : Nat))) (first | assumption) (first
      | (go_at_call 28; refine (HQ.out _ (by repeat (first | (with_reducible exact Up.refl _) | assumption | (with_reducible apply Up.drewN) | (with_reducible apply Up.drew)))).mono ?_; rintro r x2 ⟨g, cap, rfl, hS2, hu2, d4, hIn⟩; replace hIn := Lib.hid hIn))
    clear B0 B1 D0 hS0
    go_wp2_with (first
      | (go_at_call 29; refine hIn.out.mono ?_; rintro r x3 ⟨rfl, hTT, _⟩)
      | (go_at_call 25; refine (index_yes _).mono ?_; rintro r x4 ⟨rfl, rfl⟩))
    go_ret
    exact ⟨rfl, s, hTT⟩
  · have hoff' : N < 0 ∨ (nb : Int) ≤ N := by rcases hoff with ⟨_, h⟩ | ⟨_, _, h⟩ <;> omega
    obtain rfl : hasB = false := by rcases hoff with ⟨h, _⟩ | ⟨h, _⟩ <;> exact h
    have HOff : Hid (∀ x1, Up x x1 → Calls Tryz.prog 28 #[.pointer (some ⟨B, 0, none⟩), .int .i64 N] x1 fun r w' => ∃ f, r = .returned (.tuple #[.slice none 0 0, .iface 77 (.pointer (some ⟨f, 0, none⟩))]) ∧
        (w'.cell? ⟨ab, 0, none⟩ = some (.pointer (some ⟨B, 0, none⟩)) ∧ w'.cell? ⟨bx, 1, none⟩ = some (.int .i64 N)) ∧ Up W w' ∧ (∃ x1, Up W x1 ∧ FaultAt x1 w' f layerRef (.iface 219 (.pointer (some ai)))) ∧ ∀ w2, Up w' w2 → Calls Tryz.prog 25 #[.iface 77 (.pointer (some ⟨f, 0, none⟩)), .bool false] w2 (IndexDone w2)) := fun x1 hu => by
      have hs := HST.out.below (hupx.trans hu)
      refine (members_off (HP.out.up (hupx.trans hu)).part (by rw [← HNB.out]; exact hoff') hs.idx.var).mono ?_
      rintro r w' ⟨f, rfl, hf⟩
      have hu2 : Up x1 w' := hf.bel
      exact ⟨f, rfl, ⟨hu2.cell (hu.cell D0), hu2.cell (hu.cell B1)⟩, (hupx.trans hu).trans hu2, ⟨x1, hupx.trans hu, hf⟩, fault_index HST.out (hupx.trans hu) hf⟩
    have hS0 : x.cell? ⟨ab, 0, none⟩ = some (.pointer (some ⟨B, 0, none⟩)) ∧ x.cell? ⟨bx, 1, none⟩ = some (.int .i64 N) := ⟨D0, B1⟩
    have HS0 : Hid (Sts w0 a1 a2 ai) := hSS
    go_upto_region 21 with fail
    go_region_held3 (fun w => w.cell? ⟨ab, 0, none⟩ = some (.pointer (some ⟨B, 0, none⟩)) ∧ w.cell? ⟨bx, 1, none⟩ = some (.int .i64 N)) (first | assumption) (first
      | (go_at_call 28; refine (HOff.out _ (by repeat (first | (with_reducible exact Up.refl _) | assumption | (with_reducible apply Up.drewN) | (with_reducible apply Up.drew)))).mono ?_; rintro r x2 ⟨f, rfl, hS2, hu2, hft, hI⟩; replace hI := Lib.hid hI))
    clear B0 B1 D0 hS0
    obtain ⟨x1, hu1, hf⟩ := hft
    have hIn := Lib.hid (H.out.intsTo (x := x2) (v := .slice none 0 0) (xs := []) hu2 (World.ownsRow_nil _ _ _ _) (by simp) (fun g hg => by cases hg))
    have d4 := hu2.cell HP.out.c4
    have hfn : W.heap.size ≤ f := by have := hf.new; have := hu1.size; omega
    have hfc := Lib.hid hf.cell
    have hfl := lt_of_block hf.cell
    have HT : Hid (∀ x3, TeamTo w0 W ab n bk s F BF x3 → Turned BF x2 x3 → Calls Tryz.prog 25 #[.iface 77 (.pointer (some ⟨f, 0, none⟩)), .bool false] x3 (IndexDone x3)) := by
      intro x3 hT ht
      obtain ⟨F', BF', hT', _⟩ := hT
      have h2 := HS0.out.below hT'.bel
      exact index_bad f ai a1 a2 ((ht.block f hfl (fun hb => by have := H.out.BF_lt hb; omega)).trans hfc.out) h2.arg h2.lng h2.idx h2.n1 h2.n2
    clear hf hI
    go_wp2_with (first
      | (go_at_call 29; refine hIn.out.mono ?_; rintro r x3 ⟨rfl, hTT, hTu⟩; replace HT := Lib.hid (HT.out _ hTT hTu); clear hTu)
      | (go_at_call 25; refine HT.out.mono ?_; rintro r x4 ⟨rfl, hu4⟩))
    go_ret
    exact ⟨rfl, s, hTT.up hu4⟩

end Go.Proofs.YtfkhaldheclheaaGreatDoor

