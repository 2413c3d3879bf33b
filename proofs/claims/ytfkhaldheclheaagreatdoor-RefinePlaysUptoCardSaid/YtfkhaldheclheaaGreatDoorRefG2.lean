/- Walks: looks. -/
import Derived.Test.YtfkhaldheclheaaGreatDoorRefG1
import Derived.Test.YtfkhaldheclheaaGreatDoorRefR6
import Derived.Deep.RegionHeld3
import Derived.Outline
namespace Go.Proofs.YtfkhaldheclheaaGreatDoor
open Go.RowKit
set_option linter.unusedVariables false
set_option linter.unusedSimpArgs false

/-- The program's classes, as a list of integers. -/
def clsL (s : Rf.St) : List Int := (Cn.canon (s.inn.map Int.ofNat)).map Int.ofNat

theorem classes_lst {w : World} {B n : Nat} {ve vp vi vb : Value} {s : Rf.St} (h : PartAt w B ve vp vi vb s) (hI : Rf.Inv s n) (hn : n ≤ 1000) :
    Calls Tryz.prog 31 #[.pointer (some ⟨B, 0, none⟩)] w (LstDone w (clsL s)) := by
  refine (classes_all h hI hn).mono ?_
  rintro r w' ⟨g, rfl, hrow, hg, hu⟩
  have hl : (clsL s).length = n := by rw [clsL, List.length_map, Cn.canon_len, List.length_map, hI.li]
  refine ⟨_, rfl, ?_, hu⟩
  rw [hl, clsL, ← ints_asInt]
  exact Go.Proofs.YtfkhaldheclheaaGreatDoor.Row.ownsAt (by rw [Nat.mul_one]; exact hrow) (Nat.le_refl _) (by unfold maxLen; omega) (by rw [ints_length, Cn.canon_len, List.length_map, hI.li, Nat.mul_one]) hg

theorem canonRef_lst {v : Value} {inn : List Nat} {w : World} (hn : inn.length ≤ 1000000) (hv : Lst w v (inn.map Int.ofNat)) :
    Calls Tryz.prog 22 #[v] w (LstDone w ((Cn.canon (inn.map Int.ofNat)).map Int.ofNat)) := by
  refine (canonRef (by rw [List.length_map]; exact hn) hv).mono ?_
  rintro r w' ⟨g, rfl, hrow, hg, hu⟩
  have hl : ((Cn.canon (inn.map Int.ofNat)).map Int.ofNat).length = (inn.map Int.ofNat).length := by rw [List.length_map, Cn.canon_len]
  refine ⟨_, rfl, ?_, hu⟩
  rw [hl, ← ints_asInt]
  exact Go.Proofs.YtfkhaldheclheaaGreatDoor.Row.ownsAt (by rw [Nat.mul_one]; exact hrow) (Nat.le_refl _) (by unfold maxLen; rw [List.length_map]; omega) (by rw [ints_length, Cn.canon_len, Nat.mul_one]) hg

/-- In the loop of looks. -/
structure LookSt (w0 wr : World) (ab B bk n : Nat) (ve vp vi vb vB vM : Value) (s : Rf.St) (F BF : Nat → Prop) (w1 : World) (BF1 : Nat → Prop) : Prop where
  team : Team w0 w1 ab n bk s F BF1
  play : PlayAt w1 ab B bk n ve vp vi vb vB vM s
  bound : ∀ k, BF1 k → BF k ∨ wr.heap.size ≤ k
  tur : Turned (fun k => F k ∨ BF k) wr w1

section
variable {w0 wr w1 w2 : World} {ab B bk n : Nat} {ve vp vi vb vB vM : Value} {s : Rf.St} {F BF BF1 : Nat → Prop}

theorem LookSt.up (h : LookSt w0 wr ab B bk n ve vp vi vb vB vM s F BF w1 BF1) (hu : Up w1 w2) : LookSt w0 wr ab B bk n ve vp vi vb vB vM s F BF w2 BF1 :=
  ⟨h.team.up hu, h.play.up hu, h.bound, h.tur.trans (T := fun _ => False) ⟨hu.os, hu.tape, hu.output, hu.size, fun k hk _ => hu.block k hk⟩ (fun _ _ h => h.elim)⟩

/-- One more list in the book. -/
theorem LookSt.ints {v : Value} {xs : List Int} (h : LookSt w0 wr ab B bk n ve vp vi vb vB vM s F BF w1 BF1) (hF : ∀ k, F k ↔ PlFoot ab B ve vp vi vb vB vM k) (hv : w1.ownsRow 0 3 1 v xs.length (xs.map (Value.int .i64))) (hx : xs.length ≤ 900000)
    (hN : ∀ g, v.ownBlock = some g → ¬ F g ∧ ¬ BF1 g ∧ wr.heap.size ≤ g) (h0 : w0.heap.size ≤ wr.heap.size) :
    Calls Tryz.prog 29 #[.pointer (some ⟨bk, 0, none⟩), v] w1 fun r w' => r = .returned (.tuple #[]) ∧
      (∃ BF2, LookSt w0 wr ab B bk n ve vp vi vb vB vM s F BF w' BF2) ∧ KeepI w1 w' := by
  refine (h.team.ints (B := fun k => v.ownBlock = some k) hv hx (fun g hg => ⟨(hN g hg).1, (hN g hg).2.1, by have := (hN g hg).2.2; omega⟩) (fun g hg => hg)).mono ?_
  rintro r w' ⟨rfl, BF2, hT, hb, ht, hk⟩
  have hs := h.tur.size
  refine ⟨rfl, ⟨BF2, hT, h.play.keep (fun k hk => ht.block k (h.play.foot_lt hk) (h.team.dis k ((hF k).2 hk))), fun k hk => ?_, h.tur.trans ht (fun k hk hh => ?_)⟩, hk⟩
  · rcases hb k hk with h1 | h1 | h1
    · exact h.bound k h1
    · exact .inr (hN k h1).2.2
    · right; omega
  · rcases h.bound k hh with h1 | h1
    · exact .inr h1
    · omega
end

set_option maxHeartbeats 8000000 in
set_option maxRecDepth 100000 in
theorem looks_ok {w0 W : World} {ab n bk : Nat} {s : Rf.St} {F BF : Nat → Prop} (h : Team w0 W ab n bk s F BF) :
    Calls Tryz.prog 14 #[.pointer (some ⟨ab, 0, none⟩)] W fun r w' => r = .returned (.bool true) ∧ TeamTo w0 W ab n bk s F BF w' := by
  obtain ⟨B, ve, vp, vi, vb, vB, vM, hp, hF⟩ := h.pl
  obtain ⟨aB, cB, rfl⟩ := owns_shape' hp.rB
  obtain ⟨aM, cM, rfl⟩ := owns_shape' hp.rM
  have HC : Hid (∀ w1, Up W w1 → Calls Tryz.prog 31 #[.pointer (some ⟨B, 0, none⟩)] w1 (LstDone w1 (clsL s))) := fun w1 hu => classes_lst (hp.up hu).part h.inv h.hn
  have HM : Hid (∀ w1, Up W w1 → Calls Tryz.prog 32 #[.pointer (some ⟨B, 0, none⟩)] w1 (LstDone w1 (s.hot s.blocks.length))) := fun w1 hu => marked_all (hp.up hu).part h.inv h.hn
  have c0 := hp.c0
  have c4 := hp.c4
  have hcl : (clsL s).length = n := by rw [clsL, List.length_map, Cn.canon_len, List.length_map, h.inv.li]
  have hn0 := h.hn
  have hinv := Lib.hid h.inv
  have hbl := Rf.blocks_le h.inv
  have hhl := Rf.hot_len s s.blocks.length
  have H := Lib.hid h
  have HP := Lib.hid hp
  have HF := Lib.hid hF
  clear h hF hp
  go_enter Tryz.func14, Tryz.ntmps14
  go_wp2_with fail
  go_region_held3 (fun w => w.cell? ⟨ab, 0, none⟩ = some (.pointer (some ⟨B, 0, none⟩))) (first | assumption) (first
    | (go_at_call 31; refine (HC.out _ (by repeat (first | (with_reducible exact Up.refl _) | assumption | (with_reducible apply Up.drewN) | (with_reducible apply Up.drew)))).mono ?_; rintro r w1 ⟨vc, rfl, hown1, hup⟩; (have hu1 : Up W w1 := Up.trans (by repeat (first | (with_reducible exact Up.refl _) | assumption | (with_reducible apply Up.drewN) | (with_reducible apply Up.drew))) hup); (have c01 := hu1.cell c0))
    | (go_at_call 32; refine (HM.out _ (by repeat (first | (with_reducible exact Up.refl _) | assumption | (with_reducible apply Up.drewN) | (with_reducible apply Up.drew)))).mono ?_; rintro r w2 ⟨vm, rfl, hown2, hup2⟩; (have hu2 : Up w1 w2 := Up.trans (by repeat (first | (with_reducible exact Up.refl _) | assumption | (with_reducible apply Up.drewN) | (with_reducible apply Up.drew))) hup2); (have c02 := hu2.cell c01)))
  have hu02 : Up W w2 := hu1.trans hu2
  have hT2 := H.out.up hu02
  have hp2 := HP.out.up hu02
  have c42 := hp2.c4
  have hs1 := hu1.size
  have hs2 := hu2.size
  have hs0 : W.drew.heap.size = W.heap.size := rfl
  rw [hs0] at hown1
  have hvcl : ∀ g, vc.ownBlock = some g → W.heap.size ≤ g ∧ g < w1.heap.size := fun g hg => hown1.lt g hg
  have hvml : ∀ g, vm.ownBlock = some g → w1.heap.size ≤ g ∧ g < w2.heap.size := fun g hg => hown2.lt g hg
  have hvc : w2.ownsRow 0 3 1 vc (clsL s).length ((clsL s).map (Value.int .i64)) := owns_base (hu2.owns hown1) (Nat.zero_le _)
  have hvm : w2.ownsRow 0 3 1 vm (s.hot s.blocks.length).length ((s.hot s.blocks.length).map (Value.int .i64)) := owns_base hown2 (Nat.zero_le _)
  have HI1 := Lib.hid (hT2.ints (B := fun k => vc.ownBlock = some k) hvc (by omega) (fun g hg => ⟨fun hf => by have := H.out.F_lt hf; have := hvcl g hg; omega, fun hf => by have := H.out.BF_lt hf; have := hvcl g hg; omega, by have := H.out.bel.size; have := hvcl g hg; omega⟩) (fun g hg => hg))
  have HVC := Lib.hid hvc
  have HVM := Lib.hid hvm
  have HVCL := Lib.hid hvcl
  have HVML := Lib.hid hvml
  clear hvc hvm hvcl hvml hown1 hown2 c01 c02 c0 c4 hup hup2 HC HM hT2
  go_upto_region 3 with (go_at_call 29; refine HI1.out.mono ?_; rintro r w3 ⟨rfl, BF3, hT3, hf3, ht3, hk3⟩)
  have hp3 := hp2.keep (fun k hk => ht3.block k (hp2.foot_lt hk) (H.out.dis k ((HF.out k).2 hk)))
  have c43 := hp3.c4
  have hs3 := ht3.size
  have HI2 := Lib.hid (hT3.ints (B := fun k => vm.ownBlock = some k) (hk3.owns HVM.out) (by omega) (fun g hg => ⟨fun hf => by have := H.out.F_lt hf; have := HVML.out g hg; omega, fun hf => by
      have h2 := HVML.out g hg
      rcases hf3 g hf with h | h | h
      · have := H.out.BF_lt h; omega
      · have := HVCL.out g h; omega
      · omega, by have := H.out.bel.size; have := HVML.out g hg; omega⟩) (fun g hg => hg))
  clear c42 HI1
  go_upto_region 4 with (go_at_call 29; refine HI2.out.mono ?_; rintro r w4 ⟨rfl, BF4, hT4, hf4, ht4, hk4⟩)
  have hp4 := hp3.keep (fun k hk => ht4.block k (hp3.foot_lt hk) (hT3.dis k ((HF.out k).2 hk)))
  have hli : s.inn.length = n := hinv.out.li
  have hle := hinv.out.le
  have HS4 : Hid (∀ w1, Up w4 w1 → w1.cell? ⟨ab, 0, none⟩ = some (.pointer (some ⟨B, 0, none⟩)) ∧ w1.cell? ⟨ab, 1, none⟩ = some (.slice aB n cB) ∧ w1.cell? ⟨ab, 3, none⟩ = some (.int .i64 (s.blocks.length : Nat))) := fun w1 hu => ⟨hu.cell hp4.c0, hu.cell hp4.c1, hu.cell hp4.c3⟩
  have HCa : Hid (∀ w1, Up w4 w1 → Calls Tryz.prog 22 #[.slice aB n cB] w1 (LstDone w1 (clsL s))) := fun w1 hu => canonRef_lst (by omega) (owns_lst (base := 0) (n := n) (by rw [← ints_asInt]; exact hu.owns hp4.rB))
  have HSo : Hid (∀ w1, Up w4 w1 → Calls Tryz.prog 34 #[.pointer (some ⟨ab, 1, none⟩)] w1 (LstDone w1 (s.hot s.blocks.length))) := fun w1 hu => refSome ((hp4.up hu).ref) (by omega) (by omega) (fun b hb => Rf.marks_ref hinv.out hb) (fun b hb => by have := hinv.out.b1 b hb; omega)
  have HS1 : Hid (∀ w1 v, Up w4 w1 → Lst w1 v (clsL s) → Calls Tryz.prog 33 #[vc, v] w1 (Same w1 true)) := fun w1 v hu hv => sameInts_same (by omega) (owns_lst (hu.owns (hk4.owns (hk3.owns HVC.out)))) hv
  have HS2 : Hid (∀ w1 v, Up w4 w1 → Lst w1 v (s.hot s.blocks.length) → Calls Tryz.prog 33 #[vm, v] w1 (Same w1 true)) := fun w1 v hu hv => sameInts_same (by omega) (owns_lst (hu.owns (hk4.owns (hk3.owns HVM.out)))) hv
  have HBl : Hid (∀ w1, Up w4 w1 → Calls Tryz.prog 18 #[.pointer (some ⟨B, 0, none⟩)] w1 fun e w' => e = .returned (.int .i64 (s.blocks.length : Nat)) ∧ w1 = w') := fun w1 hu => blocks_any (hp4.up hu).part
  have HSz : Hid (∀ w1, Up w4 w1 → Calls Tryz.prog 35 #[.pointer (some ⟨B, 0, none⟩)] w1 fun e w' => e = .returned (.int .i64 (n : Nat)) ∧ w1 = w') := fun w1 hu => by
    have := size_any (hp4.up hu).part
    rw [hle] at this; exact this
  have hS4 := HS4.out w4 (Up.refl _)
  obtain ⟨nb, hnb⟩ : ∃ nb, nb = s.blocks.length := ⟨_, rfl⟩
  rw [← hnb] at hS4 HBl HS4
  have q1 : ((nb : Int) != (nb : Int)) = false := by simp
  have q2 : ((n : Int) != (n : Int)) = false := by simp
  have HP4 := Lib.hid hp4
  have HNB := Lib.hid hnb
  clear hp2 hp3 hp4 c43 hli hle hnb HI2 hk3 hk4
  go_region_held3 (fun w => w.cell? ⟨ab, 0, none⟩ = some (.pointer (some ⟨B, 0, none⟩)) ∧ w.cell? ⟨ab, 1, none⟩ = some (.slice aB n cB) ∧ w.cell? ⟨ab, 3, none⟩ = some (.int .i64 (nb : Nat))) (first | assumption) (first
    | (go_at_call 22; refine (HCa.out _ (by repeat (first | (with_reducible exact Up.refl _) | assumption | (with_reducible apply Up.drewN) | (with_reducible apply Up.drew)))).mono ?_; rintro r w5 ⟨vk, rfl, hown5, hup5⟩; (have hu5 : Up w4 w5 := Up.trans (by repeat (first | (with_reducible exact Up.refl _) | assumption | (with_reducible apply Up.drewN) | (with_reducible apply Up.drew))) hup5); (have hS5 := HS4.out w5 hu5))
    | (go_at_call 33; (with_reducible refine (HS1.out _ vk ?_ ?_).mono ?_); (repeat (first | (with_reducible exact Up.refl _) | assumption | (with_reducible apply Up.drewN) | (with_reducible apply Up.drew))); (refine (owns_lst hown5).up ?_; repeat (first | (with_reducible exact Up.refl _) | assumption | (with_reducible apply Up.drewN) | (with_reducible apply Up.drew))); rintro r w6 ⟨rfl, q6, hq6⟩; (have hu6 : Up w4 w6 := by (rw [hq6]; repeat (first | (with_reducible exact Up.refl _) | assumption | (with_reducible apply Up.drewN) | (with_reducible apply Up.drew)))); (have hS6 := HS4.out w6 hu6); clear hq6)
    | (go_at_call 34; refine (HSo.out _ (by repeat (first | (with_reducible exact Up.refl _) | assumption | (with_reducible apply Up.drewN) | (with_reducible apply Up.drew)))).mono ?_; rintro r w7 ⟨vs, rfl, hown7, hup7⟩; (have hu7 : Up w4 w7 := Up.trans (by repeat (first | (with_reducible exact Up.refl _) | assumption | (with_reducible apply Up.drewN) | (with_reducible apply Up.drew))) hup7); (have hS7 := HS4.out w7 hu7))
    | (go_at_call 33; (with_reducible refine (HS2.out _ vs ?_ ?_).mono ?_); (repeat (first | (with_reducible exact Up.refl _) | assumption | (with_reducible apply Up.drewN) | (with_reducible apply Up.drew))); (refine (owns_lst hown7).up ?_; repeat (first | (with_reducible exact Up.refl _) | assumption | (with_reducible apply Up.drewN) | (with_reducible apply Up.drew))); rintro r w8 ⟨rfl, q8, hq8⟩; (have hu8 : Up w4 w8 := by (rw [hq8]; repeat (first | (with_reducible exact Up.refl _) | assumption | (with_reducible apply Up.drewN) | (with_reducible apply Up.drew)))); (have hS8 := HS4.out w8 hu8); clear hq8)
    | (go_at_call 18; refine (HBl.out _ (by repeat (first | (with_reducible exact Up.refl _) | assumption | (with_reducible apply Up.drewN) | (with_reducible apply Up.drew)))).mono ?_; rintro r w9 ⟨rfl, rfl⟩)
    | (go_at_call 35; refine (HSz.out _ (by repeat (first | (with_reducible exact Up.refl _) | assumption | (with_reducible apply Up.drewN) | (with_reducible apply Up.drew)))).mono ?_; rintro r w9 ⟨rfl, rfl⟩))
  have hT5 : Hid (∀ w1, Up w4 w1 → LookSt w0 W ab B bk n ve vp vi vb (.slice aB n cB) (.slice aM n cM) s F BF w1 BF4) := by
    intro w1 hu
    refine LookSt.up ⟨hT4, HP4.out, fun k hk => ?_, ?_⟩ hu
    · rcases hf4 k hk with h1 | h1 | h1
      · rcases hf3 k h1 with h2 | h2 | h2
        · exact .inl h2
        · have := HVCL.out k h2; exact .inr this.1
        · right; omega
      · have := HVML.out k h1; right; omega
      · right; omega
    · have t2 : Turned (fun k => F k ∨ BF k) W w2 := ⟨hu02.os, hu02.tape, hu02.output, hu02.size, fun k hk _ => hu02.block k hk⟩
      have t3 : Turned (fun k => F k ∨ BF k) W w3 := t2.trans ht3 (fun k _ h => .inr h)
      refine t3.trans ht4 (fun k hk h => ?_)
      rcases hf3 k h with h2 | h2 | h2
      · exact .inr h2
      · have := HVCL.out k h2; omega
      · omega
  have hw0 : w0.heap.size ≤ W.heap.size := H.out.bel.size
  have HU8 : Hid (Up w4 w8) := hu8
  clear hS4 hS5 hS6 hS7 hS8 hu5 hu6 hu7 hu8 hup5 hup7 hown5 hown7 HS4 HCa HSo HS1 HS2 HBl HSz ht4 hf4 ht3 hf3 hT3 hT4 HVC HVM HVCL HVML HP4 HP
  go_wp2_with fail
  have hS9 := hT5.out _ (by repeat (first | exact HU8.out | (with_reducible apply Up.drewN) | (with_reducible apply Up.drew)))
  go_loopw [5] (fun i w1 => ∃ (k : Nat) (BF1 : Nat → Prop), k ≤ nb ∧ k ≤ 12 ∧ i = .int .i64 k ∧ LookSt w0 W ab B bk n ve vp vi vb (.slice aB n cB) (.slice aM n cM) s F BF w1 BF1) (fun i _ => nb - (intOf i).toNat)
  case atStart => exact ⟨0, BF4, Nat.zero_le _, by omega, rfl, hS9⟩
  case round =>
    clear hS9 hT5 HU8
    obtain ⟨k, BF1, hk, hk12, rfl, hL⟩ := hrel
    have e3 := hL.play.c3
    rw [← HNB.out] at e3
    by_cases hlt : k < nb ∧ k < 12
    · obtain ⟨hlt, hlt12⟩ := hlt
      have hkb : k < s.blocks.length := by rw [← HNB.out]; exact hlt
      have hml := Rf.mem_len hinv.out hkb
      have hbb := hinv.out.b1 k hkb
      have e0 := hL.play.c0
      have HMe := Lib.hid (members_any hL.play.part hinv.out hn0 hkb)
      have hmr : s.mem k = Rf.refMem s.inn n k := Rf.mem_ref hinv.out hkb
      have hkr : Rf.refMarks s.inn (s.marks n) n k = s.M k := Rf.marks_ref hinv.out hkb
      obtain ⟨m, hm⟩ : ∃ m, m = (s.mem k).length := ⟨_, rfl⟩
      rw [← hm] at hml
      obtain ⟨mk, hmk⟩ : ∃ mk, mk = s.M k := ⟨_, rfl⟩
      have HL := Lib.hid hL
      have HX := Lib.hid hm
      have HMK := Lib.hid hmk
      have HMR := Lib.hid hmr
      have HKR := Lib.hid hkr
      have HLT : Hid (∀ j, F j → j < wr.heap.size) := fun j hj => hL.team.F_lt hj
      have HLB : Hid (∀ j, BF1 j → j < wr.heap.size) := fun j hj => hL.team.BF_lt hj
      have hWw : W.heap.size ≤ wr.heap.size := hL.tur.size
      have q7 : decide ((k : Int) < (nb : Int)) = true := by simp; omega
      have q12 : decide ((k : Int) < 12) = true := by simp; omega
      have qmk : ((mk : Int) != (mk : Int)) = false := by simp
      have hm1 : m ≤ 1000 := by omega
      clear hL hm hmk hmr hkr hbb hml hcl hhl
      go_upto_region 10 with (go_at_call 28; refine HMe.out.mono ?_; rintro r x2 ⟨g, cap, rfl, hown, hup⟩)
      rw [← HX.out] at hown ⊢
      have HL2 := Lib.hid (HL.out.up hup)
      have f0 := HL2.out.play.c0
      have f4 := HL2.out.play.c4
      have HMk : Hid (Calls Tryz.prog 30 #[.pointer (some ⟨B, 0, none⟩), .int .i64 (k : Nat)] x2 fun r w' => r = .returned (.tuple #[.int .i64 (mk : Nat), .nilIface]) ∧ x2 = w') := by
        rw [HMK.out]; exact marks_in HL2.out.play.part hinv.out hkb
      have hgl := hown.lt g rfl
      have HIn := Lib.hid (HL2.out.ints (v := .slice (some ⟨g, 0, none⟩) m cap) (xs := s.mem k) HF.out (by rw [← HX.out]; exact owns_base hown (Nat.zero_le _)) (by rw [← HX.out]; omega) (fun g' hg => by
        simp only [Value.ownBlock, Option.some.injEq] at hg
        subst hg
        exact ⟨fun h => by have := HLT.out _ h; omega, fun h => by have := HLB.out _ h; omega, by omega⟩) hw0)
      clear e0 HMe hup
      go_upto_region 12 with (first
        | (go_at_call 30; refine HMk.out.mono ?_; rintro r x3 ⟨rfl, rfl⟩)
        | (go_at_call 29; refine HIn.out.mono ?_; rintro r x3 ⟨rfl, ⟨BF2, hL3⟩, hk3⟩))
      have hown3 := hk3.owns hown
      have HL3 := Lib.hid hL3
      have HRM : Hid (Calls Tryz.prog 36 #[.pointer (some ⟨ab, 1, none⟩), .int .i64 (k : Nat)] x3 fun r w' => r = .returned (.int .i64 (mk : Nat)) ∧ x3 = w') := by
        rw [HMK.out, ← HKR.out]; exact refMarks _ hL3.play.ref (by omega)
      have HRE : Hid (Calls Tryz.prog 37 #[.pointer (some ⟨ab, 1, none⟩), .int .i64 (k : Nat)] x3 (LstDone x3 (s.mem k))) := by
        rw [HMR.out]; exact refMembers _ hL3.play.ref (by omega)
      have HSI : Hid (∀ w1 v, Up x3 w1 → Lst w1 v (s.mem k) → Calls Tryz.prog 33 #[.slice (some ⟨g, 0, none⟩) m cap, v] w1 (Same w1 true)) := fun w1 v hu hv =>
        sameInts_same (by rw [← HX.out]; omega) (owns_lst (hu.owns hown3)) hv
      clear hL3 hk3 hown hown3 HIn HMk
      go_wp2_with (first
        | (go_at_call 36; refine HRM.out.mono ?_; rintro r x4 ⟨rfl, rfl⟩)
        | (go_at_call 37; refine HRE.out.mono ?_; rintro r x4 ⟨v4, rfl, hown4, hup4⟩)
        | (go_at_call 33; refine (HSI.out _ v4 hup4 (owns_lst hown4)).mono ?_; rintro r x5 ⟨rfl, q5, rfl⟩))
      go_roundw
      case rel => exact ⟨k + 1, BF2, by omega, by omega, by go_num, HL3.out.up (hup4.drewN q5)⟩
      case measure => simp [intOf]; omega
    · by_cases hlt2 : k < nb
      · have q12 : decide ((k : Int) < 12) = false := by simp; omega
        clear hlt
        go_wp2_with fail
        go_ret
        exact ⟨rfl, F, BF1, hL.team, fun k hk => .inl hk, hL.bound, hL.tur⟩
      · have q12 : decide ((k : Int) < (nb : Int)) = false := by simp; omega
        clear hlt
        go_wp2_with fail
        go_ret
        exact ⟨rfl, F, BF1, hL.team, fun k hk => .inl hk, hL.bound, hL.tur⟩

end Go.Proofs.YtfkhaldheclheaaGreatDoor
