/- The statement RoundsAll, walked. -/
import Derived.Test.YtpmdjicaefmbnaaGreatDoorBook3Row
import Derived.Test.YtpmdjicaefmbnaaGreatDoorRdRankW

namespace Go.Proofs.YtpmdjicaefmbnaaGreatDoor
open Go.RowKit Go.Maps
set_option linter.unusedVariables false
set_option linter.unusedSimpArgs false

set_option maxHeartbeats 2000000 in
set_option maxRecDepth 100000 in
theorem told_zero (w : World) : Calls Tryz.prog 19 #[.nilIface, noErr] w fun r w' => r = .returned (.bool true) ∧ Up w w' := by
  unfold noErr errV
  go_enter Tryz.func19, Tryz.ntmps19
  go_wp2_with fail
  go_ret
  exact ⟨rfl, by repeat (first | (with_reducible exact Up.refl _) | (with_reducible apply Up.drewN) | (with_reducible apply Up.drew) | (with_reducible apply Up.alloc))⟩

theorem RowsOf.toI {b : Nat} {w : World} {vs : List Value} {rows : List (List Nat)} (h : RowsOf b w vs rows) : RowsI b w vs (rows.map fun c => c.map Int.ofNat) := by
  have hg : ∀ i, i < rows.length → (rows.map fun c => c.map Int.ofNat).getD i [] = (rows.getD i []).map Int.ofNat := fun i hi => by simp [List.getD, hi]
  refine ⟨by rw [List.length_map]; exact h.1, fun i hi => ?_, fun i j g k hij hj => by rw [List.length_map] at hj; exact h.2.2 i j g k hij hj⟩
  rw [List.length_map] at hi
  rw [hg i hi, List.length_map]
  exact h.2.1 i hi

theorem up_big {w w1 w2 : World} {lo bk : Nat} (h : Up w w1) (hb : w.heap.size ≤ bk) (hl : w.heap.size ≤ lo) (ht : Turned (fun k => k = bk ∨ lo ≤ k) w1 w2) : Up w w2 := by
  have h1 : Turned (fun j => w.heap.size ≤ j) w w1 := Turned.below h
  have h2 := h1.trans ht (fun i _ e => by rcases e with e | e <;> omega)
  exact ⟨h2.os, h2.tape, h2.output, h2.size, fun i hi => h2.block i hi (by omega)⟩

/-- In the loop over the book. -/
def LoopSt (lo bk : Nat) (w0 wr : World) : Prop := (∃ P Q R, Bk3 P Q R lo bk wr) ∧ Turned (fun k => k = bk ∨ lo ≤ k) w0 wr

theorem LoopSt.row {lo bk n : Nat} {w0 wr w4 : World} {v : Value} {vs : List Value} {rows : List (List Int)} (h : LoopSt lo bk w0 wr) (hlo : lo ≤ wr.heap.size) (hu : Up wr w4) (hv : w4.ownsRow wr.heap.size 34 1 v n vs) (hr : RowsI wr.heap.size w4 vs rows) (hl : ∀ j, j < rows.length → (rows.getD j []).length ≤ 900000) (hn : n ≤ 900000) :
    Calls Tryz.prog 21 #[.pointer (some ⟨bk, 0, none⟩), v] w4 fun r w' => r = .returned (.tuple #[]) ∧ LoopSt lo bk w0 w' := by
  obtain ⟨⟨P, Q, R, hB⟩, ht⟩ := h
  obtain ⟨hB2, hbk⟩ := hB.head
  refine (bookrow_any (hB2.up hu) (fun g hg => hg) (fun g hg => hg) (fun g hg => hg) hlo hbk hu.size hv hr hl hn).mono ?_
  rintro r w' ⟨rfl, hB3, ht3⟩
  refine ⟨rfl, hB3, (ht.trans (T := fun _ => False) ⟨hu.os, hu.tape, hu.output, hu.size, fun k hk _ => hu.block k hk⟩ (fun _ _ h => h.elim)).trans ht3 (fun i _ hi => hi)⟩

theorem LoopSt.want {lo bk b m : Nat} {w0 wr : World} {v : Value} {vs : List Value} {rows : List (List Int)} (h : LoopSt lo bk w0 wr) (hlo : lo = w0.heap.size) (hb : bk < b) (ho : w0.ownsRow b 34 1 v m vs) (hr : RowsI b w0 vs rows) : Rw.LstR wr v rows := by
  have hk : ∀ {e : TypeId} {n : Nat} {u : Value} {xs : List Value}, w0.ownsRow b e 1 u n xs → wr.ownsRow 0 e 1 u n xs := fun hx => owns_base (owns_keep hx (fun g hg => h.2.block g (owns_lt hx hg) (fun e => by
    have h1 := (hx.lt g hg).1
    have h2 := (hx.lt g hg).2
    rcases e with e | e <;> omega))) (Nat.zero_le _)
  have hvl : vs.length = m := by have := ho.1; rw [Nat.mul_one] at this; exact this
  refine rows_lstR (xs := vs) (by rw [hvl]; exact hk ho) (hr.1.symm) (fun j hj => ?_)
  have := hk (hr.2.1 j hj)
  rw [nth_undef (by rw [hr.1]; exact hj)] at this
  exact this

theorem rowsI_lst {b m : Nat} {w : World} {v : Value} {vs : List Value} {rows : List (List Int)} (ho : w.ownsRow b 34 1 v m vs) (hr : RowsI b w vs rows) : Rw.LstR w v rows := by
  have hvl : vs.length = m := by have := ho.1; rw [Nat.mul_one] at this; exact this
  refine rows_lstR (xs := vs) (by rw [hvl]; exact owns_base ho (Nat.zero_le _)) (hr.1.symm) (fun j hj => ?_)
  have := owns_base (hr.2.1 j hj) (Nat.zero_le _)
  rw [nth_undef (by rw [hr.1]; exact hj)] at this
  exact this

theorem LoopSt.start {w0 w1 : World} {bk : Nat} (hbk : w1.heap.size = bk) (hu : Up (w1.alloc (.cells #[.slice none 0 0, .slice none 0 0, .slice none 0 0, .slice none 0 0, .slice none 0 0, .slice none 0 0, .slice none 0 0, .slice none 0 0, .slice none 0 0, .slice none 0 0, .slice none 0 0, .slice none 0 0, .slice none 0 0, .slice none 0 0, .slice none 0 0, .slice none 0 0, .slice none 0 0, .slice none 0 0, .slice none 0 0, .slice none 0 0, .slice none 0 0, .slice none 0 0] 50)) w0) : LoopSt w0.heap.size bk w0 w0 := by
  subst hbk
  refine ⟨⟨fun _ => False, fun _ => False, fun _ => False, Bk3.up ?_ hu⟩, Turned.refl _ _⟩
  refine ⟨_, _, _, _, [], [], ⟨heap_alloc_new w1 _, World.ownsRow_nil _ _ _ _, World.ownsRow_nil _ _ _ _, fun g hg => (by cases hg), fun e he => (by cases he), List.nodup_nil, fun e he => (by cases he)⟩,
      ⟨heap_alloc_new w1 _, World.ownsRow_nil _ _ _ _, World.ownsRow_nil _ _ _ _, fun g hg => (by cases hg), fun e he => (by cases he), List.nodup_nil, fun e he => (by cases he)⟩, Nat.zero_le _, Nat.zero_le _, fun q hq => (by cases hq), fun j hj => ?_, fun j hj => ?_, fun g hg hm => (by cases hm), fun g hg => (by cases hg), fun g hg => (by cases hg), fun g hg => (by rcases hg with e | e <;> cases e)⟩
  · rcases hj with rfl | e | e | e
    · exact .inl rfl
    · cases e
    · cases e
    · cases e
  · rcases hj with rfl | e | e | e
    · exact .inl rfl
    · cases e
    · cases e
    · cases e

/-- What All leaves where the system is one. -/
def GotRows (m : Nat) (rows : List (List Int)) (w : World) (r : Ending) (w' : World) : Prop :=
  ∃ av cv vs, r = .returned (.tuple #[.slice av m cv, .nilIface]) ∧ Hid (w'.ownsRow w.heap.size 34 1 (.slice av m cv) m vs ∧ RowsI w.heap.size w' vs rows) ∧ Up w w'
def GotWant (m : Nat) (rows : List (List Int)) (w : World) (r : Ending) (w' : World) : Prop :=
  ∃ av cv vs, r = .returned (.slice av m cv) ∧ Hid (w'.ownsRow w.heap.size 34 1 (.slice av m cv) m vs ∧ RowsI w.heap.size w' vs rows) ∧ Up w w'

set_option maxHeartbeats 4000000 in
set_option maxRecDepth 100000 in
theorem allLaw_out (s : Sy.Lts) (se : Value) (a : Nat → Addr) (w : World) (hg : light s = false) (hS : Set14 w s se a) :
    Calls Tryz.prog 5 #[sysV s se] w (Good w) := by
  obtain ⟨ao, cap, rfl⟩ := ls3_shape hS.arg
  have hA : ∀ W, Up w W → Calls Tryz.prog 10 #[] W fun r w' => r = .returned (.bool true) ∧ Up W w' := fun W hu => alive_any (hS.tab.up hu) (hu.cell hS.typ) (hu.cell hS.sys)
  have hLI : ∀ W, Up w W → Calls Tryz.prog 16 #[sysV s (.slice ao s.es.length cap)] W fun r w' => r = .returned (.bool (light s)) ∧ Up W w' := fun W hu => light_any s _ W (hS.arg.up hu) hS.len
  rw [hg] at hLI
  obtain ⟨L, hL⟩ : ∃ L, L = s.es.length := ⟨_, rfl⟩
  unfold sysV at hLI ⊢
  rw [← hL] at hLI ⊢
  have HA := Lib.hid hA
  have HLI := Lib.hid hLI
  have hb0 := heap_alloc_new w (.cells #[.int .i64 s.n, .int .i64 s.m, .int .i64 s.start, .slice ao L cap] 24)
  have HB0 := Lib.hid hb0
  have HU0 : Hid (Up w (w.alloc (.cells #[.int .i64 s.n, .int .i64 s.m, .int .i64 s.start, .slice ao L cap] 24))) := Lib.hid ((Up.refl w).alloc _)
  clear hA hLI hS hL hb0
  go_enter Tryz.func5, Tryz.ntmps5
  go_wp2_with (first
    | (go_at_call 16; refine (HLI.out _ HU0.out).mono ?_; rintro r w1 ⟨rfl, hu1⟩; (have HUB1 := Lib.hid hu1); clear hu1)
    | (go_at_call 10; refine (HA.out _ (HU0.out.trans HUB1.out)).mono ?_; rintro r w2 ⟨rfl, hu2⟩))
  go_ret
  exact ⟨rfl, (HU0.out.trans HUB1.out).trans hu2⟩

set_option maxHeartbeats 8000000 in
set_option maxRecDepth 100000 in
theorem allLaw_ok (s : Sy.Lts) (se : Value) (a : Nat → Addr) (w : World) (hg : light s = true) (hr : Sy.right s = true) (hcp : CapOk se) (hS : Set14 w s se a) :
    Calls Tryz.prog 5 #[sysV s se] w (Good w) := by
  obtain ⟨ao, cap, rfl⟩ := ls3_shape hS.arg
  have hA : ∀ W, Up w W → Calls Tryz.prog 10 #[] W fun r w' => r = .returned (.bool true) ∧ Up W w' := fun W hu => alive_any (hS.tab.up hu) (hu.cell hS.typ) (hu.cell hS.sys)
  have hLI : ∀ W, Up w W → Calls Tryz.prog 16 #[sysV s (.slice ao s.es.length cap)] W fun r w' => r = .returned (.bool (light s)) ∧ Up W w' := fun W hu => light_any s _ W (hS.arg.up hu) hS.len
  have hHA : ∀ W, Up w W → Calls Tryz.prog 17 #[.string { data := #[114, 111, 117, 110, 100, 115] }, sysV s (.slice ao s.es.length cap)] W fun r w' => r = .returned (handedV s) ∧ Up W w' := fun W hu => refHanded_any s _ W (hS.arg.up hu) hS.len
  rw [hg] at hLI
  have hh : handedV s = errV 0 { data := #[] } := by unfold handedV noErr; rw [hr]; rfl
  rw [hh] at hHA
  have hR := (Sy.right_iff s).1 hr
  obtain ⟨m, hm⟩ : ∃ m, m = Rd.last s + 1 := ⟨_, rfl⟩
  obtain ⟨rows, hrows⟩ : ∃ rows, rows = (Rd.rounds s).map fun c => c.map Int.ofNat := ⟨_, rfl⟩
  have hml : m ≤ 1001 := by have := rounds_small hR; rw [Rd.rounds_len] at this; omega
  have hrl : rows.length = m := by rw [hrows, List.length_map, Rd.rounds_len, hm]
  have hrn : ∀ j, j < rows.length → (rows.getD j []).length ≤ 900000 := fun j hj => by
    rw [hrows] at hj ⊢
    rw [List.length_map] at hj
    have h1 := rounds_mem (List.getElem_mem hj)
    have h2 := hR.n1
    simp [List.getD, hj]
    omega
  have hAL : ∀ W, Up w W → Calls Tryz.prog 11 #[sysV s (.slice ao s.es.length cap)] W (GotRows m rows W) := fun W hu => by
    refine (all_any s _ _ _ W (hS.tab.up hu) (hu.cell hS.typ) (hS.arg.up hu) (hu.cell hS.sys) hS.len).mono ?_
    rintro r w' ⟨hu1, ⟨-, v, vs, rfl, ho, hrw⟩ | ⟨h1, -⟩⟩
    · rw [← hm] at ho
      obtain ⟨av, cv, rfl⟩ := owns_shape' ho
      exact ⟨av, cv, vs, rfl, Lib.hid ⟨ho, by rw [hrows]; exact hrw.toI⟩, hu1⟩
    · exact absurd (hr.symm.trans h1) (by decide)
  have hRD : ∀ W, Up w W → Calls Tryz.prog 18 #[sysV s (.slice ao s.es.length cap)] W (GotWant m rows W) := fun W hu => by
    refine (refRounds_any hR (hS.arg.up hu) hcp).mono ?_
    rintro r w' ⟨ao2, cap2, vs, rfl, hu1, ho, hrw⟩
    rw [← hm] at ho ⊢
    exact ⟨ao2, cap2, vs, rfl, Lib.hid ⟨ho, by rw [hrows]; exact hrw.toI⟩, hu1⟩
  have HSR : Hid (∀ W v u, Rw.LstR W v rows → Rw.LstR W u rows → Calls Tryz.prog 20 #[v, u] W (Same W true)) := Lib.hid (fun W v u hv hu => Rw.sameRows_same (by omega) (fun i hi => by have := hrn i hi; omega) hv hu)
  have HTZ := Lib.hid told_zero
  have HRN := Lib.hid (⟨hrn, hml⟩ : (∀ j, j < rows.length → (rows.getD j []).length ≤ 900000) ∧ m ≤ 1001)
  obtain ⟨L, hL⟩ : ∃ L, L = s.es.length := ⟨_, rfl⟩
  unfold sysV at hLI hHA hAL hRD ⊢
  rw [← hL] at hLI hHA hAL hRD ⊢
  have HA := Lib.hid hA
  have HLI := Lib.hid hLI
  have HHA := Lib.hid hHA
  have HAL := Lib.hid hAL
  have HRD := Lib.hid hRD
  have hb0 := heap_alloc_new w (.cells #[.int .i64 s.n, .int .i64 s.m, .int .i64 s.start, .slice ao L cap] 24)
  have HB0 := Lib.hid hb0
  have HU0 : Hid (Up w (w.alloc (.cells #[.int .i64 s.n, .int .i64 s.m, .int .i64 s.start, .slice ao L cap] 24))) := Lib.hid ((Up.refl w).alloc _)
  unfold noErr errV at HTZ
  unfold errV at HHA
  clear hA hLI hHA hAL hRD hS hL hb0 hh hR hm hrows hrl hrn hml
  go_enter Tryz.func5, Tryz.ntmps5
  go_upto_region 3 with (go_at_call 16; refine (HLI.out _ HU0.out).mono ?_; rintro r w1 ⟨rfl, hu1⟩; (have HUB1 := Lib.hid hu1); clear hu1)
  have HBK0 : Hid (Up (w1.alloc (.cells #[.slice none 0 0, .slice none 0 0, .slice none 0 0, .slice none 0 0, .slice none 0 0, .slice none 0 0, .slice none 0 0, .slice none 0 0, .slice none 0 0, .slice none 0 0, .slice none 0 0, .slice none 0 0, .slice none 0 0, .slice none 0 0, .slice none 0 0, .slice none 0 0, .slice none 0 0, .slice none 0 0, .slice none 0 0, .slice none 0 0, .slice none 0 0, .slice none 0 0] 50)) (w1.alloc (.cells #[.slice none 0 0, .slice none 0 0, .slice none 0 0, .slice none 0 0, .slice none 0 0, .slice none 0 0, .slice none 0 0, .slice none 0 0, .slice none 0 0, .slice none 0 0, .slice none 0 0, .slice none 0 0, .slice none 0 0, .slice none 0 0, .slice none 0 0, .slice none 0 0, .slice none 0 0, .slice none 0 0, .slice none 0 0, .slice none 0 0, .slice none 0 0, .slice none 0 0] 50))) := Lib.hid (Up.refl _)
  have hb1 := ((HUB1.out.alloc (.cells #[.slice none 0 0, .slice none 0 0, .slice none 0 0, .slice none 0 0, .slice none 0 0, .slice none 0 0, .slice none 0 0, .slice none 0 0, .slice none 0 0, .slice none 0 0, .slice none 0 0, .slice none 0 0, .slice none 0 0, .slice none 0 0, .slice none 0 0, .slice none 0 0, .slice none 0 0, .slice none 0 0, .slice none 0 0, .slice none 0 0, .slice none 0 0, .slice none 0 0] 50)).block _ (lt_of_block' HB0.out)).trans HB0.out
  obtain ⟨⟨k0, k1, k2, k3⟩, -⟩ := four_cells hb1
  have HUB2 := Lib.hid (HUB1.out.alloc (.cells #[.slice none 0 0, .slice none 0 0, .slice none 0 0, .slice none 0 0, .slice none 0 0, .slice none 0 0, .slice none 0 0, .slice none 0 0, .slice none 0 0, .slice none 0 0, .slice none 0 0, .slice none 0 0, .slice none 0 0, .slice none 0 0, .slice none 0 0, .slice none 0 0, .slice none 0 0, .slice none 0 0, .slice none 0 0, .slice none 0 0, .slice none 0 0, .slice none 0 0] 50))
  clear hb1
  go_upto_region 5 with (go_at_call 17; refine (HHA.out _ (HU0.out.trans HUB2.out)).mono ?_; rintro r w3 ⟨rfl, hu3⟩; (have HUB3 := Lib.hid hu3); clear hu3)
  have HUB4 := Lib.hid ((HUB2.out.trans HUB3.out).alloc (.cells #[.int .i64 0, .int .i64 0, .int .i64 0, .string { data := #[] }] 52))
  have HBE := Lib.hid (heap_alloc_new w3 (.cells #[.int .i64 0, .int .i64 0, .int .i64 0, .string { data := #[] }] 52))
  have HBK4 := Lib.hid (HUB3.out.alloc (.cells #[.int .i64 0, .int .i64 0, .int .i64 0, .string { data := #[] }] 52))
  have HSZ : Hid (w1.heap.size + 1 ≤ w3.heap.size) := Lib.hid (by have := HUB3.out.size; rw [World.size_alloc] at this; exact this)
  obtain ⟨w4, hw4⟩ : ∃ w4, w4 = w3.alloc (.cells #[.int .i64 0, .int .i64 0, .int .i64 0, .string { data := #[] }] 52) := ⟨_, rfl⟩
  have hw4s : w4.heap.size = w3.heap.size + 1 := by rw [hw4, World.size_alloc]
  rw [← hw4] at HUB4 HBE HBK4 ⊢
  have HW4 := Lib.hid hw4s
  obtain ⟨⟨k0, k1, k2, k3⟩, -⟩ := four_cells ((HUB4.out.block _ (lt_of_block' HB0.out)).trans HB0.out)
  obtain ⟨⟨e0, e1, e2, e3⟩, -⟩ := four_cells HBE.out
  clear hw4 hw4s
  go_upto_region 8 with (go_at_call 18; refine (HRD.out _ (HU0.out.trans HUB4.out)).mono ?_; rintro r w5 ⟨av, cv, us, rfl, HWA, hu5⟩; (have HU5 := Lib.hid hu5); clear hu5)
  clear e0 e1 e2 e3 k0 k1 k2 k3
  have HL0 := Lib.hid (LoopSt.start (w0 := w5) rfl (HBK4.out.trans HU5.out))
  have HU05 := Lib.hid (HU0.out.trans (HUB4.out.trans HU5.out))
  have HS5 := Lib.hid ((HU5.out.block _ (lt_of_block' HBE.out)).trans HBE.out)
  have HB5 := Lib.hid (((HUB4.out.trans HU5.out).block _ (lt_of_block' HB0.out)).trans HB0.out)
  obtain ⟨bk, hbk⟩ : ∃ b, b = w1.heap.size := ⟨_, rfl⟩
  obtain ⟨be, hbe⟩ : ∃ b, b = w3.heap.size := ⟨_, rfl⟩
  obtain ⟨lo, hlo⟩ : ∃ b, b = w5.heap.size := ⟨_, rfl⟩
  have HLO := Lib.hid hlo
  have HBB : Hid (w.heap.size < bk ∧ bk < be ∧ be < lo ∧ bk < w4.heap.size) := Lib.hid (by
    have h1 := HUB1.out.size
    have h2 := HSZ.out
    have h3 := HW4.out
    have h4 := HU5.out.size
    rw [World.size_alloc] at h1
    omega)
  rw [← hbk, ← hlo] at HL0
  rw [← hbe] at HS5
  rw [← hbk, ← hbe]
  have HWL : Hid (∀ wr, LoopSt lo bk w5 wr → Rw.LstR wr (.slice av m cv) rows) := Lib.hid (fun wr h => h.want HLO.out HBB.out.2.2.2 HWA.out.1 HWA.out.2)
  clear HWA HU5 HUB4 HBK4 HBE HW4 HSZ HUB3 HUB2 HUB1 HB0 HBK0 HLI HHA HRD hbk hbe hlo
  go_wp2_with fail
  go_loopw [6] (fun i wr => ∃ k : Nat, k ≤ 2 ∧ i = .int .i64 k ∧ LoopSt lo bk w5 wr) (fun i _ => 2 - (intOf i).toNat)
  case atStart => exact ⟨0, by omega, rfl, HL0.out⟩
  case round =>
    clear HL0
    obtain ⟨k, hk, rfl, hS⟩ := hrel
    have hUw : Up w wr := up_big HU05.out (by have := HBB.out; omega) (by have := HBB.out; omega) hS.2
    have hUS : wr.heap[w.heap.size]? = _ := (hS.2.block _ (lt_of_block' HB5.out) (by have := HBB.out; omega)).trans HB5.out
    have hUE : wr.heap[be]? = _ := (hS.2.block _ (lt_of_block' HS5.out) (by have := HBB.out; omega)).trans HS5.out
    have hsz : lo ≤ wr.heap.size := by rw [HLO.out]; exact hS.2.size
    by_cases hlt : k < 2
    · have qk : (k : Int) < 2 := by omega
      obtain ⟨⟨k0, k1, k2, k3⟩, -⟩ := four_cells hUS
      have HUE := Lib.hid hUE
      have HUw := Lib.hid hUw
      have HS := Lib.hid hS
      clear hUS hUE hUw hS
      go_wp2_with (first
        | (go_at_call 11; refine (HAL.out _ HUw.out).mono ?_; rintro r w6 ⟨a2, c2, vs, rfl, HGV, hu6⟩; (have HU6 := Lib.hid hu6); (obtain ⟨⟨e0, e1, e2, e3⟩, -⟩ := four_cells ((hu6.block _ (lt_of_block' HUE.out)).trans HUE.out)); clear hu6 k0 k1 k2 k3)
        | (go_at_call 19; refine (HTZ.out _).mono ?_; rintro r w7 ⟨rfl, hu7⟩; (have HU7 := Lib.hid (HU6.out.trans hu7)); (have HV7 := Lib.hid (And.intro (hu7.owns HGV.out.1) (HGV.out.2.up hu7))); clear hu7)
        | (go_at_call 20; refine (HSR.out _ _ _ (rowsI_lst HV7.out.1 HV7.out.2) ((HWL.out _ HS.out).up HU7.out)).mono ?_; rintro r w8 ⟨rfl, q8, rfl⟩)
        | (go_at_call 21; refine (HS.out.row hsz (HU7.out.drewN q8) (((Up.refl _).drewN q8).owns HV7.out.1) (HV7.out.2.up ((Up.refl _).drewN q8)) HRN.out.1 (by have := HRN.out.2; omega)).mono ?_; rintro r w9 ⟨rfl, hS9⟩))
      go_roundw
      case rel => exact ⟨k + 1, by omega, by go_num, hS9⟩
      case measure => simp [intOf]; omega
    · obtain rfl : k = 2 := by omega
      obtain ⟨⟨P, Q, R, hB⟩, ht⟩ := hS
      have HB := Lib.hid hB
      have HUw := Lib.hid hUw
      clear hB ht hUw hUS hUE
      go_wp2_with (first
        | (go_at_call 10; refine (HA.out _ HUw.out).mono ?_; rintro r w6 ⟨rfl, hu6⟩)
        | (go_at_call 22; refine ((HB.out.up hu6).apart).mono ?_; rintro r w7 ⟨rfl, ht7⟩))
      go_ret
      exact ⟨rfl, up_big (HUw.out.trans hu6) (by have := HBB.out; omega) (by have := HBB.out; omega) ht7⟩

theorem lstR_nil (w : World) : Rw.LstR w (.slice none 0 0) [] := ⟨none, 0, 0, 0, rfl, fun h => absurd h (Nat.lt_irrefl 0), fun i hi => absurd hi (Nat.not_lt_zero i)⟩

theorem LoopSt.rowNil {lo bk : Nat} {w0 wr w4 : World} (h : LoopSt lo bk w0 wr) (hlo : lo ≤ wr.heap.size) (hu : Up wr w4) :
    Calls Tryz.prog 21 #[.pointer (some ⟨bk, 0, none⟩), .slice none 0 0] w4 fun r w' => r = .returned (.tuple #[]) ∧ LoopSt lo bk w0 w' :=
  h.row (n := 0) (rows := []) hlo hu (World.ownsRow_nil _ _ _ _) (RowsI.nil _ _) (fun j hj => absurd hj (Nat.not_lt_zero j)) (by omega)

set_option maxHeartbeats 8000000 in
set_option maxRecDepth 100000 in
theorem allLaw_bad (s : Sy.Lts) (se : Value) (a : Nat → Addr) (w : World) (hg : light s = true) (hr : Sy.right s = false) (hS : Set14 w s se a) :
    Calls Tryz.prog 5 #[sysV s se] w (Good w) := by
  obtain ⟨ao, cap, rfl⟩ := ls3_shape hS.arg
  have hA : ∀ W, Up w W → Calls Tryz.prog 10 #[] W fun r w' => r = .returned (.bool true) ∧ Up W w' := fun W hu => alive_any (hS.tab.up hu) (hu.cell hS.typ) (hu.cell hS.sys)
  have hLI : ∀ W, Up w W → Calls Tryz.prog 16 #[sysV s (.slice ao s.es.length cap)] W fun r w' => r = .returned (.bool (light s)) ∧ Up W w' := fun W hu => light_any s _ W (hS.arg.up hu) hS.len
  have hHA : ∀ W, Up w W → Calls Tryz.prog 17 #[.string { data := #[114, 111, 117, 110, 100, 115] }, sysV s (.slice ao s.es.length cap)] W fun r w' => r = .returned (handedV s) ∧ Up W w' := fun W hu => refHanded_any s _ W (hS.arg.up hu) hS.len
  rw [hg] at hLI
  have hh : handedV s = errV 14 layersBoth := by unfold handedV; rw [hr]; rfl
  rw [hh] at hHA
  have hAL : ∀ W, Up w W → Calls Tryz.prog 11 #[sysV s (.slice ao s.es.length cap)] W fun r w' => ∃ qb, r = .returned (.tuple #[.slice none 0 0, faultAt qb]) ∧ Hid (∃ pb, FaultE w' qb layerRounds (faultAt pb) ∧ FaultE w' pb layerSystem (.iface 299 (.pointer (some (a 13))))) ∧ Up W w' := fun W hu => by
    refine (all_any s _ _ _ W (hS.tab.up hu) (hu.cell hS.typ) (hS.arg.up hu) (hu.cell hS.sys) hS.len).mono ?_
    rintro r w' ⟨hu1, ⟨h1, -⟩ | ⟨-, qb, pb, rfl, -, -, hf1, hf2⟩⟩
    · exact absurd (hr.symm.trans h1) (by decide)
    · exact ⟨qb, rfl, Lib.hid ⟨pb, hf1, hf2⟩, hu1⟩
  have HSR : Hid (∀ W, Calls Tryz.prog 20 #[.slice none 0 0, .slice none 0 0] W (Same W true)) := Lib.hid (fun W => Rw.sameRows_same (rows := []) (by simp) (fun i hi => absurd hi (Nat.not_lt_zero i)) (lstR_nil W) (lstR_nil W))
  have HST := Lib.hid hS
  obtain ⟨L, hL⟩ : ∃ L, L = s.es.length := ⟨_, rfl⟩
  unfold sysV at hLI hHA hAL ⊢
  rw [← hL] at hLI hHA hAL ⊢
  have HA := Lib.hid hA
  have HLI := Lib.hid hLI
  have HHA := Lib.hid hHA
  have HAL := Lib.hid hAL
  have hb0 := heap_alloc_new w (.cells #[.int .i64 s.n, .int .i64 s.m, .int .i64 s.start, .slice ao L cap] 24)
  have HB0 := Lib.hid hb0
  have HU0 : Hid (Up w (w.alloc (.cells #[.int .i64 s.n, .int .i64 s.m, .int .i64 s.start, .slice ao L cap] 24))) := Lib.hid ((Up.refl w).alloc _)
  unfold errV at HHA
  clear hA hLI hHA hAL hS hL hb0 hh
  go_enter Tryz.func5, Tryz.ntmps5
  go_upto_region 3 with (go_at_call 16; refine (HLI.out _ HU0.out).mono ?_; rintro r w1 ⟨rfl, hu1⟩; (have HUB1 := Lib.hid hu1); clear hu1)
  have HBK0 : Hid (Up (w1.alloc (.cells #[.slice none 0 0, .slice none 0 0, .slice none 0 0, .slice none 0 0, .slice none 0 0, .slice none 0 0, .slice none 0 0, .slice none 0 0, .slice none 0 0, .slice none 0 0, .slice none 0 0, .slice none 0 0, .slice none 0 0, .slice none 0 0, .slice none 0 0, .slice none 0 0, .slice none 0 0, .slice none 0 0, .slice none 0 0, .slice none 0 0, .slice none 0 0, .slice none 0 0] 50)) (w1.alloc (.cells #[.slice none 0 0, .slice none 0 0, .slice none 0 0, .slice none 0 0, .slice none 0 0, .slice none 0 0, .slice none 0 0, .slice none 0 0, .slice none 0 0, .slice none 0 0, .slice none 0 0, .slice none 0 0, .slice none 0 0, .slice none 0 0, .slice none 0 0, .slice none 0 0, .slice none 0 0, .slice none 0 0, .slice none 0 0, .slice none 0 0, .slice none 0 0, .slice none 0 0] 50))) := Lib.hid (Up.refl _)
  have hb1 := ((HUB1.out.alloc (.cells #[.slice none 0 0, .slice none 0 0, .slice none 0 0, .slice none 0 0, .slice none 0 0, .slice none 0 0, .slice none 0 0, .slice none 0 0, .slice none 0 0, .slice none 0 0, .slice none 0 0, .slice none 0 0, .slice none 0 0, .slice none 0 0, .slice none 0 0, .slice none 0 0, .slice none 0 0, .slice none 0 0, .slice none 0 0, .slice none 0 0, .slice none 0 0, .slice none 0 0] 50)).block _ (lt_of_block' HB0.out)).trans HB0.out
  obtain ⟨⟨k0, k1, k2, k3⟩, -⟩ := four_cells hb1
  have HUB2 := Lib.hid (HUB1.out.alloc (.cells #[.slice none 0 0, .slice none 0 0, .slice none 0 0, .slice none 0 0, .slice none 0 0, .slice none 0 0, .slice none 0 0, .slice none 0 0, .slice none 0 0, .slice none 0 0, .slice none 0 0, .slice none 0 0, .slice none 0 0, .slice none 0 0, .slice none 0 0, .slice none 0 0, .slice none 0 0, .slice none 0 0, .slice none 0 0, .slice none 0 0, .slice none 0 0, .slice none 0 0] 50))
  clear hb1
  go_upto_region 5 with (go_at_call 17; refine (HHA.out _ (HU0.out.trans HUB2.out)).mono ?_; rintro r w3 ⟨rfl, hu3⟩; (have HUB3 := Lib.hid hu3); clear hu3)
  have HUB4 := Lib.hid ((HUB2.out.trans HUB3.out).alloc (.cells #[.int .i64 14, .int .i64 0, .int .i64 0, .string layersBoth] 52))
  have HBE := Lib.hid (heap_alloc_new w3 (.cells #[.int .i64 14, .int .i64 0, .int .i64 0, .string layersBoth] 52))
  have HBK4 := Lib.hid (HUB3.out.alloc (.cells #[.int .i64 14, .int .i64 0, .int .i64 0, .string layersBoth] 52))
  have HSZ : Hid (w1.heap.size + 1 ≤ w3.heap.size) := Lib.hid (by have := HUB3.out.size; rw [World.size_alloc] at this; exact this)
  obtain ⟨w4, hw4⟩ : ∃ w4, w4 = w3.alloc (.cells #[.int .i64 14, .int .i64 0, .int .i64 0, .string layersBoth] 52) := ⟨_, rfl⟩
  have hw4s : w4.heap.size = w3.heap.size + 1 := by rw [hw4, World.size_alloc]
  rw [← hw4] at HUB4 HBE HBK4 ⊢
  have HW4 := Lib.hid hw4s
  obtain ⟨⟨e0, e1, e2, e3⟩, -⟩ := four_cells HBE.out
  clear hw4 hw4s
  have HL0 := Lib.hid (LoopSt.start (w0 := w4) rfl HBK4.out)
  have HU05 := Lib.hid (HU0.out.trans HUB4.out)
  have HS5 := HBE
  have HB5 := Lib.hid ((HUB4.out.block _ (lt_of_block' HB0.out)).trans HB0.out)
  obtain ⟨bk, hbk⟩ : ∃ b, b = w1.heap.size := ⟨_, rfl⟩
  obtain ⟨be, hbe⟩ : ∃ b, b = w3.heap.size := ⟨_, rfl⟩
  obtain ⟨lo, hlo⟩ : ∃ b, b = w4.heap.size := ⟨_, rfl⟩
  have HLO := Lib.hid hlo
  have HBB : Hid (w.heap.size < bk ∧ bk < be ∧ be < lo) := Lib.hid (by
    have h1 := HUB1.out.size
    have h2 := HSZ.out
    have h3 := HW4.out
    rw [World.size_alloc] at h1
    omega)
  rw [← hbk, ← hlo] at HL0
  rw [← hbe] at HS5 e0 e1 e2 e3
  rw [← hbk, ← hbe]
  clear HUB4 HBK4 HBE HW4 HSZ HUB3 HUB2 HUB1 HB0 HBK0 HLI HHA hbk hbe hlo
  go_wp2_with fail
  clear e0 e1 e2 e3
  go_loopw [6] (fun i wr => ∃ k : Nat, k ≤ 2 ∧ i = .int .i64 k ∧ LoopSt lo bk w4 wr) (fun i _ => 2 - (intOf i).toNat)
  case atStart => exact ⟨0, by omega, rfl, HL0.out⟩
  case round =>
    clear HL0
    obtain ⟨k, hk, rfl, hS⟩ := hrel
    have hUw : Up w wr := up_big HU05.out (by have := HBB.out; omega) (by have := HBB.out; omega) hS.2
    have hUS : wr.heap[w.heap.size]? = _ := (hS.2.block _ (lt_of_block' HB5.out) (by have := HBB.out; omega)).trans HB5.out
    have hUE : wr.heap[be]? = _ := (hS.2.block _ (lt_of_block' HS5.out) (by have := HBB.out; omega)).trans HS5.out
    have hsz : lo ≤ wr.heap.size := by rw [HLO.out]; exact hS.2.size
    by_cases hlt : k < 2
    · have qk : (k : Int) < 2 := by omega
      obtain ⟨⟨k0, k1, k2, k3⟩, -⟩ := four_cells hUS
      have HUE := Lib.hid hUE
      have HUw := Lib.hid hUw
      have HS := Lib.hid hS
      clear hUS hUE hUw hS
      go_wp2_with (first
        | (go_at_call 11; refine (HAL.out _ HUw.out).mono ?_; rintro r w6 ⟨qb, rfl, HFF, hu6⟩; (have HU6 := Lib.hid hu6); (obtain ⟨⟨e0, e1, e2, e3⟩, -⟩ := four_cells ((hu6.block _ (lt_of_block' HUE.out)).trans HUE.out)); clear hu6 k0 k1 k2 k3; unfold faultAt)
        | (go_at_call 19; refine Calls.mono (show Calls Tryz.prog 19 #[.iface 101 (.pointer (some ⟨qb, 0, none⟩)), .agg #[.int .i64 14, .int .i64 0, .int .i64 0, .string layersBoth]] w6 (fun r w' => r = .returned (.bool true) ∧ Up w6 w') from told_nest HFF.out.choose_spec.1 HFF.out.choose_spec.2 (HST.out.sts.up (HUw.out.trans HU6.out))) ?_; rintro r w7 ⟨rfl, hu7⟩; (have HU7 := Lib.hid (HU6.out.trans hu7)); clear hu7)
        | (go_at_call 20; refine (HSR.out _).mono ?_; rintro r w8 ⟨rfl, q8, rfl⟩)
        | (go_at_call 21; refine (HS.out.rowNil hsz (HU7.out.drewN q8)).mono ?_; rintro r w9 ⟨rfl, hS9⟩))
      go_roundw
      case rel => exact ⟨k + 1, by omega, by go_num, hS9⟩
      case measure => simp [intOf]; omega
    · obtain rfl : k = 2 := by omega
      obtain ⟨⟨P, Q, R, hB⟩, ht⟩ := hS
      have HB := Lib.hid hB
      have HUw := Lib.hid hUw
      clear hB ht hUw hUS hUE
      go_wp2_with (first
        | (go_at_call 10; refine (HA.out _ HUw.out).mono ?_; rintro r w6 ⟨rfl, hu6⟩)
        | (go_at_call 22; refine ((HB.out.up hu6).apart).mono ?_; rintro r w7 ⟨rfl, ht7⟩))
      go_ret
      exact ⟨rfl, up_big (HUw.out.trans hu6) (by have := HBB.out; omega) (by have := HBB.out; omega) ht7⟩

/-- THE STATEMENT, WALKED. -/
theorem allLaw_any {s : Sy.Lts} {se : Value} {a : Nat → Addr} {w : World} (hs : Ls3 w se s.es) (hl : s.es.length ≤ maxLen) (hcp : CapOk se) (S : Sts14 w a) (hT : Tab w) (hG : ErrT w) :
    Calls Tryz.prog 5 #[sysV s se] w (Good w) := by
  have hS : Set14 w s se a := ⟨S, hT, hG, hs, hl⟩
  cases hg : light s
  · exact allLaw_out s se a w hg hS
  · cases hr : Sy.right s
    · exact allLaw_bad s se a w hg hr hS
    · exact allLaw_ok s se a w hg hr hcp hS

end Go.Proofs.YtpmdjicaefmbnaaGreatDoor
