/- Walk: the statement DistinguishTells. -/
import Derived.Test.YtkcdkfkgjjpaaaaGreatDoorFmHold
import Derived.Deep.QuietTactic
namespace Go.Proofs.YtkcdkfkgjjpaaaaGreatDoor
open Go.RowKit Go.Sort Go.Maps
set_option linter.unusedVariables false
set_option linter.unusedSimpArgs false

/-- The sentinels, two of them besides known not to be ErrLimit. -/
structure TellSent (w : World) (a b i n m : Addr) : Prop where
  c : CmpSent w a b i n m
  ni : i ≠ m
  na : a ≠ m
  bi : ∃ c t, w.heap[i.block]? = some (.cells c t (0, 0))
  ba : ∃ c t, w.heap[a.block]? = some (.cells c t (0, 0))

theorem TellSent.up {w w1 : World} {a b i n m : Addr} (h : TellSent w a b i n m) (hu : Up w w1) : TellSent w1 a b i n m := by
  obtain ⟨c, t, hc⟩ := h.bi
  obtain ⟨c', t', hc'⟩ := h.ba
  exact ⟨h.c.up hu, h.ni, h.na, ⟨c, t, (hu.block _ (lt_of_block' hc)).trans hc⟩, ⟨c', t', (hu.block _ (lt_of_block' hc')).trans hc'⟩⟩

/-- An error that is not ErrLimit. -/
def NotLim (w : World) (m : Addr) (e : Value) : Prop := ∃ qb, e = .iface 103 (.pointer (some ⟨qb, 0, none⟩)) ∧ ∀ W, Up w W → Calls Tryz.prog 16 #[.iface 103 (.pointer (some ⟨qb, 0, none⟩)), .iface 354 (.pointer (some m))] W fun r w' => r = .returned (.bool false) ∧ W = w'

/-- Compare where the system is none, or a state is not there. -/
theorem cmp_off {s : Sy.Lts} {ao : Option Addr} {cap : Nat} {p q : Int} {a b i n m : Addr} {w : World} (hno : ¬ (Sy.right s = true ∧ There s p q)) (h3 : s.n ≤ 300) (hT : Tab w) (hG : ErrT w) (hs : Ls3 w (.slice ao s.es.length cap) s.es) (hC : TellSent w a b i n m) (hl : s.es.length ≤ maxLen) :
    Calls Tryz.prog 15 #[.agg #[.int .i64 s.n, .int .i64 s.m, .int .i64 s.start, .slice ao s.es.length cap], .int .i64 p, .int .i64 q] w fun r w1 => Up w w1 ∧ ∃ e, r = .returned (.tuple #[.agg #[.bool false, .slice none 0 0, .slice none 0 0], e]) ∧ NotLim w1 m e := by
  have hC2 := compare_any s (.slice ao s.es.length cap) p q a b i n m w hT hG hs hC.c hl
  refine Calls.mono hC2 ?_
  obtain ⟨cm, tm, hm⟩ := hC.c.bm
  rintro r w1 ⟨hu1, ⟨k1, k2, -⟩ | ⟨k1, k2, -⟩ | ⟨e, rfl, hb⟩⟩
  · exact absurd ⟨k1, k2⟩ hno
  · exact absurd ⟨k1, k2⟩ hno
  · refine ⟨hu1, e, rfl, ?_⟩
    rcases hb with ⟨k1, k2, _⟩ | ⟨_, _, pb, rfl, _, hf⟩ | ⟨_, qb, pb, rfl, _, _, hf, hf2⟩
    · exact absurd ⟨k1, k2⟩ hno
    · obtain ⟨ci, ti, hi⟩ := hC.bi
      refine ⟨pb, rfl, fun W hW => ?_⟩
      have hu := hu1.trans hW
      exact is_fault_other pb m i ci cm ti tm W (fault_cell (hf.up hW)) hC.ni ((hu.block _ (lt_of_block' hi)).trans hi) ((hu.block _ (lt_of_block' hm)).trans hm)
    · obtain ⟨ca, ta, ha⟩ := hC.ba
      refine ⟨qb, rfl, fun W hW => ?_⟩
      have hu := hu1.trans hW
      exact is_nest_other qb pb m a ca cm ta tm W (fault_cell (hf.up hW)) (fault_cell (hf2.up hW)) hC.na ((hu.block _ (lt_of_block' ha)).trans ha) ((hu.block _ (lt_of_block' hm)).trans hm)

set_option maxHeartbeats 8000000 in
set_option maxRecDepth 100000 in
theorem tells_big {s : Sy.Lts} {se : Value} {w : World} {a b i n m : Addr} (hs : Ls3 w se s.es) (p q : Int) (hC : TellSent w a b i n m) (hT : Tab w) (hG : ErrT w) (hbig : ¬ (s.n ≤ 30 ∧ (s.es.length : Int) ≤ 150)) :
    Calls Tryz.prog 8 #[sysV s se, .int .i64 p, .int .i64 q] w (GoodD w) := by
  obtain ⟨ao, cap, rfl⟩ := ls3_shape hs
  have HA : Hid (∀ W, Up w W → Calls Tryz.prog 9 #[] W fun r w' => r = .returned (.bool true) ∧ Up W w') := Lib.hid (fun W hW => aliveD_any (hT.up hW) (hW.cell hG) (hC.c.up hW))
  have HSM := fun W => Lib.hid (small_any s ao s.es.length cap W)
  obtain ⟨L, hL⟩ : ∃ L, L = s.es.length := ⟨_, rfl⟩
  rw [← hL] at HSM hbig
  unfold sysV
  rw [← hL]
  have HU1 := Lib.hid ((Up.refl w).alloc (.cells #[.int .i64 s.n, .int .i64 s.m, .int .i64 s.start, .slice ao L cap] 27))
  have e1 : (decide (s.n ≤ 30) && decide ((L : Int) ≤ 150)) = false := by
    by_cases h : s.n ≤ 30
    · have : ¬ (L : Int) ≤ 150 := fun h2 => hbig ⟨h, h2⟩
      simp [h, this]
    · simp [h]
  rw [e1] at HSM
  clear hs hC hT hG hL hbig e1
  go_enter Tryz.func8, Tryz.ntmps8
  go_wp2_with (first
    | (go_at_call 12; refine (HSM _).out.mono ?_; rintro r w2 ⟨rfl, hu2⟩)
    | (go_at_call 9; refine (HA.out _ (HU1.out.trans hu2)).mono ?_; rintro r w4 ⟨rfl, hu4⟩))
  go_ret
  exact ⟨rfl, (HU1.out.trans hu2).trans hu4⟩

/-- Check, as its error alone is asked for. -/
def ChkFor (s : Sy.Lts) (w : World) (r : Ending) (w' : World) : Prop := Up w w' ∧ ((Sy.right s = true ∧ r = .returned .nilIface) ∨ (Sy.right s = false ∧ ∃ pb, r = .returned (.iface 103 (.pointer (some ⟨pb, 0, none⟩)))))

theorem chk_for {s : Sy.Lts} {ao : Option Addr} {cap : Nat} {xt : TypeId} {xv : Value} {w : World} (hs : Ls3 w (.slice ao s.es.length cap) s.es) (hE : w.cell? ⟨2, 0, none⟩ = some (.iface xt xv)) (hl : s.es.length ≤ maxLen) :
    Calls Tryz.prog 27 #[.agg #[.int .i64 s.n, .int .i64 s.m, .int .i64 s.start, .slice ao s.es.length cap]] w (ChkFor s w) := by
  refine (check_any s (.slice ao s.es.length cap) xt xv w hs hE hl).mono ?_
  rintro r w' ⟨hu, ⟨k, rfl⟩ | ⟨k, rfl, -⟩⟩
  · exact ⟨hu, .inl ⟨k, rfl⟩⟩
  · exact ⟨hu, .inr ⟨k, _, rfl⟩⟩

set_option maxHeartbeats 8000000 in
set_option maxRecDepth 100000 in
theorem tells_lim {s : Sy.Lts} {se : Value} {w : World} {a b i n m : Addr} (hs : Ls3 w se s.es) (hl : s.es.length ≤ maxLen) (p q : Nat) (hC : TellSent w a b i n m) (hT : Tab w) (hG : ErrT w) (h30 : s.n ≤ 30) (h150 : (s.es.length : Int) ≤ 150) (hr : Sy.right s = true) (ht : There s p q)
    (h0 : 0 ≤ Rd.rank s p q) (hlong : 5000 < (Dt.F s p q).length) :
    Calls Tryz.prog 8 #[sysV s se, .int .i64 (p : Nat), .int .i64 (q : Nat)] w (GoodD w) := by
  obtain ⟨ao, cap, rfl⟩ := ls3_shape hs
  have HA : Hid (∀ W, Up w W → Calls Tryz.prog 9 #[] W fun r w' => r = .returned (.bool true) ∧ Up W w') := Lib.hid (fun W hW => aliveD_any (hT.up hW) (hW.cell hG) (hC.c.up hW))
  have HSM := fun W => Lib.hid (small_any s ao s.es.length cap W)
  have HLIM : Hid (∀ W, Up w W → _) := Lib.hid (fun W hW => cmp_lim hr ht (by omega) h0 hlong (hT.up hW) (hW.cell hG) (hs.up hW) (hC.c.up hW) hl)
  have GL := Lib.hid hC.c.lim
  have e1 : (decide (s.n ≤ 30) && decide ((s.es.length : Int) ≤ 150)) = true := by simp [h30, h150]
  rw [e1] at HSM
  obtain ⟨L, hL⟩ : ∃ L, L = s.es.length := ⟨_, rfl⟩
  rw [← hL] at HSM HLIM
  unfold sysV
  rw [← hL]
  have HB1 := Lib.hid (heap_alloc_new w (.cells #[.int .i64 s.n, .int .i64 s.m, .int .i64 s.start, .slice ao L cap] 27))
  have HU1 := Lib.hid ((Up.refl w).alloc (.cells #[.int .i64 s.n, .int .i64 s.m, .int .i64 s.start, .slice ao L cap] 27))
  clear hs hl hC hT hG hL h30 h150 e1 hr ht h0 hlong
  go_enter Tryz.func8, Tryz.ntmps8
  go_wp2_with (first
    | (go_at_call 12; refine (HSM _).out.mono ?_; rintro r w2 ⟨rfl, hu2⟩; (obtain ⟨⟨b0, b1, b2, b3⟩, -⟩ := four_cells ((hu2.block _ (lt_of_block' HB1.out)).trans HB1.out)))
    | (go_at_call 15; refine (HLIM.out _ (HU1.out.trans hu2)).mono ?_; rintro r w6 ⟨hu6, pb, rfl, hf⟩; (have hu6' := hu6.alloc (.cells #[.bool false, .slice none 0 0, .slice none 0 0] 38)); (have HF6 := Lib.hid (hf.up ((Up.refl w6).alloc (.cells #[.bool false, .slice none 0 0, .slice none 0 0] 38)))); (have HU6 := Lib.hid ((HU1.out.trans hu2).trans hu6')); clear hu6 hu6' hf)
    | (go_at_call 9; refine (HA.out _ HU6.out).mono ?_; rintro r w7 ⟨rfl, hu7⟩; (have hgl7 := (HU6.out.trans hu7).cell GL.out); (have HF7 := Lib.hid (HF6.out.up hu7)))
    | (go_at_call 16; refine (is_fault_same pb m _ (fault_cell HF7.out)).mono ?_; rintro e w8 ⟨rfl, rfl⟩))
  go_ret
  exact ⟨rfl, HU6.out.trans hu7⟩

set_option maxHeartbeats 8000000 in
set_option maxRecDepth 100000 in
theorem tells_off {s : Sy.Lts} {se : Value} {w : World} {a b i n m : Addr} (hs : Ls3 w se s.es) (hl : s.es.length ≤ maxLen) (p q : Int) (hC : TellSent w a b i n m) (hT : Tab w) (hG : ErrT w) (h30 : s.n ≤ 30) (h150 : (s.es.length : Int) ≤ 150) (hno : ¬ (Sy.right s = true ∧ There s p q)) :
    Calls Tryz.prog 8 #[sysV s se, .int .i64 p, .int .i64 q] w (GoodD w) := by
  obtain ⟨ao, cap, rfl⟩ := ls3_shape hs
  have HA : Hid (∀ W, Up w W → Calls Tryz.prog 9 #[] W fun r w' => r = .returned (.bool true) ∧ Up W w') := Lib.hid (fun W hW => aliveD_any (hT.up hW) (hW.cell hG) (hC.c.up hW))
  have HSM := fun W => Lib.hid (small_any s ao s.es.length cap W)
  have GL := Lib.hid hC.c.lim
  have e1 : (decide (s.n ≤ 30) && decide ((s.es.length : Int) ≤ 150)) = true := by simp [h30, h150]
  rw [e1] at HSM
  have HOF : Hid (∀ W, Up w W → _) := Lib.hid (fun W hW => cmp_off hno (by omega) (hT.up hW) (hW.cell hG) (hs.up hW) (hC.up hW) hl)
  have HCK : Hid (∀ W, Up w W → _) := Lib.hid (fun W hW => chk_for (hs.up hW) (hC.c.up hW).sys hl)
  obtain ⟨L, hL⟩ : ∃ L, L = s.es.length := ⟨_, rfl⟩
  rw [← hL] at HSM HOF HCK
  unfold sysV
  rw [← hL]
  have HB1 := Lib.hid (heap_alloc_new w (.cells #[.int .i64 s.n, .int .i64 s.m, .int .i64 s.start, .slice ao L cap] 27))
  have HU1 := Lib.hid ((Up.refl w).alloc (.cells #[.int .i64 s.n, .int .i64 s.m, .int .i64 s.start, .slice ao L cap] 27))
  clear hs hl hC hT hG hL h30 h150 e1
  cases hr : Sy.right s
  · have HCK2 : Hid (∀ W, Up w W → Calls Tryz.prog 27 #[.agg #[.int .i64 s.n, .int .i64 s.m, .int .i64 s.start, .slice ao L cap]] W fun r w' => Up W w' ∧ ∃ pb, r = .returned (.iface 103 (.pointer (some ⟨pb, 0, none⟩)))) := Lib.hid (fun W hW => (HCK.out W hW).mono (by
      rintro r w' ⟨hu, ⟨k, -⟩ | ⟨-, pb, rfl⟩⟩
      · exact absurd (hr.symm.trans k) (by decide)
      · exact ⟨hu, pb, rfl⟩))
    clear HCK hno hr
    go_enter Tryz.func8, Tryz.ntmps8
    go_wp2_with (first
      | (go_at_call 12; refine (HSM _).out.mono ?_; rintro r w2 ⟨rfl, hu2⟩; (obtain ⟨⟨b0, b1, b2, b3⟩, -⟩ := four_cells ((hu2.block _ (lt_of_block' HB1.out)).trans HB1.out)))
      | (go_at_call 15; refine (HOF.out _ (HU1.out.trans hu2)).mono ?_; rintro r w6 ⟨hu6, e, rfl, qb, rfl, his⟩; (have HI6 := Lib.hid his); (have HU6 := Lib.hid (hu6.alloc (.cells #[.bool false, .slice none 0 0, .slice none 0 0] 38))); (have HA6 := Lib.hid ((Up.refl w6).alloc (.cells #[.bool false, .slice none 0 0, .slice none 0 0] 38))); (have HW6 := Lib.hid ((HU1.out.trans hu2).trans HU6.out)); clear hu6 his)
      | (go_at_call 9; refine (HA.out _ HW6.out).mono ?_; rintro r w7 ⟨rfl, hu7⟩; (have hgl7 := (HW6.out.trans hu7).cell GL.out); (have HB7 := four_cells ((((hu2.trans HU6.out).trans hu7).block _ (lt_of_block' HB1.out)).trans HB1.out)); (obtain ⟨⟨c0, c1, c2, c3⟩, -⟩ := HB7))
      | (go_at_call 16; refine (HI6.out _ (HA6.out.trans hu7)).mono ?_; rintro e w8 ⟨rfl, rfl⟩)
      | (go_at_call 27; refine (HCK2.out _ (HW6.out.trans hu7)).mono ?_; rintro r w8 ⟨hu8, pb, rfl⟩))
    go_ret
    exact ⟨rfl, (HW6.out.trans hu7).trans hu8⟩
  · have HCK2 : Hid (∀ W, Up w W → Calls Tryz.prog 27 #[.agg #[.int .i64 s.n, .int .i64 s.m, .int .i64 s.start, .slice ao L cap]] W fun r w' => Up W w' ∧ r = .returned .nilIface) := Lib.hid (fun W hW => (HCK.out W hW).mono (by
      rintro r w' ⟨hu, ⟨-, rfl⟩ | ⟨k, -⟩⟩
      · exact ⟨hu, rfl⟩
      · exact absurd (hr.symm.trans k) (by decide)))
    have hcs := not_there (p := p) (q := q) ((Sy.right_iff s).1 hr).n0 (fun h => hno ⟨hr, h⟩)
    clear HCK hno hr
    rcases hcs with q1 | ⟨q1, q2⟩ | ⟨q1, q2, q3⟩ | ⟨q1, q2, q3, q4⟩
    all_goals
      go_enter Tryz.func8, Tryz.ntmps8
      go_wp2_with (first
        | (go_at_call 12; refine (HSM _).out.mono ?_; rintro r w2 ⟨rfl, hu2⟩; (obtain ⟨⟨b0, b1, b2, b3⟩, -⟩ := four_cells ((hu2.block _ (lt_of_block' HB1.out)).trans HB1.out)))
        | (go_at_call 15; refine (HOF.out _ (HU1.out.trans hu2)).mono ?_; rintro r w6 ⟨hu6, e, rfl, qb, rfl, his⟩; (have HI6 := Lib.hid his); (have HU6 := Lib.hid (hu6.alloc (.cells #[.bool false, .slice none 0 0, .slice none 0 0] 38))); (have HA6 := Lib.hid ((Up.refl w6).alloc (.cells #[.bool false, .slice none 0 0, .slice none 0 0] 38))); (have HW6 := Lib.hid ((HU1.out.trans hu2).trans HU6.out)); clear hu6 his)
        | (go_at_call 9; refine (HA.out _ HW6.out).mono ?_; rintro r w7 ⟨rfl, hu7⟩; (have hgl7 := (HW6.out.trans hu7).cell GL.out); (have HB7 := ((((hu2.trans HU6.out).trans hu7).block _ (lt_of_block' HB1.out)).trans HB1.out)); (obtain ⟨⟨c0, c1, c2, c3⟩, -⟩ := four_cells HB7))
        | (go_at_call 16; refine (HI6.out _ (HA6.out.trans hu7)).mono ?_; rintro e w8 ⟨rfl, rfl⟩)
        | (go_at_call 27; refine (HCK2.out _ (HW6.out.trans hu7)).mono ?_; rintro r w8 ⟨hu8, rfl⟩; (obtain ⟨⟨d0, d1, d2, d3⟩, -⟩ := four_cells ((hu8.block _ (lt_of_block' HB7)).trans HB7))))
      go_ret
      exact ⟨rfl, (HW6.out.trans hu7).trans hu8⟩

/-- Rank of two states that are there. -/
theorem rank_for {s : Sy.Lts} {ao : Option Addr} {cap p q : Nat} {a : Addr} {w : World} (hr : Sy.right s = true) (ht : There s p q) (hT : Tab w) (hG : ErrT w) (hs : Ls3 w (.slice ao s.es.length cap) s.es) (hE : w.cell? ⟨2, 0, none⟩ = some (.iface 354 (.pointer (some a)))) (hl : s.es.length ≤ maxLen) :
    Calls Tryz.prog 29 #[.agg #[.int .i64 s.n, .int .i64 s.m, .int .i64 s.start, .slice ao s.es.length cap], .int .i64 (p : Nat), .int .i64 (q : Nat)] w fun r w1 => r = .returned (.tuple #[.int .i64 (Rd.rank s p q), .nilIface]) ∧ Up w w1 := by
  refine (rank_in s (.slice ao s.es.length cap) p q a undef w hr hT hG hs hE hl (by unfold There at ht; omega) (by unfold There at ht; omega)).mono ?_
  rintro r w1 ⟨hu1, ⟨-, -, rfl⟩ | ⟨-, k, -⟩ | ⟨k, -⟩⟩
  · exact ⟨by simp only [Int.toNat_natCast], hu1⟩
  · exact absurd ht k
  · exact absurd (hr.symm.trans k) (by decide)

/-- What Compare and Classes tell of two states that are there, all in one way. -/
structure Told2 (s : Sy.Lts) (N p q : Nat) : Prop where
  n : s.n = (N : Int)
  p : p < N
  q : q < N
  le : N ≤ 30

theorem ints_own {w : World} {base n g cap : Nat} {l : List Nat} {v : Value} (h : w.ownsRow base 3 1 v n (ints l)) (hn : 0 < n) (hl : l.length = n) : ∃ g cap, v = .slice (some ⟨g, 0, none⟩) n cap ∧ ∀ i, i < n → w.cell? ⟨g, i, none⟩ = some (.int .i64 ((l.getD i 0 : Nat) : Int)) := by
  rcases owns_cases h with ⟨_, h0, _⟩ | ⟨g, cap, e, hr, _⟩
  · omega
  · exact ⟨g, cap, e, fun i hi => hr.cell (ints_get (by omega))⟩

set_option maxHeartbeats 8000000 in
set_option maxRecDepth 100000 in
theorem tells_same {s : Sy.Lts} {se : Value} {w : World} {a b i n m : Addr} (hs : Ls3 w se s.es) (hl : s.es.length ≤ maxLen) (p q : Nat) (hC : TellSent w a b i n m) (hT : Tab w) (hG : ErrT w) (h30 : s.n ≤ 30) (h150 : (s.es.length : Int) ≤ 150) (hr : Sy.right s = true) (ht : There s p q) (h0 : Rd.rank s p q < 0) :
    Calls Tryz.prog 8 #[sysV s se, .int .i64 (p : Nat), .int .i64 (q : Nat)] w (GoodD w) := by
  obtain ⟨ao, cap, rfl⟩ := ls3_shape hs
  have HA : Hid (∀ W, Up w W → Calls Tryz.prog 9 #[] W fun r w' => r = .returned (.bool true) ∧ Up W w') := Lib.hid (fun W hW => aliveD_any (hT.up hW) (hW.cell hG) (hC.c.up hW))
  have HSM := fun W => Lib.hid (small_any s ao s.es.length cap W)
  have e1 : (decide (s.n ≤ 30) && decide ((s.es.length : Int) ≤ 150)) = true := by simp [h30, h150]
  rw [e1] at HSM
  obtain ⟨N, hN⟩ : ∃ N, N = s.n.toNat := ⟨_, rfl⟩
  have hR := (Sy.right_iff s).1 hr
  have hsn : s.n = (N : Int) := by have := hR.n0; omega
  have hpN : p < N := by unfold There at ht; omega
  have hqN : q < N := by unfold There at ht; omega
  have hN30 : N ≤ 30 := by omega
  have hRl : (Rd.R s (Rd.last s)).length = N := by rw [Rd.R_len, hN]
  have heq : (Rd.R s (Rd.last s)).getD p 0 = (Rd.R s (Rd.last s)).getD q 0 := (Dt.rank_last (by rw [← hN]; exact hpN) (by rw [← hN]; exact hqN)).1 h0
  obtain ⟨R, hRe⟩ : ∃ R, R = Rd.R s (Rd.last s) := ⟨_, rfl⟩
  have HCM : Hid (∀ W, Up w W → Calls Tryz.prog 15 #[.agg #[.int .i64 s.n, .int .i64 s.m, .int .i64 s.start, .slice ao s.es.length cap], .int .i64 (p : Nat), .int .i64 (q : Nat)] W fun r w1 => Up W w1 ∧ ∃ g1 c1, r = .returned (.tuple #[.agg #[.bool true, .slice (some ⟨g1, 0, none⟩) N c1, .slice none 0 0], .nilIface]) ∧ ∀ i, i < N → w1.cell? ⟨g1, i, none⟩ = some (.int .i64 ((R.getD i 0 : Nat) : Int))) := Lib.hid (fun W hW => (cmp_ok hr ht (by omega) (.inl h0) (hT.up hW) (hW.cell hG) (hs.up hW) (hC.c.up hW) hl).mono (by
    rintro r w1 ⟨hu1, ⟨-, a1, c1, rfl, ho⟩ | ⟨k, -⟩⟩
    · rw [← hN, ← hRe] at ho
      obtain ⟨g1, cp1, e, hc⟩ := ints_own (g := 0) (cap := 0) ho (by omega) (by rw [hRe]; exact hRl)
      rw [← hN]
      simp only [Value.slice.injEq] at e
      obtain ⟨rfl, -, rfl⟩ := e
      exact ⟨hu1, g1, c1, rfl, hc⟩
    · omega))
  have HCL : Hid (∀ W, Up w W → Calls Tryz.prog 28 #[.agg #[.int .i64 s.n, .int .i64 s.m, .int .i64 s.start, .slice ao s.es.length cap]] W fun r w1 => Up W w1 ∧ ∃ g1 c1, r = .returned (.tuple #[.slice (some ⟨g1, 0, none⟩) N c1, .nilIface]) ∧ ∀ i, i < N → w1.cell? ⟨g1, i, none⟩ = some (.int .i64 ((R.getD i 0 : Nat) : Int))) := Lib.hid (fun W hW => (classes_ok s (.slice ao s.es.length cap) _ _ W hr (hs.up hW) (hC.c.up hW).sys hl).mono (by
    rintro r w1 ⟨a1, c1, rfl, ho, hu1⟩
    have ho := ho.out
    rw [← hN, ← hRe] at ho
    obtain ⟨g1, cp1, e, hc⟩ := ints_own (g := 0) (cap := 0) ho (by omega) (by rw [hRe]; exact hRl)
    rw [← hN]
    simp only [Value.slice.injEq] at e
    obtain ⟨rfl, -, rfl⟩ := e
    exact ⟨hu1, g1, c1, rfl, hc⟩))
  obtain ⟨rk, hrk⟩ : ∃ rk, rk = Rd.rank s p q := ⟨_, rfl⟩
  have HRK : Hid (∀ W, Up w W → _) := Lib.hid (fun W hW => rank_for hr ht (hT.up hW) (hW.cell hG) (hs.up hW) (hC.c.up hW).sys hl)
  rw [← hRe] at heq
  obtain ⟨L, hL⟩ : ∃ L, L = s.es.length := ⟨_, rfl⟩
  rw [← hL, hsn] at HSM HCM HCL HRK
  rw [← hrk] at HRK h0
  unfold sysV
  rw [← hL, hsn]
  have HB1 := Lib.hid (heap_alloc_new w (.cells #[.int .i64 (N : Int), .int .i64 s.m, .int .i64 s.start, .slice ao L cap] 27))
  have HU1 := Lib.hid ((Up.refl w).alloc (.cells #[.int .i64 (N : Int), .int .i64 s.m, .int .i64 s.start, .slice ao L cap] 27))
  have q1 : decide ((p : Int) < 0) = false := by simp
  have q2 : decide ((N : Int) ≤ (p : Int)) = false := by simp; omega
  have q3 : decide ((q : Int) < 0) = false := by simp
  have q4 : decide ((N : Int) ≤ (q : Int)) = false := by simp; omega
  have q5 : decide (rk < 0) = true := by simpa using h0
  clear hs hl hC hT hG hL h30 h150 e1 hr ht hN hR hsn hRl hRe hrk h0
  go_enter Tryz.func8, Tryz.ntmps8
  go_upto_region 10 with (first
    | (go_at_call 12; refine (HSM _).out.mono ?_; rintro r w2 ⟨rfl, hu2⟩; (obtain ⟨⟨b0, b1, b2, b3⟩, -⟩ := four_cells ((hu2.block _ (lt_of_block' HB1.out)).trans HB1.out)))
    | (go_at_call 15; refine (HCM.out _ (HU1.out.trans hu2)).mono ?_; rintro r w6 ⟨hu6, g1, c1, rfl, hc1⟩; (have hu6' := hu6.alloc (.cells #[.bool true, .slice (some ⟨g1, 0, none⟩) N c1, .slice none 0 0] 38)); (have hv6 := heap_alloc_new w6 (.cells #[.bool true, .slice (some ⟨g1, 0, none⟩) N c1, .slice none 0 0] 38)); (have HV6 := Lib.hid hv6); (have HC1 := Lib.hid (fun i hi => ((Up.refl w6).alloc (.cells #[.bool true, .slice (some ⟨g1, 0, none⟩) N c1, .slice none 0 0] 38)).cell (hc1 i hi))); (have HU6 := Lib.hid ((HU1.out.trans hu2).trans hu6')); (have HB6 := Lib.hid (((hu2.trans hu6').block _ (lt_of_block' HB1.out)).trans HB1.out)); (obtain ⟨⟨c60, c61, c62, c63⟩, -⟩ := four_cells HB6.out); clear hu6 hu6' hc1 hv6)
    | (go_at_call 28; refine (HCL.out _ HU6.out).mono ?_; rintro r w7 ⟨hu7, g2, c2, rfl, hc2⟩; (have HU7 := Lib.hid hu7); (have HC2 := Lib.hid hc2); (have HB7 := Lib.hid ((hu7.block _ (lt_of_block' HB6.out)).trans HB6.out)); (obtain ⟨⟨c70, c71, c72, c73⟩, -⟩ := four_cells HB7.out); clear hu7 hc2)
    | (go_at_call 29; refine (HRK.out _ (HU6.out.trans HU7.out)).mono ?_; rintro r w8 ⟨rfl, hu8⟩; (have HU8 := Lib.hid hu8); (have HB8 := Lib.hid ((hu8.block _ (lt_of_block' HB7.out)).trans HB7.out)); (obtain ⟨⟨c80, c81, c82, c83⟩, -⟩ := four_cells HB8.out); clear hu8))
  have hv8 := (((HU7.out.trans HU8.out)).block _ (lt_of_block' HV6.out)).trans HV6.out
  obtain ⟨⟨v0, v1, v2⟩, -⟩ := verdict_cells hv8
  have xp := HU8.out.cell (HC2.out p hpN)
  have xq := HU8.out.cell (HC2.out q hqN)
  rw [← heq] at xq
  obtain ⟨rp, hrp⟩ : ∃ rp, rp = R.getD p 0 := ⟨_, rfl⟩
  rw [← hrp] at xp xq
  have HE1 : Hid (∀ i, i < N → w8.cell? ⟨g1, i, none⟩ = some (.int .i64 ((R.getD i 0 : Nat) : Int))) := Lib.hid (fun i hi => (HU7.out.trans HU8.out).cell (HC1.out i hi))
  have HE2 : Hid (∀ i, i < N → w8.cell? ⟨g2, i, none⟩ = some (.int .i64 ((R.getD i 0 : Nat) : Int))) := Lib.hid (fun i hi => HU8.out.cell (HC2.out i hi))
  have HW8 : Hid (Up w w8) := Lib.hid (HU6.out.trans (HU7.out.trans HU8.out))
  clear hv8 hrp b0 b1 b2 b3 c60 c61 c62 c63 c70 c71 c72 c73 heq
  go_quiet (fail)
  obtain ⟨W9, hW9⟩ : ∃ W9, W9 = w8.drewN nq := ⟨_, rfl⟩
  rw [← hW9]
  have hu9 : Up w8 W9 := by rw [hW9]; exact ⟨rfl, rfl, rfl, Nat.le_refl _, fun _ _ => rfl⟩
  have s80 := hu9.cell c80
  have v90 := hu9.cell v0
  have v91 := hu9.cell v1
  have v92 := hu9.cell v2
  clear hW9
  go_wp2_with fail
  go_loopw [13] (fun i wr => ∃ j : Nat, i = .int .i64 j ∧ j ≤ N ∧ Up w8 wr) (fun i _ => N - (intOf i).toNat)
  case atStart => exact ⟨0, rfl, Nat.zero_le _, hu9⟩
  case round =>
    clear hu9 s80 v90 v91 v92
    obtain ⟨j, rfl, hj, hu⟩ := hrel
    have s80 := hu.cell c80
    have v90 := hu.cell v0
    have v91 := hu.cell v1
    have v92 := hu.cell v2
    by_cases hlt : j < N
    · have k1 := hu.cell (HE1.out j hlt)
      have k2 := hu.cell (HE2.out j hlt)
      obtain ⟨rj, hrj⟩ : ∃ rj, rj = R.getD j 0 := ⟨_, rfl⟩
      rw [← hrj] at k1 k2
      have HUJ := Lib.hid hu
      clear hrj hu xp xq
      go_upto_region 18 with fail
      go_quiet (fail)
      go_wp2_with fail
      go_roundw
      case rel => exact ⟨j + 1, by go_num, by omega, ⟨HUJ.out.os, HUJ.out.tape, HUJ.out.output, HUJ.out.size, HUJ.out.block⟩⟩
      case measure => simp [intOf]; omega
    · obtain rfl : j = N := by omega
      have HUJ := Lib.hid (HW8.out.trans hu)
      clear hu xp xq
      go_wp2_with (go_at_call 9; refine (HA.out _ HUJ.out).mono ?_; rintro r w10 ⟨rfl, hu10⟩)
      go_ret
      exact ⟨rfl, HUJ.out.trans hu10⟩

theorem exec_len {s : Sy.Lts} : ∀ (l : List Dt.Nd) (st o : List (List Bool)), Dt.exec (Dt.hereP s) l st = some o → (∀ z ∈ st, z.length = s.n.toNat) → ∀ z ∈ o, z.length = s.n.toNat := by
  intro l
  induction l with
  | nil =>
    intro st o h hst
    simp only [Dt.exec, Option.some.injEq] at h
    rw [← h]; exact hst
  | cons x l ih =>
    intro st o h hst
    obtain ⟨k, -, -, -, h2⟩ := exec_step h
    refine ih _ o h2 (fun z hz => ?_)
    rcases List.mem_append.1 hz with h3 | h3
    · exact hst z (List.mem_of_mem_take h3)
    · rw [List.mem_singleton] at h3
      rw [h3, hereP_len]

set_option maxHeartbeats 8000000 in
set_option maxRecDepth 100000 in
theorem tells_form {s : Sy.Lts} {se : Value} {w : World} {a b i n m : Addr} (hs : Ls3 w se s.es) (hl : s.es.length ≤ maxLen) (p q : Nat) (hC : TellSent w a b i n m) (hT : Tab w) (hG : ErrT w) (h30 : s.n ≤ 30) (h150 : (s.es.length : Int) ≤ 150) (hr : Sy.right s = true) (ht : There s p q) (h0 : 0 ≤ Rd.rank s p q) (hF5 : (Dt.F s p q).length ≤ 5000) :
    Calls Tryz.prog 8 #[sysV s se, .int .i64 (p : Nat), .int .i64 (q : Nat)] w (GoodD w) := by
  obtain ⟨ao, cap, rfl⟩ := ls3_shape hs
  have HA : Hid (∀ W, Up w W → Calls Tryz.prog 9 #[] W fun r w' => r = .returned (.bool true) ∧ Up W w') := Lib.hid (fun W hW => aliveD_any (hT.up hW) (hW.cell hG) (hC.c.up hW))
  have HSM := fun W => Lib.hid (small_any s ao s.es.length cap W)
  have e1 : (decide (s.n ≤ 30) && decide ((s.es.length : Int) ≤ 150)) = true := by simp [h30, h150]
  rw [e1] at HSM
  obtain ⟨N, hN⟩ : ∃ N, N = s.n.toNat := ⟨_, rfl⟩
  have hR := (Sy.right_iff s).1 hr
  have hsn : s.n = (N : Int) := by have := hR.n0; omega
  have hpN : p < N := by unfold There at ht; omega
  have hqN : q < N := by unfold There at ht; omega
  have hN30 : N ≤ 30 := by omega
  have hRl : (Rd.R s (Rd.last s)).length = N := by rw [Rd.R_len, hN]
  have heq : (Rd.R s (Rd.last s)).getD p 0 ≠ (Rd.R s (Rd.last s)).getD q 0 := fun e => by
    have := (Dt.rank_last (by rw [← hN]; exact hpN) (by rw [← hN]; exact hqN)).2 e
    omega
  obtain ⟨F, hFe⟩ : ∃ F, F = Dt.F s p q := ⟨_, rfl⟩
  obtain ⟨K, hKe⟩ : ∃ K, K = F.length := ⟨_, rfl⟩
  obtain ⟨d, hd1, hd2, hd3⟩ := Dt.F_holds hR hR.m2 p q (by rw [← hN]; exact hpN) (by rw [← hN]; exact hqN) h0
  have hdp := (Dt.F_deep hR hR.m2 p q (by rw [← hN]; exact hpN) (by rw [← hN]; exact hqN) h0).run
  have hdl : d.length = N := by rw [hN]; exact exec_len _ [] [d] hd1.run (fun z hz => by cases hz) d (by simp)
  rw [← hFe] at hd1 hdp
  have hwo : Worth s F d := ⟨by rw [hFe]; exact hF5, ⟨_, hdp⟩, hd1.run⟩
  obtain ⟨R, hRe⟩ : ∃ R, R = Rd.R s (Rd.last s) := ⟨_, rfl⟩
  have HCM : Hid (∀ W, Up w W → Calls Tryz.prog 15 #[.agg #[.int .i64 s.n, .int .i64 s.m, .int .i64 s.start, .slice ao s.es.length cap], .int .i64 (p : Nat), .int .i64 (q : Nat)] W fun r w1 => Up W w1 ∧ ∃ fo fc, r = .returned (.tuple #[.agg #[.bool false, .slice none 0 0, .slice fo K fc], .nilIface]) ∧ Ls2 w1 (.slice fo K fc) F) := Lib.hid (fun W hW => (cmp_ok hr ht (by omega) (.inr hF5) (hT.up hW) (hW.cell hG) (hs.up hW) (hC.c.up hW) hl).mono (by
    rintro r w1 ⟨hu1, ⟨k, -⟩ | ⟨-, -, fo, fc, rfl, ho⟩⟩
    · omega
    · rw [← hFe, ← hKe] at ho ⊢
      exact ⟨hu1, fo, fc, rfl, owns_ls2 ho⟩))
  have HAP : Hid (∀ W v, Up w W → Ls2 W v F → Calls Tryz.prog 30 #[.agg #[.int .i64 s.n, .int .i64 s.m, .int .i64 s.start, .slice ao s.es.length cap], v, .int .i64 (p : Nat)] W fun r w' => r = .returned (.tuple #[.bool true, .nilIface]) ∧ Up W w') := Lib.hid (fun W v hW hv => by
    have h := at_in hr (hs.up hW) (hC.c.up hW).sys hl hv hwo (p := p) (by omega) (by omega)
    rw [hd2] at h; exact h)
  have HAQ : Hid (∀ W v, Up w W → Ls2 W v F → Calls Tryz.prog 30 #[.agg #[.int .i64 s.n, .int .i64 s.m, .int .i64 s.start, .slice ao s.es.length cap], v, .int .i64 (q : Nat)] W fun r w' => r = .returned (.tuple #[.bool false, .nilIface]) ∧ Up W w') := Lib.hid (fun W v hW hv => by
    have h := at_in hr (hs.up hW) (hC.c.up hW).sys hl hv hwo (p := q) (by omega) (by omega)
    rw [hd3] at h; exact h)
  have HCL : Hid (∀ W, Up w W → Calls Tryz.prog 28 #[.agg #[.int .i64 s.n, .int .i64 s.m, .int .i64 s.start, .slice ao s.es.length cap]] W fun r w1 => Up W w1 ∧ ∃ g1 c1, r = .returned (.tuple #[.slice (some ⟨g1, 0, none⟩) N c1, .nilIface]) ∧ ∀ i, i < N → w1.cell? ⟨g1, i, none⟩ = some (.int .i64 ((R.getD i 0 : Nat) : Int))) := Lib.hid (fun W hW => (classes_ok s (.slice ao s.es.length cap) _ _ W hr (hs.up hW) (hC.c.up hW).sys hl).mono (by
    rintro r w1 ⟨a1, c1, rfl, ho, hu1⟩
    have ho := ho.out
    rw [← hN, ← hRe] at ho
    obtain ⟨g1, cp1, e, hc⟩ := ints_own (g := 0) (cap := 0) ho (by omega) (by rw [hRe]; exact hRl)
    rw [← hN]
    simp only [Value.slice.injEq] at e
    obtain ⟨rfl, -, rfl⟩ := e
    exact ⟨hu1, g1, c1, rfl, hc⟩))
  obtain ⟨rk, hrk⟩ : ∃ rk, rk = Rd.rank s p q := ⟨_, rfl⟩
  have HDP : Hid (∀ W v, Ls2 W v F → Calls Tryz.prog 26 #[v] W fun r w' => r = .returned (.int .i64 rk) ∧ Up W w') := Lib.hid (fun W v hv => by rw [hrk]; exact depthTop_any hv hwo.len hdp)
  have HRK : Hid (∀ W, Up w W → _) := Lib.hid (fun W hW => rank_for hr ht (hT.up hW) (hW.cell hG) (hs.up hW) (hC.c.up hW).sys hl)
  rw [← hRe] at heq
  obtain ⟨L, hL⟩ : ∃ L, L = s.es.length := ⟨_, rfl⟩
  rw [← hL, hsn] at HSM HCM HCL HRK HAP HAQ
  rw [← hrk] at HRK h0
  unfold sysV
  rw [← hL, hsn]
  have HB1 := Lib.hid (heap_alloc_new w (.cells #[.int .i64 (N : Int), .int .i64 s.m, .int .i64 s.start, .slice ao L cap] 27))
  have HU1 := Lib.hid ((Up.refl w).alloc (.cells #[.int .i64 (N : Int), .int .i64 s.m, .int .i64 s.start, .slice ao L cap] 27))
  have q1 : decide ((p : Int) < 0) = false := by simp
  have q2 : decide ((N : Int) ≤ (p : Int)) = false := by simp; omega
  have q3 : decide ((q : Int) < 0) = false := by simp
  have q4 : decide ((N : Int) ≤ (q : Int)) = false := by simp; omega
  have q5 : decide (rk < 0) = false := by simp; omega
  clear hs hl hC hT hG hL h30 h150 e1 hr ht hN hR hsn hRl hRe hrk h0 hF5 hFe hKe hd1 hd2 hd3 hdp hdl hwo
  go_enter Tryz.func8, Tryz.ntmps8
  go_upto_region 10 with (first
    | (go_at_call 12; refine (HSM _).out.mono ?_; rintro r w2 ⟨rfl, hu2⟩; (obtain ⟨⟨b0, b1, b2, b3⟩, -⟩ := four_cells ((hu2.block _ (lt_of_block' HB1.out)).trans HB1.out)))
    | (go_at_call 15; refine (HCM.out _ (HU1.out.trans hu2)).mono ?_; rintro r w6 ⟨hu6, fo, fc, rfl, hls6⟩; (have hu6' := hu6.alloc (.cells #[.bool false, .slice none 0 0, .slice fo K fc] 38)); (have hv6 := heap_alloc_new w6 (.cells #[.bool false, .slice none 0 0, .slice fo K fc] 38)); (have HV6 := Lib.hid hv6); (have HL6 := Lib.hid (hls6.up ((Up.refl w6).alloc (.cells #[.bool false, .slice none 0 0, .slice fo K fc] 38)))); (have HU6 := Lib.hid ((HU1.out.trans hu2).trans hu6')); (have HB6 := Lib.hid (((hu2.trans hu6').block _ (lt_of_block' HB1.out)).trans HB1.out)); (obtain ⟨⟨c60, c61, c62, c63⟩, -⟩ := four_cells HB6.out); clear hu6 hu6' hls6 hv6)
    | (go_at_call 28; refine (HCL.out _ HU6.out).mono ?_; rintro r w7 ⟨hu7, g2, c2, rfl, hc2⟩; (have HU7 := Lib.hid hu7); (have HC2 := Lib.hid hc2); (have HB7 := Lib.hid ((hu7.block _ (lt_of_block' HB6.out)).trans HB6.out)); (obtain ⟨⟨c70, c71, c72, c73⟩, -⟩ := four_cells HB7.out); clear hu7 hc2)
    | (go_at_call 29; refine (HRK.out _ (HU6.out.trans HU7.out)).mono ?_; rintro r w8 ⟨rfl, hu8⟩; (have HU8 := Lib.hid hu8); (have HB8 := Lib.hid ((hu8.block _ (lt_of_block' HB7.out)).trans HB7.out)); (obtain ⟨⟨c80, c81, c82, c83⟩, -⟩ := four_cells HB8.out); clear hu8))
  have hv8 := (((HU7.out.trans HU8.out)).block _ (lt_of_block' HV6.out)).trans HV6.out
  obtain ⟨⟨v0, v1, v2⟩, -⟩ := verdict_cells hv8
  have xp := HU8.out.cell (HC2.out p hpN)
  have xq := HU8.out.cell (HC2.out q hqN)
  obtain ⟨rp, hrp⟩ : ∃ rp, rp = R.getD p 0 := ⟨_, rfl⟩
  obtain ⟨rq, hrq⟩ : ∃ rq, rq = R.getD q 0 := ⟨_, rfl⟩
  rw [← hrp, ← hrq] at heq
  rw [← hrp] at xp
  rw [← hrq] at xq
  have m1 : decide ((rp : Int) = (rq : Int)) = false := by simp; omega
  have m2 : ((rp : Int) == (rq : Int)) = false := by simp; omega
  have HL8 := Lib.hid (HL6.out.up (HU7.out.trans HU8.out))
  have HW8 : Hid (Up w w8) := Lib.hid (HU6.out.trans (HU7.out.trans HU8.out))
  clear hrp hrq b0 b1 b2 b3 c60 c61 c62 c63 c70 c71 c72 c73 heq
  go_quiet (fail)
  obtain ⟨W9, hW9⟩ : ∃ W9, W9 = w8.drewN nq := ⟨_, rfl⟩
  rw [← hW9]
  have hu9 : Up w8 W9 := by rw [hW9]; exact ⟨rfl, rfl, rfl, Nat.le_refl _, fun _ _ => rfl⟩
  have s80 := hu9.cell c80
  have v90 := hu9.cell v0
  have v91 := hu9.cell v1
  have v92 := hu9.cell v2
  clear hW9
  have HU9 := Lib.hid hu9
  have HL9 := Lib.hid (HL8.out.up hu9)
  have s81 := hu9.cell c81
  have s82 := hu9.cell c82
  have s83 := hu9.cell c83
  have HV9 := Lib.hid ((hu9.block _ (lt_of_block' hv8)).trans hv8)
  have HB9 := Lib.hid ((hu9.block _ (lt_of_block' HB8.out)).trans HB8.out)
  clear hu9 xp xq c80 c81 c82 c83 v0 v1 v2
  go_wp2_with (first
    | (go_at_call 30; (with_reducible refine (HAP.out _ _ (HW8.out.trans HU9.out) HL9.out).mono ?_); rintro r w10 ⟨rfl, hu10⟩; (have HU10 := Lib.hid hu10); (obtain ⟨⟨t0, t1, t2, t3⟩, -⟩ := four_cells ((hu10.block _ (lt_of_block' HB9.out)).trans HB9.out)); (obtain ⟨⟨y0, y1, y2⟩, -⟩ := verdict_cells ((hu10.block _ (lt_of_block' HV9.out)).trans HV9.out)); clear hu10)
    | (go_at_call 30; (with_reducible refine (HAQ.out _ _ ((HW8.out.trans HU9.out).trans HU10.out) (HL9.out.up HU10.out)).mono ?_); rintro r w11 ⟨rfl, hu11⟩; (have HU11 := Lib.hid (HU10.out.trans hu11)); (obtain ⟨⟨z0, z1, z2⟩, -⟩ := verdict_cells ((HU11.out.block _ (lt_of_block' HV9.out)).trans HV9.out)); clear hu11)
    | (go_at_call 9; refine (HA.out _ ((HW8.out.trans HU9.out).trans HU11.out)).mono ?_; rintro r w12 ⟨rfl, hu12⟩; (have HU12 := Lib.hid (HU11.out.trans hu12)); (obtain ⟨⟨r0, r1, r2⟩, -⟩ := verdict_cells ((HU12.out.block _ (lt_of_block' HV9.out)).trans HV9.out)); clear hu12)
    | (go_at_call 26; refine (HDP.out _ _ (HL9.out.up HU12.out)).mono ?_; rintro r w13 ⟨rfl, hu13⟩; (have HU13 := Lib.hid (HU12.out.trans hu13)); (obtain ⟨⟨l0, l1, l2⟩, -⟩ := verdict_cells ((HU13.out.block _ (lt_of_block' HV9.out)).trans HV9.out)); clear hu13))
  go_ret
  exact ⟨ret_bool (by simp), (HW8.out.trans HU9.out).trans HU13.out⟩

theorem tellsLaw_any {s : Sy.Lts} {se : Value} {w : World} {a b i n m : Addr} (hs : Ls3 w se s.es) (hl : s.es.length ≤ maxLen) (p q : Int) (hC : TellSent w a b i n m) (hT : Tab w) (hG : ErrT w) :
    Calls Tryz.prog 8 #[sysV s se, .int .i64 p, .int .i64 q] w (GoodD w) := by
  by_cases hsm : s.n ≤ 30 ∧ (s.es.length : Int) ≤ 150
  · by_cases hin : Sy.right s = true ∧ There s p q
    · obtain ⟨hr, ht⟩ := hin
      obtain ⟨P, rfl⟩ : ∃ P : Nat, p = (P : Nat) := ⟨p.toNat, by unfold There at ht; omega⟩
      obtain ⟨Q, rfl⟩ : ∃ Q : Nat, q = (Q : Nat) := ⟨q.toNat, by unfold There at ht; omega⟩
      by_cases h0 : Rd.rank s P Q < 0
      · exact tells_same hs hl P Q hC hT hG hsm.1 hsm.2 hr ht h0
      · by_cases hlong : 5000 < (Dt.F s P Q).length
        · exact tells_lim hs hl P Q hC hT hG hsm.1 hsm.2 hr ht (by omega) hlong
        · exact tells_form hs hl P Q hC hT hG hsm.1 hsm.2 hr ht (by omega) (by omega)
    · exact tells_off hs hl p q hC hT hG hsm.1 hsm.2 hin
  · exact tells_big hs p q hC hT hG hsm

end Go.Proofs.YtkcdkfkgjjpaaaaGreatDoor
