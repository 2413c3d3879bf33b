/- Walks: the book's lists of integers, asked for their marks; asked whether they are as they were. -/
import Derived.Test.YtfkhaldheclheaaGreatDoorBookGrow
import Derived.Deep.RegionHeld3
namespace Go.Proofs.YtfkhaldheclheaaGreatDoor
open Go.RowKit
set_option linter.unusedVariables false
set_option linter.unusedSimpArgs false

set_option maxHeartbeats 4000000 in
set_option maxRecDepth 100000 in
theorem markedInts_any {w : World} {base : Nat} {vo : Value} {vs : List Value} {L : Nat → Nat} (hr : w.ownsRow base 22 1 vo vs.length vs) (he : Els w vs (fun j => marks j 0 (L j))) (hm : vs.length ≤ 400) (hL : ∀ i, i < vs.length → L i ≤ 1000000) :
    Calls Tryz.prog 71 #[vo] w fun r w' => r = .returned (.bool true) ∧ Up w w' := by
  have hrow : ∃ ao ci g, vo = .slice ao vs.length ci ∧ ∀ i, i < vs.length → ao = some ⟨g, 0, none⟩ ∧ w.cell? ⟨g, i, none⟩ = some (nth vs i) := by
    rcases owns_cases hr with ⟨rfl, h0, _⟩ | ⟨g, ci, rfl, hr, _⟩
    · exact ⟨none, 0, 0, by rw [h0], fun i hi => by omega⟩
    · exact ⟨_, ci, g, rfl, fun i hi => ⟨rfl, hr.cell (nth_get hi)⟩⟩
  obtain ⟨ao, ci, g, rfl, hc⟩ := hrow
  obtain ⟨m, hmm⟩ : ∃ m, m = vs.length := ⟨_, rfl⟩
  have HM := Lib.hid hmm
  have HL := Lib.hid hL
  have HC := Lib.hid hc
  have HE := Lib.hid he
  rw [← hmm] at hm ⊢
  clear hr he hmm hL hc
  go_enter Tryz.func71, Tryz.ntmps71
  go_wp2_with fail
  go_loopw [3] (fun i wr => ∃ k : Nat, k ≤ m ∧ i = .int .i64 k ∧ Up w wr) (fun i _ => m - (intOf i).toNat)
  case atStart => exact ⟨0, Nat.zero_le _, rfl, Up.refl w⟩
  case round =>
    obtain ⟨k, hk, rfl, hup⟩ := hrel
    by_cases hlt : k < m
    · have hkv : k < vs.length := by rw [← HM.out]; exact hlt
      obtain ⟨rfl, d1⟩ := HC.out k hkv
      have hLk := HL.out k hkv
      have hel : w.ownsRow 0 3 1 (nth vs k) (L k) ((marks k 0 (L k)).map (Value.int .i64)) := by have := HE.out k hkv; simp only [marks_len] at this; exact this
      obtain ⟨n, hn⟩ : ∃ n, n = L k := ⟨_, rfl⟩
      rw [← hn] at hel hLk
      obtain ⟨eo, ec, hev⟩ := owns_shape' hel
      rw [hev] at d1 hel
      have HEL := Lib.hid hel
      have qk : (k : Int) < (m : Int) := by omega
      have e1 := hup.cell d1
      have HD := Lib.hid d1
      have HS : Hid (∀ w1 v, Up wr w1 → Lst w1 v (marks k 0 n) → Calls Tryz.prog 33 #[.slice eo n ec, v] w1 (Same w1 true)) := fun w1 v hu hv => sameInts_same (by rw [marks_len]; omega) (owns_lst ((hup.trans hu).owns HEL.out)) hv
      clear hn hel hev d1
      go_wp2_with fail
      go_region_held3 (fun w => w.cell? ⟨g, k, none⟩ = some (.slice eo n ec)) (first | assumption) (first
        | (go_at_call 101; refine (markInts_any k 0 n _ (by omega) (by omega) hLk).mono ?_; rintro r w1 ⟨mv, rfl, hmo, hup1⟩; (have hu1 : Up wr w1 := Up.trans (by repeat (first | (with_reducible exact Up.refl _) | assumption | (with_reducible apply Up.drewN) | (with_reducible apply Up.drew))) hup1); (have e2 := hu1.cell e1))
        | (go_at_call 33; (with_reducible refine (HS.out _ mv ?_ ?_).mono ?_); (repeat (first | (with_reducible exact Up.refl _) | assumption | (with_reducible apply Up.drewN) | (with_reducible apply Up.drew))); (refine (owns_lst hmo).up ?_; repeat (first | (with_reducible exact Up.refl _) | assumption | (with_reducible apply Up.drewN) | (with_reducible apply Up.drew))); rintro r w2 ⟨rfl, q2, hq2⟩; (have hu2 : Up wr w2 := by (rw [hq2]; repeat (first | (with_reducible exact Up.refl _) | assumption | (with_reducible apply Up.drewN) | (with_reducible apply Up.drew)))); (have e3 := hu2.cell e1); clear hq2))
      go_wp2_with fail
      go_roundw
      case rel => exact ⟨k + 1, by omega, by go_num, by repeat (first | exact hup.trans hu2 | (with_reducible apply Up.drewN) | (with_reducible apply Up.drew))⟩
      case measure => simp [intOf]; omega
    · obtain rfl : k = m := by omega
      go_wp2_with fail
      go_ret
      exact ⟨rfl, hup⟩

theorem quiet_same {P : Program} {f : FuncId} {args : Array Value} {w : World} {n : Nat} {b : Bool} (h : Calls P f args (w.drewN n) (Same (w.drewN n) b)) : Calls P f args (w.drewN n) fun e w' => e = .returned (.bool b) ∧ ∃ m, w' = w.drewN m :=
  h.mono fun _ _ ⟨he, q, hq⟩ => ⟨he, n + q, by rw [hq]; simp [World.drewN, Nat.add_assoc]⟩

theorem quiet_same_add {P : Program} {f : FuncId} {args : Array Value} {w : World} {a n : Nat} {b : Bool} (h : Calls P f args (w.drewN (a + n)) (Same (w.drewN (a + n)) b)) : Calls P f args (w.drewN (a + n)) fun e w' => e = .returned (.bool b) ∧ ∃ m, w' = w.drewN (a + m) :=
  h.mono fun _ _ ⟨he, q, hq⟩ => ⟨he, n + q, by rw [hq]; simp [World.drewN, Nat.add_assoc]⟩

set_option maxHeartbeats 4000000 in
set_option maxRecDepth 100000 in
theorem stillInts_any {w : World} {bk base : Nat} {vi vw : Value} {vs us : List Value} {C : Nat → List Int} (c0 : w.cell? ⟨bk, 0, none⟩ = some vi) (c1 : w.cell? ⟨bk, 1, none⟩ = some vw) (hr : w.ownsRow base 22 1 vi vs.length vs) (hu : w.ownsRow base 22 1 vw vs.length us) (hul : us.length = vs.length)
    (he : Els w vs C) (hf : Els w us C) (hm : vs.length ≤ 400) (hL : ∀ i, i < vs.length → (C i).length ≤ 1000000) :
    Calls Tryz.prog 38 #[.pointer (some ⟨bk, 0, none⟩)] w fun r w' => r = .returned (.bool true) ∧ Up w w' := by
  have hrow : ∃ ao ci g, vi = .slice ao vs.length ci ∧ ∀ i, i < vs.length → ao = some ⟨g, 0, none⟩ ∧ w.cell? ⟨g, i, none⟩ = some (nth vs i) := by
    rcases owns_cases hr with ⟨rfl, h0, _⟩ | ⟨g, ci, rfl, hr, _⟩
    · exact ⟨none, 0, 0, by rw [h0], fun i hi => by omega⟩
    · exact ⟨_, ci, g, rfl, fun i hi => ⟨rfl, hr.cell (nth_get hi)⟩⟩
  have hrow2 : ∃ ao ci g, vw = .slice ao vs.length ci ∧ ∀ i, i < vs.length → ao = some ⟨g, 0, none⟩ ∧ w.cell? ⟨g, i, none⟩ = some (nth us i) := by
    rcases owns_cases hu with ⟨rfl, h0, _⟩ | ⟨g, ci, rfl, hr, _⟩
    · exact ⟨none, 0, 0, by rw [h0], fun i hi => by omega⟩
    · exact ⟨_, ci, g, rfl, fun i hi => ⟨rfl, hr.cell (nth_get (by rw [hul]; exact hi))⟩⟩
  obtain ⟨ao, ci, g, rfl, hc⟩ := hrow
  obtain ⟨bo, di, g', rfl, hd⟩ := hrow2
  obtain ⟨m, hmm⟩ : ∃ m, m = vs.length := ⟨_, rfl⟩
  have HM := Lib.hid hmm
  have HL := Lib.hid hL
  have HC := Lib.hid hc
  have HD := Lib.hid hd
  have HE := Lib.hid he
  have HF := Lib.hid hf
  have HUL := Lib.hid hul
  rw [← hmm] at hm c0 c1
  clear hr hu he hf hmm hL hc hd hul
  go_enter Tryz.func38, Tryz.ntmps38
  go_wp2_with fail
  go_loopw [3] (fun i wr => ∃ (k q : Nat), k ≤ m ∧ i = .int .i64 k ∧ wr = w.drewN q) (fun i _ => m - (intOf i).toNat)
  case atStart => exact ⟨0, 0, Nat.zero_le _, rfl, rfl⟩
  case round =>
    obtain ⟨k, q, hk, rfl, rfl⟩ := hrel
    by_cases hlt : k < m
    · have hkv : k < vs.length := by rw [← HM.out]; exact hlt
      obtain ⟨rfl, d1⟩ := HC.out k hkv
      obtain ⟨rfl, d2⟩ := HD.out k hkv
      have hLk := HL.out k hkv
      have hel := HE.out k hkv
      have hfl := HF.out k (by rw [HUL.out]; exact hkv)
      obtain ⟨eo, ec, hev⟩ := owns_shape' hel
      obtain ⟨fo, fc, hfv⟩ := owns_shape' hfl
      obtain ⟨n, hn⟩ : ∃ n, n = (C k).length := ⟨_, rfl⟩
      rw [hev] at d1 hel
      rw [hfv] at d2 hfl
      rw [← hn] at d1 d2 hLk hel hfl
      have qk : (k : Int) < (m : Int) := by omega
      have HS : Hid (∀ w1, Up w w1 → Calls Tryz.prog 33 #[.slice eo n ec, .slice fo n fc] w1 (Same w1 true)) := fun w1 hu => sameInts_same (by rw [← hn]; exact hLk) (owns_lst (hu.owns hel)) (owns_lst (hu.owns hfl))
      clear hn hel hfl hev hfv
      go_wp2_with fail
      go_quiet ((go_at_call 33; first | exact quiet_same (HS.out _ (by repeat (first | (with_reducible exact Up.refl _) | (with_reducible apply Up.drewN) | (with_reducible apply Up.drew)))) | exact quiet_same_add (HS.out _ (by repeat (first | (with_reducible exact Up.refl _) | (with_reducible apply Up.drewN) | (with_reducible apply Up.drew))))))
      go_wp2_with fail
      go_roundw
      case rel => exact ⟨k + 1, _, by omega, by go_num, rfl⟩
      case measure => simp [intOf]; omega
    · obtain rfl : k = m := by omega
      go_wp2_with fail
      go_ret
      exact ⟨rfl, (Up.refl w).drewN q⟩

end Go.Proofs.YtfkhaldheclheaaGreatDoor
