/- Walks: has, mayPut, Size, asked. -/
import Derived.Test.YtiiieailimphnaaGreatDoorTmW3
import Derived.Deep.DeepCutAuto
import Derived.OwnWalk
namespace Go.Proofs.YtiiieailimphnaaGreatDoor
open Go.RowKit
set_option linter.unusedVariables false
set_option linter.unusedSimpArgs false

theorem has_is (B : Nat) (ao : Option Addr) (n cap : Nat) (vm : Value) (i : Int) (b : Bool) (w : World) (hb : w.heap[B]? = some (.cells #[.slice ao n cap, vm] 71 (0, 0))) (h : Tm.has n i = b) :
    Calls Tryz.prog 87 #[.pointer (some ⟨B, 0, none⟩), .int .i64 i] w fun e w' => e = .returned (.bool b) ∧ w = w' := by
  have c0 : w.cell? ⟨B, 0, none⟩ = some (.slice ao n cap) := by simp [World.cell?, hb]
  clear hb
  by_cases h1 : 0 ≤ i
  · by_cases h2 : i < n
    · obtain rfl : true = b := by rw [← h]; simp [Tm.has, h1, h2]
      go_enter Tryz.func87, Tryz.ntmps87
      go_wp2_with fail
      go_ret
      exact ⟨rfl, rfl⟩
    · obtain rfl : false = b := by rw [← h]; simp [Tm.has, h1, h2]
      have h2' : (n : Int) ≤ i := by omega
      clear h2
      go_enter Tryz.func87, Tryz.ntmps87
      go_wp2_with fail
      go_ret
      exact ⟨ret_bool (by simp; omega), rfl⟩
  · obtain rfl : false = b := by rw [← h]; simp [Tm.has, h1]
    have h1' : i < 0 := by omega
    clear h1
    go_enter Tryz.func87, Tryz.ntmps87
    go_wp2_with fail
    go_ret
    exact ⟨rfl, rfl⟩

theorem size_is (B : Nat) (ao : Option Addr) (n cap : Nat) (w : World) (c0 : w.cell? ⟨B, 0, none⟩ = some (.slice ao n cap)) :
    Calls Tryz.prog 21 #[.pointer (some ⟨B, 0, none⟩)] w fun e w' => e = .returned (.int .i64 n) ∧ w = w' := by
  go_enter Tryz.func21, Tryz.ntmps21
  go_wp2_with fail
  go_ret
  exact ⟨rfl, rfl⟩

theorem StoreAt.shape {w : World} {B : Nat} {vt vm : Value} {ts : List TRow} (h : StoreAt w B vt vm ts) : ∃ ao cap, vt = .slice ao ts.length cap := owns_shape' h.row

theorem St.box {F : Nat → Prop} {w : World} {B : Nat} {s : List Tm.T} (h : St F w B s) : ∃ ao cap vm, w.heap[B]? = some (.cells #[.slice ao s.length cap, vm] 71 (0, 0)) := by
  obtain ⟨vt, vm, ts, rfl, hs, hf⟩ := h
  obtain ⟨ao, cap, rfl⟩ := hs.shape
  exact ⟨ao, cap, vm, by rw [hs.box, List.length_map]⟩

theorem size_st {F : Nat → Prop} {w : World} {B : Nat} {s : List Tm.T} (h : St F w B s) :
    Calls Tryz.prog 21 #[.pointer (some ⟨B, 0, none⟩)] w fun e w' => e = .returned (.int .i64 s.length) ∧ w = w' := by
  obtain ⟨ao, cap, vm, hb⟩ := h.box
  exact size_is B ao _ cap w (by simp [World.cell?, hb])

/-- What mayPut leaves. -/
def MayDone (n : Nat) (t : Tm.T) (w : World) (e : Ending) (w' : World) : Prop := e = .returned (.bool (t.may n)) ∧ Below w.heap.size w w'

theorem looks_names {t : Tm.T} : (if t.kind = 5 then t.names else []).length = t.shape.1.names.length ∧ (if t.kind = 6 then t.pairs else []).length = t.shape.1.pairs.length := by
  obtain ⟨k, la, a, b, ns, ps⟩ := t
  by_cases h1 : k = 1
  · subst h1; simp [Tm.T.shape]
  by_cases h2 : k = 2
  · subst h2; simp [Tm.T.shape]
  by_cases h3 : k = 3
  · subst h3; simp [Tm.T.shape]
  by_cases h4 : k = 4
  · subst h4; simp [Tm.T.shape]
  by_cases h5 : k = 5
  · subst h5; simp [Tm.T.shape]
  by_cases h6 : k = 6
  · subst h6; simp [Tm.T.shape]
  by_cases h7 : k = 7
  · subst h7; simp [Tm.T.shape]
  · simp [Tm.T.shape, h1, h2, h3, h4, h5, h6, h7]

theorem shape_ex (t : Tm.T) (nv pv : Value) (w : World) (h : TRead w t nv pv) (hn : t.names.length ≤ 9223372036854775807) (hp : t.pairs.length ≤ 9223372036854775807) :
    Calls Tryz.prog 113 #[.agg #[.int .i64 t.kind, .int .i64 t.label, .int .i64 t.a, .int .i64 t.b, nv, pv]] w fun e w' =>
      ∃ ao1 c1 ao2 c2, e = .returned (.tuple #[.agg #[.int .i64 t.shape.1.kind, .int .i64 t.shape.1.label, .int .i64 t.shape.1.a, .int .i64 t.shape.1.b, .slice ao1 t.shape.1.names.length c1, .slice ao2 t.shape.1.pairs.length c2], .bool t.shape.2]) ∧ Below w.heap.size w w' := by
  refine (shape_any t nv pv w h hn hp).mono fun e w' ⟨he, hb⟩ => ?_
  obtain ⟨e1, e2⟩ := looks_names (t := t)
  obtain ⟨ao1, c1, g1, o1, hv1, -⟩ := h.n
  obtain ⟨ao2, c2, g2, o2, hv2, -⟩ := h.p
  have h1 : ∃ ao c, (if t.kind = 5 then nv else .slice none 0 0) = Value.slice ao t.shape.1.names.length c := by
    rw [← e1]
    by_cases hk : t.kind = 5
    · rw [if_pos hk, if_pos hk, hv1]; exact ⟨_, _, rfl⟩
    · rw [if_neg hk, if_neg hk]; exact ⟨_, _, rfl⟩
  have h2 : ∃ ao c, (if t.kind = 6 then pv else .slice none 0 0) = Value.slice ao t.shape.1.pairs.length c := by
    rw [← e2]
    by_cases hk : t.kind = 6
    · rw [if_pos hk, if_pos hk, hv2]; exact ⟨_, _, rfl⟩
    · rw [if_neg hk, if_neg hk]; exact ⟨_, _, rfl⟩
  obtain ⟨x1, y1, hx1⟩ := h1
  obtain ⟨x2, y2, hx2⟩ := h2
  rw [hx1, hx2] at he
  exact ⟨x1, y1, x2, y2, he, hb⟩

theorem parts_lit (t : Tm.T) (nv pv : Value) (w : World) :
    Calls Tryz.prog 28 #[.agg #[.int .i64 t.kind, .int .i64 t.label, .int .i64 t.a, .int .i64 t.b, nv, pv]] w (PartsDone t w) := parts_any t nv pv w

theorem parts_le (t : Tm.T) : t.parts.length ≤ 2 := by
  unfold Tm.T.parts
  split
  · simp
  · split <;> simp

theorem looks_yes {t : Tm.T} {x : Tm.T × Bool} (hx : x = t.shape) (h : x.2 = true ∧ x.1.label = t.label ∧ x.1.a = t.a ∧ x.1.b = t.b ∧ x.1.names.length = t.names.length ∧ x.1.pairs.length = t.pairs.length) : t.looks = true := by
  subst hx
  simp [Tm.T.looks, h]

theorem may_no {n : Nat} {t : Tm.T} {x : Tm.T × Bool} (hx : x = t.shape) (h : ¬ (x.2 = true ∧ x.1.label = t.label ∧ x.1.a = t.a ∧ x.1.b = t.b ∧ x.1.names.length = t.names.length ∧ x.1.pairs.length = t.pairs.length)) : t.may n = false := by
  subst hx
  have : t.looks = false := by
    cases hl : t.looks
    · rfl
    · exact absurd (by simpa [Tm.T.looks, and_assoc] using hl) h
  rw [Tm.may_looks, this]; rfl

theorem may_part {n k : Nat} {t : Tm.T} (hk : k < t.parts.length) (h : Tm.has n (t.parts.getD k 0) = false) : t.may n = false := by
  have : t.parts.all (Tm.has n) = false := by
    rw [List.all_eq_false]
    exact ⟨t.parts.getD k 0, by simp only [List.getD, List.getElem?_eq_getElem hk, Option.getD_some]; exact List.getElem_mem hk, by rw [h]; simp⟩
  rw [Tm.may_looks, this, Bool.and_false]

theorem may_all {n : Nat} {t : Tm.T} (hl : t.looks = true) (h : ∀ j, j < t.parts.length → Tm.has n (t.parts.getD j 0) = true) : t.may n = true := by
  have : t.parts.all (Tm.has n) = true := by
    rw [List.all_eq_true]
    intro p hp
    obtain ⟨i, hi, rfl⟩ := List.mem_iff_getElem.1 hp
    simpa [List.getD, hi] using h i hi
  rw [Tm.may_looks, this, hl]; rfl

theorem may_false {n : Nat} {t : Tm.T} (h : t.looks = false) : t.may n = false := by rw [Tm.may_looks, h]; rfl

set_option maxHeartbeats 4000000 in
set_option maxRecDepth 100000 in
theorem mayPut_any (t : Tm.T) (nv pv : Value) (B : Nat) (ao : Option Addr) (n cap : Nat) (vm : Value) (w : World) (h : TRead w t nv pv) (hn : t.names.length ≤ 9223372036854775807) (hp : t.pairs.length ≤ 9223372036854775807)
    (hb : w.heap[B]? = some (.cells #[.slice ao n cap, vm] 71 (0, 0))) :
    Calls Tryz.prog 81 #[.pointer (some ⟨B, 0, none⟩), tv t nv pv] w (MayDone n t w) := by
  have HS := Lib.hid (shape_ex t nv pv (w.alloc (.cells #[.int .i64 t.kind, .int .i64 t.label, .int .i64 t.a, .int .i64 t.b, nv, pv] 35)) (h.up ((Up.refl w).alloc _)) hn hp)
  obtain ⟨x, hx⟩ : ∃ x, x = t.shape := ⟨_, rfl⟩
  rw [← hx] at HS
  have HX := Lib.hid hx
  have HB := Lib.hid hb
  obtain ⟨a1, c1, g1, o1, rfl, -⟩ := h.n
  obtain ⟨a2, c2, g2, o2, rfl, -⟩ := h.p
  obtain ⟨l1, hl1⟩ : ∃ l, l = t.names.length := ⟨_, rfl⟩
  obtain ⟨l2, hl2⟩ : ∃ l, l = t.pairs.length := ⟨_, rfl⟩
  obtain ⟨m1, hm1⟩ : ∃ l, l = x.1.names.length := ⟨_, rfl⟩
  obtain ⟨m2, hm2⟩ : ∃ l, l = x.1.pairs.length := ⟨_, rfl⟩
  rw [← hl1, ← hl2] at HS ⊢
  rw [← hm1, ← hm2] at HS
  have HL1 := Lib.hid hl1
  have HL2 := Lib.hid hl2
  have HM1 := Lib.hid hm1
  have HM2 := Lib.hid hm2
  have hBw := lt_of_block' hb
  clear h hn hp hx hb hl1 hl2 hm1 hm2
  unfold tv
  go_enter Tryz.func81, Tryz.ntmps81
  go_wp2_with fail
  (with_reducible refine HS.out.mono ?_)
  rintro e w1 ⟨ao1, d1, ao2, d2, rfl, hb1⟩
  have hU := Up.trans ((Up.refl w).alloc _) hb1
  have hb0 := (hb1.block w.heap.size (by simp)).trans (heap_alloc_new w _)
  obtain ⟨b0, b1, b2, b3, b4, b5, bf⟩ := six_cells hb0
  have hz : w.heap.size < w1.heap.size := by have := hb1.size; simp at this; omega
  clear hb1 hb0 HS
  go_wp2_with fail
  all_goals first
    | (go_ret; exact ⟨ret_bool (may_no HX.out (by have e1 := HL1.out; have e2 := HL2.out; have e3 := HM1.out; have e4 := HM2.out; rintro ⟨h1, h2, h3, h4, h5, h6⟩; first | contradiction | omega | (simp at *; omega))).symm, hU.alloc _⟩)
    | skip
  have hy : Hid (t.looks = true) := by
    have e1 := HL1.out; have e2 := HL2.out; have e3 := HM1.out; have e4 := HM2.out
    refine looks_yes HX.out ⟨by assumption, by assumption, by assumption, by assumption, ?_, ?_⟩
    · have : (m1 : Int) = l1 := by assumption
      omega
    · have : ((m2 : Int) != l2) = false := by assumption
      simp at this; omega
  (with_reducible refine (parts_lit t _ _ _).mono ?_)
  rintro e w2 ⟨v, rfl, hv, hb2⟩
  have hU2 := (hU.alloc _).trans hb2
  have hbox := (hU2.block B hBw).trans HB.out
  obtain ⟨ao3, c3, g3, o3, rfl, ha3, hx3⟩ := hv
  obtain ⟨m, hm⟩ : ∃ m, m = t.parts.length := ⟨_, rfl⟩
  unfold IntsAt at hx3
  rw [← hm] at ha3 hx3 ⊢
  have HM := Lib.hid hm
  have HA := Lib.hid ha3
  have HX3 := Lib.hid hx3
  have HBX := Lib.hid hbox
  have hm3 : m ≤ 2 := by rw [hm]; exact parts_le t
  clear hm ha3 hx3 hb2 hbox b0 b1 b2 b3 b4 b5 bf
  go_wp2_with fail
  go_loop [58] (fun i => ∃ k : Nat, k ≤ m ∧ i = .int .i64 k ∧ Hid (∀ j, j < k → Tm.has n (t.parts.getD j 0) = true)) (fun i => m - (intOf i).toNat)
  case atStart => exact ⟨0, Nat.zero_le _, rfl, fun j hj => by omega⟩
  case round =>
    obtain ⟨k, hk, rfl, HR⟩ := hrel
    by_cases hlt : k < m
    · obtain rfl := HA.out (by omega)
      obtain ⟨y, hye⟩ : ∃ y, y = t.parts.getD k 0 := ⟨_, rfl⟩
      have hc := HX3.out k hlt
      rw [← hye] at hc
      have HY := Lib.hid hye
      clear hye
      cases hh : Tm.has n y
      · have HF : Hid (t.may n = false) := may_part (k := k) (by rw [← HM.out]; exact hlt) (by rw [← HY.out]; exact hh)
        have HH := Lib.hid hh
        clear hh
        go_wp2_with (go_at_call 87; refine (has_is B ao n cap vm y false _ HBX.out HH.out).mono ?_; rintro e w' ⟨rfl, rfl⟩)
        go_ret
        exact ⟨ret_bool HF.out.symm, hU2⟩
      · have HH := Lib.hid hh
        clear hh
        go_wp2_with (go_at_call 87; refine (has_is B ao n cap vm y true _ HBX.out HH.out).mono ?_; rintro e w' ⟨rfl, rfl⟩)
        go_round
        case rel => exact ⟨k + 1, by omega, by go_num, fun j hj => by
          by_cases hjk : j = k
          · subst hjk; rw [← HY.out]; exact HH.out
          · exact HR.out j (by omega)⟩
        case measure => simp [intOf]; omega
    · obtain rfl : k = m := by omega
      have HF : Hid (t.may n = true) := may_all hy.out (fun j hj => HR.out j (by rw [HM.out]; exact hj))
      go_wp2_with fail
      go_ret
      exact ⟨ret_bool HF.out.symm, hU2⟩

end Go.Proofs.YtiiieailimphnaaGreatDoor
