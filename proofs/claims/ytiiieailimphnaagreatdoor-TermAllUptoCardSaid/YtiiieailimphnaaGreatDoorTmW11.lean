/- Walks: within; the reckoning of a weight; gather. -/
import Derived.Test.YtiiieailimphnaaGreatDoorTmW10
import Derived.Test.YtiiieailimphnaaGreatDoorTmWeight
import Derived.WalkLawsBesides
namespace Go.Proofs.YtiiieailimphnaaGreatDoor
open Go.RowKit Go.Maps
set_option linter.unusedVariables false
set_option linter.unusedSimpArgs false

theorem Tryz.boolInfo : (Tryz.prog.info? 4).map (fun i => (i.zero, i.size, i.bytes)) = some (some (.bool false), 1, 1) := by kernel_rfl

def bvals (l : List Bool) : List Value := l.map Value.bool

theorem bvals_get {l : List Bool} {i : Nat} (h : i < l.length) : (bvals l)[i]? = some (.bool (l.getD i false)) := by simp [bvals, h]
theorem bvals_set (l : List Bool) (i : Nat) (b : Bool) : bvals (l.set i b) = (bvals l).set i (.bool b) := by simp [bvals, List.map_set]
theorem bvals_length (l : List Bool) : (bvals l).length = l.length := by simp [bvals]
theorem vals_set (l : List Int) (i : Nat) (x : Int) : vals (l.set i x) = (vals l).set i (.int .i64 x) := by simp [vals, List.map_set]

theorem mk1_snoc (l : List Bool) (ps : List Int) (k : Nat) (h : k < ps.length) : Tm.mk1 l (ps.take (k + 1)) = (Tm.mk1 l (ps.take k)).set (ps.getD k 0).toNat true := by
  rw [Tm.mk1, List.take_succ_eq_append_getElem h, List.foldl_append]
  simp [Tm.mk1, List.getD, h]

theorem made_bools (n : Nat) : (madeCells (Value.bool false).cells (n * 1)).toList = bvals (List.replicate n false) := by
  rw [Nat.mul_one, bvals, List.map_replicate]; exact toList_madeCells_one _ _

theorem made_zeros (n : Nat) : (madeCells (Value.int .i64 0).cells (n * 1)).toList = vals (List.replicate n 0) := by
  rw [Nat.mul_one, vals, List.map_replicate]; exact toList_madeCells_one _ _

theorem row_no_int {w : World} {g cap o : Nat} {e : TypeId} {l : List Bool} {k : IntKind} {x : Int} (h : Row w g e cap (bvals l)) (hl : l.length = cap) : w.cell? ⟨g, o, none⟩ ≠ some (.int k x) := by
  intro hc
  by_cases ho : o < l.length
  · rw [h.cell (bvals_get ho)] at hc; cases hc
  · obtain ⟨cur, hg, hs, _⟩ := h
    simp only [World.cell?, hg] at hc
    have : cur[o]? = none := Array.getElem?_eq_none (by omega)
    simp [this] at hc

/-- What within leaves: a new row of marks. -/
def WithinDone (s : List Tm.T) (id : Nat) (w : World) (r : Ending) (w' : World) : Prop :=
  ∃ g, r = .returned (.slice (some ⟨g, 0, none⟩) (id + 1) (id + 1)) ∧ Row w' g 4 (id + 1) (bvals (Tm.within s id)) ∧ w.heap.size ≤ g ∧ Up w w'

set_option maxHeartbeats 8000000 in
set_option maxRecDepth 100000 in
theorem within_any {F : Nat → Prop} {w : World} {B : Nat} {s : List Tm.T} (h : St F w B s) {id : Nat} (hi : id < s.length) (hm : s.length ≤ 1000) :
    Calls Tryz.prog 29 #[.pointer (some ⟨B, 0, none⟩), .int .i64 id] w (WithinDone s id w) := by
  obtain ⟨i0, hif, hz0, hz1, hz2⟩ := info_parts Tryz.boolInfo
  have HT : Hid (∀ (W : World) (j : Nat), Up w W → (hj : j < s.length) → ∃ g cap nv pv, W.cell? ⟨B, 0, none⟩ = some (.slice (some ⟨g, 0, none⟩) s.length cap) ∧
      W.cell? ⟨g, j * 6, none⟩ = some (.int .i64 s[j].kind) ∧ W.cell? ⟨g, j * 6 + 1, none⟩ = some (.int .i64 s[j].label) ∧ W.cell? ⟨g, j * 6 + 2, none⟩ = some (.int .i64 s[j].a) ∧ W.cell? ⟨g, j * 6 + 3, none⟩ = some (.int .i64 s[j].b) ∧
      W.cell? ⟨g, j * 6 + 4, none⟩ = some nv ∧ W.cell? ⟨g, j * 6 + 5, none⟩ = some pv ∧ (∃ p q, nv = .slice p s[j].names.length q) ∧ ∃ p q, pv = .slice p s[j].pairs.length q) := fun W j hW hj => by
    obtain ⟨g, cap, vm, nv, pv, hb, hc, ho, -⟩ := (h.up hW).term hj
    exact ⟨g, cap, nv, pv, (box2 hb).1, hc 0 _ (by omega) rfl, hc 1 _ (by omega) rfl, hc 2 _ (by omega) rfl, hc 3 _ (by omega) rfl, hc 4 _ (by omega) rfl, hc 5 _ (by omega) rfl, owns_shape' ho.n, owns_shape' ho.p⟩
  have HP : Hid (∀ j (hj : j < s.length), s[j].parts = Tm.partsAt s j ∧ (∀ p ∈ s[j].parts, 0 ≤ p ∧ p < j)) := fun j hj => by
    have e : s[j].parts = Tm.partsAt s j := by simp [Tm.partsAt, hj]
    exact ⟨e, by rw [e]; exact Tm.partsAt_lt h.inv j⟩
  clear h
  go_enter Tryz.func29, Tryz.ntmps29
  go_wp2_with (at_make; refine wpList_make_full _ rfl _ _ 80 rfl 0 4 i0 (.bool false) 1 Tryz.underlying80 hif hz0 hz1 _ _ _ _ (id + 1) rfl rfl (by omega) (by omega) (by rw [hz2]; omega) (by unfold maxLen; omega) (Nat.zero_le _) ?_; intro w1 hown hgrow; rw [made_bools] at hown; (obtain ⟨hrow, -, -, -⟩ := Row.of hown); rw [Nat.mul_one] at hrow; (have hc1 : w1.cell? ⟨w.heap.size, id, none⟩ = some (.bool false) := hrow.cell (by rw [bvals_get (by simp)]; simp [List.getD])); (have hf1 := hrow.free id); (replace hown := Lib.hid hown); (replace hgrow := Lib.hid hgrow); (replace hrow := Lib.hid hrow))
  have hU1 : Up w w1 := (Up.refl w).grown hgrow.out (fun k hk => by cases hk)
  have hrow1 := hrow.out.set id (.bool true)
  rw [← bvals_set] at hrow1
  have hU2 := hU1.setCell (p := ⟨w.heap.size, id, none⟩) (Nat.le_refl _) (.bool true)
  have HW : Hid (Tm.down s (id + 1) ((List.replicate (id + 1) false).set id true) = Tm.within s id) := rfl
  obtain ⟨l0, hl0⟩ : ∃ l0, l0 = (List.replicate (id + 1) false).set id true := ⟨_, rfl⟩
  have HL0 : Hid (l0.length = id + 1) := Lib.hid (by rw [hl0]; simp)
  obtain ⟨w2, hw2⟩ : ∃ w2, w1.setCell ⟨w.heap.size, id, none⟩ (.bool true) = w2 := ⟨_, rfl⟩
  rw [← hl0] at hrow1 HW
  rw [hw2] at hrow1 hU2 ⊢
  obtain ⟨g, hg⟩ : ∃ g, g = w.heap.size := ⟨_, rfl⟩
  rw [← hg] at hrow1 ⊢
  have HG := Lib.hid hg
  clear hw2 hl0 hrow hown hgrow hc1 hf1 hU1 hg
  go_loopw [6] (fun i wr => ∃ (m : Nat) (l : List Bool), m ≤ id + 1 ∧ i = .int .i64 ((m : Int) - 1) ∧ l.length = id + 1 ∧ Hid (Tm.down s m l = Tm.within s id) ∧ Row wr g 4 (id + 1) (bvals l) ∧ Up w wr) (fun i _ => (intOf i + 1).toNat)
  case atStart => exact ⟨id + 1, l0, Nat.le_refl _, by go_num, HL0.out, HW, hrow1, hU2⟩
  case round =>
    clear hrow1 hU2
    obtain ⟨m, l, hml, rfl, hll, HD, hr, hU⟩ := hrel
    have HLL := Lib.hid hll
    clear hll
    by_cases h0 : m = 0
    · subst h0
      go_wp2_with fail
      go_ret
      exact ⟨g, rfl, by have := HD.out; rw [Tm.down] at this; rw [← this]; exact hr, Nat.le_of_eq HG.out.symm, hU⟩
    · obtain ⟨j, rfl⟩ : ∃ j, m = j + 1 := ⟨m - 1, by omega⟩
      have hz : ((j + 1 : Nat) : Int) - 1 = (j : Int) := by omega
      rw [hz]
      have hjl : j < l.length := by rw [HLL.out]; omega
      obtain ⟨b, hb⟩ : ∃ b, b = l.getD j false := ⟨_, rfl⟩
      have hcj : wr.cell? ⟨g, j, none⟩ = some (.bool b) := by rw [hb]; exact hr.cell (bvals_get hjl)
      have HD2 := HD.out
      rw [Tm.down, ← hb] at HD2
      have HDD := Lib.hid HD2
      have HB := Lib.hid hb
      clear hz HD2 hb h0 HD hjl
      cases b
      · have HN : Hid (Tm.down s j l = Tm.within s id) := Lib.hid (by have := HDD.out; simpa using this)
        go_wp2_with fail
        go_roundw
        case rel => exact ⟨j, l, by omega, by go_num, HLL.out, HN, hr, hU⟩
        case measure => simp [intOf] <;> omega
      · have HN : Hid (Tm.down s j (Tm.mk1 l (Tm.partsAt s j)) = Tm.within s id) := Lib.hid (by have := HDD.out; simpa using this)
        have hjs : j < s.length := by omega
        obtain ⟨g6, cap, nv, pv, c0, y0, y1, y2, y3, y4, y5, ⟨p1, q1, rfl⟩, p2, q2, rfl⟩ := HT.out wr j hU hjs
        obtain ⟨ep, hp⟩ := HP.out j hjs
        obtain ⟨t, ht⟩ : ∃ t, t = s[j] := ⟨_, rfl⟩
        rw [← ht] at y0 y1 y2 y3 y4 y5 ep hp
        obtain ⟨n, hn⟩ : ∃ n, n = s.length := ⟨_, rfl⟩
        rw [← hn] at c0 hjs
        obtain ⟨l1, hl1⟩ : ∃ l, l = t.names.length := ⟨_, rfl⟩
        obtain ⟨l2, hl2⟩ : ∃ l, l = t.pairs.length := ⟨_, rfl⟩
        rw [← hl1] at y4
        rw [← hl2] at y5
        rw [← ep] at HN
        have HPP := Lib.hid hp
        clear ht hn hl1 hl2 hp ep HDD
        go_wp2_with fail
        (with_reducible refine (parts_lit t _ _ _).mono ?_)
        rintro e w3 ⟨v, rfl, hv, hb3⟩
        have hr3 := hr.keep (hb3.block g hr.lt)
        have hU3 := hU.trans hb3
        obtain ⟨ao3, c3, g3, o3, rfl, ha3, hx3⟩ := hv
        unfold IntsAt at hx3
        obtain ⟨k, hk⟩ : ∃ k, k = t.parts.length := ⟨_, rfl⟩
        have hk2 : k ≤ 2 := by rw [hk]; exact parts_le t
        rw [← hk] at ha3 hx3 ⊢
        have HK := Lib.hid hk
        have HA3 := Lib.hid ha3
        have HX3 := Lib.hid hx3
        clear hk ha3 hx3 hb3 hr hU hcj c0 y0 y1 y2 y3 y4 y5
        go_wp2_with fail
        have HGG : Hid (0 < k → g3 ≠ g) := fun hk e => by
          subst e
          exact row_no_int hr3 HLL.out (HX3.out 0 hk)
        have hl3 : Hid (∀ q, (Tm.mk1 l (t.parts.take q)).length = id + 1) := fun q => by rw [Tm.mk1_len]; exact HLL.out
        have HX4 : Hid (∀ wi, Turned (fun b => b = g) w3 wi → ∀ q, q < k → wi.cell? ⟨g3, o3 + q, none⟩ = some (.int .i64 (t.parts.getD q 0))) := fun wi hT q hq => hT.cell (HX3.out q hq) (HGG.out (by omega))
        go_loopw [33] (fun i wi => ∃ q : Nat, q ≤ k ∧ i = .int .i64 q ∧ Row wi g 4 (id + 1) (bvals (Tm.mk1 l (t.parts.take q))) ∧ Up w wi ∧ Turned (fun b => b = g) w3 wi) (fun i _ => k - (intOf i).toNat)
        case atStart => exact ⟨0, Nat.zero_le _, rfl, hr3, hU3, Turned.refl _ _⟩
        case round =>
          clear hr3 hU3
          obtain ⟨q, hq, rfl, hr, hU, hT⟩ := hrel
          by_cases hlt : q < k
          · obtain rfl := HA3.out (by omega)
            have hc := HX4.out _ hT q hlt
            have hp := HPP.out (t.parts.getD q 0) (by
              have hq' : q < t.parts.length := by rw [← HK.out]; exact hlt
              simp only [List.getD, List.getElem?_eq_getElem hq', Option.getD_some]; exact List.getElem_mem hq')
            have HS : Hid (Tm.mk1 l (t.parts.take (q + 1)) = (Tm.mk1 l (t.parts.take q)).set (t.parts.getD q 0).toNat true) := mk1_snoc _ _ _ (by rw [← HK.out]; exact hlt)
            obtain ⟨x, hx⟩ : ∃ x, x = t.parts.getD q 0 := ⟨_, rfl⟩
            rw [← hx] at hc hp HS
            obtain ⟨y, rfl⟩ := Int.eq_ofNat_of_zero_le hp.1
            have hyl : y < id + 1 := by omega
            have hcy := hr.cell (bvals_get (l := Tm.mk1 l (t.parts.take q)) (i := y) (by rw [hl3.out]; exact hyl))
            have hfy := hr.free y
            obtain ⟨b0, hb0⟩ : ∃ b0, b0 = (Tm.mk1 l (t.parts.take q)).getD y false := ⟨_, rfl⟩
            rw [← hb0] at hcy
            have hr2 := hr.set y (.bool true)
            rw [← bvals_set] at hr2
            have HR2 : Hid (Row (wr.setCell ⟨g, y, none⟩ (.bool true)) g 4 (id + 1) (bvals (Tm.mk1 l (t.parts.take (q + 1))))) := by rw [HS.out]; exact hr2
            have HU2 : Hid (Up w (wr.setCell ⟨g, y, none⟩ (.bool true))) := hU.setCell (Nat.le_of_eq HG.out.symm) _
            have HT2 : Hid (Turned (fun b => b = g) w3 (wr.setCell ⟨g, y, none⟩ (.bool true))) := hT.setCell (.inl rfl) _
            clear hx hp hb0 hr2 hr hU hT
            go_wp2_with fail
            go_roundw
            case rel => exact ⟨q + 1, by omega, by go_num, HR2.out, HU2.out, HT2.out⟩
            case measure => simp [intOf]; omega
          · obtain rfl : q = k := by omega
            have e : t.parts.take q = t.parts := by rw [HK.out, List.take_length]
            rw [e] at hr
            clear e hT
            go_wp2_with fail
            go_roundw
            case rel => exact ⟨j, Tm.mk1 l t.parts, by omega, by go_num, by rw [Tm.mk1_len]; exact HLL.out, HN, hr, hU⟩
            case measure => simp [intOf] <;> omega

end Go.Proofs.YtiiieailimphnaaGreatDoor
