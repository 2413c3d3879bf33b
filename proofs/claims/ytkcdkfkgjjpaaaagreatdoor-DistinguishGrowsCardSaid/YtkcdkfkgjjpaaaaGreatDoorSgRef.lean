/- Walks: Classes and Marked of a partition of any size. -/
import Derived.Test.YtkcdkfkgjjpaaaaGreatDoorLst
import Derived.Test.YtkcdkfkgjjpaaaaGreatDoorCanonW
import Derived.Test.YtkcdkfkgjjpaaaaGreatDoorRefPl
import Derived.Test.YtkcdkfkgjjpaaaaGreatDoorRefW17

namespace Go.Proofs.YtkcdkfkgjjpaaaaGreatDoor
open Go.RowKit
set_option linter.unusedVariables false
set_option linter.unusedSimpArgs false

theorem owns_seen {w : World} {n : Nat} {e base : Nat} {v : Value} {xs : List Value} (h : w.ownsRow base e 1 v n xs) :
    ∃ ao cap g, v = .slice ao n cap ∧ (0 < n → ao = some ⟨g, 0, none⟩ ∧ v.ownBlock = some g ∧ Row w g e cap xs) := by
  rcases owns_cases h with ⟨rfl, h0, _⟩ | ⟨g, cap, rfl, hr, _⟩
  · exact ⟨none, 0, 0, by rw [h0], fun hn => by omega⟩
  · rw [Nat.mul_one] at hr
    exact ⟨_, cap, g, rfl, fun _ => ⟨rfl, rfl, hr⟩⟩

def LstDone (w : World) (xs : List Int) (r : Ending) (w' : World) : Prop :=
  ∃ v, r = .returned v ∧ w'.ownsRow w.heap.size 3 1 v xs.length (xs.map (Value.int .i64)) ∧ Up w w'

/-- What Classes leaves. -/
def ClassesAt (w : World) (l : List Nat) (n : Nat) (r : Ending) (w' : World) : Prop :=
  ∃ g, r = .returned (.slice (some ⟨g, 0, none⟩) n n) ∧ Row w' g 3 n (ints l) ∧ w.heap.size ≤ g ∧ Up w w'

set_option maxHeartbeats 1000000 in
set_option maxRecDepth 100000 in
theorem classes_all {w : World} {B n : Nat} {ve vp vi vb : Value} {s : Rf.St} (h : PartAt w B ve vp vi vb s) (hI : Rf.Inv s n) (hn : n ≤ 1000) :
    Calls Tryz.prog 152 #[.pointer (some ⟨B, 0, none⟩)] w (ClassesAt w (Cn.canon (s.inn.map Int.ofNat)) n) := by
  have ri := h.ri
  rw [hI.li] at ri
  have hbox := h.box
  obtain ⟨ao, ci, gi, rfl, hao⟩ := owns_seen ri
  have c2 : w.cell? ⟨B, 2, none⟩ = some (.slice ao n ci) := by simp [World.cell?, hbox]
  have hli : (s.inn.map Int.ofNat).length = n := by rw [List.length_map, hI.li]
  have hb : ∀ k, k < n → (s.inn.map Int.ofNat).getD k 0 = (s.inn.getD k 0 : Nat) := by
    intro k hk
    simp [List.getD, show k < s.inn.length by rw [hI.li]; exact hk]
  have HC := Lib.hid (canon_any' gi 0 n ci ao (fun h0 => (hao h0).1) (s.inn.map Int.ofNat) w hli (by omega) (by
    intro k hk
    rw [hb k hk]
    have := (hI.in1 k hk).1
    have h2 := Rf.blocks_le hI
    have h3 : s.inn.getD k 0 = s.I k := rfl
    exact WalkArith.wf_i64 (by omega)) (by
    intro k hk
    rw [hb k hk, Nat.zero_add]
    exact (hao (by omega)).2.2.cell (ints_get (by rw [hI.li]; exact hk))))
  clear h hI hli hb hbox hao ri
  go_enter Tryz.func152, Tryz.ntmps152
  go_wp2_with (first
    | (go_at_call 195; refine (own_some _ _).mono ?_; rintro e w' ⟨rfl, rfl⟩)
    | (go_at_call 194; refine HC.out.mono ?_; rintro e w1 ⟨rfl, hrow, hbel⟩))
  go_ret
  exact ⟨_, rfl, hrow, by omega, hbel⟩

set_option maxHeartbeats 1000000 in
set_option maxRecDepth 100000 in
theorem marked_all {w : World} {B n : Nat} {ve vp vi vb : Value} {s : Rf.St} (h : PartAt w B ve vp vi vb s) (hI : Rf.Inv s n) (hn : n ≤ 1000) :
    Calls Tryz.prog 223 #[.pointer (some ⟨B, 0, none⟩)] w (LstDone w (s.hot s.blocks.length)) := by
  obtain ⟨i0, hi, hz0, hz1, hz2⟩ := info_parts Tryz.intInfo
  have hbn := Rf.blocks_le hI
  have rb := h.rb
  have hbox := h.box
  obtain ⟨nb, hnb⟩ : ∃ nb, nb = s.blocks.length := ⟨_, rfl⟩
  rw [← hnb] at hbn rb ⊢
  have hk : ∃ ao cap g, vb = .slice ao nb cap ∧ (0 < nb → ao = some ⟨g, 0, none⟩ ∧ Row w g 320 (cap * 3) (cellsB s.blocks)) := by
    rcases owns_cases rb with ⟨rfl, h0, _⟩ | ⟨g, cap, rfl, hr, _⟩
    · exact ⟨none, 0, 0, by rw [h0], fun h => by omega⟩
    · exact ⟨_, cap, g, rfl, fun _ => ⟨rfl, hr⟩⟩
  obtain ⟨ao, cap, gb, rfl, hao⟩ := hk
  have c3 : w.cell? ⟨B, 3, none⟩ = some (.slice ao nb cap) := by simp [World.cell?, hbox]
  have HB : Hid (∀ k, k < nb → ao = some ⟨gb, 0, none⟩ ∧ w.cell? ⟨gb, k * 3, none⟩ = some (.int .i64 (s.F k : Nat)) ∧ w.cell? ⟨gb, k * 3 + 1, none⟩ = some (.int .i64 (s.T k : Nat)) ∧ w.cell? ⟨gb, k * 3 + 2, none⟩ = some (.int .i64 (s.M k : Nat))) := by
    intro k hk
    obtain ⟨h1, h2⟩ := hao (by omega)
    rw [hnb] at hk
    exact ⟨h1, h2.cell (cellsB_get0 _ _ hk), h2.cell (cellsB_get1 _ _ hk), h2.cell (cellsB_get2 _ _ hk)⟩
  have HLE : Hid (∀ k, (s.hot k).length ≤ k) := fun k => Rf.hot_len s k
  clear hao rb hbox h hI hnb
  go_enter Tryz.func223, Tryz.ntmps223
  go_wp2_with (go_at_call 195; refine (own_some _ _).mono ?_; rintro e w' ⟨rfl, rfl⟩)
  go_loopw [3, 12] (fun lv i wr => ∃ k : Nat, k ≤ nb ∧ i = .int .i64 k ∧ wr.ownsRow w.heap.size 3 1 lv (s.hot k).length ((s.hot k).map (Value.int .i64)) ∧ Up w wr) (fun _ i _ => nb - (intOf i).toNat)
  case atStart => exact ⟨0, Nat.zero_le _, rfl, World.ownsRow_nil _ _ _ _, Up.refl w⟩
  case round =>
    obtain ⟨k, hk, rfl, hown, hup⟩ := hrel
    by_cases hlt : k < nb
    · obtain ⟨rfl, x0, x1, x2⟩ := HB.out k hlt
      have y0 := hup.cell x0
      have y1 := hup.cell x1
      have y2 := hup.cell x2
      have hsz := hup.size
      have hle := HLE.out k
      have HN : Hid (s.hot (k + 1) = if 0 < s.M k then s.hot k ++ [(k : Int)] else s.hot k) := rfl
      obtain ⟨x, hx⟩ : ∃ x, x = s.M k := ⟨_, rfl⟩
      obtain ⟨l, hl⟩ : ∃ l, l = s.hot k := ⟨_, rfl⟩
      rw [← hx] at y2 HN
      rw [← hl] at hown hle HN
      obtain ⟨so, sc, rfl⟩ := owns_shape' hown
      obtain ⟨m, hm⟩ : ∃ m, m = l.length := ⟨_, rfl⟩
      rw [← hm] at hown hle ⊢
      have HML := Lib.hid hm
      clear hx hl hm x0 x1 x2
      by_cases hx0 : 0 < x
      · have qx : decide ((0 : Int) < (x : Int)) = true := by simp; omega
        have e := HN.out
        rw [if_pos hx0] at e
        have HE := Lib.hid e
        have HEL : Hid ((s.hot (k + 1)).length = m + 1) := by rw [e, List.length_append, ← HML.out]; rfl
        clear e HN
        go_wp2_with (at_builtin; (refine wpList_append_own _ rfl _ _ 35 rfl w.heap.size 3 i0 (.int .i64 0) 1 8 Tryz.underlying35 hi hz0 hz1 hz2 rfl (by decide) _ m _ rfl ((hown.alloc _).alloc _) ⟨wr.heap.size + 1, 0, none⟩ 1 1 [.int .i64 (k : Nat)] rfl rfl (by simpa using cell_one_new (wr.alloc _) _ _) (ints_oneCell .i64 [(k : Int)]) (by unfold maxLen; omega) (by omega) (by simp; omega) ?_); intro v' w2 hown' hgrow' hnil'; clear hnil')
        go_roundw
        case rel => exact ⟨k + 1, by omega, by go_num, by rw [HEL.out, HE.out, List.map_append]; exact hown', ((hup.alloc _).alloc _).grown hgrow' (fun g hg => (hown.lt g hg).1)⟩
        case measure => simp [intOf]; omega
      · obtain rfl : x = 0 := by omega
        have e := HN.out
        rw [if_neg hx0] at e
        have HE := Lib.hid e
        clear e HN
        go_wp2_with fail
        go_roundw
        case rel => exact ⟨k + 1, by omega, by go_num, by rw [HE.out, ← HML.out]; exact hown.alloc _, hup.alloc _⟩
        case measure => simp [intOf]; omega
    · obtain rfl : k = nb := by omega
      go_wp2_with fail
      go_ret
      exact ⟨_, rfl, hown, hup⟩


end Go.Proofs.YtkcdkfkgjjpaaaaGreatDoor
