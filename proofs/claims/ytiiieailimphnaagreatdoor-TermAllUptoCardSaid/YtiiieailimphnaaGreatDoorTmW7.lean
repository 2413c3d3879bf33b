/- Walk: key. -/
import Derived.Test.YtiiieailimphnaaGreatDoorTmW6
import Derived.Test.YtiiieailimphnaaGreatDoorTmW3
namespace Go.Proofs.YtiiieailimphnaaGreatDoor
open Go.RowKit
set_option linter.unusedVariables false
set_option linter.unusedSimpArgs false

theorem flat_snoc (l : List (Int × Int)) (k : Nat) (h : k < l.length) : Tm.flat (l.take (k + 1)) = Tm.flat (l.take k) ++ [(l.getD k (0, 0)).1, (l.getD k (0, 0)).2] := by
  rw [Tm.flat, List.take_succ_eq_append_getElem h, List.flatMap_append]
  simp [Tm.flat, List.getD, h]

theorem names_snoc (l : List Int) (k : Nat) (h : k < l.length) : l.take (k + 1) = l.take k ++ [l.getD k 0] := by
  rw [List.take_succ_eq_append_getElem h]
  simp [List.getD, h]

def KeyDone (t : Tm.T) (w : World) (r : Ending) (w' : World) : Prop := r = .returned (.string ⟨(Tm.enc t.seq).toArray⟩) ∧ Up w w'

def head4 (t : Tm.T) : List Int := [t.kind, t.label, t.a, t.b]

theorem KeyS.done {w wr : World} {A : Obj} {s : List Int} (h : KeyS w wr A s) (hs : 0 < (Tm.enc s).length) : ∃ g cap, wr.cell? ⟨w.heap.size + 1, 0, none⟩ = some (.slice (some ⟨g, 0, none⟩) (Tm.enc s).length cap) ∧
    (convert 160 9 (.slice (some ⟨g, 0, none⟩) (Tm.enc s).length cap)).run Tryz.prog wr = .ok (.string ⟨(Tm.enc s).toArray⟩) wr := by
  obtain ⟨v, hg⟩ := h.g
  have hown := hg.own
  rcases hown.2 with ⟨_, h0⟩ | ⟨g, cap, cur, rfl, _⟩
  · omega
  · exact ⟨g, cap, by simp [World.cell?, hg.box], run_convert_bytes_back (P := Tryz.prog) wr 160 9 5 ⟨g, 0, none⟩ cap (Tm.enc s) Tryz.underlying160 Tryz.underlying5 Tryz.underlying9 (fun j hj => hown.cells (g := g) rfl j _ (by simp [Lib.byteCells, hj]))⟩

theorem ret_str {a b : ByteArray} (h : a = b) : Ending.returned (.string a) = .returned (.string b) := by rw [h]

set_option maxHeartbeats 8000000 in
set_option maxRecDepth 100000 in
theorem key_any (t : Tm.T) (nv pv : Value) (w : World) (h : TRead w t nv pv) (hT : Tab w)
    (hk : 0 ≤ t.kind ∧ t.kind < 1000) (hl : 0 ≤ t.label ∧ t.label < 1000) (ha : 0 ≤ t.a ∧ t.a < 1000) (hb : 0 ≤ t.b ∧ t.b < 1000) (hnl : t.names.length ≤ 100) (hpl : t.pairs.length ≤ 100)
    (hnb : ∀ x ∈ t.names, 0 ≤ x ∧ x < 100) (hpb : ∀ p ∈ t.pairs, 0 ≤ p.1 ∧ p.1 < 100 ∧ 0 ≤ p.2 ∧ p.2 < 100) :
    Calls Tryz.prog 83 #[tv t nv pv] w (KeyDone t w) := by
  obtain ⟨a1, c1, g1, o1, rfl, hn1, hn2⟩ := h.n
  obtain ⟨a2, c2, g2, o2, rfl, hp1, hp2⟩ := h.p
  obtain ⟨l1, hl1⟩ : ∃ l, l = t.names.length := ⟨_, rfl⟩
  obtain ⟨l2, hl2⟩ : ∃ l, l = t.pairs.length := ⟨_, rfl⟩
  have HN : Hid (∀ k, k < l1 → a1 = some ⟨g1, o1, none⟩ ∧ w.cell? ⟨g1, o1 + k, none⟩ = some (.int .i64 (t.names.getD k 0)) ∧ 0 ≤ t.names.getD k 0 ∧ t.names.getD k 0 < 1000) := fun k hk => by
    rw [hl1] at hk
    have := hnb (t.names.getD k 0) (by simp only [List.getD, List.getElem?_eq_getElem hk, Option.getD_some]; exact List.getElem_mem hk)
    exact ⟨hn1 (by omega), hn2 k hk, this.1, by omega⟩
  have HP : Hid (∀ k, k < l2 → a2 = some ⟨g2, o2, none⟩ ∧ (w.cell? ⟨g2, o2 + k * 2, none⟩ = some (.int .i64 (t.pairs.getD k (0, 0)).1) ∧ w.cell? ⟨g2, o2 + k * 2 + 1, none⟩ = some (.int .i64 (t.pairs.getD k (0, 0)).2)) ∧
      (0 ≤ (t.pairs.getD k (0, 0)).1 ∧ (t.pairs.getD k (0, 0)).1 < 1000) ∧ 0 ≤ (t.pairs.getD k (0, 0)).2 ∧ (t.pairs.getD k (0, 0)).2 < 1000) := fun k hk => by
    rw [hl2] at hk
    have := hpb (t.pairs.getD k (0, 0)) (by simp only [List.getD, List.getElem?_eq_getElem hk, Option.getD_some]; exact List.getElem_mem hk)
    exact ⟨hp1 (by omega), hp2 k hk, by omega⟩
  rw [← hl1] at hnl ⊢
  rw [← hl2] at hpl ⊢
  have HL1 := Lib.hid hl1
  have HL2 := Lib.hid hl2
  have HT := Lib.hid hT
  obtain ⟨A, hA⟩ : ∃ A : Obj, A = .cells #[.int .i64 t.kind, .int .i64 t.label, .int .i64 t.a, .int .i64 t.b, .slice a1 l1 c1, .slice a2 l2 c2] 35 := ⟨_, rfl⟩
  have HA := Lib.hid hA
  have k0 := KeyS.start w A
  rw [hA] at k0
  have q := six_cells k0.a
  obtain ⟨x0, x1, x2, x3, x4, x5, -⟩ := q
  clear h hn1 hn2 hp1 hp2 hl1 hl2 hnb hpb hT hA
  unfold tv
  go_enter Tryz.func83, Tryz.ntmps83
  go_wp2_with fail
  (with_reducible refine (key_put k0 HT.out hk (by simp)).mono ?_)
  rintro e w1 ⟨rfl, k1, -⟩
  obtain ⟨y0, y1, y2, y3, y4, y5, -⟩ := six_cells k1.a
  clear k0 x0 x1 x2 x3 x4 x5
  go_wp2_with fail
  (with_reducible refine (key_put k1 HT.out hl (by simp)).mono ?_)
  rintro e w2 ⟨rfl, k2, -⟩
  obtain ⟨x0, x1, x2, x3, x4, x5, -⟩ := six_cells k2.a
  clear k1 y0 y1 y2 y3 y4 y5
  go_wp2_with fail
  (with_reducible refine (key_put k2 HT.out ha (by simp)).mono ?_)
  rintro e w3 ⟨rfl, k3, -⟩
  obtain ⟨y0, y1, y2, y3, y4, y5, -⟩ := six_cells k3.a
  clear k2 x0 x1 x2 x3 x4 x5
  go_wp2_with fail
  (with_reducible refine (key_put k3 HT.out hb (by simp)).mono ?_)
  rintro e w4 ⟨rfl, k4, -⟩
  obtain ⟨x0, x1, x2, x3, x4, x5, -⟩ := six_cells k4.a
  clear k3 y0 y1 y2 y3 y4 y5
  have k4' : KeyS w w4 (.cells #[.int .i64 t.kind, .int .i64 t.label, .int .i64 t.a, .int .i64 t.b, .slice a1 l1 c1, .slice a2 l2 c2] 35) (head4 t) := k4
  have hh4 : (head4 t).length = 4 := rfl
  have H4 := Lib.hid hh4
  clear k4 hh4
  go_wp2_with fail
  go_loopw [29] (fun i wr => ∃ k : Nat, k ≤ l1 ∧ i = .int .i64 k ∧ KeyS w wr (.cells #[.int .i64 t.kind, .int .i64 t.label, .int .i64 t.a, .int .i64 t.b, .slice a1 l1 c1, .slice a2 l2 c2] 35) (head4 t ++ t.names.take k)) (fun i _ => l1 - (intOf i).toNat)
  case atStart => exact ⟨0, Nat.zero_le _, rfl, by simpa using k4'⟩
  case round =>
    clear k4' x0 x1 x2 x3 x4 x5
    obtain ⟨k, hk, rfl, kk⟩ := hrel
    by_cases hlt : k < l1
    · obtain ⟨rfl, hc, hx0, hx1⟩ := HN.out k hlt
      have hc := kk.up.cell hc
      have HS : Hid (head4 t ++ t.names.take (k + 1) = head4 t ++ t.names.take k ++ [t.names.getD k 0]) := by
        show _ = _
        rw [names_snoc _ _ (by rw [← HL1.out]; exact hlt), List.append_assoc]
      obtain ⟨x, hx⟩ : ∃ x, x = t.names.getD k 0 := ⟨_, rfl⟩
      rw [← hx] at hc hx0 hx1 HS
      have hlen : (head4 t ++ t.names.take k).length ≤ 1000 := by rw [List.length_append, List.length_take, H4.out]; omega
      have HLEN := Lib.hid hlen
      clear hx hlen
      go_wp2_with fail
      (with_reducible refine (key_put kk HT.out ⟨hx0, hx1⟩ HLEN.out).mono ?_)
      rintro e w5 ⟨rfl, k5, -⟩
      clear kk hc
      go_wp2_with fail
      go_roundw
      case rel => exact ⟨k + 1, by omega, by go_num, by rw [HS.out]; exact k5⟩
      case measure => simp [intOf]; omega
    · obtain rfl : k = l1 := by omega
      have hs1 : head4 t ++ t.names.take k = head4 t ++ t.names := by rw [HL1.out, List.take_length]
      rw [hs1] at kk
      obtain ⟨x0, x1, x2, x3, x4, x5, -⟩ := six_cells kk.a
      clear hs1
      go_wp2_with fail
      go_loopw [40] (fun i wr => ∃ j : Nat, j ≤ l2 ∧ i = .int .i64 j ∧ KeyS w wr (.cells #[.int .i64 t.kind, .int .i64 t.label, .int .i64 t.a, .int .i64 t.b, .slice a1 k c1, .slice a2 l2 c2] 35) (head4 t ++ t.names ++ Tm.flat (t.pairs.take j))) (fun i _ => l2 - (intOf i).toNat)
      case atStart => exact ⟨0, Nat.zero_le _, rfl, by simpa [Tm.flat] using kk⟩
      case round =>
        clear kk x0 x1 x2 x3 x4 x5
        obtain ⟨j, hj, rfl, kk⟩ := hrel
        by_cases hlt : j < l2
        · obtain ⟨rfl, ⟨hc, hd⟩, ⟨hx0, hx1⟩, hy0, hy1⟩ := HP.out j hlt
          have hc := kk.up.cell hc
          have hd := kk.up.cell hd
          have HS : Hid (head4 t ++ t.names ++ Tm.flat (t.pairs.take (j + 1)) = head4 t ++ t.names ++ Tm.flat (t.pairs.take j) ++ [(t.pairs.getD j (0, 0)).1] ++ [(t.pairs.getD j (0, 0)).2]) := by
            show _ = _
            rw [flat_snoc _ _ (by rw [← HL2.out]; exact hlt)]; simp
          obtain ⟨x, hx⟩ : ∃ x, x = (t.pairs.getD j (0, 0)).1 := ⟨_, rfl⟩
          obtain ⟨y, hy⟩ : ∃ y, y = (t.pairs.getD j (0, 0)).2 := ⟨_, rfl⟩
          rw [← hx] at hc hx0 hx1 HS
          rw [← hy] at hd hy0 hy1 HS
          have hfl : (Tm.flat (t.pairs.take j)).length ≤ 200 := by
            have : ∀ l : List (Int × Int), (Tm.flat l).length = 2 * l.length := fun l => by
              induction l with
              | nil => rfl
              | cons p l ih => simp [Tm.flat] at ih ⊢; omega
            rw [this, List.length_take]; omega
          have hlen : (head4 t ++ t.names ++ Tm.flat (t.pairs.take j)).length ≤ 998 := by rw [List.length_append, List.length_append, H4.out, ← HL1.out]; omega
          have HLEN := Lib.hid hlen
          have ka := kk.alloc (.cells #[.int .i64 x, .int .i64 y] 75)
          clear hx hy hlen hfl
          go_wp2_with fail
          (with_reducible refine (key_put ka HT.out ⟨hx0, hx1⟩ (Nat.le_trans HLEN.out (by omega))).mono ?_)
          rintro e w6 ⟨rfl, k6, ho6⟩
          have hpb6 : w6.cell? ⟨wr.heap.size, 1, none⟩ = some (.int .i64 y) := by
            have hk := ho6 wr.heap.size _ (heap_alloc_new wr (.cells #[.int .i64 x, .int .i64 y] 75)) (by obtain ⟨v, hg⟩ := kk.g; have := lt_of_block' hg.box; simp only [ne_eq, Option.some.injEq]; omega) (by intro c fz e; simp at e)
            simp [World.cell?, hk]
          clear ho6
          clear kk ka hc hd
          go_wp2_with fail
          (with_reducible refine (key_put k6 HT.out ⟨hy0, hy1⟩ (by have := HLEN.out; rw [List.length_append, List.length_singleton]; omega)).mono ?_)
          rintro e w7 ⟨rfl, k7, -⟩
          clear k6 hpb6
          go_wp2_with fail
          go_roundw
          case rel => exact ⟨j + 1, by omega, by go_num, by rw [HS.out]; exact k7⟩
          case measure => simp [intOf]; omega
        · obtain rfl : j = l2 := by omega
          have hs2 : head4 t ++ t.names ++ Tm.flat (t.pairs.take j) = t.seq := by rw [HL2.out, List.take_length]; rfl
          rw [hs2] at kk
          obtain ⟨g, cap, cb, hcv⟩ := kk.done (by rw [Tm.T.seq, Tm.enc]; simp; omega)
          obtain ⟨m, hm⟩ : ∃ m, m = (Tm.enc t.seq).length := ⟨_, rfl⟩
          obtain ⟨b, hbe⟩ : ∃ b : ByteArray, b = ⟨(Tm.enc t.seq).toArray⟩ := ⟨_, rfl⟩
          rw [← hm] at cb hcv
          rw [← hbe] at hcv
          have HB := Lib.hid hbe
          clear hs2 hm hbe
          go_wp2_with fail
          go_ret
          exact ⟨ret_str HB.out, kk.up⟩

end Go.Proofs.YtiiieailimphnaaGreatDoor
