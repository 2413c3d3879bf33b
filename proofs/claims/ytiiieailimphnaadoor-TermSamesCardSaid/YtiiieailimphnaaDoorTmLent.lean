/- Walks of the book: SameInts of lists of any length, LentInts, StaysInts. -/
import Derived.Test.YtiiieailimphnaaDoorTmR7
import Derived.Test.YtiiieailimphnaaDoorTmW9
namespace Go.Proofs.YtiiieailimphnaaDoor
open Go.RowKit Go.Maps
set_option linter.unusedVariables false
set_option linter.unusedSimpArgs false

set_option maxHeartbeats 1000000 in
set_option maxRecDepth 100000 in
theorem sameInts_big {v u : Value} {xs : List Int} {w : World} (hm : xs.length ≤ 4611686018427387904) (hv : Lst w v xs) (hu : Lst w u xs) :
    Calls Tryd.prog 30 #[v, u] w (Same w true) := by
  obtain ⟨ao, c, g, off, rfl, ha, hx⟩ := hv
  obtain ⟨bo, d, h, off2, rfl, hb, hy⟩ := hu
  have HX := Lib.hid hx
  have HY := Lib.hid hy
  have HA := Lib.hid ha
  have HB := Lib.hid hb
  obtain ⟨n, hn⟩ : ∃ n, n = xs.length := ⟨_, rfl⟩
  rw [← hn] at hm HA HB ⊢
  have HN := Lib.hid hn
  have qn : ((n : Int) != (n : Int)) = false := by simp
  clear hn hx hy ha hb
  go_enter Tryd.func30, Tryd.ntmps30
  go_wp2_with fail
  go_loopw [5] (fun i wr => ∃ j q : Nat, j ≤ n ∧ i = .int .i64 j ∧ wr = w.drewN q) (fun i _ => n - (intOf i).toNat)
  case atStart => exact ⟨0, 0, Nat.zero_le _, rfl, rfl⟩
  case round =>
    obtain ⟨j, q, hj, rfl, rfl⟩ := hrel
    by_cases hlt : j < n
    · obtain rfl := HA.out (by omega)
      obtain rfl := HB.out (by omega)
      have cx := HX.out j (by rw [← HN.out]; exact hlt)
      have cy := HY.out j (by rw [← HN.out]; exact hlt)
      obtain ⟨x, hxe⟩ : ∃ x, x = xs.getD j 0 := ⟨_, rfl⟩
      rw [← hxe] at cx cy
      have qx : (x == x) = true := by simp
      clear hxe
      go_wp2_with fail
      go_quiet (fail)
      go_wp2_with fail
      go_roundw
      case rel => exact ⟨j + 1, _, by omega, by go_num, rfl⟩
      case measure => simp [intOf]; omega
    · obtain rfl : j = n := by omega
      go_wp2_with fail
      go_ret
      exact ⟨rfl, _, rfl⟩

/-- Numbers with room behind them, in which marks stand. -/
def LentAt (w : World) (xs : List Int) (v : Value) (g cap : Nat) : Prop :=
  v = .slice (some ⟨g, 0, none⟩) xs.length cap ∧ xs.length + 2 ≤ cap ∧ cap ≤ maxLen ∧ Row w g 3 cap (vals xs ++ [.int .i64 (-77), .int .i64 (-78)])

theorem LentAt.lst {w : World} {xs : List Int} {v : Value} {g cap : Nat} (h : LentAt w xs v g cap) : Lst w v xs := by
  obtain ⟨rfl, h1, _, hr⟩ := h
  refine ⟨_, _, g, 0, rfl, fun _ => rfl, fun i hi => ?_⟩
  rw [Nat.zero_add]
  exact hr.cell (by rw [List.getElem?_append_left (by rw [vals_length]; exact hi)]; exact vals_get hi)

theorem LentAt.keep {w w' : World} {xs : List Int} {v : Value} {g cap : Nat} (h : LentAt w xs v g cap) (hk : w'.heap[g]? = w.heap[g]?) : LentAt w' xs v g cap :=
  ⟨h.1, h.2.1, h.2.2.1, h.2.2.2.keep hk⟩

def LentDone (w : World) (xs : List Int) (r : Ending) (w' : World) : Prop := ∃ v g cap, r = .returned v ∧ LentAt w' xs v g cap ∧ w.heap.size ≤ g ∧ Up w w'

theorem cells_new2 (w : World) (a b : Value) (t : TypeId) : ∀ j u, ([a, b] : List Value)[j]? = some u → (w.alloc (.cells #[a, b] t)).cell? ((⟨w.heap.size, 0, none⟩ : Addr).add j) = some u := by
  intro j u hj
  match j, hj with
  | 0, hj => simp at hj; subst hj; simp [Addr.add]
  | 1, hj => simp at hj; subst hj; simp [Addr.add]
  | j + 2, hj => simp at hj

set_option maxHeartbeats 1000000 in
set_option maxRecDepth 100000 in
theorem lent_any {u : Value} {xs : List Int} {w : World} (hf : xs.length * 8 ≤ 140737488351232) (hu : Lst w u xs) :
    Calls Tryd.prog 33 #[u] w (LentDone w xs) := by
  obtain ⟨i0, hi, hz0, hz1, hz2⟩ := info_parts Tryd.intInfo'
  obtain ⟨ao, c, g, off, rfl, ha, hx⟩ := hu
  obtain ⟨n, hn⟩ : ∃ n, n = xs.length := ⟨_, rfl⟩
  rw [← hn] at hf ha ⊢
  have HA : Hid (ao = none → n = 0) := Lib.hid (fun e => by
    rcases Nat.eq_zero_or_pos n with h | h
    · exact h
    · have := ha h; rw [e] at this; cases this)
  have HL : Hid ((vals xs).length = n * 1) := Lib.hid (by rw [vals_length, hn, Nat.mul_one])
  have HX : Hid (∀ ad, ao = some ad → ∀ j u, (vals xs)[j]? = some u → w.cell? (ad.add j) = some u) := Lib.hid (fun ad e j u hu => by
    have hjl : j < n := by have := (List.getElem?_eq_some_iff.1 hu).1; rw [vals_length] at this; omega
    have := ha (by omega)
    rw [e] at this; cases this
    exact vals_at hx j u hu)
  have HN := Lib.hid hn
  clear hn ha hx
  go_enter Tryd.func33, Tryd.ntmps33
  go_wp2_with (first
    | (at_builtin; refine wpList_append_fresh _ rfl _ _ 30 rfl 3 i0 _ 1 8 Tryd.underlying30 hi hz0 hz1 hz2 rfl (by decide) rfl ao n c rfl (vals xs) HA.out HL.out HX.out (vals_oneCell _) (by unfold maxLen; omega) (by omega) ?_; intro v1 w1 hown1 hU1; (obtain ⟨p1, k1, rfl⟩ := owns_shape' hown1); (have hbase : w.heap.size ≤ w1.heap.size := hU1.size))
    | (at_builtin; refine wpList_append_own _ rfl _ _ 30 rfl w.heap.size 3 i0 _ 1 8 Tryd.underlying30 hi hz0 hz1 hz2 rfl (by decide) (.slice p1 n k1) n _ rfl (hown1.alloc _) ⟨w1.heap.size, 0, none⟩ 2 2 [.int .i64 (-77), .int .i64 (-78)] rfl rfl (cells_new2 _ _ _ _) (by intro u hu; simp at hu; rcases hu with rfl | rfl <;> rfl) (by unfold maxLen; omega) (by omega) (by simp; omega) ?_; intro v2 w2 hown2 hgrow2 hnil2; (rcases owns_cases hown2 with ⟨_, h0, _⟩ | ⟨g2, cap2, rfl, hr2, hc2, hm2, -⟩); (exact absurd h0 (by omega)); (have hg2 := (hown2.lt g2 rfl).1); (replace hgrow2 := Lib.hid hgrow2); (replace hown2 := Lib.hid hown2); (replace hr2 := Lib.hid hr2)))
  go_ret
  refine ⟨_, g2, cap2, rfl, ⟨by rw [← HN.out]; rfl, by rw [← HN.out]; exact hc2, hm2, by have := hr2.out; rwa [Nat.mul_one] at this⟩, hg2, (hU1.alloc _).grown hgrow2.out (fun k hk => (hown1.lt k hk).1)⟩

set_option maxHeartbeats 1000000 in
set_option maxRecDepth 100000 in
theorem stays_any {v u : Value} {xs : List Int} {w : World} {g cap : Nat} (hm : xs.length ≤ 4611686018427387904) (hL : LentAt w xs v g cap) (hu : Lst w u xs) :
    Calls Tryd.prog 34 #[v, u] w (Same w true) := by
  have HS := Lib.hid (sameInts_big hm hL.lst hu)
  obtain ⟨rfl, hc, hcm, hr⟩ := hL
  obtain ⟨bo, d, h, off2, rfl, -⟩ := hu
  obtain ⟨n, hn⟩ : ∃ n, n = xs.length := ⟨_, rfl⟩
  have c1 : w.cell? ⟨g, n, none⟩ = some (.int .i64 (-77)) := hr.cell (by rw [List.getElem?_append_right (by rw [vals_length, hn]; exact Nat.le_refl _), vals_length, hn, Nat.sub_self]; rfl)
  have c2 : w.cell? ⟨g, n + 1, none⟩ = some (.int .i64 (-78)) := hr.cell (by rw [List.getElem?_append_right (by rw [vals_length, hn]; omega), vals_length, hn, Nat.add_sub_cancel_left]; rfl)
  rw [← hn] at hm hc HS ⊢
  unfold maxLen at hcm
  clear hr hn
  go_enter Tryd.func34, Tryd.ntmps34
  go_wp2_with (go_at_call 30; (with_reducible refine HS.out.mono ?_); rintro r w1 ⟨rfl, q, rfl⟩)
  go_ret
  exact ⟨rfl, _, rfl⟩

end Go.Proofs.YtiiieailimphnaaDoor
