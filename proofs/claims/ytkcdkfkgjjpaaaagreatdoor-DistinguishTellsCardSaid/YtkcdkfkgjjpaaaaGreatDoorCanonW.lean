/- Walks: system.Canon, system.Together. -/
import Derived.Test.YtkcdkfkgjjpaaaaGreatDoorMem
import Derived.Test.YtkcdkfkgjjpaaaaGreatDoorCanonPlain
import Derived.Maps.OwnOps
namespace Go.Proofs.YtkcdkfkgjjpaaaaGreatDoor
open Go.RowKit Go.Maps
set_option linter.unusedVariables false
set_option linter.unusedSimpArgs false

theorem Tryz.intLaw : Keyed Tryz.prog 3 := int_keyed Tryz.underlying3
theorem Tryz.intZero (w : World) : (zeroValue 3).run Tryz.prog w = .ok (.int .i64 0) w := by kernel_rfl
theorem Tryz.intInfo : (Tryz.prog.info? 3).map (fun i => (i.zero, i.size, i.bytes)) = some (some (.int .i64 0), 1, 8) := by kernel_rfl

set_option maxHeartbeats 4000000 in
set_option maxRecDepth 100000 in
theorem canon_any' (g off n cap : Nat) (ao : Option Addr) (hao : 0 < n → ao = some ⟨g, off, none⟩) (l : List Int) (w : World) (hl : l.length = n) (hn : n ≤ 1000000)
    (hwf : ∀ k, k < n → (Lit.int .i64 (l.getD k 0)).wf = true) (hc : ∀ k, k < n → w.cell? ⟨g, off + k, none⟩ = some (.int .i64 (l.getD k 0))) :
    Calls Tryz.prog 194 #[.slice ao n cap] w fun r w' =>
      r = .returned (.slice (some ⟨w.heap.size + 1, 0, none⟩) n n) ∧ Row w' (w.heap.size + 1) 3 n (ints (Cn.canon l)) ∧ Below w.heap.size w w' := by
  obtain ⟨i0, hi, hz0, hz1, hz2⟩ := info_parts Tryz.intInfo
  have hmm := @run_makeMap Tryz.prog
  have hgb : 0 < n → g < w.heap.size := fun h => World.block_lt_of_cell? w _ (hc 0 h)
  have HL : Hid (l.length = n) := hl
  have HAO := Lib.hid hao
  clear hl hao
  go_enter Tryz.func194, Tryz.ntmps194
  go_wp2_with (first | (at_make; refine wpList_make_full _ rfl _ _ 35 rfl 0 3 i0 (.int .i64 0) 1 Tryz.underlying35 hi hz0 hz1 _ _ _ _ n rfl rfl rfl rfl (by rw [hz2]; omega) (by unfold maxLen; omega) (Nat.zero_le _) ?_; intro w1 hown hgrow))
  obtain ⟨hrow, -, -, -⟩ := Row.of hown
  have hsz0 : (w.alloc (.map #[] 0)).heap.size = w.heap.size + 1 := by simp
  rw [hsz0] at hrow
  have hrow0 : Row w1 (w.heap.size + 1) 3 n (ints (List.replicate n 0)) := by
    have e : (madeCells (Value.int .i64 0).cells (n * 1)).toList = ints (List.replicate n 0) := by
      rw [Nat.mul_one, ints_zero]; exact toList_madeCells_one _ _
    rw [← e]; simpa using hrow
  have hmap0 : w1.ownsMap (H := Unit) Tryz.prog 3 (plainElem Tryz.prog 3) w.heap.size 0 (.map []) := (World.ownsMap_made w _ _ _).kept hgrow (by simp)
  have hbel0 : Below w.heap.size w w1 := ((Below.refl _ _).alloc (Nat.le_refl _) _).grown hgrow (by simp) (by simp)
  clear hown hgrow hrow hsz0
  go_loopw [15] (fun i wr => ∃ k : Nat, k ≤ n ∧ i = .int .i64 k ∧ wr.ownsMap (H := Unit) Tryz.prog 3 (plainElem Tryz.prog 3) w.heap.size k (Cn.placeMap (Cn.seen (l.take k))) ∧
      Row wr (w.heap.size + 1) 3 n (ints ((Cn.canon l).take k ++ List.replicate (n - k) 0)) ∧ Below w.heap.size w wr)
    (fun i _ => n - (intOf i).toNat)
  case atStart => exact ⟨0, Nat.zero_le _, rfl, hmap0, hrow0, hbel0⟩
  case round =>
    obtain ⟨k, hk, rfl, hmap, hrow, hbel⟩ := hrel
    by_cases hlt : k < n
    · obtain rfl := HAO.out (by omega)
      have hl := HL.out
      obtain ⟨c, hcv⟩ : ∃ c, c = l.getD k 0 := ⟨_, rfl⟩
      have hw1 : (Lit.int .i64 c).wf = true := by rw [hcv]; exact hwf k hlt
      have hcell : wr.cell? ⟨g, off + k, none⟩ = some (.int .i64 c) := by rw [hcv]; exact (hbel.cell (p := ⟨g, off + k, none⟩) (hgb (by omega))).trans (hc k hlt)
      have hkey := keyOf_int_mk (P := Tryz.prog) Tryz.underlying3 hw1
      obtain ⟨s, hs⟩ : ∃ s, s = Cn.seen (l.take k) := ⟨_, rfl⟩
      have hnd : Hid s.Nodup := by rw [hs]; exact Cn.nodup_seen _
      have hsl : s.length ≤ k := by rw [hs]; have := Cn.seen_len (l.take k); simp at this; omega
      have hcan : Hid ((Cn.canon l).getD k 0 = s.idxOf c) := by rw [hs, hcv]; exact Cn.canon_at l k (by omega)
      have hnext : Hid (Cn.seen (l.take (k + 1)) = if c ∈ s then s else s ++ [c]) := by rw [hs, hcv]; exact Cn.seen_take l k (by omega)
      have htake : Hid (((Cn.canon l).take k ++ List.replicate (n - k) 0).set k ((Cn.canon l).getD k 0) = (Cn.canon l).take (k + 1) ++ List.replicate (n - (k + 1)) 0) := by
        have := Cn.canon_take l k (by omega); rw [hl] at this; exact this
      have HC : Hid (c = l.getD k 0) := hcv
      have HS : Hid (s = Cn.seen (l.take k)) := hs
      rw [← hs] at hmap
      clear hcv hs hwf hc hl
      have hlen : (ints ((Cn.canon l).take k ++ List.replicate (n - k) 0)).length = n := by
        rw [ints_length, List.length_append, List.length_take, List.length_replicate, Cn.canon_len, HL.out]; omega
      have hfree := hrow.free k
      obtain ⟨u0, hu0⟩ : ∃ u, wr.cell? ⟨w.heap.size + 1, k, none⟩ = some u := ⟨_, hrow.cell (List.getElem?_eq_getElem (by omega))⟩
      have HLEN := Lib.hid hlen
      clear hlen
      by_cases hin : c ∈ s
      · have hhas : Maps.has (Cn.placeMap s) (.int .i64 c) = true := by rw [Cn.placeMap_has]; simp [hin]
        go_wp2_with (at_lookup; refine wpList_lookup_own_ok_int _ rfl _ _ 306 rfl 3 3 .i64 Tryz.intLaw Tryz.underlying306 Tryz.underlying3 (Tryz.intZero _) w.heap.size k _ rfl hmap _ _ rfl hkey ?_; intro c' hat hwc; (obtain rfl : c' = ((s.idxOf c : Nat) : Int) := by (rw [Cn.placeMap_at s hnd.out c hin] at hat; simpa using hat.symm)); clear hat hwc)
        have hnext' : Cn.seen (l.take (k + 1)) = s := by rw [hnext.out, if_pos hin]
        have hrow' := hrow.set k (.int .i64 ((s.idxOf c : Nat) : Int))
        rw [← ints_set, ← hcan.out, htake.out] at hrow'
        have hmap' : wr.ownsMap (H := Unit) Tryz.prog 3 (plainElem Tryz.prog 3) w.heap.size (k + 1) (Cn.placeMap (Cn.seen (l.take (k + 1)))) := by rw [hnext']; exact hmap.mono (by omega)
        go_roundw
        case rel => exact ⟨k + 1, by omega, by go_num, hmap'.setCell (by simp) _, by rw [← hcan.out]; exact hrow', hbel.setCell (by simp) _⟩
        case measure => simp [intOf]; omega
      · have hhas : Maps.has (Cn.placeMap s) (.int .i64 c) = false := by rw [Cn.placeMap_has]; simp [hin]
        have hsz : Maps.size (Cn.placeMap s) = s.length := Cn.placeMap_size s hnd.out
        go_wp2_with (first
          | (at_lookup; refine wpList_lookup_own_ok_int _ rfl _ _ 306 rfl 3 3 .i64 Tryz.intLaw Tryz.underlying306 Tryz.underlying3 (Tryz.intZero _) w.heap.size k _ rfl hmap _ _ rfl hkey ?_; intro c' hat hwc; clear hat hwc)
          | (at_len; refine wpList_len_own _ rfl _ 306 rfl 3 3 Tryz.underlying306 _ w.heap.size k _ rfl hmap ?_)
          | (at_mapUpdate; refine wpList_mapUpdate_own _ rfl _ _ _ 306 rfl 3 3 Tryz.intLaw Tryz.underlying306 _ w.heap.size k _ rfl hmap (by unfold maxLen; omega) _ _ _ rfl rfl hkey _ [] (plainElem_int Tryz.underlying3 (WalkArith.wf_i64 (by omega))) ?_; intro w2 hown2 hgrow2; have hu2 := hgrow2.cell hu0 (by simp); have hf2 : w2.frozen? ⟨w.heap.size + 1, k, none⟩ = false := (World.frozen?_of_block (hgrow2.block _ hrow.lt (by simp))).trans hfree))
        have hnext' : Cn.seen (l.take (k + 1)) = s ++ [c] := by rw [hnext.out, if_neg hin]
        have hidx : s.idxOf c = s.length := List.idxOf_eq_length hin
        have hrow2 : Row w2 (w.heap.size + 1) 3 n (ints ((Cn.canon l).take k ++ List.replicate (n - k) 0)) := hrow.keep (hgrow2.block _ hrow.lt (by simp))
        have hrow' := hrow2.set k (.int .i64 ((s.length : Nat) : Int))
        rw [← ints_set, ← hidx, ← hcan.out, htake.out] at hrow'
        have hmap' : w2.ownsMap (H := Unit) Tryz.prog 3 (plainElem Tryz.prog 3) w.heap.size (k + 1) (Cn.placeMap (Cn.seen (l.take (k + 1)))) := by rw [hnext', Cn.placeMap_snoc]; exact hown2
        go_roundw
        case rel => exact ⟨k + 1, by omega, by go_num, hmap'.setCell (by simp) _, by rw [← hidx, ← hcan.out]; exact hrow', (hbel.grown hgrow2 hbel.size (by simp)).setCell (by simp) _⟩
        case measure => simp [intOf]; omega
    · go_wp2
      have : k = n := by omega
      subst this
      go_ret
      refine ⟨rfl, ?_, hbel⟩
      have e : (Cn.canon l).take k ++ List.replicate (k - k) 0 = Cn.canon l := by
        rw [Nat.sub_self, List.replicate_zero, List.append_nil, List.take_of_length_le (by rw [Cn.canon_len, HL.out]; omega)]
      rw [← e]; exact hrow

set_option maxHeartbeats 4000000 in
set_option maxRecDepth 100000 in
theorem together_any' (g off n cap : Nat) (ao : Option Addr) (hao : 0 < n → ao = some ⟨g, off, none⟩) (l : List Int) (w : World) (hl : l.length = n) (hn : n ≤ 1000000)
    (hwf : ∀ k, k < n → (Lit.int .i64 (l.getD k 0)).wf = true) (hc : ∀ k, k < n → w.cell? ⟨g, off + k, none⟩ = some (.int .i64 (l.getD k 0))) :
    Calls Tryz.prog 241 #[.slice ao n cap] w fun r w' =>
      r = .returned (.int .i64 ((Cn.seen l).length : Nat)) ∧ Below w.heap.size w w' := by
  have hmm := @run_makeMap Tryz.prog
  have hgb : 0 < n → g < w.heap.size := fun h => World.block_lt_of_cell? w _ (hc 0 h)
  have HL : Hid (l.length = n) := hl
  have HAO := Lib.hid hao
  clear hl hao
  go_enter Tryz.func241, Tryz.ntmps241
  go_wp2_with fail
  go_loopw [9] (fun i wr => ∃ k : Nat, k ≤ n ∧ i = .int .i64 k ∧ wr.ownsMap (H := Unit) Tryz.prog 3 unitElem w.heap.size k (Cn.numSet (l.take k)) ∧ Below w.heap.size w wr)
    (fun i _ => n - (intOf i).toNat)
  case atStart => exact ⟨0, Nat.zero_le _, rfl, World.ownsMap_made _ _ _ _, (Below.refl _ _).alloc (Nat.le_refl _) _⟩
  case round =>
    obtain ⟨k, hk, rfl, hmap, hbel⟩ := hrel
    by_cases hlt : k < n
    · obtain rfl := HAO.out (by omega)
      have hl := HL.out
      obtain ⟨c, hcv⟩ : ∃ c, c = l.getD k 0 := ⟨_, rfl⟩
      have hw1 : (Lit.int .i64 c).wf = true := by rw [hcv]; exact hwf k hlt
      have hcell : wr.cell? ⟨g, off + k, none⟩ = some (.int .i64 c) := by rw [hcv]; exact (hbel.cell (p := ⟨g, off + k, none⟩) (hgb (by omega))).trans (hc k hlt)
      have hkey := keyOf_int_mk (P := Tryz.prog) Tryz.underlying3 hw1
      have hnext : Hid (Cn.numSet (l.take (k + 1)) = (Cn.numSet (l.take k)).put (.int .i64 c) (.agg [])) := by
        rw [List.take_succ_eq_append_getElem (by omega), Cn.numSet_snoc]
        have : l[k] = c := by rw [hcv]; simp [List.getD, show k < l.length by omega]
        rw [this]; rfl
      clear hcv hwf hc hl
      go_wp2_with (at_mapUpdate; refine wpList_mapUpdate_own _ rfl _ _ _ 326 rfl 3 327 Tryz.intLaw Tryz.underlying326 unitElem w.heap.size k _ rfl hmap (by unfold maxLen; omega) _ _ _ rfl rfl hkey _ [] unitElem_mk ?_; intro w2 hown2 hgrow2)
      rw [← hnext.out] at hown2
      go_roundw
      case rel => exact ⟨k + 1, by omega, by go_num, hown2, hbel.grown hgrow2 hbel.size (by simp)⟩
      case measure => simp [intOf]; omega
    · have : k = n := by omega
      subst this
      have hsz : Maps.size (Cn.numSet (l.take k)) = (Cn.seen l).length := by rw [List.take_of_length_le (by rw [HL.out]; omega), Cn.numSet_size]
      go_wp2_with (at_len; refine wpList_len_own _ rfl _ 326 rfl 3 327 Tryz.underlying326 _ w.heap.size k _ rfl hmap ?_)
      go_ret
      exact ⟨rfl, hbel⟩

theorem canon_any (g off n cap : Nat) (l : List Int) (w : World) (hl : l.length = n) (hn : n ≤ 1000000)
    (hwf : ∀ k, k < n → (Lit.int .i64 (l.getD k 0)).wf = true) (hc : ∀ k, k < n → w.cell? ⟨g, off + k, none⟩ = some (.int .i64 (l.getD k 0))) :
    Calls Tryz.prog 194 #[.slice (some ⟨g, off, none⟩) n cap] w fun r w' =>
      r = .returned (.slice (some ⟨w.heap.size + 1, 0, none⟩) n n) ∧ Row w' (w.heap.size + 1) 3 n (ints (Cn.canon l)) ∧ Below w.heap.size w w' :=
  canon_any' g off n cap _ (fun _ => rfl) l w hl hn hwf hc

theorem together_any (g off n cap : Nat) (l : List Int) (w : World) (hl : l.length = n) (hn : n ≤ 1000000)
    (hwf : ∀ k, k < n → (Lit.int .i64 (l.getD k 0)).wf = true) (hc : ∀ k, k < n → w.cell? ⟨g, off + k, none⟩ = some (.int .i64 (l.getD k 0))) :
    Calls Tryz.prog 241 #[.slice (some ⟨g, off, none⟩) n cap] w fun r w' =>
      r = .returned (.int .i64 ((Cn.seen l).length : Nat)) ∧ Below w.heap.size w w' :=
  together_any' g off n cap _ (fun _ => rfl) l w hl hn hwf hc

end Go.Proofs.YtkcdkfkgjjpaaaaGreatDoor
