/- Rows of integers that grow one by one, by a key: what they hold; in memory. Walks: Graph.Back, where the graph stood in an elder world; Graph.Labels; Partition.First, Partition.Len; slices.MinFunc at integers, by what it answers: one of them. A play in memory; rows by a key, under way; the blocks with a mark. -/
import Derived.Test.YtkcdkfkgjjpaaaaGreatDoorRdRanks
import Derived.Test.YtkcdkfkgjjpaaaaGreatDoorSgRef
import Derived.Test.YtkcdkfkgjjpaaaaGreatDoorRefPl

namespace Go.Proofs.YtkcdkfkgjjpaaaaGreatDoor.Sg
set_option linter.unusedVariables false
set_option linter.unusedSimpArgs false

/-- The second numbers of pairs, by the first one. -/
def bucket (m : Nat) (st : List (Int × Int)) : List (List Int) := (List.range m).map fun (l : Nat) => (st.filter fun x => x.1 == (l : Int)).map (·.2)

theorem bucket_len (m : Nat) (st : List (Int × Int)) : (bucket m st).length = m := by simp [bucket]

theorem bucket_get {m l : Nat} (st : List (Int × Int)) (h : l < m) : (bucket m st).getD l [] = (st.filter fun x => x.1 == (l : Int)).map (·.2) := by simp [bucket, List.getD, h]

theorem bucket_nil (m : Nat) : bucket m [] = List.replicate m [] := by
  refine List.ext_getElem (by simp [bucket]) (fun i h1 h2 => by simp [bucket])

theorem mem_bucket {m l : Nat} {st : List (Int × Int)} (h : l < m) (y : Int) : y ∈ (bucket m st).getD l [] ↔ ((l : Int), y) ∈ st := by
  rw [bucket_get st h]
  simp only [List.mem_map, List.mem_filter, beq_iff_eq]
  constructor
  · rintro ⟨⟨a, b⟩, ⟨h1, h2⟩, rfl⟩; simp only at h2; subst h2; exact h1
  · intro h; exact ⟨_, ⟨h, rfl⟩, rfl⟩

theorem bucket_le {m l : Nat} (st : List (Int × Int)) (h : l < m) : ((bucket m st).getD l []).length ≤ st.length := by
  rw [bucket_get st h, List.length_map]; exact List.length_filter_le _ _

theorem bucket_snoc {m l : Nat} (st : List (Int × Int)) (y : Int) (h : l < m) : bucket m (st ++ [((l : Int), y)]) = (bucket m st).set l ((bucket m st).getD l [] ++ [y]) := by
  refine List.ext_getElem (by simp [bucket]) (fun i h1 h2 => ?_)
  have hi : i < m := by simpa [bucket] using h1
  rw [List.getElem_set]
  by_cases e : l = i
  · subst e
    rw [if_pos rfl, bucket_get st h]
    simp [bucket, List.filter_append]
  · rw [if_neg e]
    have hne : (l : Int) ≠ (i : Int) := by omega
    simp [bucket, List.filter_append, hne]
end Go.Proofs.YtkcdkfkgjjpaaaaGreatDoor.Sg

namespace Go.Proofs.YtkcdkfkgjjpaaaaGreatDoor
open Go.RowKit
set_option linter.unusedVariables false
set_option linter.unusedSimpArgs false

/-- The values vs are rows of integers: each is nothing, or lies in a block of its own from base on. -/
structure Bks (base : Nat) (w : World) (vs : List Value) (rows : List (List Int)) : Prop where
  len : vs.length = rows.length
  own : ∀ i, i < rows.length → w.ownsRow base 3 1 (vs.getD i undef) (rows.getD i []).length (ivs (rows.getD i []))
  apart : ∀ i j g, i ≠ j → i < rows.length → j < rows.length → (vs.getD i undef).ownBlock = some g → (vs.getD j undef).ownBlock ≠ some g

theorem Bks.keep {base : Nat} {w w1 : World} {vs : List Value} {rows : List (List Int)} (h : Bks base w vs rows) (hk : ∀ g, base ≤ g → g < w.heap.size → w1.heap[g]? = w.heap[g]?) : Bks base w1 vs rows :=
  ⟨h.len, fun i hi => owns_keep (h.own i hi) (fun g hg => hk g ((h.own i hi).lt g hg).1 ((h.own i hi).lt g hg).2), h.apart⟩

theorem Bks.up {base : Nat} {w w1 : World} {vs : List Value} {rows : List (List Int)} (h : Bks base w vs rows) (hu : Up w w1) : Bks base w1 vs rows :=
  h.keep (fun g _ hl => hu.block g hl)

theorem Bks.start (base m : Nat) (w : World) : Bks base w (List.replicate m (.slice none 0 0)) (List.replicate m []) := by
  refine ⟨by simp, fun i hi => ?_, fun i j g _ hi _ h => ?_⟩
  · have hi' : i < m := by simpa using hi
    have e1 : (List.replicate m (Value.slice none 0 0)).getD i undef = .slice none 0 0 := by simp [List.getD, hi']
    have e2 : (List.replicate m ([] : List Int)).getD i [] = [] := by simp [List.getD, hi']
    rw [e1, e2]
    exact World.ownsRow_nil _ _ _ _
  · have hi' : i < m := by simpa using hi
    have e1 : (List.replicate m (Value.slice none 0 0)).getD i undef = .slice none 0 0 := by simp [List.getD, hi']
    rw [e1] at h
    cases h

theorem set_getD_eq {α : Type} (l : List α) (i : Nat) (v d : α) (h : i < l.length) : (l.set i v).getD i d = v := by simp [List.getD, h]
theorem set_getD_ne {α : Type} (l : List α) (i j : Nat) (v d : α) (h : i ≠ j) : (l.set i v).getD j d = l.getD j d := by simp [List.getD, List.getElem?_set_ne h]

/-- One row has grown. -/
theorem Bks.push {base i : Nat} {w w4 : World} {vs : List Value} {rows : List (List Int)} {v' : Value} {x : Int} (h : Bks base w vs rows) (hi : i < rows.length)
    (hown : w4.ownsRow base 3 1 v' ((rows.getD i []).length + 1) (ivs (rows.getD i []) ++ [.int .i64 x])) (hg : w.grownBy w4 (vs.getD i undef).ownBlock)
    (hat : v'.ownBlock = (vs.getD i undef).ownBlock ∨ v'.ownBlock = some w.heap.size) : Bks base w4 (vs.set i v') (rows.set i (rows.getD i [] ++ [x])) := by
  have hl := h.len
  refine ⟨by simp [hl], fun j hj => ?_, fun j k g hjk hj hk h1 h2 => ?_⟩
  · rw [List.length_set] at hj
    by_cases e : i = j
    · subst e
      rw [set_getD_eq _ _ _ _ (by omega), set_getD_eq _ _ _ _ hi]
      simpa [ivs] using hown
    · rw [set_getD_ne _ _ _ _ _ e, set_getD_ne _ _ _ _ _ e]
      exact owns_keep (h.own j hj) (fun g hgj => hg.block g (owns_lt (h.own j hj) hgj) (fun e2 => h.apart i j g e hi hj e2.symm hgj))
  · rw [List.length_set] at hj hk
    have key : ∀ j, j < rows.length → i ≠ j → ∀ g, v'.ownBlock = some g → (vs.getD j undef).ownBlock ≠ some g := fun j hj e g h1 h2 => by
      rcases hat with e2 | e2
      · exact h.apart i j g e hi hj (e2 ▸ h1) h2
      · have := owns_lt (h.own j hj) h2
        rw [e2] at h1
        simp only [Option.some.injEq] at h1
        omega
    by_cases ej : i = j
    · subst ej
      rw [set_getD_eq _ _ _ _ (by omega)] at h1
      rw [set_getD_ne _ _ _ _ _ hjk] at h2
      exact key k hk hjk g h1 h2
    · rw [set_getD_ne _ _ _ _ _ ej] at h1
      by_cases ek : i = k
      · subst ek
        rw [set_getD_eq _ _ _ _ (by omega)] at h2
        exact key j hj ej g h2 h1
      · rw [set_getD_ne _ _ _ _ _ ek] at h2
        exact h.apart j k g hjk hj hk h1 h2

end Go.Proofs.YtkcdkfkgjjpaaaaGreatDoor

namespace Go.Proofs.YtkcdkfkgjjpaaaaGreatDoor
open Go.RowKit Go.Sort
set_option linter.unusedVariables false
set_option linter.unusedSimpArgs false

/-- As RowGot, what was read standing in the elder world. -/
def RowGotO (w0 w : World) (xs : List (Int × Int)) (a b : Nat) (r : Ending) (w' : World) : Prop := ∃ v, r = .returned v ∧ Up w w' ∧ Ls2 w0 v ((xs.drop a).take (b - a))

set_option maxHeartbeats 4000000 in
set_option maxRecDepth 100000 in
theorem row_old {w0 w : World} {vo fo : Value} {n p : Nat} {xs : List (Int × Int)} {cs : List Nat} (h : RowsIn w0 vo fo n xs cs) (hu : Up w0 w) (a b : Nat) (ha : cs.getD p 0 = a) (hb : cs.getD (p + 1) 0 = b) (hab : a ≤ b) (hbx : b ≤ xs.length) (hp : p < n) (hn : n ≤ 1000) (hx : xs.length ≤ 1000000) (hc : cs.length = n + 1) :
    Calls Tryz.prog 110 #[.agg #[vo, fo], .int .i64 (p : Nat)] w (RowGotO w0 w xs a b) := by
  obtain ⟨hall, gf, rfl, hrow⟩ := h
  have hf0 : w.cell? ⟨gf, p, none⟩ = some (.int .i64 (a : Nat)) := (hu.row hrow).cell (by rw [ints_get (by omega), ha])
  have hf1 : w.cell? ⟨gf, p + 1, none⟩ = some (.int .i64 (b : Nat)) := (hu.row hrow).cell (by rw [ints_get (by omega), hb])
  have q1 : (p : Int) < ((n + 1 : Nat) : Int) - 1 := by omega
  have q2 : (p : Int) + 1 < ((n + 1 : Nat) : Int) := by omega
  have q3 : (0 : Int) ≤ (p : Int) + 1 := by omega
  have q4 : IntKind.i64.wrap ((p : Int) + 1) = (p : Int) + 1 := by simp [IntKind.wrap, IntKind.bits, IntKind.signed]; omega
  have q5 : ((p : Int) + 1).toNat = p + 1 := by omega
  have q6 : (a : Int) ≤ (b : Int) := by omega
  have q7 : (0 : Int) ≤ (a : Int) := by omega
  have q8 : (0 : Int) ≤ (b : Int) := by omega
  have q9 : (p : Int) < ((n + 1 : Nat) : Int) := by omega
  have q10 : IntKind.i64.wrap (((n + 1 : Nat) : Int) - 1) = (n : Int) := by simp [IntKind.wrap, IntKind.bits, IntKind.signed]; omega
  rcases hall with ⟨rfl, rfl⟩ | ⟨g, c, rfl, hlc, hcm, htw⟩
  · obtain rfl : b = 0 := by simpa using hbx
    obtain rfl : a = 0 := by omega
    obtain ⟨w1, hw1⟩ : ∃ w1, w1 = w.alloc (.cells #[.slice none 0 0, .slice (some ⟨gf, 0, none⟩) (n + 1) (n + 1)] 86) := ⟨_, rfl⟩
    have hb1 : w1.heap[w.heap.size]? = some (.cells #[.slice none 0 0, .slice (some ⟨gf, 0, none⟩) (n + 1) (n + 1)] 86 (0, 0)) := by rw [hw1]; exact heap_alloc_new w _
    have hu1 : Up w w1 := by rw [hw1]; exact (Up.refl w).alloc _
    obtain ⟨b0, b1⟩ := two_cells hb1
    have k0 := hu1.cell hf0
    have k1 := hu1.cell hf1
    have HU1 := Lib.hid hu1
    clear hrow ha hb hf0 hf1 hu1 hb1
    go_enter Tryz.func110, Tryz.ntmps110
    go_upto_region 1 with fail
    rw [← hw1]
    clear hw1
    go_wp2_with fail
    go_quiet (fail)
    go_wp2_with fail
    go_ret
    exact ⟨_, rfl, HU1.out.drewN _, ⟨none, 0, 0, 0, rfl, fun h => by simp at h, fun i hi => by simp at hi⟩⟩
  · have q11 : (b : Int) ≤ (c : Int) := by omega
    obtain ⟨m, hm⟩ : ∃ m, m = xs.length := ⟨_, rfl⟩
    rw [← hm]
    obtain ⟨w1, hw1⟩ : ∃ w1, w1 = w.alloc (.cells #[.slice (some ⟨g, 0, none⟩) m c, .slice (some ⟨gf, 0, none⟩) (n + 1) (n + 1)] 86) := ⟨_, rfl⟩
    have hb1 : w1.heap[w.heap.size]? = some (.cells #[.slice (some ⟨g, 0, none⟩) m c, .slice (some ⟨gf, 0, none⟩) (n + 1) (n + 1)] 86 (0, 0)) := by rw [hw1]; exact heap_alloc_new w _
    have hu1 : Up w w1 := by rw [hw1]; exact (Up.refl w).alloc _
    obtain ⟨b0, b1⟩ := two_cells hb1
    have k0 := hu1.cell hf0
    have k1 := hu1.cell hf1
    have HU1 := Lib.hid hu1
    have hpart := htw.part a (b - a) (by omega)
    have hlen : ((xs.drop a).take (b - a)).length = b - a := by rw [List.length_take, List.length_drop]; omega
    have HP : Hid (Ls2 w0 (.slice (some ⟨g, a * 2, none⟩) (b - a) (b - a)) ((xs.drop a).take (b - a))) := Lib.hid ⟨_, _, g, a * 2, by rw [hlen], fun _ => rfl, fun i hi => by
      have := hpart i hi
      rw [Nat.zero_add] at this
      exact ⟨this.1, this.2⟩⟩
    clear hrow ha hb hf0 hf1 hu1 hb1 htw hpart hlen hm
    by_cases hEq : a = b
    · subst hEq
      have HN : Hid ((xs.drop a).take (a - a) = []) := Lib.hid (by simp)
      go_enter Tryz.func110, Tryz.ntmps110
      go_upto_region 1 with fail
      rw [← hw1]
      clear hw1
      go_wp2_with fail
      go_quiet (fail)
      go_wp2_with fail
      go_ret
      exact ⟨_, rfl, HU1.out.drewN _, by rw [HN.out]; exact ⟨_, _, 0, 0, rfl, fun h => by simp at h, fun i hi => by simp at hi⟩⟩
    · have q12 : (a : Int) < (b : Int) := by omega
      have q13 : 0 < b - a := by omega
      go_enter Tryz.func110, Tryz.ntmps110
      go_upto_region 1 with fail
      rw [← hw1]
      clear hw1
      go_wp2_with fail
      go_quiet (fail)
      go_wp2_with fail
      go_ret
      exact ⟨_, rfl, HU1.out.drewN _, HP.out⟩

/-- What Back leaves, what was read standing in the elder world. -/
def Read2O (w0 w : World) (xs : List (Int × Int)) (r : Ending) (w' : World) : Prop := ∃ v, r = .returned v ∧ Up w w' ∧ Ls2 w0 v xs

set_option maxHeartbeats 1000000 in
theorem back_old {w0 w : World} {B p : Nat} {s : Sy.Lts} (h : GraphAt w0 B s) (hu : Up w0 w) (hR : Sy.Right s) (hp : p < s.n.toNat) :
    Calls Tryz.prog 221 #[.pointer (some ⟨B, 0, none⟩), .int .i64 (p : Nat)] w (Read2O w0 w (Sy.backs s p)) := by
  obtain ⟨se, vo, fo, vi, fi, hb, h1, h2, h3⟩ := agg8 h
  have c6 := hu.cell (hb 6 _ rfl)
  have c7 := hu.cell (hb 7 _ rfl)
  have hl : ((Sy.turned s).map sIn).length ≤ 1000000 := by rw [List.length_map]; have := Sy.norm_len (lt := Sy.lt3r) s.es; have := hR.len; unfold Sy.turned; omega
  have hrow := row_old h3 hu _ _ (offs_get kIn _ _ p (by omega)) (offs_get kIn _ _ (p + 1) (by omega)) (Sy.below_mono _ _ (by omega)) (by rw [List.length_map]; exact Sy.below_le _ _ _) hp (by have := hR.n1; omega) hl (offs_len _ _ _)
  unfold RowGotO at hrow
  rw [← backs_part hR p] at hrow
  have HROW := Lib.hid hrow
  have hvo : ∃ ao n c, vi = .slice ao n c := by
    rcases h3.all with ⟨rfl, _⟩ | ⟨g, c, rfl, _⟩ <;> exact ⟨_, _, _, rfl⟩
  obtain ⟨ao, nn, cc, rfl⟩ := hvo
  obtain ⟨gf, rfl, -⟩ := h3.frm
  clear hu hb h h1 h2 h3 hrow hl
  go_enter Tryz.func221, Tryz.ntmps221
  go_wp2_with fail
  (with_reducible refine HROW.out.mono ?_)
  rintro e w1 ⟨v1, rfl, hu1, hl1⟩
  have HU := Lib.hid hu1
  have HL := Lib.hid hl1
  obtain ⟨a1, q1, g1, o1, rfl, -, -⟩ := hl1
  clear hu1
  go_wp2_with fail
  go_ret
  exact ⟨_, rfl, HU.out, HL.out⟩

theorem field_labs (a b c : Int) (ao : Option Addr) (k cap : Nat) (w : World) : (Instr.field 27 (.agg #[.int .i64 a, .int .i64 b, .int .i64 c, .slice ao k cap]) 1).run Tryz.prog w = .ok (.int .i64 b) w := by kernel_rfl

set_option maxHeartbeats 1000000 in
set_option maxRecDepth 100000 in
theorem labels_in {w : World} {B : Nat} {s : Sy.Lts} (h : GraphAt w B s) :
    Calls Tryz.prog 220 #[.pointer (some ⟨B, 0, none⟩)] w fun r w' => r = .returned (.int .i64 s.m) ∧ Up w w' := by
  have HO := Lib.hid (own_in h)
  clear h
  go_enter Tryz.func220, Tryz.ntmps220
  go_wp2_with fail
  (with_reducible refine HO.out.mono ?_)
  rintro e w1 ⟨ao, k, c, rfl, hu, -⟩
  have hfs := field_labs s.n s.m s.start ao k c
  go_wp2_with fail
  go_ret
  exact ⟨rfl, hu⟩

set_option maxHeartbeats 1000000 in
theorem first_in {w : World} {B n b : Nat} {ve vp vi vb : Value} {s : Rf.St} (h : PartAt w B ve vp vi vb s) (hI : Rf.Inv s n) (hn : n ≤ 1000) (hb : b < s.blocks.length) :
    Calls Tryz.prog 226 #[.pointer (some ⟨B, 0, none⟩), .int .i64 b] w fun r w' => r = .returned (.int .i64 ((s.row b).getD 0 0 : Nat)) ∧ Up w w' := by
  have bb := hI.b1 b hb
  have HR := Lib.hid (row_any h hI hn hb)
  obtain ⟨k, hk⟩ : ∃ k, k = s.T b - s.F b := ⟨_, rfl⟩
  obtain ⟨x, hx⟩ : ∃ x, x = (s.row b).getD 0 0 := ⟨_, rfl⟩
  have hk0 : 0 < k := by omega
  have hk0' : (0 : Int) < (k : Int) := by omega
  rw [← hk] at HR
  rw [← hx]
  have HX := Lib.hid hx
  clear h hI bb hk hx
  go_enter Tryz.func226, Tryz.ntmps226
  go_wp2_with (go_at_call 227; refine HR.out.mono ?_; rintro e w1 ⟨ge, rfl, hc, hb1⟩; (have c0 := hc 0 hk0); rw [← HX.out, Nat.add_zero] at c0; (have HU := Lib.hid hb1); clear hc hb1)
  go_ret
  exact ⟨rfl, HU.out⟩

set_option maxHeartbeats 1000000 in
theorem len_in {w : World} {B n b : Nat} {ve vp vi vb : Value} {s : Rf.St} (h : PartAt w B ve vp vi vb s) (hI : Rf.Inv s n) (hn : n ≤ 1000) (hb : b < s.blocks.length) :
    Calls Tryz.prog 192 #[.pointer (some ⟨B, 0, none⟩), .int .i64 b] w fun r w' => r = .returned (.int .i64 ((s.T b - s.F b : Nat) : Int)) ∧ Up w w' := by
  have HR := Lib.hid (row_any h hI hn hb)
  obtain ⟨k, hk⟩ : ∃ k, k = s.T b - s.F b := ⟨_, rfl⟩
  rw [← hk] at HR
  rw [← hk]
  clear h hI hk
  go_enter Tryz.func192, Tryz.ntmps192
  go_wp2_with (go_at_call 227; refine HR.out.mono ?_; rintro e w1 ⟨ge, rfl, hc, hb1⟩; (have HU := Lib.hid hb1); clear hc hb1)
  go_ret
  exact ⟨rfl, HU.out⟩

end Go.Proofs.YtkcdkfkgjjpaaaaGreatDoor

namespace Go.Proofs.YtkcdkfkgjjpaaaaGreatDoor.Rf
set_option linter.unusedVariables false
set_option linter.unusedSimpArgs false

theorem mem_hot (s : St) (y : Int) : ∀ k, y ∈ s.hot k ↔ ∃ b : Nat, y = (b : Int) ∧ b < k ∧ 0 < s.M b := by
  intro k
  induction k with
  | zero => simp [St.hot]
  | succ k ih =>
    simp only [St.hot]
    split
    · rename_i h
      rw [List.mem_append, ih, List.mem_singleton]
      constructor
      · rintro (⟨b, h1, h2, h3⟩ | h1)
        · exact ⟨b, h1, by omega, h3⟩
        · exact ⟨k, h1, by omega, h⟩
      · rintro ⟨b, h1, h2, h3⟩
        by_cases e : b = k
        · subst e; exact .inr h1
        · exact .inl ⟨b, h1, by omega, h3⟩
    · rename_i h
      rw [ih]
      constructor
      · rintro ⟨b, h1, h2, h3⟩; exact ⟨b, h1, by omega, h3⟩
      · rintro ⟨b, h1, h2, h3⟩
        have e : b ≠ k := fun e => h (e ▸ h3)
        exact ⟨b, h1, by omega, h3⟩

theorem hot_nodup (s : St) : ∀ k, (s.hot k).Nodup := by
  intro k
  induction k with
  | zero => simp [St.hot]
  | succ k ih =>
    simp only [St.hot]
    split
    · refine List.nodup_append.2 ⟨ih, by simp, fun a ha b hb e => ?_⟩
      obtain ⟨c, h1, h2, -⟩ := (mem_hot s a k).1 ha
      have := List.mem_singleton.1 hb
      omega
    · exact ih

theorem hot_of_marked {s : St} {n x : Nat} (hI : Inv s n) (hx : x < n) (h : s.marked x = true) : ((s.I x : Nat) : Int) ∈ s.hot s.blocks.length := by
  have hi := hI.in1 x hx
  have := (marked_iff s x).1 h
  exact (mem_hot s _ _).2 ⟨_, rfl, hi.1, by omega⟩

theorem nodup_not_take {l : List Int} (h : l.Nodup) {j : Nat} (hj : j < l.length) : l.getD j 0 ∉ l.take j := by
  intro hm
  obtain ⟨i, hi, he⟩ := List.mem_iff_getElem.1 hm
  rw [List.length_take] at hi
  have e1 : l.getD j 0 = l[j] := by simp [List.getD, hj]
  rw [List.getElem_take, e1] at he
  exact (List.pairwise_iff_getElem.1 h) i j (by omega) hj (by omega) he

theorem mem_take_succ {l : List Int} {j : Nat} (hj : j < l.length) (y : Int) : y ∈ l.take (j + 1) ↔ y ∈ l.take j ∨ y = l.getD j 0 := by
  rw [List.take_succ_eq_append_getElem hj, List.mem_append, List.mem_singleton]
  simp [List.getD, hj]
end Go.Proofs.YtkcdkfkgjjpaaaaGreatDoor.Rf

namespace Go.Proofs.YtkcdkfkgjjpaaaaGreatDoor
open Go.RowKit
set_option linter.unusedVariables false
set_option linter.unusedSimpArgs false

/-- Rows by a key, under way: a row of slices at O, each of integers of its own behind it. -/
structure FromAt (w wr : World) (O m : Nat) (st : List (Int × Int)) (vs : List Value) : Prop where
  up : Up w wr
  hO : w.heap.size ≤ O
  row : Row wr O 35 m vs
  bks : Bks (O + 1) wr vs (Sg.bucket m st)

theorem FromAt.len {w wr : World} {O m : Nat} {st : List (Int × Int)} {vs : List Value} (h : FromAt w wr O m st vs) : vs.length = m := by rw [h.bks.len, Sg.bucket_len]

theorem FromAt.ups {w wr w2 : World} {O m : Nat} {st : List (Int × Int)} {vs : List Value} (h : FromAt w wr O m st vs) (hu : Up wr w2) : FromAt w w2 O m st vs :=
  ⟨h.up.trans hu, h.hO, hu.row h.row, h.bks.up hu⟩

theorem FromAt.start {w w1 w2 : World} {m : Nat} (h1 : Up w w1) (hr : Row w2 w1.heap.size 35 m (List.replicate m (.slice none 0 0))) (hu : Up w1 w2) : FromAt w w2 w1.heap.size m [] (List.replicate m (.slice none 0 0)) :=
  ⟨h1.trans hu, h1.size, hr, by rw [Sg.bucket_nil]; exact Bks.start _ _ _⟩

theorem FromAt.cell {w wr : World} {O m l : Nat} {st : List (Int × Int)} {vs : List Value} (h : FromAt w wr O m st vs) (hl : l < m) : wr.cell? ⟨O, l, none⟩ = some (vs.getD l undef) := by
  have := h.len
  exact h.row.cell (by simp [List.getD, this, hl])

theorem FromAt.own {w wr : World} {O m l : Nat} {st : List (Int × Int)} {vs : List Value} (h : FromAt w wr O m st vs) (hl : l < m) :
    wr.ownsRow (O + 1) 3 1 (vs.getD l undef) ((Sg.bucket m st).getD l []).length (ivs ((Sg.bucket m st).getD l [])) := h.bks.own l (by rw [Sg.bucket_len]; exact hl)

/-- One more by its key. -/
theorem FromAt.push {w wr w2 w4 : World} {O m l : Nat} {st : List (Int × Int)} {vs : List Value} {v' : Value} {y : Int} (h : FromAt w wr O m st vs) (hl : l < m) (hu : Up wr w2)
    (hown : w4.ownsRow (O + 1) 3 1 v' (((Sg.bucket m st).getD l []).length + 1) (ivs ((Sg.bucket m st).getD l []) ++ [.int .i64 y])) (hg : w2.grownBy w4 (vs.getD l undef).ownBlock)
    (hat : v'.ownBlock = (vs.getD l undef).ownBlock ∨ v'.ownBlock = some w2.heap.size) : FromAt w (w4.setCell ⟨O, l, none⟩ v') O m (st ++ [((l : Int), y)]) (vs.set l v') := by
  have hb := (h.bks.up hu).push (by rw [Sg.bucket_len]; exact hl) hown hg hat
  have ho := h.own hl
  have hOl := h.row.lt
  have hOb : w4.heap[O]? = wr.heap[O]? := (hg.block O (Nat.lt_of_lt_of_le hOl hu.size) (fun e => by have := (ho.lt O e.symm).1; omega)).trans (hu.block O hOl)
  refine ⟨?_, h.hO, (h.row.keep hOb).set l v', ?_⟩
  · have := h.hO
    exact ((h.up.trans hu).grown hg (fun k hk => by have := (ho.lt k hk).1; omega)).setCell (by simpa using this) _
  · rw [Sg.bucket_snoc st y hl]
    exact hb.keep (fun g hg' _ => Below.heap_setCell w4 ⟨O, l, none⟩ v' g (by simp only; omega))

/-- A play lies at X; F: the blocks that it may turn. -/
structure PlayAt (F : Nat → Prop) (w : World) (X gB B n : Nat) (p : Rf.St) (hp : List Nat) (nh nt : Nat) (ve vp vi vb : Value) (gh gg : Nat) (vs vt : Value) (sz gz : List Int) (ts : List Value) : Prop where
  box : w.heap[X]? = some (.cells #[.pointer (some ⟨gB, 0, none⟩), .pointer (some ⟨B, 0, none⟩), .slice (some ⟨gh, 0, none⟩) n n, vs, .slice none 0 0, vt, .slice (some ⟨gg, 0, none⟩) n n] 230 (0, 0))
  part : PartAt w B ve vp vi vb p
  heap : Row w gh 3 n (ints hp)
  size : w.ownsRow 0 3 1 vs nh (ivs sz)
  took : w.ownsRow 0 35 1 vt nt ts
  gauge : Row w gg 3 n (ivs gz)
  hl : hp.length = n
  gl : gz.length = n
  inX : F X
  inH : F gh
  inG : F gg
  inS : ∀ k, vs.ownBlock = some k → F k
  inT : ∀ k, vt.ownBlock = some k → F k
  inP : ∀ k, Foot B ve vp vi vb k → F k
  nHG : gh ≠ gg
  nSH : vs.ownBlock ≠ some gh
  nSG : vs.ownBlock ≠ some gg
  nP : ∀ k, Foot B ve vp vi vb k → k ≠ X ∧ k ≠ gh ∧ k ≠ gg ∧ vs.ownBlock ≠ some k ∧ vt.ownBlock ≠ some k

section
variable {F : Nat → Prop} {w w' : World} {X gB B n : Nat} {p p' : Rf.St} {hp : List Nat} {nh nt : Nat} {ve vp vi vb vb' : Value} {gh gg : Nat} {vs vt : Value} {sz gz : List Int} {ts : List Value}

theorem PlayAt.sl (h : PlayAt F w X gB B n p hp nh nt ve vp vi vb gh gg vs vt sz gz ts) : sz.length = nh := by
  have := h.size.1; rw [ivs_len, Nat.mul_one] at this; exact this

/-- Boxes, rows of integers and rows of slices are other blocks. -/
theorem PlayAt.types (h : PlayAt F w X gB B n p hp nh nt ve vp vi vb gh gg vs vt sz gz ts) : X ≠ gh ∧ X ≠ gg ∧ vs.ownBlock ≠ some X ∧ vt.ownBlock ≠ some X ∧ vt.ownBlock ≠ some gh ∧ vt.ownBlock ≠ some gg ∧ ∀ k, vs.ownBlock = some k → vt.ownBlock ≠ some k := by
  have hb := h.box
  have ty : ∀ {k : Nat} {a b : Array Value} {e e' : TypeId}, w.heap[k]? = some (.cells a e (0, 0)) → w.heap[k]? = some (.cells b e' (0, 0)) → e = e' := fun h1 h2 => by
    rw [h1] at h2
    simp only [Option.some.injEq, Obj.cells.injEq] at h2
    exact h2.2.1
  obtain ⟨ch, h1, -⟩ := h.heap
  obtain ⟨cg, h2, -⟩ := h.gauge
  refine ⟨fun e => ?_, fun e => ?_, fun e => ?_, fun e => ?_, fun e => ?_, fun e => ?_, fun k e1 e2 => ?_⟩
  · subst e; exact absurd (ty hb h1) (by decide)
  · subst e; exact absurd (ty hb h2) (by decide)
  · obtain ⟨c, hc⟩ := owns_type h.size e; exact absurd (ty hb hc) (by decide)
  · obtain ⟨c, hc⟩ := owns_type h.took e; exact absurd (ty hb hc) (by decide)
  · obtain ⟨c, hc⟩ := owns_type h.took e; exact absurd (ty h1 hc) (by decide)
  · obtain ⟨c, hc⟩ := owns_type h.took e; exact absurd (ty h2 hc) (by decide)
  · obtain ⟨c, hc⟩ := owns_type h.size e1
    obtain ⟨d, hd⟩ := owns_type h.took e2
    exact absurd (ty hc hd) (by decide)

theorem PlayAt.lt (h : PlayAt F w X gB B n p hp nh nt ve vp vi vb gh gg vs vt sz gz ts) : X < w.heap.size := lt_of_block' h.box

theorem PlayAt.cells (h : PlayAt F w X gB B n p hp nh nt ve vp vi vb gh gg vs vt sz gz ts) : w.cell? ⟨X, 0, none⟩ = some (.pointer (some ⟨gB, 0, none⟩)) ∧ w.cell? ⟨X, 1, none⟩ = some (.pointer (some ⟨B, 0, none⟩)) ∧
    w.cell? ⟨X, 2, none⟩ = some (.slice (some ⟨gh, 0, none⟩) n n) ∧ w.cell? ⟨X, 3, none⟩ = some vs ∧ w.cell? ⟨X, 4, none⟩ = some (.slice none 0 0) ∧ w.cell? ⟨X, 5, none⟩ = some vt ∧ w.cell? ⟨X, 6, none⟩ = some (.slice (some ⟨gg, 0, none⟩) n n) := by
  have := h.box
  refine ⟨?_, ?_, ?_, ?_, ?_, ?_, ?_⟩ <;> simp [World.cell?, this]

theorem PlayAt.keep (h : PlayAt F w X gB B n p hp nh nt ve vp vi vb gh gg vs vt sz gz ts) (hk : ∀ k, k < w.heap.size → F k → w'.heap[k]? = w.heap[k]?) : PlayAt F w' X gB B n p hp nh nt ve vp vi vb gh gg vs vt sz gz ts :=
  ⟨(hk X h.lt h.inX).trans h.box, h.part.keep (fun k hf => hk k (h.part.foot_lt hf) (h.inP k hf)), h.heap.keep (hk gh h.heap.lt h.inH), owns_keep h.size (fun g hg => hk g (owns_lt h.size hg) (h.inS g hg)),
    owns_keep h.took (fun g hg => hk g (owns_lt h.took hg) (h.inT g hg)), h.gauge.keep (hk gg h.gauge.lt h.inG), h.hl, h.gl, h.inX, h.inH, h.inG, h.inS, h.inT, h.inP, h.nHG, h.nSH, h.nSG, h.nP⟩

theorem PlayAt.up (h : PlayAt F w X gB B n p hp nh nt ve vp vi vb gh gg vs vt sz gz ts) (hu : Up w w') : PlayAt F w' X gB B n p hp nh nt ve vp vi vb gh gg vs vt sz gz ts := h.keep (fun k hk _ => hu.block k hk)

theorem PlayAt.mono {F' : Nat → Prop} (h : PlayAt F w X gB B n p hp nh nt ve vp vi vb gh gg vs vt sz gz ts) (hF : ∀ k, F k → F' k) : PlayAt F' w X gB B n p hp nh nt ve vp vi vb gh gg vs vt sz gz ts :=
  ⟨h.box, h.part, h.heap, h.size, h.took, h.gauge, h.hl, h.gl, hF _ h.inX, hF _ h.inH, hF _ h.inG, fun k hk => hF _ (h.inS k hk), fun k hk => hF _ (h.inT k hk), fun k hk => hF _ (h.inP k hk), h.nHG, h.nSH, h.nSG, h.nP⟩

/-- The partition has turned. -/
theorem PlayAt.parted (h : PlayAt F w X gB B n p hp nh nt ve vp vi vb gh gg vs vt sz gz ts) (hp' : PartAt w' B ve vp vi vb' p') (ho : ∀ k, vb'.ownBlock = some k → vb.ownBlock = some k ∨ w.heap.size ≤ k)
    (ht : Turned (Foot B ve vp vi vb) w w') : PlayAt (fun k => F k ∨ w.heap.size ≤ k) w' X gB B n p' hp nh nt ve vp vi vb' gh gg vs vt sz gz ts := by
  have hf : ∀ k, Foot B ve vp vi vb' k → Foot B ve vp vi vb k ∨ w.heap.size ≤ k := fun k hk => by
    rcases hk with e | e | e | e | e
    · exact .inl (.inl e)
    · exact .inl (.inr (.inl e))
    · exact .inl (.inr (.inr (.inl e)))
    · exact .inl (.inr (.inr (.inr (.inl e))))
    · rcases ho k e with e | e
      · exact .inl (.inr (.inr (.inr (.inr e))))
      · exact .inr e
  refine ⟨(ht.block X h.lt (fun e => (h.nP X e).1 rfl)).trans h.box, hp', h.heap.keep (ht.block gh h.heap.lt (fun e => (h.nP gh e).2.1 rfl)), owns_keep h.size (fun g hg => ht.block g (owns_lt h.size hg) (fun e => (h.nP g e).2.2.2.1 hg)),
    owns_keep h.took (fun g hg => ht.block g (owns_lt h.took hg) (fun e => (h.nP g e).2.2.2.2 hg)), h.gauge.keep (ht.block gg h.gauge.lt (fun e => (h.nP gg e).2.2.1 rfl)), h.hl, h.gl, .inl h.inX, .inl h.inH, .inl h.inG, fun k hk => .inl (h.inS k hk), fun k hk => .inl (h.inT k hk), fun k hk => ?_, h.nHG, h.nSH, h.nSG, fun k hk => ?_⟩
  · rcases hf k hk with e | e
    · exact .inl (h.inP k e)
    · exact .inr e
  · rcases hf k hk with e | e
    · exact h.nP k e
    · have l1 := h.lt
      have l2 := h.heap.lt
      have l3 := h.gauge.lt
      refine ⟨by omega, by omega, by omega, fun e2 => ?_, fun e2 => ?_⟩
      · have := owns_lt h.size e2; omega
      · have := owns_lt h.took e2; omega
end

/-- A play, its parts not named. -/
def Play (F : Nat → Prop) (w : World) (X gB B n : Nat) (p : Rf.St) (hp : List Nat) (nh nt : Nat) : Prop :=
  ∃ ve vp vi vb gh gg vs vt sz gz ts, PlayAt F w X gB B n p hp nh nt ve vp vi vb gh gg vs vt sz gz ts

theorem Play.up {F : Nat → Prop} {w w' : World} {X gB B n : Nat} {p : Rf.St} {hp : List Nat} {nh nt : Nat} (h : Play F w X gB B n p hp nh nt) (hu : Up w w') : Play F w' X gB B n p hp nh nt := by
  obtain ⟨ve, vp, vi, vb, gh, gg, vs, vt, sz, gz, ts, h⟩ := h
  exact ⟨ve, vp, vi, vb, gh, gg, vs, vt, sz, gz, ts, h.up hu⟩

theorem Play.mono {F F' : Nat → Prop} {w : World} {X gB B n : Nat} {p : Rf.St} {hp : List Nat} {nh nt : Nat} (h : Play F w X gB B n p hp nh nt) (hF : ∀ k, F k → F' k) : Play F' w X gB B n p hp nh nt := by
  obtain ⟨ve, vp, vi, vb, gh, gg, vs, vt, sz, gz, ts, h⟩ := h
  exact ⟨ve, vp, vi, vb, gh, gg, vs, vt, sz, gz, ts, h.mono hF⟩

end Go.Proofs.YtkcdkfkgjjpaaaaGreatDoor
