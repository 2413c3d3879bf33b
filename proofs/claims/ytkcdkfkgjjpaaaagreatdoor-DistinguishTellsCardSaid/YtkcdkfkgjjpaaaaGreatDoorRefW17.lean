/- slices.Clone and slices.Sort at a slice of integers, by the shelf's contracts, in plain form. Walks: Members; Mark, Split, Members where there is no such element or block. Walks: Members. Walks: Mark, Split, Members, Marks where there is no such element or block; Marks; Classes. -/
import Derived.Test.YtkcdkfkgjjpaaaaGreatDoorMem
import Derived.Ground.NamesProg
import Derived.Ground.Names2Prog
import Derived.Test.YtkcdkfkgjjpaaaaGreatDoorLayS
import Derived.Shelf.Slices.In.Clone
import Derived.Shelf.Slices.In.SortNone
import Derived.Sort.OwnSortedInts
import Derived.Sort.EveryDepth
import Derived.Test.YtkcdkfkgjjpaaaaGreatDoorRefMid
import Derived.Test.YtkcdkfkgjjpaaaaGreatDoorRefPl

namespace Go.Proofs.YtkcdkfkgjjpaaaaGreatDoor
open Go.RowKit Go.Shelf Go.Sort
set_option linter.unusedVariables false
set_option linter.unusedSimpArgs false

/-- slices.Clone of a slice with an address. -/
theorem clone_int (b off n c : Nat) (zs : List Int) (w : World) (hz : n ≤ zs.length) (hbig : n * 8 ≤ 140737488355328) (hc : ∀ j, j < zs.length → w.cell? ⟨b, off + j, none⟩ = some (.int .i64 (zs.getD j 0))) :
    Calls Tryz.prog 154 #[.slice (some ⟨b, off, none⟩) n c] w fun e w' => ∃ v', e = .returned v' ∧ w'.ownsRow w.heap.size 3 1 v' n ((zs.take n).map (Value.int .i64)) ∧ v' ≠ .slice none 0 0 ∧ Below w.heap.size w w' :=
  calls_of_every_depth fun D => AnyS.slices_Clone_int_in Tryz.laysClone D b off n c zs w hz hbig hc

/-- slices.Sort of a slice that begins at the head of a block. -/
theorem sort_int {base g cap : Nat} {zs : List Int} {w : World} (hown : w.ownsRow base 3 1 (.slice (some ⟨g, 0, none⟩) zs.length cap) zs.length (zs.map (Value.int .i64))) (hsz : zs.length < 4611686018427387904) :
    Calls Tryz.prog 229 #[.slice (some ⟨g, 0, none⟩) zs.length cap] w fun e w' => e = .returned (.tuple #[]) ∧
      w'.ownsRow base 3 1 (.slice (some ⟨g, 0, none⟩) zs.length cap) zs.length ((zs.mergeSort fun x y => decide (x ≤ y)).map (Value.int .i64)) ∧ w.grownBy w' (some g) := by
  rcases hown.2 with ⟨h0, _⟩ | ⟨g', cap', cur, hv, hbase, hb, h1, h2, h3, h4⟩
  · cases h0
  cases hv
  have h4' : cur.toList.take zs.length = zs.map (Value.int .i64) := by rw [Nat.mul_one] at h4; exact h4
  have hg : g < w.heap.size := (Array.getElem?_eq_some_iff.1 hb).1
  refine (calls_of_every_depth fun D => AnyS.slices_Sort_int_alone Tryz.laysSort D g 0 cap zs w (holds_of_blockI hb h4') hg hsz).mono ?_
  rintro e w' ⟨rfl, n, os, rfl⟩
  exact ⟨rfl, ownsRow_sortedI (List.length_mergeSort zs) hbase hb h1 h2 h3, grownBy_sortedI _⟩

end Go.Proofs.YtkcdkfkgjjpaaaaGreatDoor

namespace Go.Proofs.YtkcdkfkgjjpaaaaGreatDoor
open Go.RowKit
set_option linter.unusedVariables false
set_option linter.unusedSimpArgs false

theorem below_drewN {n : Nat} {a w : World} (h : Below n a w) (q : Nat) : Below n a (w.drewN q) := ⟨h.os, h.tape, h.output, h.size, h.block⟩

set_option maxHeartbeats 1000000 in
theorem row_any {w : World} {B n b : Nat} {ve vp vi vb : Value} {s : Rf.St} (h : PartAt w B ve vp vi vb s) (hI : Rf.Inv s n) (hn : n ≤ 1000) (hb : b < s.blocks.length) :
    Calls Tryz.prog 227 #[.pointer (some ⟨B, 0, none⟩), .int .i64 b] w fun r w' =>
      ∃ ge, r = .returned (.slice (some ⟨ge, s.F b, none⟩) (s.T b - s.F b) (s.T b - s.F b)) ∧ (∀ j, j < s.T b - s.F b → w'.cell? ⟨ge, s.F b + j, none⟩ = some (.int .i64 ((s.row b).getD j 0 : Nat))) ∧ Below w.heap.size w w' := by
  have bb := hI.b1 b hb
  obtain ⟨ge, ce, gp, cp, gi, ci, gb, cb, rfl, rfl, rfl, rfl, o⟩ := h.ob hI (by omega)
  refine (row_some B s.blocks.length ce cb ge gb n b (s.F b) (s.T b) (s.M b) w hb bb.1 bb.2.1 hn o.o.le.1 o.c0 o.c3 (o.o.rb.cell (cellsB_get0 _ b hb)) (o.o.rb.cell (cellsB_get1 _ b hb)) (o.o.rb.cell (cellsB_get2 _ b hb))).mono ?_
  rintro r w' ⟨rfl, q, rfl⟩
  refine ⟨ge, rfl, fun j hj => ?_, below_drewN ((Below.refl _ _).alloc (Nat.le_refl _) _) q⟩
  have o2 := (o.alloc (.cells #[.int .i64 (s.F b : Nat), .int .i64 (s.T b : Nat), .int .i64 (s.M b : Nat)] 320)).drewN q
  have := o2.o.re.cell (ints_get (l := s.elems) (i := s.F b + j) (by rw [hI.le]; omega))
  rw [this]
  congr 3
  simp only [Rf.St.row, List.getD, List.getElem?_drop, List.getElem?_take]
  rw [if_pos (by omega)]

end Go.Proofs.YtkcdkfkgjjpaaaaGreatDoor

namespace Go.Proofs.YtkcdkfkgjjpaaaaGreatDoor
open Go.RowKit
set_option linter.unusedVariables false
set_option linter.unusedSimpArgs false

/-- What Members leaves. -/
def MembersDone (w : World) (s : Rf.St) (b : Nat) (r : Ending) (w' : World) : Prop :=
  ∃ g cap, r = .returned (.tuple #[.slice (some ⟨g, 0, none⟩) (s.mem b).length cap, .nilIface]) ∧
    w'.ownsRow w.heap.size 3 1 (.slice (some ⟨g, 0, none⟩) (s.mem b).length cap) (s.mem b).length ((s.mem b).map (Value.int .i64)) ∧ Below w.heap.size w w'

/-- slices.Clone of a whole slice with an address: where the new one lies. -/
theorem clone_at (b off n c : Nat) (zs : List Int) (w : World) (hz : zs.length = n) (hbig : n * 8 ≤ 140737488355328) (hc : ∀ j, j < zs.length → w.cell? ⟨b, off + j, none⟩ = some (.int .i64 (zs.getD j 0))) :
    Calls Tryz.prog 154 #[.slice (some ⟨b, off, none⟩) n c] w fun e w' => ∃ g cap, e = .returned (.slice (some ⟨g, 0, none⟩) zs.length cap) ∧
      w'.ownsRow w.heap.size 3 1 (.slice (some ⟨g, 0, none⟩) zs.length cap) zs.length (zs.map (Value.int .i64)) ∧ Below w.heap.size w w' := by
  refine (clone_int b off n c zs w (by omega) hbig hc).mono ?_
  rintro e w' ⟨v, rfl, hown, hnn, hb⟩
  rw [List.take_of_length_le (by omega)] at hown
  rcases hown.2 with ⟨h0, _⟩ | ⟨g, cap, cur, rfl, _⟩
  · exact absurd h0 hnn
  · subst hz; exact ⟨g, cap, rfl, hown, hb⟩

set_option maxHeartbeats 4000000 in
set_option maxRecDepth 100000 in
theorem members_any {w : World} {B n b : Nat} {ve vp vi vb : Value} {s : Rf.St} (h : PartAt w B ve vp vi vb s) (hI : Rf.Inv s n) (hn : n ≤ 1000) (hb : b < s.blocks.length) :
    Calls Tryz.prog 193 #[.pointer (some ⟨B, 0, none⟩), .int .i64 b] w (MembersDone w s b) := by
  have hrl := Rf.row_len hI hb
  have hml := Rf.mem_len hI hb
  have bb := hI.b1 b hb
  have HB := Lib.hid (blocks_any h)
  have HR := Lib.hid (row_any h hI hn hb)
  obtain ⟨k, hk⟩ : ∃ k, k = s.T b - s.F b := ⟨_, rfl⟩
  have hk1 : k ≤ 1000 := by omega
  rw [← hk] at hrl hml
  obtain ⟨f, hf⟩ : ∃ f, f = s.F b := ⟨_, rfl⟩
  rw [← hk, ← hf] at HR
  obtain ⟨nb, hnb⟩ : ∃ nb, nb = s.blocks.length := ⟨_, rfl⟩
  rw [← hnb] at HB hb
  obtain ⟨zs, hzs⟩ : ∃ zs : List Int, zs = (s.row b).map Int.ofNat := ⟨_, rfl⟩
  have hzl : zs.length = k := by rw [hzs, List.length_map, hrl]
  have hM : s.mem b = zs.mergeSort fun x y => decide (x ≤ y) := by rw [hzs]; rfl
  have HM := Lib.hid hM
  have HC : Hid (∀ (w1 : World) (ge : Nat), (∀ j, j < k → w1.cell? ⟨ge, f + j, none⟩ = some (.int .i64 ((s.row b).getD j 0 : Nat))) → ∀ j, j < zs.length → w1.cell? ⟨ge, f + j, none⟩ = some (.int .i64 (zs.getD j 0))) := by
    intro w1 ge hc j hj
    rw [hc j (by omega), hzs]
    simp [List.getD, hrl, show j < k by omega]
  have HZ := Lib.hid hzl
  have hzk : zs.length ≤ k := by omega
  clear hM hzs hf hk hnb hrl h hI bb hzl
  go_enter Tryz.func193, Tryz.ntmps193
  go_wp2_with (first
    | (go_at_call 225; refine HB.out.mono ?_; rintro e w' ⟨rfl, rfl⟩)
    | (go_at_call 228; refine (asked_in _ _ _ _ (by omega) (by omega)).mono ?_; rintro e w' ⟨rfl, rfl⟩)
    | (go_at_call 227; refine HR.out.mono ?_; rintro e w1 ⟨ge, rfl, hc, hb1⟩; replace hc := Lib.hid (HC.out w1 ge hc))
    | (go_at_call 154; refine (clone_at ge f k k zs w1 HZ.out (by omega) hc.out).mono ?_; rintro e w2 ⟨g2, c2, rfl, hown2, hb2⟩; replace hown2 := Lib.hid hown2)
    | (go_at_call 229; refine (sort_int hown2.out (by omega)).mono ?_; rintro e w3 ⟨rfl, hown3, hg3⟩))
  go_ret2
  have hlm : (s.mem b).length = zs.length := by rw [HM.out, List.length_mergeSort]
  have hg2 : w1.heap.size ≤ g2 := (hown2.out.lt g2 rfl).1
  refine ⟨g2, c2, by rw [hlm]; rfl, ?_, ?_⟩
  · rw [hlm, HM.out]
    exact owns_base hown3 hb1.size
  · exact (hb1.trans (hb2.mono hb1.size)).grown hg3 (by have := hb1.size; have := hb2.size; omega) (by intro k hk; cases hk; have := hb1.size; omega)

end Go.Proofs.YtkcdkfkgjjpaaaaGreatDoor

namespace Go.Proofs.YtkcdkfkgjjpaaaaGreatDoor
open Go.RowKit
set_option linter.unusedVariables false
set_option linter.unusedSimpArgs false

/-- A new fault of refine lies at F, which wraps the error x. -/
structure FaultAt (w w' : World) (F : Nat) (layer : ByteArray) (x : Value) : Prop where
  cell : w'.heap[F]? = some (.cells #[.string layer, .int .i64 0, .int .i64 0, x] 116 (0, 0))
  new : w.heap.size ≤ F
  bel : Below w.heap.size w w'

theorem FaultAt.of_alloc (w : World) (layer : ByteArray) (x : Value) : FaultAt w (w.alloc (.cells #[.string layer, .int .i64 0, .int .i64 0, x] 116)) w.heap.size layer x :=
  ⟨heap_alloc_new w _, Nat.le_refl _, (Below.refl _ _).alloc (Nat.le_refl _) _⟩

/-- A call that answers with a fault, other results ahead of it. -/
def Off (w : World) (ahead : List Value) (layer : ByteArray) (x : Value) (r : Ending) (w' : World) : Prop :=
  ∃ F, r = .returned (.tuple (ahead ++ [Value.iface 103 (.pointer (some ⟨F, 0, none⟩))]).toArray) ∧ FaultAt w w' F layer x

theorem mark_off {w : World} {B n : Nat} {e : Int} {ve vp vi vb : Value} {s : Rf.St} {xt : TypeId} {xv : Value} (h : PartAt w B ve vp vi vb s) (hI : Rf.Inv s n) (he : e < 0 ∨ (n : Int) ≤ e) (hg : w.cell? ⟨3, 0, none⟩ = some (.iface xt xv)) :
    Calls Tryz.prog 222 #[.pointer (some ⟨B, 0, none⟩), .int .i64 e] w (Off w [.bool false] layerRef (.iface xt xv)) := by
  have HS := Lib.hid (size_any h)
  rw [hI.le] at HS
  clear h hI
  go_enter Tryz.func222, Tryz.ntmps222
  go_wp2_with (first
    | (go_at_call 242; refine HS.out.mono ?_; rintro e w' ⟨rfl, rfl⟩)
    | (go_at_call 228; refine (asked_out _ _ _ _ _ _ he hg).mono ?_; rintro e w' ⟨rfl, rfl⟩))
  go_ret2
  exact ⟨_, rfl, FaultAt.of_alloc _ _ _⟩

theorem members_off {w : World} {B : Nat} {b : Int} {ve vp vi vb : Value} {s : Rf.St} {xt : TypeId} {xv : Value} (h : PartAt w B ve vp vi vb s) (he : b < 0 ∨ (s.blocks.length : Int) ≤ b) (hg : w.cell? ⟨3, 0, none⟩ = some (.iface xt xv)) :
    Calls Tryz.prog 193 #[.pointer (some ⟨B, 0, none⟩), .int .i64 b] w (Off w [.slice none 0 0] layerRef (.iface xt xv)) := by
  have HS := Lib.hid (blocks_any h)
  obtain ⟨nb, hnb⟩ : ∃ nb, nb = s.blocks.length := ⟨_, rfl⟩
  rw [← hnb] at HS he
  clear h hnb
  go_enter Tryz.func193, Tryz.ntmps193
  go_wp2_with (first
    | (go_at_call 225; refine HS.out.mono ?_; rintro e w' ⟨rfl, rfl⟩)
    | (go_at_call 228; refine (asked_out _ _ _ _ _ _ he hg).mono ?_; rintro e w' ⟨rfl, rfl⟩))
  go_ret2
  exact ⟨_, rfl, FaultAt.of_alloc _ _ _⟩

set_option maxHeartbeats 4000000 in
set_option maxRecDepth 100000 in
theorem split_off {w : World} {B : Nat} {b : Int} {ve vp vi vb : Value} {s : Rf.St} {xt : TypeId} {xv : Value} (h : PartAt w B ve vp vi vb s) (he : b < 0 ∨ (s.blocks.length : Int) ≤ b) (hg : w.cell? ⟨3, 0, none⟩ = some (.iface xt xv))
    (ht : w.cell? ⟨5, 0, none⟩ = some (.iface 176 (.agg #[.pointer (some ⟨23, 31, none⟩)]))) :
    Calls Tryz.prog 224 #[.pointer (some ⟨B, 0, none⟩), .int .i64 b] w (Off w [.int .i64 0, .bool false] layerRef (.iface xt xv)) := by
  have HS := Lib.hid (blocks_any h)
  obtain ⟨nb, hnb⟩ : ∃ nb, nb = s.blocks.length := ⟨_, rfl⟩
  rw [← hnb] at HS he
  clear h hnb
  go_enter Tryz.func224, Tryz.ntmps224
  go_upto_region 3 with (first
    | (go_at_call 225; refine HS.out.mono ?_; rintro e w' ⟨rfl, rfl⟩)
    | (go_at_call 228; refine (asked_out _ _ _ _ _ _ he hg).mono ?_; rintro e w' ⟨rfl, rfl⟩))
  have hF0 := FaultAt.of_alloc w layerRef (.iface xt xv)
  obtain ⟨w1, hw1⟩ : ∃ w1, w.alloc (.cells #[.string layerRef, .int .i64 0, .int .i64 0, .iface xt xv] 116) = w1 := ⟨_, rfl⟩
  have hs1 : w1.heap.size = w.heap.size + 1 := by rw [← hw1]; simp
  rw [hw1] at hF0 ⊢
  clear hw1
  have cV : (w1.alloc (.cells #[.pointer none] 103)).cell? ⟨w1.heap.size, 0, none⟩ = some (.pointer none) := by simp
  have fV : (w1.alloc (.cells #[.pointer none] 103)).frozen? ⟨w1.heap.size, 0, none⟩ = false := by simp
  have tV : (w1.alloc (.cells #[.pointer none] 103)).cell? ⟨5, 0, none⟩ = some (.iface 176 (.agg #[.pointer (some ⟨23, 31, none⟩)])) := by
    have h0 := Below.cellUp hF0.bel (cell_lt ht) ht
    rw [World.cell?_alloc_lt _ _ _ (cell_lt h0)]; exact h0
  rw [hs1] at cV fV
  obtain ⟨V, hV⟩ : ∃ V, V = w.heap.size + 1 := ⟨_, rfl⟩
  have hVw : w.heap.size ≤ V := by omega
  have hVF : w.heap.size ≠ V := by omega
  have hb2 := hF0.bel.alloc hF0.bel.size (.cells #[.pointer none] 103)
  have hc2 : (w1.alloc (.cells #[.pointer none] 103)).heap[w.heap.size]? = some (.cells #[.string layerRef, .int .i64 0, .int .i64 0, .iface xt xv] 116 (0, 0)) := (Below.heap_alloc _ _ _ (by omega)).trans hF0.cell
  have hs2 : (w1.alloc (.cells #[.pointer none] 103)).heap.size = V + 1 := by rw [hV, ← hs1]; simp
  rw [← hV] at cV fV ⊢
  obtain ⟨w2, hw2⟩ : ∃ w2, w1.alloc (.cells #[.pointer none] 103) = w2 := ⟨_, rfl⟩
  rw [hw2] at cV fV tV hb2 hc2 hs2 ⊢
  clear hw2 hF0 hs1 hV
  have HA := Lib.hid (as_hit ⟨w.heap.size, 0, none⟩ ⟨V, 0, none⟩ (.pointer none) w2 tV cV fV)
  have HV : Hid (∀ w3, w3 = ((((w2.alloc (.cells #[.pointer (some ⟨V, 0, none⟩)] 105)).alloc (.cells #[.pointer (some ⟨23, 105, none⟩), .pointer (some ⟨w2.heap.size, 0, none⟩), .int .u64 150] 168)).alloc (.cells #[.pointer (some ⟨23, 105, none⟩), .pointer (some ⟨w2.heap.size, 0, none⟩), .int .u64 150] 168)).alloc (.cells #[.pointer (some ⟨w.heap.size, 0, none⟩)] 103)).setCell ⟨V, 0, none⟩ (.pointer (some ⟨w.heap.size, 0, none⟩)) →
      w3.cell? ⟨V, 0, none⟩ = some (.pointer (some ⟨w.heap.size, 0, none⟩)) ∧ FaultAt w w3 w.heap.size layerRef (.iface xt xv)) := by
    rintro w3 rfl
    refine ⟨?_, ?_, Nat.le_refl _, ((((hb2.alloc hb2.size _).alloc (by have := hb2.size; simp; omega) _).alloc (by have := hb2.size; simp; omega) _).alloc (by have := hb2.size; simp; omega) _).setCell hVw _⟩
    · rw [World.cell?_setCell_same (u := .pointer none)]
      rw [World.cell?_alloc_lt _ _ _ (by simp; omega), World.cell?_alloc_lt _ _ _ (by simp; omega), World.cell?_alloc_lt _ _ _ (by simp; omega), World.cell?_alloc_lt _ _ _ (by show V < _; omega)]
      exact cV
    · rw [Below.heap_setCell _ _ _ _ hVF, Below.heap_alloc _ _ _ (by simp; omega), Below.heap_alloc _ _ _ (by simp; omega), Below.heap_alloc _ _ _ (by simp; omega), Below.heap_alloc _ _ _ (by omega)]
      exact hc2
  clear cV fV tV hb2 hc2 hs2 ht hg
  go_upto_region 4 with (go_at_call 47; refine HA.out.mono ?_; rintro e w3 ⟨rfl, hw3⟩; replace hw3 := Lib.hid (HV.out w3 hw3))
  have cV := hw3.out.1
  go_quiet (fail)
  go_wp2_with fail
  go_ret3
  exact ⟨_, rfl, ⟨hw3.out.2.cell, hw3.out.2.new, below_drewN hw3.out.2.bel _⟩⟩

end Go.Proofs.YtkcdkfkgjjpaaaaGreatDoor
