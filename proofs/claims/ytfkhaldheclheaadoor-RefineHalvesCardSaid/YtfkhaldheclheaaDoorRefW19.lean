/- Walks: SameInts; Classes; the state in a round of RefineHalves, and what the calls do to it. -/
import Derived.Test.YtfkhaldheclheaaDoorRefW18
namespace Go.Proofs.YtfkhaldheclheaaDoor
open Go.RowKit
set_option linter.unusedVariables false
set_option linter.unusedSimpArgs false

/-- Integers stand in cells from an address on. -/
def IntsAt (w : World) (g off : Nat) (xs : List Int) : Prop := ∀ i, i < xs.length → w.cell? ⟨g, off + i, none⟩ = some (.int .i64 (xs.getD i 0))

theorem ints_ext {xs ys : List Int} (hl : xs.length = ys.length) (h : ∀ i, i < xs.length → xs.getD i 0 = ys.getD i 0) : xs = ys := by
  apply List.ext_getElem hl
  intro i h1 h2
  have := h i h1
  simpa [List.getD, h1, h2] using this

def Same (w : World) (b : Bool) (r : Ending) (w' : World) : Prop := r = .returned (.bool b) ∧ ∃ q, w' = w.drewN q

set_option maxHeartbeats 1000000 in
set_option maxRecDepth 100000 in
theorem sameInts_same (n g off c h off2 d : Nat) (xs : List Int) (w : World) (hn : xs.length = n) (hm : n ≤ 1000000) (hx : IntsAt w g off xs) (hy : IntsAt w h off2 xs) :
    Calls Tryd.prog 15 #[.slice (some ⟨g, off, none⟩) n c, .slice (some ⟨h, off2, none⟩) n d] w (Same w true) := by
  have HN := Lib.hid hn
  have HX := Lib.hid hx
  have HY := Lib.hid hy
  have qn : ((n : Int) != (n : Int)) = false := by simp
  clear hn hx hy
  go_enter Tryd.func15, Tryd.ntmps15
  go_wp2_with fail
  go_loopw [5] (fun i wr => ∃ j q : Nat, j ≤ n ∧ i = .int .i64 j ∧ wr = w.drewN q) (fun i _ => n - (intOf i).toNat)
  case atStart => exact ⟨0, 0, Nat.zero_le _, rfl, rfl⟩
  case round =>
    obtain ⟨j, q, hj, rfl, rfl⟩ := hrel
    by_cases hlt : j < n
    · have cx := HX.out j (by rw [HN.out]; exact hlt)
      have cy := HY.out j (by rw [HN.out]; exact hlt)
      obtain ⟨x, hxe⟩ : ∃ x, x = xs.getD j 0 := ⟨_, rfl⟩
      rw [← hxe] at cx cy
      have qx : (x == x) = true := by simp
      clear hxe
      go_wp2_with fail
      go_quiet (fail)
      go_wp2_with fail
      go_roundw
      case rel => exact ⟨j + 1, _, by omega, by go_num, rfl⟩
      case measure => simp [intOf]; omega
    · obtain rfl : j = n := by omega
      go_wp2_with fail
      go_ret
      exact ⟨rfl, _, rfl⟩

theorem Row.intsAt {w : World} {g cap : Nat} {xs : List Int} (h : Row w g 3 cap (xs.map (Value.int .i64))) : IntsAt w g 0 xs := by
  intro i hi
  rw [Nat.zero_add]
  refine h.cell ?_
  simp [List.getD, hi]

/-- What Classes leaves. -/
def ClassesDone (w : World) (s : Rf.St) (n : Nat) (r : Ending) (w' : World) : Prop :=
  ∃ g, r = .returned (.slice (some ⟨g, 0, none⟩) n n) ∧ Row w' g 3 n (ints (Cn.canon (s.inn.map Int.ofNat))) ∧ w.heap.size ≤ g ∧ Below w.heap.size w w'

set_option maxHeartbeats 1000000 in
set_option maxRecDepth 100000 in
theorem classes_any {w : World} {B n : Nat} {ve vp vi vb : Value} {s : Rf.St} (h : PartAt w B ve vp vi vb s) (hI : Rf.Inv s n) (h0 : 0 < n) (hn : n ≤ 1000) :
    Calls Tryd.prog 12 #[.pointer (some ⟨B, 0, none⟩)] w (ClassesDone w s n) := by
  obtain ⟨ge, ce, gp, cp, gi, ci, gb, cb, rfl, rfl, rfl, rfl, o⟩ := h.ob hI h0
  have c2 := o.c2
  have hli : (s.inn.map Int.ofNat).length = n := by rw [List.length_map, hI.li]
  have hb : ∀ k, k < n → (s.inn.map Int.ofNat).getD k 0 = (s.inn.getD k 0 : Nat) := by
    intro k hk
    simp [List.getD, show k < s.inn.length by rw [hI.li]; exact hk]
  have HC := Lib.hid (canon_any gi 0 n ci (s.inn.map Int.ofNat) w hli (by omega) (by
    intro k hk
    rw [hb k hk]
    have := (hI.in1 k hk).1
    have h2 := Rf.blocks_le hI
    have h3 : s.inn.getD k 0 = s.I k := rfl
    exact WalkArith.wf_i64 (by omega)) (by
    intro k hk
    rw [hb k hk, Nat.zero_add]
    exact o.o.ri.cell (ints_get (by rw [hI.li]; exact hk))))
  clear o h hI hli hb
  go_enter Tryd.func12, Tryd.ntmps12
  go_wp2_with (first
    | (go_at_call 29; refine (own_some _ _).mono ?_; rintro e w' ⟨rfl, rfl⟩)
    | (go_at_call 28; refine HC.out.mono ?_; rintro e w1 ⟨rfl, hrow, hbel⟩))
  go_ret
  exact ⟨_, rfl, hrow, by omega, hbel⟩

def bools (l : List Bool) : List Value := l.map Value.bool

theorem bools_length (l : List Bool) : (bools l).length = l.length := by simp [bools]

theorem bools_get {l : List Bool} {i : Nat} (h : i < l.length) : (bools l)[i]? = some (.bool (l.getD i false)) := by simp [bools, List.getD, h]

theorem bools_set (l : List Bool) (i : Nat) (b : Bool) : bools (l.set i b) = (bools l).set i (.bool b) := by simp [bools, List.map_set]

/-- A block of a partition is none of another element type. -/
theorem not_foot {w : World} {B g c : Nat} {ve vp vi vb : Value} {s : Rf.St} {e : TypeId} {cs : Array Value} (h : PartAt w B ve vp vi vb s) (hr : w.heap[g]? = some (.cells cs e (0, 0))) (h1 : e ≠ 58) (h2 : e ≠ 3) (h3 : e ≠ 73) : ¬ Foot B ve vp vi vb g := by
  intro hf
  rcases hf with rfl | hf | hf | hf | hf
  · have := h.box; rw [hr] at this; simp only [Option.some.injEq, Obj.cells.injEq] at this; exact h1 this.2.1
  · obtain ⟨cur, hc⟩ := owns_type h.re hf; rw [hr] at hc; simp only [Option.some.injEq, Obj.cells.injEq] at hc; exact h2 hc.2.1
  · obtain ⟨cur, hc⟩ := owns_type h.rp hf; rw [hr] at hc; simp only [Option.some.injEq, Obj.cells.injEq] at hc; exact h2 hc.2.1
  · obtain ⟨cur, hc⟩ := owns_type h.ri hf; rw [hr] at hc; simp only [Option.some.injEq, Obj.cells.injEq] at hc; exact h2 hc.2.1
  · obtain ⟨cur, hc⟩ := owns_type h.rb hf; rw [hr] at hc; simp only [Option.some.injEq, Obj.cells.injEq] at hc; exact h3 hc.2.1

/-- What stands in a round: the partition, the marks' row, the script's step. -/
structure Rnd (w wr : World) (B n : Nat) (s : Rf.St) (gm : Nat) (mk : List Bool) (ob : Nat) (kd ev : Int) : Prop where
  held : Held w wr B s
  row : Row wr gm 4 n (bools mk)
  ml : mk.length = n
  new : w.heap.size ≤ gm
  box : wr.heap[ob]? = some (.cells #[.int .i64 kd, .int .i64 ev] 40 (0, 0))

section
variable {w wr w' : World} {B n : Nat} {s s' : Rf.St} {gm : Nat} {mk : List Bool} {ob : Nat} {kd ev : Int}

theorem Rnd.below (h : Rnd w wr B n s gm mk ob kd ev) (hb : Below wr.heap.size wr w') : Rnd w w' B n s gm mk ob kd ev :=
  ⟨h.held.below hb, h.row.keep (hb.block _ h.row.lt), h.ml, h.new, (hb.block _ (lt_of_block h.box)).trans h.box⟩

theorem Rnd.drewN (h : Rnd w wr B n s gm mk ob kd ev) (q : Nat) : Rnd w (wr.drewN q) B n s gm mk ob kd ev := h.below (below_drewN (Below.refl _ _) q)

theorem Rnd.c0 (h : Rnd w wr B n s gm mk ob kd ev) : wr.cell? ⟨ob, 0, none⟩ = some (.int .i64 kd) := by simp [World.cell?, h.box]
theorem Rnd.c1 (h : Rnd w wr B n s gm mk ob kd ev) : wr.cell? ⟨ob, 1, none⟩ = some (.int .i64 ev) := by simp [World.cell?, h.box]
theorem Rnd.cm (h : Rnd w wr B n s gm mk ob kd ev) {x : Nat} (hx : x < n) : wr.cell? ⟨gm, x, none⟩ = some (.bool (mk.getD x false)) := h.row.cell (bools_get (by rw [h.ml]; exact hx))
theorem Rnd.fm (h : Rnd w wr B n s gm mk ob kd ev) (x : Nat) : wr.frozen? ⟨gm, x, none⟩ = false := h.row.free x

theorem Rnd.gm_ob (h : Rnd w wr B n s gm mk ob kd ev) : ob ≠ gm := box_ne h.box h.row (by decide)

theorem Held.setCell_far (h : Held w wr B s) {p : Addr} {cs : Array Value} {e : TypeId} (hr : wr.heap[p.block]? = some (.cells cs e (0, 0))) (h1 : e ≠ 58) (h2 : e ≠ 3) (h3 : e ≠ 73) (hnew : w.heap.size ≤ p.block) (v : Value) : Held w (wr.setCell p v) B s := by
  obtain ⟨ve, vp, vi, vb, hp, hf⟩ := h.part
  have hn := not_foot (c := 0) hp hr h1 h2 h3
  refine ⟨⟨ve, vp, vi, vb, hp.keep (fun k hk => Below.heap_setCell _ _ _ _ (fun e => hn (by rw [← e]; exact hk))), hf⟩, h.bel.setCell hnew v⟩

theorem Rnd.setM (h : Rnd w wr B n s gm mk ob kd ev) (x : Nat) (b : Bool) : Rnd w (wr.setCell ⟨gm, x, none⟩ (.bool b)) B n s gm (mk.set x b) ob kd ev := by
  obtain ⟨cur, hg, _⟩ := h.row
  refine ⟨h.held.setCell_far (p := ⟨gm, x, none⟩) hg (by decide) (by decide) (by decide) h.new _, by rw [bools_set]; exact h.row.set x _, by rw [List.length_set]; exact h.ml, h.new, (Below.heap_setCell _ _ _ _ h.gm_ob).trans h.box⟩

theorem Rnd.turned {ve vp vi vb vb' : Value} (h : Rnd w wr B n s gm mk ob kd ev) (hp0 : PartAt wr B ve vp vi vb s) (hf : ∀ k, Foot B ve vp vi vb k → w.heap.size ≤ k)
    (hp : PartAt w' B ve vp vi vb' s') (hn : ∀ k, vb'.ownBlock = some k → vb.ownBlock = some k ∨ wr.heap.size ≤ k) (hT : Turned (Foot B ve vp vi vb) wr w') : Rnd w w' B n s' gm mk ob kd ev := by
  obtain ⟨cur, hg, _⟩ := h.row
  exact ⟨h.held.step hf hp hn hT, h.row.keep (hT.block _ h.row.lt (not_foot (c := 0) hp0 hg (by decide) (by decide) (by decide))), h.ml, h.new,
    (hT.block _ (lt_of_block h.box) (not_foot (c := 0) hp0 h.box (by decide) (by decide) (by decide))).trans h.box⟩

def RMark (w : World) (B n : Nat) (s : Rf.St) (e : Nat) (gm : Nat) (mk : List Bool) (ob : Nat) (kd ev : Int) (r : Ending) (w' : World) : Prop :=
  ∃ b, r = .returned (.tuple #[.bool b, .nilIface]) ∧ Rnd w w' B n (s.mark e).2 gm mk ob kd ev

theorem Rnd.mark {e : Nat} (h : Rnd w wr B n s gm mk ob kd ev) (hI : Rf.Inv s n) (hn : n ≤ 1000) (he : e < n) :
    Calls Tryd.prog 11 #[.pointer (some ⟨B, 0, none⟩), .int .i64 e] wr (RMark w B n s e gm mk ob kd ev) := by
  obtain ⟨ve, vp, vi, vb, hp, hf⟩ := h.held.part
  refine (mark_any hp hI hn he).mono ?_
  rintro r w' ⟨rfl, hp', hT, _⟩
  exact ⟨_, rfl, h.turned hp hf hp' (fun k hk => .inl hk) hT⟩

def ROff (w : World) (ahead : List Value) (B n : Nat) (s : Rf.St) (gm : Nat) (mk : List Bool) (ob : Nat) (kd ev : Int) (r : Ending) (w' : World) : Prop :=
  ∃ F, r = .returned (.tuple (ahead ++ [Value.iface 31 (.pointer (some ⟨F, 0, none⟩))]).toArray) ∧ Rnd w w' B n s gm mk ob kd ev ∧ ∃ wr : World, Below wr.heap.size wr w'

theorem Rnd.mark_off {e : Int} {ai : Value} (h : Rnd w wr B n s gm mk ob kd ev) (hL : Laid2 w ai) (hI : Rf.Inv s n) (he : e < 0 ∨ (n : Int) ≤ e) :
    Calls Tryd.prog 11 #[.pointer (some ⟨B, 0, none⟩), .int .i64 e] wr (ROff w [.bool false] B n s gm mk ob kd ev) := by
  obtain ⟨ve, vp, vi, vb, hp, hf⟩ := h.held.part
  refine (Go.Proofs.YtfkhaldheclheaaDoor.mark_off hp hI he (hL.below h.held.bel).idx).mono ?_
  rintro r w' ⟨F, rfl, hF⟩
  exact ⟨F, rfl, h.below hF.bel, _, hF.bel⟩

theorem Rnd.members_off {b : Int} {ai : Value} (h : Rnd w wr B n s gm mk ob kd ev) (hL : Laid2 w ai) (he : b < 0 ∨ (s.blocks.length : Int) ≤ b) :
    Calls Tryd.prog 13 #[.pointer (some ⟨B, 0, none⟩), .int .i64 b] wr (ROff w [.slice none 0 0] B n s gm mk ob kd ev) := by
  obtain ⟨ve, vp, vi, vb, hp, hf⟩ := h.held.part
  refine (Go.Proofs.YtfkhaldheclheaaDoor.members_off hp he (hL.below h.held.bel).idx).mono ?_
  rintro r w' ⟨F, rfl, hF⟩
  exact ⟨F, rfl, h.below hF.bel, _, hF.bel⟩

theorem Rnd.split_off {b : Int} {ai : Value} (h : Rnd w wr B n s gm mk ob kd ev) (hL : Laid2 w ai) (he : b < 0 ∨ (s.blocks.length : Int) ≤ b) :
    Calls Tryd.prog 14 #[.pointer (some ⟨B, 0, none⟩), .int .i64 b] wr (ROff w [.int .i64 0, .bool false] B n s gm mk ob kd ev) := by
  obtain ⟨ve, vp, vi, vb, hp, hf⟩ := h.held.part
  refine (Go.Proofs.YtfkhaldheclheaaDoor.split_off hp he (hL.below h.held.bel).idx (hL.below h.held.bel).typ).mono ?_
  rintro r w' ⟨F, rfl, hF⟩
  exact ⟨F, rfl, h.below hF.bel, _, hF.bel⟩

def RMembers (w wr : World) (B n : Nat) (s : Rf.St) (b : Nat) (gm : Nat) (mk : List Bool) (ob : Nat) (kd ev : Int) (r : Ending) (w' : World) : Prop :=
  ∃ g cap, r = .returned (.tuple #[.slice (some ⟨g, 0, none⟩) (s.mem b).length cap, .nilIface]) ∧ Row w' g 3 cap ((s.mem b).map (Value.int .i64)) ∧ wr.heap.size ≤ g ∧ Rnd w w' B n s gm mk ob kd ev ∧ Below wr.heap.size wr w'

theorem Rnd.members {b : Nat} (h : Rnd w wr B n s gm mk ob kd ev) (hI : Rf.Inv s n) (hn : n ≤ 1000) (hb : b < s.blocks.length) :
    Calls Tryd.prog 13 #[.pointer (some ⟨B, 0, none⟩), .int .i64 b] wr (RMembers w wr B n s b gm mk ob kd ev) := by
  refine (held_members h.held hI hn hb).mono ?_
  rintro r w' ⟨g, cap, rfl, hown, hbel⟩
  have hr := (Row.of hown).1
  rw [Nat.mul_one] at hr
  exact ⟨g, cap, rfl, hr, (hown.lt g rfl).1, h.below hbel, hbel⟩

/-- What a split leaves, a new list g kept. -/
def RSplit (w wr : World) (B n : Nat) (s : Rf.St) (b : Nat) (gm : Nat) (mk : List Bool) (ob : Nat) (kd ev : Int) (g0 : Nat) (r : Ending) (w' : World) : Prop :=
  r = .returned (.tuple #[.int .i64 (((s.split b).1.getD 0 : Nat) : Int), .bool (s.split b).1.isSome, .nilIface]) ∧ Rnd w w' B n (s.split b).2 gm mk ob kd ev ∧ wr.heap.size ≤ w'.heap.size ∧ ∀ g, g0 ≤ g → g < wr.heap.size → w'.heap[g]? = wr.heap[g]?

theorem Rnd.split {b g0 : Nat} {w0 : World} (h : Rnd w wr B n s gm mk ob kd ev) (h0 : Held w w0 B s) (hb0 : Below w0.heap.size w0 wr) (hg0 : w0.heap.size ≤ g0) (hI : Rf.Inv s n) (hn : n ≤ 1000) (hb : b < s.blocks.length) :
    Calls Tryd.prog 14 #[.pointer (some ⟨B, 0, none⟩), .int .i64 b] wr (RSplit w wr B n s b gm mk ob kd ev g0) := by
  obtain ⟨ve, vp, vi, vb, hp0, hf⟩ := h0.part
  have hp := hp0.below hb0
  refine (split_any hp hI hn hb).mono ?_
  rintro r w' ⟨rfl, vb', hp', hn', hT⟩
  refine ⟨rfl, h.turned hp hf hp' hn' hT, hT.size, fun g hg hl => hT.block g hl (fun hk => ?_)⟩
  have := hp0.foot_lt hk
  omega

def RClasses (w wr : World) (B n : Nat) (s : Rf.St) (gm : Nat) (mk : List Bool) (ob : Nat) (kd ev : Int) (r : Ending) (w' : World) : Prop :=
  ∃ g, r = .returned (.slice (some ⟨g, 0, none⟩) n n) ∧ Row w' g 3 n ((((Cn.canon (s.inn.map Int.ofNat))).map Int.ofNat).map (Value.int .i64)) ∧ wr.heap.size ≤ g ∧ Rnd w w' B n s gm mk ob kd ev ∧ Below wr.heap.size wr w'

theorem ints_asInt (l : List Nat) : ints l = (l.map Int.ofNat).map (Value.int .i64) := by simp [ints]

theorem Rnd.classes (h : Rnd w wr B n s gm mk ob kd ev) (hI : Rf.Inv s n) (h0 : 0 < n) (hn : n ≤ 1000) :
    Calls Tryd.prog 12 #[.pointer (some ⟨B, 0, none⟩)] wr (RClasses w wr B n s gm mk ob kd ev) := by
  obtain ⟨ve, vp, vi, vb, hp, hf⟩ := h.held.part
  refine (classes_any hp hI h0 hn).mono ?_
  rintro r w' ⟨g, rfl, hrow, hg, hb⟩
  rw [ints_asInt] at hrow
  exact ⟨g, rfl, hrow, hg, h.below hb, hb⟩

end

end Go.Proofs.YtfkhaldheclheaaDoor
