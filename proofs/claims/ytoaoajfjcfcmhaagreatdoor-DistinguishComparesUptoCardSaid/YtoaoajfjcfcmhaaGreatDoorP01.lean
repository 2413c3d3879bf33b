/- The closed facts of a row, taken apart: each is then a lemma of its own, and the kernel gives its memory back behind it. Memory, for walks over objects that a call reads and writes: rows of cells at the head of a block, what a call may have . Lists of integers where they stand: a slice, nil or not, that reads as a list; SameInts. The plain side of systems: lists in strict order, each element once; the edges of a system in their order, the steps of . Rows of pairs and of triples of integers in memory; a row that was sorted. -/
import Derived.Test.YtoaoajfjcfcmhaaGreatDoorChecked
import Derived.JoinedOf
import Derived.WalkKit
import Derived.WalkSpells
import Derived.WalkLawsBesides
import Derived.Lib.Hide
import Derived.BigQuiet
import Derived.Deep.QuietTactic
import Derived.IntWalk
import Derived.Sort.Statements
import Derived.Shelf.GgSortFunc.InsertionK
set_option linter.unusedVariables false
set_option linter.unusedSimpArgs false
set_option linter.unusedSectionVars false
set_option maxHeartbeats 16000000
set_option maxRecDepth 100000
open Go.Proofs.Tryz
namespace Go.Proofs.YtoaoajfjcfcmhaaGreatDoor
theorem nm {α : Sort _} (x : α) : ∃ y, y = x := ⟨x, rfl⟩
theorem zh {p : Prop} (h : p) : RowKit.Hid p := h
end Go.Proofs.YtoaoajfjcfcmhaaGreatDoor
namespace Go.Proofs.YtoaoajfjcfcmhaaGreatDoor
open Go.ChangeShapes Go.WideShapes
def zAg (P : Program) (s : ChangeSpec) (c : OpenClaim) : Bool := c.wf (OpenSpec.ofChange s) && laidOutB P
def zz3 (P : Program) (fn : Func) (s : ChangeSpec) (c : OpenClaim) : Bool := fn.params.all (P.readableRec ·) && namedTie P c.named s.vars && (c.stops == []) && (P.stops == []) && (c.knobs == []) && (P.stopKnobs == [])
def zzv (P : Program) (fn : Func) (s : ChangeSpec) (c : OpenClaim) : Bool := (c.maps == (fn.params.toList ++ s.plain.varTypes P).any (P.mapsRec ·)) && (c.ifaces == (fn.params.toList ++ s.plain.varTypes P).any (P.ifacesRec ·)) && (c.mapsOut == P.mapsAmong fn.resultTypes.toList) &&
      (c.loops == (fn.params.toList ++ s.plain.varTypes P).any (P.loopsFrom ·)) && (c.wideKeys == (fn.params.toList ++ s.plain.varTypes P ++ fn.resultTypes.toList).any (P.wideKeysFrom ·)) &&
      s.vars.all (P.varReadable ·) && fn.resultTypes.all (fun t => P.readableRec t && decide (t < P.types.size)) && (c.ifacesOut == fn.resultTypes.toList.any (P.ifacesRec ·)) && (c.loopsOut == fn.resultTypes.toList.any (P.loopsFrom ·))
def zzx (P : Program) (c : OpenClaim) : Bool := (c.plainKeys == P.plainKeys) && c.shortTexts.isNone && P.stopsHeard
def zzt (P : Program) (fn : Func) (s : ChangeSpec) (c : OpenClaim) : Bool := (c.lifted == P.liftsFinal) && (P.make == some c.make) && (c.kinds == (if c.domain.isEmpty then [] else fn.params.toList.map fun t => match P.underlying t with | some (.int k) => some k | _ => none)) && (c.pinned == c.pinnedBy) &&
      (c.veiled == (fn.params.toList ++ s.plain.varTypes P ++ fn.resultTypes.toList).any (P.veiledRec ·)) && c.veiledFits P fn.params.toList (fn.params.toList ++ s.plain.varTypes P ++ fn.resultTypes.toList)
theorem zva {P : Program} {f : FuncId} {fn : Func} {s : ChangeSpec} {c : OpenClaim} (h1 : zAg P s c = true) (h2 : mapsRowed P = true) (h3 : zz3 P fn s c = true)
  (b1 : (c.inPlace == P.inPlace f) = true) (b2 : (c.unfollowed == P.unfollowed f) = true) (b3 : (c.recurses == P.recurses f) = true) (b4 : (c.named == P.varsNamed f) = true)
  (h4 : zzv P fn s c = true) (h5 : zzx P c = true) (h6 : P.mayEnter = true) (h7 : zzt P fn s c = true) : joinedFacts P f fn s c = true := by
 unfold zAg at h1
 unfold zz3 at h3
 unfold zzv at h4
 unfold zzx at h5
 unfold zzt at h7
 rw [Bool.and_eq_true] at h1
 obtain ⟨a1, a2⟩ := h1
 simp only [Bool.and_eq_true] at h3 h4 h5 h7
 obtain ⟨⟨⟨⟨⟨a3, a4⟩, a5⟩, a6⟩, a7⟩, a8⟩ := h3
 obtain ⟨⟨⟨⟨⟨⟨⟨⟨c1, c2⟩, c3⟩, c4⟩, c5⟩, c6⟩, c7⟩, c8⟩, c9⟩ := h4
 obtain ⟨⟨d1, d2⟩, d3⟩ := h5
 obtain ⟨⟨⟨⟨⟨e1, e2⟩, e3⟩, e4⟩, e5⟩, e6⟩ := h7
 unfold joinedFacts
 simp only [Bool.and_eq_true]
 exact ⟨⟨⟨⟨⟨⟨⟨⟨⟨⟨⟨⟨⟨⟨⟨⟨⟨⟨⟨⟨⟨⟨⟨⟨⟨⟨⟨⟨⟨⟨⟨a1, a2⟩, h2⟩, a3⟩, a4⟩, a5⟩, a6⟩, a7⟩, a8⟩, b1⟩, b2⟩, b3⟩, b4⟩, c1⟩, c2⟩, c3⟩, c4⟩, c5⟩, c6⟩, c7⟩, c8⟩, c9⟩, d1⟩, d2⟩, d3⟩, h6⟩, e1⟩, e2⟩, e3⟩, e4⟩, e5⟩, e6⟩
end Go.Proofs.YtoaoajfjcfcmhaaGreatDoor
namespace Go.Proofs.YtoaoajfjcfcmhaaGreatDoor
open Go.RowKit
def Row (w : World) (g : Nat) (e : TypeId) (cap : Nat) (xs : List Value) : Prop :=
 ∃ cur : Array Value, w.heap[g]? = some (.cells cur e (0, 0)) /\ cur.size = cap /\ xs.length <= cap /\ cur.toList.take xs.length = xs
theorem Row.lt {w : World} {g cap : Nat} {e : TypeId} {xs : List Value} (h : Row w g e cap xs) : g < w.heap.size := by
 obtain ⟨cur, hg, _⟩ := h
 exact (Array.getElem?_eq_some_iff.1 hg).1
theorem Row.cell {w : World} {g cap : Nat} {e : TypeId} {xs : List Value} (h : Row w g e cap xs) {i : Nat} {u : Value} (hu : xs[i]? = some u) : w.cell? ⟨g, i, none⟩ = some u := by
 obtain ⟨cur, hg, hs, hl, ht⟩ := h
 simp only [World.cell?, hg]
 rw [<- ht, List.getElem?_take] at hu
 split at hu
 ·simpa using hu
 ·cases hu
theorem Row.free {w : World} {g cap : Nat} {e : TypeId} {xs : List Value} (h : Row w g e cap xs) (i : Nat) : w.frozen? ⟨g, i, none⟩ = false := by
 obtain ⟨cur, hg, _⟩ := h
 simp [World.frozen?, hg]
theorem Row.keep {w w' : World} {g cap : Nat} {e : TypeId} {xs : List Value} (h : Row w g e cap xs) (hk : w'.heap[g]? = w.heap[g]?) : Row w' g e cap xs := by
 obtain ⟨cur, hg, r⟩ := h
 exact ⟨cur, hk.trans hg, r⟩
theorem Row.set {w : World} {g cap : Nat} {e : TypeId} {xs : List Value} (h : Row w g e cap xs) (i : Nat) (v : Value) : Row (w.setCell ⟨g, i, none⟩ v) g e cap (xs.set i v) := by
 obtain ⟨cur, hg, hs, hl, ht⟩ := h
 refine ⟨cur.setIfInBounds i v, ?_, by simpa using hs, by simpa using hl, ?_⟩
 ·simp [World.setCell, Array.getElem?_modify, hg]
 ·rw [List.length_set, Array.toList_setIfInBounds, List.take_set, ht]
theorem Row.other {w : World} {g cap : Nat} {e : TypeId} {xs : List Value} (h : Row w g e cap xs) {a : Addr} (ha : g ≠ a.block) (v : Value) : Row (w.setCell a v) g e cap xs :=
 h.keep (Below.heap_setCell w a v g ha)
theorem Row.drew {w : World} {g cap : Nat} {e : TypeId} {xs : List Value} (h : Row w g e cap xs) : Row w.drew g e cap xs := h
theorem Row.alloc {w : World} {g cap : Nat} {e : TypeId} {xs : List Value} (h : Row w g e cap xs) (o : Obj) : Row (w.alloc o) g e cap xs :=
 h.keep (Below.heap_alloc w o g h.lt)
theorem Row.new (w : World) (e : TypeId) (xs : List Value) : Row (w.alloc (.cells xs.toArray e)) w.heap.size e xs.length xs :=
 ⟨xs.toArray, heap_alloc_new w _, by simp, Nat.le_refl _, by simp⟩
theorem Row.owns {w : World} {g cap n size : Nat} {e : TypeId} {xs : List Value} (h : Row w g e (cap * size) xs) (hn : n <= cap) (hc : cap <= maxLen) (hx : xs.length = n * size) :
  w.ownsRow 0 e size (.slice (some ⟨g, 0, none⟩) n cap) n xs := by
 obtain ⟨cur, hg, hs, hl, ht⟩ := h
 exact ⟨hx, .inr ⟨g, cap, cur, rfl, Nat.zero_le _, hg, hn, hc, hs, by rw [<- hx]; exact ht⟩⟩
theorem Row.of {w : World} {g cap n size base : Nat} {e : TypeId} {xs : List Value} (h : w.ownsRow base e size (.slice (some ⟨g, 0, none⟩) n cap) n xs) :
  Row w g e (cap * size) xs /\ n <= cap /\ cap <= maxLen /\ xs.length = n * size := by
 obtain ⟨hx, h⟩ := h
 rcases h with ⟨h, _⟩ | ⟨g', cap', cur, hv, _, hg, hn, hc, hs, ht⟩
 ·cases h
 ·simp only [Value.slice.injEq, Option.some.injEq, Addr.mk.injEq, and_true, true_and] at hv
  obtain ⟨rfl, rfl⟩ := hv
  exact ⟨⟨cur, hg, hs, by rw [hx]; exact Nat.le_trans (Nat.mul_le_mul_right _ hn) (Nat.le_refl _), by rw [hx]; exact ht⟩, hn, hc, hx⟩
theorem za4 {w : World} {n size base : Nat} {e : TypeId} {v : Value} {xs : List Value} (h : w.ownsRow base e size v n xs) :
  (v = .slice none 0 0 /\ n = 0 /\ xs = []) \/ ∃ g cap, v = .slice (some ⟨g, 0, none⟩) n cap /\ Row w g e (cap * size) xs /\ n <= cap /\ cap <= maxLen /\ xs.length = n * size := by
 have hx := h.1
 rcases h.2 with ⟨h1, h2⟩ | ⟨g, cap, cur, hv, _⟩
 ·exact .inl ⟨h1, h2, List.eq_nil_of_length_eq_zero (by rw [hx, h2]; simp)⟩
 ·exact .inr ⟨g, cap, hv, Row.of (hv ▸ h)⟩
theorem za8 {w : World} {n size base base' : Nat} {e : TypeId} {v : Value} {xs : List Value} (h : w.ownsRow base e size v n xs) (hb : base' <= base) : w.ownsRow base' e size v n xs := by
 refine ⟨h.1, ?_⟩
 rcases h.2 with h | ⟨g, cap, cur, a, b, r⟩
 ·exact .inl h
 ·exact .inr ⟨g, cap, cur, a, Nat.le_trans hb b, r⟩
theorem za2 {w w' : World} {n size base : Nat} {e : TypeId} {v : Value} {xs : List Value} (h : w.ownsRow base e size v n xs) (hk : ∀ g, v.ownBlock = some g -> w'.heap[g]? = w.heap[g]?) : w'.ownsRow base e size v n xs := by
 refine ⟨h.1, ?_⟩
 rcases h.2 with h | ⟨g, cap, cur, rfl, b, hg, r⟩
 ·exact .inl h
 ·exact .inr ⟨g, cap, cur, rfl, b, (hk g rfl).trans hg, r⟩
theorem za3 {w : World} {n size base g : Nat} {e : TypeId} {v : Value} {xs : List Value} (h : w.ownsRow base e size v n xs) (hg : v.ownBlock = some g) : g < w.heap.size := (h.lt g hg).2
theorem za5 {w : World} {n size base g : Nat} {e : TypeId} {v : Value} {xs : List Value} (h : w.ownsRow base e size v n xs) (hg : v.ownBlock = some g) : ∃ cur, w.heap[g]? = some (.cells cur e (0, 0)) := by
 rcases h.2 with ⟨rfl, _⟩ | ⟨g', cap, cur, rfl, b, hh, r⟩
 ·cases hg
 ·simp only [Value.ownBlock, Option.some.injEq] at hg
  subst hg
  exact ⟨cur, hh⟩
structure Turned (S : Nat -> Prop) (w w' : World) : Prop where
 os : w'.os = w.os
 tape : w'.tape = w.tape
 output : w'.output = w.output
 size : w.heap.size <= w'.heap.size
 block : ∀ k, k < w.heap.size -> ¬ S k -> w'.heap[k]? = w.heap[k]?
theorem Turned.refl (S : Nat -> Prop) (w : World) : Turned S w w := ⟨rfl, rfl, rfl, Nat.le_refl _, fun _ _ _ => rfl⟩
theorem Turned.trans {S T : Nat -> Prop} {a b c : World} (h : Turned S a b) (k : Turned T b c) (hT : ∀ i, i < a.heap.size -> T i -> S i) : Turned S a c :=
 ⟨k.os.trans h.os, k.tape.trans h.tape, k.output.trans h.output, Nat.le_trans h.size k.size,
  fun i hi hs => (k.block i (Nat.lt_of_lt_of_le hi h.size) (fun ht => hs (hT i hi ht))).trans (h.block i hi hs)⟩
theorem Turned.mono {S T : Nat -> Prop} {w w' : World} (h : Turned S w w') (hT : ∀ i, i < w.heap.size -> S i -> T i) : Turned T w w' :=
 ⟨h.os, h.tape, h.output, h.size, fun i hi ht => h.block i hi (fun hs => ht (hT i hi hs))⟩
theorem Turned.drew {S : Nat -> Prop} {a w : World} (h : Turned S a w) : Turned S a w.drew := ⟨h.os, h.tape, h.output, h.size, h.block⟩
theorem Turned.drewN {S : Nat -> Prop} {a w : World} (h : Turned S a w) (n : Nat) : Turned S a (w.drewN n) := ⟨h.os, h.tape, h.output, h.size, h.block⟩
theorem Turned.alloc {S : Nat -> Prop} {a w : World} (h : Turned S a w) (o : Obj) : Turned S a (w.alloc o) :=
 ⟨h.os, h.tape, h.output, by have := h.size; simp; omega, fun i hi hs => (Below.heap_alloc w o i (Nat.lt_of_lt_of_le hi h.size)).trans (h.block i hi hs)⟩
theorem Turned.setCell {S : Nat -> Prop} {a w : World} (h : Turned S a w) {p : Addr} (hp : S p.block \/ a.heap.size <= p.block) (u : Value) : Turned S a (w.setCell p u) :=
 ⟨h.os, h.tape, h.output, by have := h.size; simpa using this, fun i hi hs => by
  refine (Below.heap_setCell w p u i ?_).trans (h.block i hi hs)
  rintro rfl
  rcases hp with hp | hp
  ·exact hs hp
  ·omega⟩
theorem Turned.grown {S : Nat -> Prop} {a w w' : World} {row : Option Nat} (h : Turned S a w) (hg : w.grownBy w' row) (hr : ∀ k, row = some k -> S k \/ a.heap.size <= k) : Turned S a w' :=
 ⟨hg.os.trans h.os, hg.tape.trans h.tape, hg.output.trans h.output, Nat.le_trans h.size hg.size, fun i hi hs => by
  refine (hg.block i (Nat.lt_of_lt_of_le hi h.size) ?_).trans (h.block i hi hs)
  intro e
  rcases hr i e.symm with hp | hp
  ·exact hs hp
  ·omega⟩
theorem Turned.below {B : Nat} {w w' : World} (h : Below B w w') : Turned (fun k => B <= k) w w' :=
 ⟨h.os, h.tape, h.output, h.size, fun i _ hs => h.block i (by omega)⟩
theorem Turned.toBelow {S : Nat -> Prop} {w w' : World} (h : Turned S w w') (hS : ∀ k, ¬ S k) : Below w.heap.size w w' :=
 ⟨h.os, h.tape, h.output, h.size, fun i hi => h.block i hi (hS i)⟩
theorem Turned.cell {S : Nat -> Prop} {w w' : World} (h : Turned S w w') {p : Addr} {v : Value} (hc : w.cell? p = some v) (hp : ¬ S p.block) : w'.cell? p = some v :=
 (World.cell?_of_block (w := w) (h.block p.block (World.block_lt_of_cell? w p hc) hp)).trans hc
def ints (l : List Nat) : List Value := l.map fun n : Nat => Value.int .i64 (n : Int)
theorem zaz (l : List Nat) : (ints l).length = l.length := by simp [ints]
theorem zai {l : List Nat} {i : Nat} (h : i < l.length) : (ints l)[i]? = some (.int .i64 (l.getD i 0 : Nat)) := by
 simp [ints, h]
theorem ints_set (l : List Nat) (i v : Nat) : ints (l.set i v) = (ints l).set i (.int .i64 (v : Int)) := by
 simp [ints, List.map_set]
theorem zhm (l m : List Nat) : ints (l ++ m) = ints l ++ ints m := by simp [ints]
theorem zcm (n : Nat) : ints (List.replicate n 0) = List.replicate n (Value.int .i64 0) := by simp [ints]
def Up (w w1 : World) : Prop := Below w.heap.size w w1
theorem Up.refl (w : World) : Up w w := Below.refl _ _
theorem Up.drew {w w1 : World} (h : Up w w1) : Up w w1.drew := Below.drew h
theorem Up.drewN {w w1 : World} (h : Up w w1) (n : Nat) : Up w (w1.drewN n) := ⟨h.os, h.tape, h.output, h.size, h.block⟩
theorem Up.alloc {w w1 : World} (h : Up w w1) (o : Obj) : Up w (w1.alloc o) := Below.alloc h h.size o
theorem Up.trans {w w1 w2 : World} (h : Up w w1) (k : Up w1 w2) : Up w w2 := Below.trans h (k.mono h.size)
theorem Up.cell {w w1 : World} (h : Up w w1) {p : Addr} {v : Value} (hc : w.cell? p = some v) : w1.cell? p = some v := (Below.cell h (World.block_lt_of_cell? w p hc)).trans hc
theorem Up.free {w w1 : World} (h : Up w w1) {p : Addr} {v : Value} (hc : w.cell? p = some v) : w1.frozen? p = w.frozen? p := Below.frozen h (World.block_lt_of_cell? w p hc)
theorem Up.row {w w1 : World} (h : Up w w1) {g cap : Nat} {e : TypeId} {xs : List Value} (hr : Row w g e cap xs) : Row w1 g e cap xs := hr.keep (h.block _ hr.lt)
theorem Up.owns {w w1 : World} (h : Up w w1) {base e size n : Nat} {v : Value} {xs : List Value} (hr : w.ownsRow base e size v n xs) : w1.ownsRow base e size v n xs := za2 hr (fun g hg => h.block g (za3 hr hg))
theorem Up.setCell {w w1 : World} (h : Up w w1) {p : Addr} (hp : w.heap.size <= p.block) (u : Value) : Up w (w1.setCell p u) := Below.setCell h hp u
theorem Up.grown {w w1 w2 : World} {row : Option Nat} (h : Up w w1) (hg : w1.grownBy w2 row) (hr : ∀ k, row = some k -> w.heap.size <= k) : Up w w2 := Below.grown h hg h.size hr
def zk9 (w : World) (g off : Nat) (xs : List Int) : Prop := ∀ i, i < xs.length -> w.cell? ⟨g, off + i, none⟩ = some (.int .i64 (xs.getD i 0))
def Lst (w : World) (v : Value) (xs : List Int) : Prop := ∃ ao cap g off, v = .slice ao xs.length cap /\ (0 < xs.length -> ao = some ⟨g, off, none⟩) /\ zk9 w g off xs
theorem za1 {S0 e size n : Nat} {v : Value} {xs : List Value} {wr : World} (h : wr.ownsRow S0 e size v n xs) : ∃ ao cap, v = .slice ao n cap := by
 rcases h.2 with ⟨rfl, rfl⟩ | ⟨g, cap, cur, rfl, _⟩
 ·exact ⟨_, _, rfl⟩
 ·exact ⟨_, _, rfl⟩
theorem Lst.up {w w1 : World} {v : Value} {xs : List Int} (h : Lst w v xs) (hu : Up w w1) : Lst w1 v xs := by
 obtain ⟨ao, cap, g, off, hv, ha, hc⟩ := h
 exact ⟨ao, cap, g, off, hv, ha, fun i hi => hu.cell (hc i hi)⟩
theorem Row.zJv {w : World} {g cap : Nat} {xs : List Int} (h : Row w g 3 cap (xs.map (Value.int .i64))) : zk9 w g 0 xs := by
 intro i hi
 rw [Nat.zero_add]
 refine h.cell ?_
 simp [List.getD, hi]
theorem Row.lst {w : World} {g cap n c : Nat} {xs : List Int} (h : Row w g 3 cap (xs.map (Value.int .i64))) (hn : xs.length = n) : Lst w (.slice (some ⟨g, 0, none⟩) n c) xs :=
 ⟨_, _, g, 0, by rw [hn], fun _ => rfl, h.zJv⟩
theorem zcy {w : World} {base n : Nat} {v : Value} {xs : List Int} (h : w.ownsRow base 3 1 v n (xs.map (Value.int .i64))) : Lst w v xs := by
 have hn : xs.length = n := by have := h.1; rw [List.length_map, Nat.mul_one] at this; exact this
 rcases za4 h with ⟨rfl, h0, _⟩ | ⟨g, cap, rfl, hr, _⟩
 ·have : xs = [] := List.eq_nil_of_length_eq_zero (by omega)
  subst this
  exact ⟨none, 0, 0, 0, rfl, fun h => by simp at h, fun i hi => by simp at hi⟩
 ·exact hr.lst hn
def Same (w : World) (b : Bool) (r : Ending) (w' : World) : Prop := r = .returned (.bool b) /\ ∃ q, w' = w.drewN q
theorem sameInts_same {v u : Value} {xs : List Int} {w : World} (hm : xs.length <= 1000000) (hv : Lst w v xs) (hu : Lst w u xs) :
  Calls prog 9 #[v, u] w (Same w true) := by
 obtain ⟨ao, c, g, off, rfl, ha, hx⟩ := hv
 obtain ⟨bo, d, h, off2, rfl, hb, hy⟩ := hu
 have HX := zh hx
 have HY := zh hy
 have HA := zh ha
 have HB := zh hb
 obtain ⟨n, hn⟩ := nm (xs.length)
 rw [<- hn] at hm HA HB ⊢
 have HN := zh hn
 have qn : ((n : Int) != (n : Int)) = false := by simp
 clear hn hx hy ha hb
 go_enter func9, ntmps9
 go_wp2_with fail
 go_loopw [5] (fun i wr => ∃ j q : Nat, j <= n /\ i = .int .i64 j /\ wr = w.drewN q) (fun i _ => n - (intOf i).toNat)
 case atStart => exact ⟨0, 0, Nat.zero_le _, rfl, rfl⟩
 case round =>
  obtain ⟨j, q, hj, rfl, rfl⟩ := hrel
  by_cases hlt : j < n
  ·obtain rfl := HA.out (by omega)
   obtain rfl := HB.out (by omega)
   have cx := HX.out j (by rw [<- HN.out]; exact hlt)
   have cy := HY.out j (by rw [<- HN.out]; exact hlt)
   obtain ⟨x, hxe⟩ := nm (xs.getD j 0)
   rw [<- hxe] at cx cy
   have qx : (x == x) = true := by simp
   clear hxe
   go_wp2_with fail
   go_quiet (fail)
   go_wp2_with fail
   go_roundw
   case rel => exact ⟨j + 1, _, by omega, by go_num, rfl⟩
   case measure => simp [intOf]; omega
  ·obtain rfl : j = n := by omega
   go_wp2_with fail
   go_ret
   exact ⟨rfl, _, rfl⟩
end Go.Proofs.YtoaoajfjcfcmhaaGreatDoor
namespace Go.Proofs.YtoaoajfjcfcmhaaGreatDoor.Sy
structure Tot {α : Type} (lt : α -> α -> Bool) : Prop where
 irrefl : ∀ a, lt a a = false
 trans : ∀ a b c, lt a b = true -> lt b c = true -> lt a c = true
 total : ∀ a b, lt a b = true \/ a = b \/ lt b a = true
section
variable {α : Type} [DecidableEq α] {lt : α -> α -> Bool}
def ins (lt : α -> α -> Bool) (x : α) : List α -> List α
 | [] => [x]
 | y :: t => if x = y then y :: t else if lt x y then x :: y :: t else y :: ins lt x t
def norm (lt : α -> α -> Bool) (l : List α) : List α := l.foldr (ins lt) []
theorem zpj (x z : α) : ∀ l : List α, z ∈ ins lt x l ↔ z = x \/ z ∈ l
 | [] => by simp [ins]
 | y :: t => by
  unfold ins
  split
  ·rename_i h; subst h; simp
  ·split
   ·simp
   ·rw [List.mem_cons, zpj x z t, List.mem_cons]
    constructor
    ·rintro (h | h | h); exact .inr (.inl h); exact .inl h; exact .inr (.inr h)
    ·rintro (h | h | h); exact .inr (.inl h); exact .inl h; exact .inr (.inr h)
theorem zCx (z : α) : ∀ l : List α, z ∈ norm lt l ↔ z ∈ l
 | [] => by simp [norm]
 | y :: t => by
  have := zCx z t
  simp only [norm, List.foldr_cons] at this ⊢
  rw [zpj, this, List.mem_cons]
theorem zgn (T : Tot lt) (x : α) : ∀ l : List α, l.Pairwise (fun a b => lt a b = true) -> (ins lt x l).Pairwise (fun a b => lt a b = true)
 | [], _ => by simp [ins]
 | y :: t, h => by
  obtain ⟨h1, h2⟩ := List.pairwise_cons.1 h
  unfold ins
  split
  ·exact h
  ·rename_i hne
   split
   ·rename_i hlt
    refine List.pairwise_cons.2 ⟨?_, h⟩
    intro b hb
    rcases List.mem_cons.1 hb with rfl | hb
    ·exact hlt
    ·exact T.trans _ _ _ hlt (h1 b hb)
   ·rename_i hnl
    refine List.pairwise_cons.2 ⟨?_, zgn T x t h2⟩
    intro b hb
    rcases (zpj x b t).1 hb with rfl | hb
    ·rcases T.total b y with h | h | h
     ·exact absurd h hnl
     ·exact absurd h hne
     ·exact h
    ·exact h1 b hb
theorem zC5 (T : Tot lt) : ∀ l : List α, (norm lt l).Pairwise (fun a b => lt a b = true)
 | [] => List.Pairwise.nil
 | y :: t => by
  simp only [norm, List.foldr_cons]
  exact zgn T y _ (zC5 T t)
theorem zF8 (T : Tot lt) {l : List α} (h : l.Pairwise (fun a b => lt a b = true)) : l.Nodup :=
 h.imp (fun {a b} aa e => by subst e; rw [T.irrefl] at aa; cases aa)
theorem zD5 (T : Tot lt) : ∀ (a b : List α), a.Pairwise (fun a b => lt a b = true) -> b.Pairwise (fun a b => lt a b = true) -> (∀ x, x ∈ a ↔ x ∈ b) -> a = b
 | [], [], _, _, _ => rfl
 | [], y :: t, _, _, h => by have := (h y).2 (by simp); simp at this
 | x :: s, [], _, _, h => by have := (h x).1 (by simp); simp at this
 | x :: s, y :: t, ha, hb, h => by
  obtain ⟨a1, a2⟩ := List.pairwise_cons.1 ha
  obtain ⟨b1, b2⟩ := List.pairwise_cons.1 hb
  have ab : x = y := by
   rcases List.mem_cons.1 ((h x).1 (by simp)) with e | hx
   ·exact e
   rcases List.mem_cons.1 ((h y).2 (by simp)) with e | hy
   ·exact e.symm
   have := T.trans _ _ _ (a1 y hy) (b1 x hx)
   rw [T.irrefl] at this; cases this
  subst ab
  rw [zD5 T s t a2 b2 (fun z => ?_)]
  constructor
  ·intro hz
   rcases List.mem_cons.1 ((h z).1 (List.mem_cons_of_mem _ hz)) with e | aa
   ·subst e; have := a1 z hz; rw [T.irrefl] at this; cases this
   ·exact aa
  ·intro hz
   rcases List.mem_cons.1 ((h z).2 (List.mem_cons_of_mem _ hz)) with e | aa
   ·subst e; have := b1 z hz; rw [T.irrefl] at this; cases this
   ·exact aa
def zCy (acc : List α) (x : α) : List α := if acc.getLast? = some x then acc else acc ++ [x]
def cpt (l : List α) : List α := l.foldl zCy []
theorem zfv (l : List α) (x : α) : cpt (l ++ [x]) = if (cpt l).getLast? = some x then cpt l else cpt l ++ [x] := by
 simp only [cpt, List.foldl_append, List.foldl_cons, List.foldl_nil]
 rfl
theorem zwh (l : List α) (k : Nat) (h : k < l.length) : cpt (l.take (k + 1)) = if (cpt (l.take k)).getLast? = some l[k] then cpt (l.take k) else cpt (l.take k) ++ [l[k]] := by
 rw [List.take_succ_eq_append_getElem h, zfv]
theorem zCd {p : List α -> Prop} (h0 : p []) (h1 : ∀ s c, p s -> p (s ++ [c])) (s : List α) : p s := by
 have h : ∀ r : List α, p r.reverse := by
  intro r
  induction r with
  | nil => exact h0
  | cons c r ih => rw [List.reverse_cons]; exact h1 _ _ ih
 have := h s.reverse
 rwa [List.reverse_reverse] at this
theorem zqa (l : List α) : (cpt l).getLast? = l.getLast? := by
 revert l
 refine zCd rfl ?_
 intro l x ih
 rw [zfv]
 split
 ·rename_i h; rw [h]; simp
 ·simp
theorem zpk (z : α) (l : List α) : z ∈ cpt l ↔ z ∈ l := by
 revert l
 refine zCd (by simp [cpt]) ?_
 intro l x ih
 rw [zfv]
 split
 ·rename_i h
  rw [ih, List.mem_append, List.mem_singleton]
  constructor
  ·exact .inl
  ·rintro (h' | rfl)
   ·exact h'
   ·exact List.mem_of_getLast? ((zqa l).symm.trans h)
 ·simp [ih]
theorem znc (T : Tot lt) (l : List α) (h : l.Pairwise (fun a b => lt b a = false)) : (cpt l).Pairwise (fun a b => lt a b = true) := by
 revert l
 refine zCd (fun _ => List.Pairwise.nil) ?_
 intro l x ih h
 obtain ⟨h1, h2, h3⟩ := List.pairwise_append.1 h
 rw [zfv]
 split
 ·exact ih h1
 ·rename_i hne
  have hl := ih h1
  refine List.pairwise_append.2 ⟨hl, List.pairwise_singleton _ _, ?_⟩
  intro a ha b hb
  obtain rfl := List.mem_singleton.1 hb
  have ab := h3 a ((zpk _ _).1 ha) b (by simp)
  rcases T.total a b with h | h | h
  ·exact h
  ·subst h
   -- a is in cpt l, and all of l stands ahead of it: a is the last one
   exfalso
   apply hne
   rcases hc : (cpt l).getLast? with _ | y
   ·rw [List.getLast?_eq_none_iff.1 hc] at ha; cases ha
   ·have ac := List.mem_of_getLast? hc
    have ad := h3 y ((zpk _ _).1 ac) a (by simp)
    obtain ⟨ini, aa⟩ := List.getLast?_eq_some_iff.1 hc
    rw [aa] at ha hl
    rcases List.mem_append.1 ha with ha | ha
    ·have := (List.pairwise_append.1 hl).2.2 a ha y (by simp)
     rw [ad] at this; cases this
    ·rw [List.mem_singleton.1 ha]
  ·rw [ab] at h; cases h
theorem zG1 (T : Tot lt) (l m : List α) (h : l.Pairwise (fun a b => lt b a = false)) (hm : ∀ x, x ∈ l ↔ x ∈ m) : cpt l = norm lt m :=
 zD5 T _ _ (znc T l h) (zC5 T m) (fun x => by rw [zpk, zCx, hm])
theorem ztd (x : α) : ∀ l : List α, (ins lt x l).length <= l.length + 1
 | [] => by simp [ins]
 | y :: t => by
  unfold ins
  split
  ·simp
  ·split
   ·simp
   ·have := ztd x t; simp; omega
theorem zCo : ∀ l : List α, (norm lt l).length <= l.length
 | [] => by simp [norm]
 | y :: t => by
  have h1 := zCo t
  have h2 := ztd (lt := lt) y (norm lt t)
  simp only [norm, List.foldr_cons, List.length_cons] at h1 h2 ⊢
  omega
end
section
variable {α : Type} [DecidableEq α]
theorem zue (d : α) (l : List α) (j : Nat) (h1 : 1 <= j) (h2 : j <= l.length) : (l.take j).getLast? = some (l.getD (j - 1) d) := by
 rw [List.getLast?_eq_getElem?, List.length_take, Nat.min_eq_left h2, List.getElem?_take, if_pos (by omega), List.getElem?_eq_getElem (by omega)]
 simp [List.getD, show j - 1 < l.length by omega]
theorem zgy (d : α) (l : List α) (j : Nat) (h1 : 1 <= j) (h2 : j < l.length) : cpt (l.take (j + 1)) = if l.getD j d = l.getD (j - 1) d then cpt (l.take j) else cpt (l.take j) ++ [l.getD j d] := by
 rw [zwh l j h2, zqa, zue d l j h1 (by omega)]
 have e : l[j] = l.getD j d := by simp [List.getD, h2]
 rw [e]
 by_cases h : l.getD j d = l.getD (j - 1) d
 ·rw [if_pos (by rw [h]), if_pos h]
 ·rw [if_neg (fun e => h (Option.some.inj e).symm), if_neg h]
structure zDg (d : α) (l m : List α) (j kk : Nat) : Prop where
 len : m.length = l.length
 kept : kk = (cpt (l.take j)).length
 take : m.take kk = cpt (l.take j)
 high : ∀ i, j <= i + 1 -> m.getD i d = l.getD i d
 lt : kk < j
 le : j <= l.length
theorem zIj (l : List α) (h : 1 <= l.length) : cpt (l.take 1) = l.take 1 := by
 cases l with
 | nil => simp at h
 | cons x t => rfl
theorem zDg.start {d : α} {l : List α} {k : Nat} (h0 : cpt (l.take k) = l.take k) (h1 : 1 <= k) (h2 : k < l.length) (he : l.getD k d = l.getD (k - 1) d) : zDg d l l (k + 1) k := by
 have hs := zgy d l k h1 h2
 rw [if_pos he, h0] at hs
 exact ⟨rfl, by rw [hs, List.length_take]; omega, hs.symm, fun i _ => rfl, by omega, by omega⟩
theorem zDg.skip {d : α} {l m : List α} {j kk : Nat} (h : zDg d l m j kk) (h1 : j < l.length) (he : l.getD j d = l.getD (j - 1) d) : zDg d l m (j + 1) kk := by
 have := h.lt
 have hs := zgy d l j (by omega) h1
 rw [if_pos he] at hs
 exact ⟨h.len, by rw [hs]; exact h.kept, by rw [hs]; exact h.take, fun i hi => h.high i (by omega), by omega, by omega⟩
theorem zDg.keep {d : α} {l m : List α} {j kk : Nat} (h : zDg d l m j kk) (h1 : j < l.length) (he : l.getD j d ≠ l.getD (j - 1) d) : zDg d l (m.set kk (l.getD j d)) (j + 1) (kk + 1) := by
 have ab := h.lt
 have aa := h.len
 have hs := zgy d l j (by omega) h1
 rw [if_neg he] at hs
 refine ⟨by rw [List.length_set]; exact aa, by rw [hs, List.length_append, <- h.kept]; rfl, ?_, fun i hi => ?_, by omega, by omega⟩
 ·rw [hs, <- h.take, List.take_add_one, List.take_set, List.getElem?_set_self (by omega)]
  rw [List.set_eq_of_length_le (by rw [List.length_take]; omega)]
  rfl
 ·rw [List.getD, List.getElem?_set_ne (by omega)]
  exact h.high i (by omega)
theorem zDg.zKx {d : α} {l m : List α} {kk : Nat} (h : zDg d l m l.length kk) : m.take kk = cpt l /\ kk = (cpt l).length := by
 have h1 := h.take
 have h2 := h.kept
 rw [List.take_length] at h1 h2
 exact ⟨h1, h2⟩
theorem zH2 (d : α) {l : List α} {k : Nat} (h0 : cpt (l.take k) = l.take k) (h1 : 1 <= k) (h2 : k < l.length) (he : l.getD k d ≠ l.getD (k - 1) d) : cpt (l.take (k + 1)) = l.take (k + 1) := by
 rw [zgy d l k h1 h2, if_neg he, h0, List.take_succ_eq_append_getElem h2]
 simp [List.getD, h2]
end
def lt2 (a b : Int × Int) : Bool := decide (a.1 < b.1 \/ a.1 = b.1 /\ a.2 < b.2)
def lt3 (a b : Int × Int × Int) : Bool := decide (a.1 < b.1 \/ a.1 = b.1 /\ (a.2.1 < b.2.1 \/ a.2.1 = b.2.1 /\ a.2.2 < b.2.2))
def lt3r (a b : Int × Int × Int) : Bool := decide (a.2.2 < b.2.2 \/ a.2.2 = b.2.2 /\ (a.2.1 < b.2.1 \/ a.2.1 = b.2.1 /\ a.1 < b.1))
theorem zKk : Tot lt2 where
 irrefl a := by simp [lt2]
 trans a b c h1 h2 := by simp [lt2] at *; omega
 total a b := by
  obtain ⟨a1, a2⟩ := a; obtain ⟨b1, b2⟩ := b
  simp only [lt2, decide_eq_true_eq, Prod.mk.injEq]; omega
theorem zIk : Tot lt3 where
 irrefl a := by simp [lt3]
 trans a b c h1 h2 := by simp [lt3] at *; omega
 total a b := by
  obtain ⟨a1, a2, a3⟩ := a; obtain ⟨b1, b2, b3⟩ := b
  simp only [lt3, decide_eq_true_eq, Prod.mk.injEq]; omega
theorem zIg : Tot lt3r where
 irrefl a := by simp [lt3r]
 trans a b c h1 h2 := by simp [lt3r] at *; omega
 total a b := by
  obtain ⟨a1, a2, a3⟩ := a; obtain ⟨b1, b2, b3⟩ := b
  simp only [lt3r, decide_eq_true_eq, Prod.mk.injEq]; omega
abbrev Edge := Int × Int × Int
structure Lts where
 n : Int
 m : Int
 start : Int
 es : List Edge
def zE9 (s : Lts) (e : Edge) : Bool := decide (0 <= e.1 /\ 0 <= e.2.2 /\ 0 <= e.2.1 /\ e.1 < s.n /\ e.2.2 < s.n /\ e.2.1 < s.m)
def right (s : Lts) : Bool :=
 decide (0 <= s.n /\ s.n <= 1000 /\ 1 <= s.m /\ s.m <= 201 /\ 0 <= s.start /\ (0 < s.start -> s.start < s.n) /\ s.es.length <= 10000) && s.es.all (zE9 s)
structure Right (s : Lts) : Prop where
 n0 : 0 <= s.n
 n1 : s.n <= 1000
 m1 : 1 <= s.m
 m2 : s.m <= 201
 st0 : 0 <= s.start
 st1 : 0 < s.start -> s.start < s.n
 len : s.es.length <= 10000
 ok : ∀ e ∈ s.es, 0 <= e.1 /\ 0 <= e.2.2 /\ 0 <= e.2.1 /\ e.1 < s.n /\ e.2.2 < s.n /\ e.2.1 < s.m
theorem zCj (s : Lts) : right s = true ↔ Right s := by
 simp only [right, Bool.and_eq_true, decide_eq_true_eq, List.all_eq_true, zE9]
 constructor
 ·rintro ⟨⟨h1, h2, h3, h4, h5, h6, h7⟩, h8⟩; exact ⟨h1, h2, h3, h4, h5, h6, h7, h8⟩
 ·rintro ⟨h1, h2, h3, h4, h5, h6, h7, h8⟩; exact ⟨⟨h1, h2, h3, h4, h5, h6, h7⟩, h8⟩
def sorted (s : Lts) : List Edge := norm lt3 s.es
def turned (s : Lts) : List Edge := norm lt3r s.es
def steps (s : Lts) (p : Nat) : List (Int × Int) := ((sorted s).filter fun e => e.1 == (p : Int)).map (·.2)
def backs (s : Lts) (p : Nat) : List (Int × Int) := ((turned s).filter fun e => e.2.2 == (p : Int)).map fun e => (e.2.1, e.1)
theorem mem_sorted (s : Lts) (e : Edge) : e ∈ sorted s ↔ e ∈ s.es := zCx e s.es
theorem zEf (s : Lts) (e : Edge) : e ∈ turned s ↔ e ∈ s.es := zCx e s.es
theorem zDn (s : Lts) (p : Nat) (x : Int × Int) : x ∈ steps s p ↔ ((p : Int), x.1, x.2) ∈ s.es := by
 simp only [steps, List.mem_map, List.mem_filter, mem_sorted, beq_iff_eq]
 constructor
 ·rintro ⟨⟨a, b, c⟩, ⟨h1, h2⟩, rfl⟩; simp at h2; subst h2; exact h1
 ·intro h; exact ⟨_, ⟨h, rfl⟩, rfl⟩
theorem zGc (s : Lts) (p : Nat) (x : Int × Int) : x ∈ backs s p ↔ (x.2, x.1, (p : Int)) ∈ s.es := by
 simp only [backs, List.mem_map, List.mem_filter, zEf, beq_iff_eq]
 constructor
 ·rintro ⟨⟨a, b, c⟩, ⟨h1, h2⟩, rfl⟩; simp at h2; subst h2; exact h1
 ·intro h; exact ⟨_, ⟨h, rfl⟩, rfl⟩
def below {α : Type} (key : α -> Int) (l : List α) (i : Nat) : Nat := l.countP fun x => decide (key x < (i : Int))
theorem below_le {α : Type} (key : α -> Int) (l : List α) (i : Nat) : below key l i <= l.length := List.countP_le_length
theorem zF5 {α : Type} (key : α -> Int) (l : List α) {i j : Nat} (h : i <= j) : below key l i <= below key l j :=
 List.countP_mono_left (fun x _ hx => by simp at hx ⊢; omega)
theorem zef {α : Type} (key : α -> Int) (x : α) (t : List α) {i : Nat} (h : key x < (i : Int)) : below key (x :: t) i = below key t i + 1 := by
 simp only [below, List.countP_cons, decide_eq_true_eq]; rw [if_pos h]
theorem zfc {α : Type} (key : α -> Int) (x : α) (t : List α) {i : Nat} (h : ¬ key x < (i : Int)) : below key (x :: t) i = below key t i := by
 simp only [below, List.countP_cons, decide_eq_true_eq]; rw [if_neg h]; rfl
theorem zFp {α : Type} (key : α -> Int) : ∀ (l : List α) (i : Nat), below key l (i + 1) = below key l i + l.countP fun x => decide (key x = (i : Int))
 | [], i => by simp [below]
 | x :: t, i => by
  have := zFp key t i
  rw [List.countP_cons]
  by_cases h1 : key x < (i : Int)
  ·rw [zef key x t (i := i + 1) (by omega), zef key x t h1, if_neg (by simp; omega), this]; omega
  ·by_cases h2 : key x = (i : Int)
   ·rw [zef key x t (i := i + 1) (by omega), zfc key x t h1, if_pos (by simpa using h2), this]; omega
   ·rw [zfc key x t (i := i + 1) (by omega), zfc key x t h1, if_neg (by simpa using h2), this]; omega
theorem zF3 {α : Type} (key : α -> Int) : ∀ (l : List α) (i : Nat), l.Pairwise (fun a b => key a <= key b) ->
  l.filter (fun x => key x == (i : Int)) = (l.drop (below key l i)).take (below key l (i + 1) - below key l i)
 | [], i, _ => by simp [below]
 | x :: t, i, h => by
  obtain ⟨h1, h2⟩ := List.pairwise_cons.1 h
  have ih := zF3 key t i h2
  have hm := zF5 key t (show i <= i + 1 by omega)
  by_cases g1 : key x < (i : Int)
  ·rw [zef key x t (i := i + 1) (by omega), zef key x t g1, List.filter_cons_of_neg (by simp; omega), ih, List.drop_succ_cons]
   congr 1; omega
  ·have z : below key t i = 0 := by
    unfold below; rw [List.countP_eq_zero]; intro y hy; have := h1 y hy; simp; omega
   rw [z] at ih
   rw [zfc key x t g1, z]
   by_cases g2 : key x = (i : Int)
   ·rw [zef key x t (i := i + 1) (by omega), List.filter_cons_of_pos (by simpa using g2), ih]
    simp
   ·have z2 : below key t (i + 1) = 0 := by
     unfold below; rw [List.countP_eq_zero]; intro y hy; have := h1 y hy; simp; omega
    rw [zfc key x t (i := i + 1) (by omega), z2, List.filter_cons_of_neg (by simpa using g2), ih, z2]
    simp
theorem zHt {α : Type} (key : α -> Int) (l : List α) (h : ∀ x ∈ l, 0 <= key x) : below key l 0 = 0 := by
 unfold below; rw [List.countP_eq_zero]; intro y hy; have := h y hy; simp; omega
theorem zGf (s : Lts) : (sorted s).Pairwise (fun a b => a.1 <= b.1) :=
 (zC5 zIk s.es).imp (fun {a b} h => by simp only [lt3, decide_eq_true_eq] at h; omega)
theorem zG3 (s : Lts) : (turned s).Pairwise (fun a b => a.2.2 <= b.2.2) :=
 (zC5 zIg s.es).imp (fun {a b} h => by simp only [lt3r, decide_eq_true_eq] at h; omega)
end Go.Proofs.YtoaoajfjcfcmhaaGreatDoor.Sy
namespace Go.Proofs.YtoaoajfjcfcmhaaGreatDoor
open Go.RowKit Go.Sort
section
variable {α : Type} {enc : α -> List Value} {k : Nat}
theorem zd6 (hk : ∀ x, (enc x).length = k) : ∀ l : List α, (l.flatMap enc).length = l.length * k
 | [] => by simp
 | x :: l => by rw [List.flatMap_cons, List.length_append, hk, zd6 hk l, List.length_cons, Nat.succ_mul, Nat.add_comm]
theorem flat_get (hk : ∀ x, (enc x).length = k) : ∀ (l : List α) (i c : Nat) (hi : i < l.length), c < k -> (l.flatMap enc)[i * k + c]? = (enc l[i])[c]?
 | x :: l, 0, c, hi, hc => by
  rw [List.flatMap_cons, Nat.zero_mul, Nat.zero_add, List.getElem?_append_left (by rw [hk]; exact hc)]; rfl
 | x :: l, i + 1, c, hi, hc => by
  rw [List.flatMap_cons, List.getElem?_append_right (by rw [hk, Nat.succ_mul]; omega), hk, show (i + 1) * k + c - k = i * k + c by rw [Nat.succ_mul]; omega,
   flat_get hk l i c (by simpa using hi) hc]
  rfl
variable [Inhabited α]
theorem zk7 (hk : ∀ x, (enc x).length = k) (d : Array α) : (flatK enc k d).toList = d.toList.flatMap enc := by
  refine List.ext_getElem? fun t => ?_
  by_cases ht : t < d.size * k
  · have k0 : 0 < k := by rcases Nat.eq_zero_or_pos k with h | h
                          · subst h; simp at ht
                          · exact h
    have hd : t / k < d.size := Nat.div_lt_of_lt_mul (by rwa [Nat.mul_comm] at ht)
    have hm : t % k < k := Nat.mod_lt _ k0
    have h1 : (flatK enc k d).toList[t]? = some (flatK enc k d)[t]! := by
      rw [Array.getElem?_toList, Array.getElem?_eq_getElem (by simpa using ht), getElem!_pos (flatK enc k d) t (by simpa using ht)]
    have hj : (enc d[t / k]!)[t % k]? = some (enc d[t / k]!)[t % k]! := by
      generalize hz : enc d[t / k]! = z
      have aa : t % k < z.length := by rw [<- hz, hk]; exact hm
      rw [List.getElem?_eq_getElem aa, getElem!_pos z _ aa]
    rw [h1, get_flatK enc k d t ht]
    have e : t = t / k * k + t % k := (Nat.div_add_mod' t k).symm
    conv => rhs; rw [e]
    rw [flat_get hk d.toList (t / k) (t % k) (by simpa using hd) hm, <- hj]
    congr 2
    rw [getElem!_pos d _ hd]
    simp
  · have h1 : (flatK enc k d).toList[t]? = none := List.getElem?_eq_none (by simp; omega)
    rw [h1, List.getElem?_eq_none]
    rw [zd6 hk]; simpa using ht
theorem Row.zIi (hk : ∀ x, (enc x).length = k) {w : World} {g cap : Nat} {e : TypeId} {l : List α} (h : Row w g e cap (l.flatMap enc)) : HoldsK enc k w g 0 l.toArray := by
 intro j hj
 have aa : j < (l.flatMap enc).length := by rw [zd6 hk]; simpa using hj
 refine ⟨?_, by rw [Nat.zero_add]; exact h.free j⟩
 rw [Nat.zero_add]
 refine h.cell ?_
 have := zk7 hk l.toArray
 simp only at this
 rw [<- this, Array.getElem?_toList, Array.getElem?_eq_getElem hj, getElem!_pos _ j hj]
 rfl
theorem Row.sorted (hk : ∀ x, (enc x).length = k) {w : World} {g cap : Nat} {e : TypeId} {l : List α} {d : Array α} (h : Row w g e cap (l.flatMap enc)) (hd : d.size = l.length) (n : Nat) (os : Array Obj) :
  Row (sortWorldK enc k w g 0 n d os) g e cap (d.toList.flatMap enc) := by
 obtain ⟨cur, hg, hs, hl, ht⟩ := h
 have ac := (Array.getElem?_eq_some_iff.1 hg).1
 have ab : (l.flatMap enc).length = l.length * k := zd6 hk l
 have aa : (d.toList.flatMap enc).length = l.length * k := by rw [zd6 hk]; simp [hd]
 have hb : (sortWorldK enc k w g 0 n d os).heap[g]? = some (.cells (putCells id 0 (flatK enc k d) cur) e (0, 0)) := by
  have hz : (putRowK enc k (Sort.ahead w n) g 0 d).heap[g]? = some (.cells (putCells id 0 (flatK enc k d) cur) e (0, 0)) := by
   show (mapBlock (Sort.ahead w n) g (putCells id 0 (flatK enc k d))).heap[g]? = _
   unfold mapBlock
   simp only [Array.getElem?_modify, if_true]
   show Option.map _ w.heap[g]? = _
   rw [hg]; rfl
  show ((putRowK enc k (Sort.ahead w n) g 0 d).heap ++ os)[g]? = _
  rw [Array.getElem?_append_left (Array.getElem?_eq_some_iff.1 hz).1]
  exact hz
 refine ⟨_, hb, by simp [putCells, hs], by rw [aa, <- ab]; exact hl, ?_⟩
 rw [aa]
 refine List.ext_getElem? fun t => ?_
 by_cases h1 : t < l.length * k
 ·rw [List.getElem?_take_of_lt h1, Array.getElem?_toList, <- zk7 hk d, Array.getElem?_toList]
  have hc : t < cur.size := by rw [hs]; rw [ab] at hl; omega
  have hf : t < (flatK enc k d).size := by rw [size_flatK, hd]; exact h1
  rw [Array.getElem?_eq_getElem (by simp [putCells]; exact hc), Array.getElem?_eq_getElem hf]
  simp [putCells, hd, h1, getElem!_pos (flatK enc k d) t hf]
 ·rw [List.getElem?_eq_none (by rw [List.length_take]; omega), List.getElem?_eq_none (by rw [aa]; omega)]
theorem zob {w : World} {g : Nat} (n : Nat) (d : Array α) (os : Array Obj) : Turned (fun j => j = g) w (sortWorldK enc k w g 0 n d os) := by
 refine ⟨rfl, rfl, rfl, ?_, fun i hi hn => ?_⟩
 ·show w.heap.size <= (_ ++ os).size
  simp [putRowK, putRow, mapBlock, Sort.ahead]
 ·show (_ ++ os)[i]? = _
  have hs : (putRowK enc k (Sort.ahead w n) g 0 d).heap.size = w.heap.size := by simp [putRowK, putRow, mapBlock, Sort.ahead]
  rw [Array.getElem?_append_left (by rw [hs]; exact hi)]
  show (w.heap.modify g _)[i]? = _
  rw [Array.getElem?_modify, if_neg (fun e => hn e.symm)]
end
def two (x : Int × Int) : List Value := [.int .i64 x.1, .int .i64 x.2]
def tri (e : Sy.Edge) : List Value := [.int .i64 e.1, .int .i64 e.2.1, .int .i64 e.2.2]
theorem zfx (x : Int × Int) : (two x).length = 2 := rfl
theorem zd8 (x : Sy.Edge) : (tri x).length = 3 := rfl
theorem zg1 (x : Int × Int) : ∀ v ∈ two x, v.oneCell' = true := by
 intro v hv; simp only [two, List.mem_cons, List.not_mem_nil, or_false] at hv; rcases hv with rfl | rfl <;> rfl
theorem zcq (x : Sy.Edge) : ∀ v ∈ tri x, v.oneCell' = true := by
 intro v hv; simp only [tri, List.mem_cons, List.not_mem_nil, or_false] at hv; rcases hv with rfl | rfl | rfl <;> rfl
def za7 (l : List (Int × Int)) : List Value := l.flatMap two
def cells3 (l : List Sy.Edge) : List Value := l.flatMap tri
theorem zbo (l : List (Int × Int)) : (za7 l).length = l.length * 2 := zd6 zfx l
theorem zbn (l : List Sy.Edge) : (cells3 l).length = l.length * 3 := zd6 zd8 l
theorem zb7 (l m : List (Int × Int)) : za7 (l ++ m) = za7 l ++ za7 m := by simp [za7]
theorem zb5 (l m : List Sy.Edge) : cells3 (l ++ m) = cells3 l ++ cells3 m := by simp [cells3]
theorem zcf (l : List (Int × Int)) : ∀ v ∈ za7 l, v.oneCell' = true := by
 intro v hv; obtain ⟨x, _, h⟩ := List.mem_flatMap.1 hv; exact zg1 x v h
theorem zjm (l : List Sy.Edge) : ∀ v ∈ cells3 l, v.oneCell' = true := by
 intro v hv; obtain ⟨x, _, h⟩ := List.mem_flatMap.1 hv; exact zcq x v h
theorem zaa {α : Type} {l : List α} {i : Nat} (d : α) (h : i < l.length) : l[i] = l.getD i d := by simp [List.getD, h]
theorem zeg (l : List (Int × Int)) (i : Nat) (h : i < l.length) : (za7 l)[i * 2]? = some (.int .i64 (l.getD i (0, 0)).1) /\ (za7 l)[i * 2 + 1]? = some (.int .i64 (l.getD i (0, 0)).2) := by
 have e := zaa (0, 0) h
 have h0 := flat_get zfx l i 0 h (by omega)
 have h1 := flat_get zfx l i 1 h (by omega)
 rw [e] at h0 h1
 exact ⟨h0, h1⟩
theorem zg2 (l : List Sy.Edge) (i : Nat) (h : i < l.length) : (cells3 l)[i * 3]? = some (.int .i64 (l.getD i (0, 0, 0)).1) /\ (cells3 l)[i * 3 + 1]? = some (.int .i64 (l.getD i (0, 0, 0)).2.1) /\
  (cells3 l)[i * 3 + 2]? = some (.int .i64 (l.getD i (0, 0, 0)).2.2) := by
 have e := zaa (0, 0, 0) h
 have h0 := flat_get zd8 l i 0 h (by omega)
 have h1 := flat_get zd8 l i 1 h (by omega)
 have h2 := flat_get zd8 l i 2 h (by omega)
 rw [e] at h0 h1 h2
 exact ⟨h0, h1, h2⟩
def zJj (w : World) (g off : Nat) (l : List (Int × Int)) : Prop :=
 ∀ i, i < l.length -> w.cell? ⟨g, off + i * 2, none⟩ = some (.int .i64 (l.getD i (0, 0)).1) /\ w.cell? ⟨g, off + i * 2 + 1, none⟩ = some (.int .i64 (l.getD i (0, 0)).2)
def zJ7 (w : World) (g off : Nat) (l : List Sy.Edge) : Prop :=
 ∀ i, i < l.length -> w.cell? ⟨g, off + i * 3, none⟩ = some (.int .i64 (l.getD i (0, 0, 0)).1) /\ w.cell? ⟨g, off + i * 3 + 1, none⟩ = some (.int .i64 (l.getD i (0, 0, 0)).2.1) /\
  w.cell? ⟨g, off + i * 3 + 2, none⟩ = some (.int .i64 (l.getD i (0, 0, 0)).2.2)
def Ls2 (w : World) (v : Value) (l : List (Int × Int)) : Prop := ∃ ao cap g off, v = .slice ao l.length cap /\ (0 < l.length -> ao = some ⟨g, off, none⟩) /\ zJj w g off l
def Ls3 (w : World) (v : Value) (l : List Sy.Edge) : Prop := ∃ ao cap g off, v = .slice ao l.length cap /\ (0 < l.length -> ao = some ⟨g, off, none⟩) /\ zJ7 w g off l
theorem Ls2.up {w w1 : World} {v : Value} {l : List (Int × Int)} (h : Ls2 w v l) (hu : Up w w1) : Ls2 w1 v l := by
 obtain ⟨ao, cap, g, off, hv, ha, hc⟩ := h
 exact ⟨ao, cap, g, off, hv, ha, fun i hi => ⟨hu.cell (hc i hi).1, hu.cell (hc i hi).2⟩⟩
theorem Ls3.up {w w1 : World} {v : Value} {l : List Sy.Edge} (h : Ls3 w v l) (hu : Up w w1) : Ls3 w1 v l := by
 obtain ⟨ao, cap, g, off, hv, ha, hc⟩ := h
 exact ⟨ao, cap, g, off, hv, ha, fun i hi => ⟨hu.cell (hc i hi).1, hu.cell (hc i hi).2.1, hu.cell (hc i hi).2.2⟩⟩
theorem Row.zKu {w : World} {g cap : Nat} {e : TypeId} {l : List (Int × Int)} (h : Row w g e cap (za7 l)) : zJj w g 0 l := by
 intro i hi
 have := zeg l i hi
 rw [Nat.zero_add]
 exact ⟨h.cell this.1, h.cell this.2⟩
theorem Row.zKr {w : World} {g cap : Nat} {e : TypeId} {l : List Sy.Edge} (h : Row w g e cap (cells3 l)) : zJ7 w g 0 l := by
 intro i hi
 have := zg2 l i hi
 rw [Nat.zero_add]
 exact ⟨h.cell this.1, h.cell this.2.1, h.cell this.2.2⟩
theorem zc6 {w : World} {base n : Nat} {e : TypeId} {v : Value} {l : List (Int × Int)} (h : w.ownsRow base e 2 v n (za7 l)) : Ls2 w v l := by
 have hn : l.length = n := by have := h.1; rw [zbo] at this; omega
 rcases za4 h with ⟨rfl, h0, _⟩ | ⟨g, cap, rfl, hr, _⟩
 ·have : l = [] := List.eq_nil_of_length_eq_zero (by omega)
  subst this
  exact ⟨none, 0, 0, 0, rfl, fun h => by simp at h, fun i hi => by simp at hi⟩
 ·exact ⟨_, _, g, 0, by rw [hn], fun _ => rfl, hr.zKu⟩
theorem zf8 {w : World} {base n : Nat} {e : TypeId} {v : Value} {l : List Sy.Edge} (h : w.ownsRow base e 3 v n (cells3 l)) : Ls3 w v l := by
 have hn : l.length = n := by have := h.1; rw [zbn] at this; omega
 rcases za4 h with ⟨rfl, h0, _⟩ | ⟨g, cap, rfl, hr, _⟩
 ·have : l = [] := List.eq_nil_of_length_eq_zero (by omega)
  subst this
  exact ⟨none, 0, 0, 0, rfl, fun h => by simp at h, fun i hi => by simp at hi⟩
 ·exact ⟨_, _, g, 0, by rw [hn], fun _ => rfl, hr.zKr⟩
theorem zJj.part {w : World} {g off : Nat} {l : List (Int × Int)} (h : zJj w g off l) (a n : Nat) (hn : a + n <= l.length) : zJj w g (off + a * 2) ((l.drop a).take n) := by
 intro i hi
 rw [List.length_take, List.length_drop] at hi
 have hh := h (a + i) (by omega)
 have e : ((l.drop a).take n).getD i (0, 0) = l.getD (a + i) (0, 0) := by
  simp only [List.getD, List.getElem?_take, List.getElem?_drop]
  rw [if_pos (by omega)]
 rw [e, show off + a * 2 + i * 2 = off + (a + i) * 2 by omega]
 exact hh
theorem permIn_all {α : Type} [Inhabited α] {d d' : Array α} (h : PermIn 0 d.size d d') : d'.size = d.size /\ d'.toList.Perm d.toList := by
 obtain ⟨h1, _, h3⟩ := h
 refine ⟨h1, ?_⟩
 have e1 : (d'.extract 0 d.size).toList = d'.toList := by rw [<- h1]; simp
 have e2 : (d.extract 0 d.size).toList = d.toList := by simp
 rwa [e1, e2] at h3
theorem znq {α : Type} [Inhabited α] {lt : α -> α -> Bool} {d : Array α} (h : SortedIn lt 0 d.size d) : d.toList.Pairwise (fun a b => lt b a = false) := by
 rw [List.pairwise_iff_getElem]
 intro i j hi hj ab
 have hi' : i < d.size := by simpa using hi
 have aa : j < d.size := by simpa using hj
 have := h i j (Nat.zero_le _) ab aa
 rw [getElem!_pos d i hi', getElem!_pos d j aa] at this
 simpa using this
theorem zo1 {α : Type} {lt : α -> α -> Bool} (T : Sy.Tot lt) : SWO lt where
 irrefl := T.irrefl
 trans := T.trans
 ntrans x y z h1 h2 := by
  rcases hb : lt x z with _ | _
  ·rfl
  ·exfalso
   rcases T.total x y with h | h | h
   ·rw [h] at h1; cases h1
   ·subst h; rw [h2] at hb; cases hb
   ·have := T.trans _ _ _ h hb; rw [this] at h2; cases h2
end Go.Proofs.YtoaoajfjcfcmhaaGreatDoor
