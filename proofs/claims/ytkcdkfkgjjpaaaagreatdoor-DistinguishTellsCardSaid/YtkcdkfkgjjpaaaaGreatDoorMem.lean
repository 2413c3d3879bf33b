/- Memory, for walks over objects that a call reads and writes: rows of cells at the head of a block, what a call may have turned, lists of integers as cells. No function of the program is named. -/
import Derived.Test.YtkcdkfkgjjpaaaaGreatDoorChecked
import Derived.WalkKit
import Derived.WalkSpells
import Derived.WalkLawsBesides
import Derived.Lib.Hide
namespace Go.Proofs.YtkcdkfkgjjpaaaaGreatDoor
open Go.RowKit
set_option linter.unusedVariables false
set_option linter.unusedSimpArgs false

/-- Block g is a row of cells, free to be written, that begins with xs. -/
def Row (w : World) (g : Nat) (e : TypeId) (cap : Nat) (xs : List Value) : Prop :=
  ∃ cur : Array Value, w.heap[g]? = some (.cells cur e (0, 0)) ∧ cur.size = cap ∧ xs.length ≤ cap ∧ cur.toList.take xs.length = xs

theorem Row.lt {w : World} {g cap : Nat} {e : TypeId} {xs : List Value} (h : Row w g e cap xs) : g < w.heap.size := by
  obtain ⟨cur, hg, _⟩ := h
  exact (Array.getElem?_eq_some_iff.1 hg).1

theorem Row.cell {w : World} {g cap : Nat} {e : TypeId} {xs : List Value} (h : Row w g e cap xs) {i : Nat} {u : Value} (hu : xs[i]? = some u) : w.cell? ⟨g, i, none⟩ = some u := by
  obtain ⟨cur, hg, hs, hl, ht⟩ := h
  simp only [World.cell?, hg]
  rw [← ht, List.getElem?_take] at hu
  split at hu
  · simpa using hu
  · cases hu

theorem Row.free {w : World} {g cap : Nat} {e : TypeId} {xs : List Value} (h : Row w g e cap xs) (i : Nat) : w.frozen? ⟨g, i, none⟩ = false := by
  obtain ⟨cur, hg, _⟩ := h
  simp [World.frozen?, hg]

theorem Row.keep {w w' : World} {g cap : Nat} {e : TypeId} {xs : List Value} (h : Row w g e cap xs) (hk : w'.heap[g]? = w.heap[g]?) : Row w' g e cap xs := by
  obtain ⟨cur, hg, r⟩ := h
  exact ⟨cur, hk.trans hg, r⟩

theorem Row.set {w : World} {g cap : Nat} {e : TypeId} {xs : List Value} (h : Row w g e cap xs) (i : Nat) (v : Value) : Row (w.setCell ⟨g, i, none⟩ v) g e cap (xs.set i v) := by
  obtain ⟨cur, hg, hs, hl, ht⟩ := h
  refine ⟨cur.setIfInBounds i v, ?_, by simpa using hs, by simpa using hl, ?_⟩
  · simp [World.setCell, Array.getElem?_modify, hg]
  · rw [List.length_set, Array.toList_setIfInBounds, List.take_set, ht]

theorem Row.other {w : World} {g cap : Nat} {e : TypeId} {xs : List Value} (h : Row w g e cap xs) {a : Addr} (ha : g ≠ a.block) (v : Value) : Row (w.setCell a v) g e cap xs :=
  h.keep (Below.heap_setCell w a v g ha)

theorem Row.drew {w : World} {g cap : Nat} {e : TypeId} {xs : List Value} (h : Row w g e cap xs) : Row w.drew g e cap xs := h

theorem Row.alloc {w : World} {g cap : Nat} {e : TypeId} {xs : List Value} (h : Row w g e cap xs) (o : Obj) : Row (w.alloc o) g e cap xs :=
  h.keep (Below.heap_alloc w o g h.lt)

theorem Row.new (w : World) (e : TypeId) (xs : List Value) : Row (w.alloc (.cells xs.toArray e)) w.heap.size e xs.length xs :=
  ⟨xs.toArray, heap_alloc_new w _, by simp, Nat.le_refl _, by simp⟩

theorem Row.owns {w : World} {g cap n size : Nat} {e : TypeId} {xs : List Value} (h : Row w g e (cap * size) xs) (hn : n ≤ cap) (hc : cap ≤ maxLen) (hx : xs.length = n * size) :
    w.ownsRow 0 e size (.slice (some ⟨g, 0, none⟩) n cap) n xs := by
  obtain ⟨cur, hg, hs, hl, ht⟩ := h
  exact ⟨hx, .inr ⟨g, cap, cur, rfl, Nat.zero_le _, hg, hn, hc, hs, by rw [← hx]; exact ht⟩⟩

theorem Row.of {w : World} {g cap n size base : Nat} {e : TypeId} {xs : List Value} (h : w.ownsRow base e size (.slice (some ⟨g, 0, none⟩) n cap) n xs) :
    Row w g e (cap * size) xs ∧ n ≤ cap ∧ cap ≤ maxLen ∧ xs.length = n * size := by
  obtain ⟨hx, h⟩ := h
  rcases h with ⟨h, _⟩ | ⟨g', cap', cur, hv, _, hg, hn, hc, hs, ht⟩
  · cases h
  · simp only [Value.slice.injEq, Option.some.injEq, Addr.mk.injEq, and_true, true_and] at hv
    obtain ⟨rfl, rfl⟩ := hv
    exact ⟨⟨cur, hg, hs, by rw [hx]; exact Nat.le_trans (Nat.mul_le_mul_right _ hn) (Nat.le_refl _), by rw [hx]; exact ht⟩, hn, hc, hx⟩

/-- An owned slice is nil, or begins at the head of a block. -/
theorem owns_cases {w : World} {n size base : Nat} {e : TypeId} {v : Value} {xs : List Value} (h : w.ownsRow base e size v n xs) :
    (v = .slice none 0 0 ∧ n = 0 ∧ xs = []) ∨ ∃ g cap, v = .slice (some ⟨g, 0, none⟩) n cap ∧ Row w g e (cap * size) xs ∧ n ≤ cap ∧ cap ≤ maxLen ∧ xs.length = n * size := by
  have hx := h.1
  rcases h.2 with ⟨h1, h2⟩ | ⟨g, cap, cur, hv, _⟩
  · exact .inl ⟨h1, h2, List.eq_nil_of_length_eq_zero (by rw [hx, h2]; simp)⟩
  · exact .inr ⟨g, cap, hv, Row.of (hv ▸ h)⟩

theorem owns_base {w : World} {n size base base' : Nat} {e : TypeId} {v : Value} {xs : List Value} (h : w.ownsRow base e size v n xs) (hb : base' ≤ base) : w.ownsRow base' e size v n xs := by
  refine ⟨h.1, ?_⟩
  rcases h.2 with h | ⟨g, cap, cur, a, b, r⟩
  · exact .inl h
  · exact .inr ⟨g, cap, cur, a, Nat.le_trans hb b, r⟩

theorem owns_keep {w w' : World} {n size base : Nat} {e : TypeId} {v : Value} {xs : List Value} (h : w.ownsRow base e size v n xs) (hk : ∀ g, v.ownBlock = some g → w'.heap[g]? = w.heap[g]?) : w'.ownsRow base e size v n xs := by
  refine ⟨h.1, ?_⟩
  rcases h.2 with h | ⟨g, cap, cur, rfl, b, hg, r⟩
  · exact .inl h
  · exact .inr ⟨g, cap, cur, rfl, b, (hk g rfl).trans hg, r⟩

theorem owns_lt {w : World} {n size base g : Nat} {e : TypeId} {v : Value} {xs : List Value} (h : w.ownsRow base e size v n xs) (hg : v.ownBlock = some g) : g < w.heap.size := (h.lt g hg).2

theorem owns_type {w : World} {n size base g : Nat} {e : TypeId} {v : Value} {xs : List Value} (h : w.ownsRow base e size v n xs) (hg : v.ownBlock = some g) : ∃ cur, w.heap[g]? = some (.cells cur e (0, 0)) := by
  rcases h.2 with ⟨rfl, _⟩ | ⟨g', cap, cur, rfl, b, hh, r⟩
  · cases hg
  · simp only [Value.ownBlock, Option.some.injEq] at hg
    subst hg
    exact ⟨cur, hh⟩

/-- What a call may have turned: the blocks of S, and nothing else that was there; the streams are as they were. -/
structure Turned (S : Nat → Prop) (w w' : World) : Prop where
  os : w'.os = w.os
  tape : w'.tape = w.tape
  output : w'.output = w.output
  size : w.heap.size ≤ w'.heap.size
  block : ∀ k, k < w.heap.size → ¬ S k → w'.heap[k]? = w.heap[k]?

theorem Turned.refl (S : Nat → Prop) (w : World) : Turned S w w := ⟨rfl, rfl, rfl, Nat.le_refl _, fun _ _ _ => rfl⟩

theorem Turned.trans {S T : Nat → Prop} {a b c : World} (h : Turned S a b) (k : Turned T b c) (hT : ∀ i, i < a.heap.size → T i → S i) : Turned S a c :=
  ⟨k.os.trans h.os, k.tape.trans h.tape, k.output.trans h.output, Nat.le_trans h.size k.size,
    fun i hi hs => (k.block i (Nat.lt_of_lt_of_le hi h.size) (fun ht => hs (hT i hi ht))).trans (h.block i hi hs)⟩

theorem Turned.mono {S T : Nat → Prop} {w w' : World} (h : Turned S w w') (hT : ∀ i, i < w.heap.size → S i → T i) : Turned T w w' :=
  ⟨h.os, h.tape, h.output, h.size, fun i hi ht => h.block i hi (fun hs => ht (hT i hi hs))⟩

theorem Turned.drew {S : Nat → Prop} {a w : World} (h : Turned S a w) : Turned S a w.drew := ⟨h.os, h.tape, h.output, h.size, h.block⟩

theorem Turned.drewN {S : Nat → Prop} {a w : World} (h : Turned S a w) (n : Nat) : Turned S a (w.drewN n) := ⟨h.os, h.tape, h.output, h.size, h.block⟩

theorem Turned.alloc {S : Nat → Prop} {a w : World} (h : Turned S a w) (o : Obj) : Turned S a (w.alloc o) :=
  ⟨h.os, h.tape, h.output, by have := h.size; simp; omega, fun i hi hs => (Below.heap_alloc w o i (Nat.lt_of_lt_of_le hi h.size)).trans (h.block i hi hs)⟩

theorem Turned.setCell {S : Nat → Prop} {a w : World} (h : Turned S a w) {p : Addr} (hp : S p.block ∨ a.heap.size ≤ p.block) (u : Value) : Turned S a (w.setCell p u) :=
  ⟨h.os, h.tape, h.output, by have := h.size; simpa using this, fun i hi hs => by
    refine (Below.heap_setCell w p u i ?_).trans (h.block i hi hs)
    rintro rfl
    rcases hp with hp | hp
    · exact hs hp
    · omega⟩

theorem Turned.grown {S : Nat → Prop} {a w w' : World} {row : Option Nat} (h : Turned S a w) (hg : w.grownBy w' row) (hr : ∀ k, row = some k → S k ∨ a.heap.size ≤ k) : Turned S a w' :=
  ⟨hg.os.trans h.os, hg.tape.trans h.tape, hg.output.trans h.output, Nat.le_trans h.size hg.size, fun i hi hs => by
    refine (hg.block i (Nat.lt_of_lt_of_le hi h.size) ?_).trans (h.block i hi hs)
    intro e
    rcases hr i e.symm with hp | hp
    · exact hs hp
    · omega⟩

theorem Turned.below {B : Nat} {w w' : World} (h : Below B w w') : Turned (fun k => B ≤ k) w w' :=
  ⟨h.os, h.tape, h.output, h.size, fun i _ hs => h.block i (by omega)⟩

theorem Turned.toBelow {S : Nat → Prop} {w w' : World} (h : Turned S w w') (hS : ∀ k, ¬ S k) : Below w.heap.size w w' :=
  ⟨h.os, h.tape, h.output, h.size, fun i hi => h.block i hi (hS i)⟩

theorem Turned.cell {S : Nat → Prop} {w w' : World} (h : Turned S w w') {p : Addr} {v : Value} (hc : w.cell? p = some v) (hp : ¬ S p.block) : w'.cell? p = some v :=
  (World.cell?_of_block (w := w) (h.block p.block (World.block_lt_of_cell? w p hc) hp)).trans hc

theorem Turned.free {S : Nat → Prop} {w w' : World} (h : Turned S w w') {p : Addr} (hl : p.block < w.heap.size) (hp : ¬ S p.block) : w'.frozen? p = w.frozen? p :=
  World.frozen?_of_block (w := w) (h.block p.block hl hp)

/-! ### Lists of integers as cells -/

def ints (l : List Nat) : List Value := l.map fun n : Nat => Value.int .i64 (n : Int)

theorem ints_length (l : List Nat) : (ints l).length = l.length := by simp [ints]

theorem ints_get {l : List Nat} {i : Nat} (h : i < l.length) : (ints l)[i]? = some (.int .i64 (l.getD i 0 : Nat)) := by
  simp [ints, h]

theorem ints_set (l : List Nat) (i v : Nat) : ints (l.set i v) = (ints l).set i (.int .i64 (v : Int)) := by
  simp [ints, List.map_set]

theorem ints_append (l m : List Nat) : ints (l ++ m) = ints l ++ ints m := by simp [ints]

theorem ints_oneCell' (l : List Nat) : ∀ u ∈ ints l, u.oneCell' = true := by
  intro u hu
  obtain ⟨_, _, rfl⟩ := List.mem_map.1 hu
  rfl

theorem ints_zero (n : Nat) : ints (List.replicate n 0) = List.replicate n (Value.int .i64 0) := by simp [ints]

end Go.Proofs.YtkcdkfkgjjpaaaaGreatDoor
