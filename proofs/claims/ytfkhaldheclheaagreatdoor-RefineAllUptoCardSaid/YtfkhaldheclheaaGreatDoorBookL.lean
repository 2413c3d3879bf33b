/- Lists of lists of integers in memory, as the book keeps and grows them: what a store, an append and a call that makes memory leave. -/
import Derived.Test.YtfkhaldheclheaaGreatDoorMarks
namespace Go.Proofs.YtfkhaldheclheaaGreatDoor
open Go.RowKit
set_option linter.unusedVariables false
set_option linter.unusedSimpArgs false

/-- The i-th of some slices. -/
def nth (vs : List Value) (i : Nat) : Value := vs.getD i (.slice none 0 0)

/-- No two of some slices lie in one block. -/
def Apt (vs : List Value) : Prop := ∀ i j g, i < vs.length → j < vs.length → i ≠ j → (nth vs i).ownBlock = some g → (nth vs j).ownBlock ≠ some g

/-- The blocks of some slices. -/
def InV (vs : List Value) (k : Nat) : Prop := ∃ i, i < vs.length ∧ (nth vs i).ownBlock = some k

/-- Slices that read as lists. -/
def Els (w : World) (vs : List Value) (C : Nat → List Int) : Prop := ∀ i, i < vs.length → w.ownsRow 0 3 1 (nth vs i) (C i).length ((C i).map (Value.int .i64))

theorem Els.up {w w' : World} {vs : List Value} {C : Nat → List Int} (h : Els w vs C) (hu : Up w w') : Els w' vs C := fun i hi => hu.owns (h i hi)
theorem Els.lt {w : World} {vs : List Value} {C : Nat → List Int} (h : Els w vs C) {k : Nat} (hk : InV vs k) : k < w.heap.size := by
  obtain ⟨i, hi, hg⟩ := hk
  exact owns_lt (h i hi) hg

theorem nth_get {vs : List Value} {i : Nat} (h : i < vs.length) : vs[i]? = some (nth vs i) := by simp [nth, List.getD, h]

def upd (C : Nat → List Int) (i : Nat) (x : List Int) (j : Nat) : List Int := if j = i then x else C j

theorem upd_same (C : Nat → List Int) (i : Nat) (x : List Int) : upd C i x i = x := by simp [upd]
theorem upd_other {C : Nat → List Int} {i j : Nat} {x : List Int} (h : j ≠ i) : upd C i x j = C j := by simp [upd, h]

theorem Els.set {w : World} {vs : List Value} {C : Nat → List Int} (h : Els w vs C) (ha : Apt vs) {i g cap k : Nat} (hi : i < vs.length) (hv : nth vs i = .slice (some ⟨g, 0, none⟩) (C i).length cap) (x : Int) :
    Els (w.setCell ⟨g, k, none⟩ (.int .i64 x)) vs (upd C i ((C i).set k x)) := by
  intro j hj
  by_cases hji : j = i
  · subst hji
    rw [upd_same, List.length_set]
    have h0 := h j hj
    rw [hv] at h0 ⊢
    obtain ⟨hr, h1, h2, h3⟩ := Row.of h0
    have := hr.set k (.int .i64 x)
    rw [← List.map_set] at this
    exact this.owns h1 h2 (by simp)
  · rw [upd_other hji]
    refine owns_keep (h j hj) (fun k' hk => Below.heap_setCell _ _ _ _ ?_)
    rintro rfl
    exact ha i j _ hi hj (fun e => hji e.symm) (by rw [hv]; rfl) hk

/-- The first marks, the rest as it was. -/
def mix (M c : List Int) (k : Nat) : List Int := M.take k ++ c.drop k

theorem mix_zero (M c : List Int) : mix M c 0 = c := by simp [mix]
theorem mix_all {M c : List Int} (h : M.length = c.length) : mix M c c.length = M := by simp [mix, ← h]
theorem mix_len {M c : List Int} (h : M.length = c.length) {k : Nat} (hk : k ≤ c.length) : (mix M c k).length = c.length := by simp [mix]; omega
theorem mix_set {M c : List Int} (h : M.length = c.length) {k : Nat} (hk : k < c.length) : (mix M c k).set k (M.getD k 0) = mix M c (k + 1) := by
  apply List.ext_getElem?
  intro j
  simp only [mix, List.getElem?_set, List.getElem?_append, List.length_append, List.length_take, List.length_drop, List.getElem?_take, List.getElem?_drop, List.getD]
  rw [show min k M.length = k by omega, show min (k + 1) M.length = k + 1 by omega]
  by_cases h1 : k = j
  · subst h1
    rw [if_pos rfl, if_pos (by omega), if_pos (by omega), if_pos (by omega), List.getElem?_eq_getElem (by omega)]
    rfl
  · rw [if_neg h1]
    by_cases h2 : j < k
    · rw [if_pos h2, if_pos h2, if_pos (by omega), if_pos (by omega)]
    · rw [if_neg h2, if_neg (by omega)]
      congr 1; omega

/-- Rows of another element type lie elsewhere. -/
theorem Els.ne {w : World} {vs : List Value} {C : Nat → List Int} (h : Els w vs C) {base size m : Nat} {e : TypeId} {v : Value} {xs : List Value} (hv : w.ownsRow base e size v m xs) (he : e ≠ 3) {g : Nat} (hg : v.ownBlock = some g) : ¬ InV vs g := by
  rintro ⟨i, hi, hk⟩
  obtain ⟨c1, e1⟩ := owns_type hv hg
  obtain ⟨c2, e2⟩ := owns_type (h i hi) hk
  rw [e1] at e2
  simp only [Option.some.injEq, Obj.cells.injEq] at e2
  exact he e2.2.1

theorem Els.ne_box {w : World} {vs : List Value} {C : Nat → List Int} (h : Els w vs C) {g : Nat} {cs : Array Value} {e : TypeId} (hb : w.heap[g]? = some (.cells cs e (0, 0))) (he : e ≠ 3) : ¬ InV vs g := by
  rintro ⟨i, hi, hk⟩
  obtain ⟨cur, hh⟩ := owns_type (h i hi) hk
  rw [hb] at hh
  simp only [Option.some.injEq, Obj.cells.injEq] at hh
  exact he hh.2.1

end Go.Proofs.YtfkhaldheclheaaGreatDoor
