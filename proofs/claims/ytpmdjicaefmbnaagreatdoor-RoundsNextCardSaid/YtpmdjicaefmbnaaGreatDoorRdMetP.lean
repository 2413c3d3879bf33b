/- Plain: what a statement looks for among steps: where steps of a label lead. No function of the program is named. -/
import Derived.Test.YtpmdjicaefmbnaaGreatDoorRdLaws
namespace Go.Proofs.YtpmdjicaefmbnaaGreatDoor.Rd
open Go.Proofs.YtpmdjicaefmbnaaGreatDoor.Sy
set_option linter.unusedVariables false
set_option linter.unusedSimpArgs false

/-- Where steps of a label lead. -/
def byL (l : List (Int × Int)) (x : Int) : List Int := (l.filter fun s => s.1 == x).map (·.2)

theorem byL_take (l : List (Int × Int)) (x : Int) (i : Nat) (h : i < l.length) : byL (l.take (i + 1)) x = if (l.getD i (0, 0)).1 = x then byL (l.take i) x ++ [(l.getD i (0, 0)).2] else byL (l.take i) x := by
  have e : l.getD i (0, 0) = l[i] := by simp [List.getD, h]
  rw [List.take_succ_eq_append_getElem h, e]
  unfold byL
  rw [List.filter_append, List.map_append]
  split
  · rename_i hx; simp [List.filter_cons, hx]
  · rename_i hx; simp [List.filter_cons, hx]

theorem byL_len (l : List (Int × Int)) (x : Int) : (byL l x).length ≤ l.length := by
  simp only [byL, List.length_map]; exact List.length_filter_le _ _

theorem byL_mem {l : List (Int × Int)} {x y : Int} (h : y ∈ byL l x) : (x, y) ∈ l := by
  simp only [byL, List.mem_map, List.mem_filter, beq_iff_eq] at h
  obtain ⟨⟨a, b⟩, ⟨h1, h2⟩, h3⟩ := h
  simp only at h2 h3
  subst h2 h3; exact h1

/-- Is one of these of a class? -/
def found (c : List Nat) (l : List Int) (k : Nat) : Bool := l.any fun y => c.getD y.toNat 0 == k

theorem found_take (c : List Nat) (l : List Int) (k i : Nat) (h : i < l.length) : found c (l.take (i + 1)) k = (found c (l.take i) k || (c.getD (l.getD i 0).toNat 0 == k)) := by
  have e : l.getD i 0 = l[i] := by simp [List.getD, h]
  simp only [found, List.take_succ_eq_append_getElem h, e, List.any_append, List.any_cons, List.any_nil, Bool.or_false]

theorem meets_eq (s : Lts) (c : List Nat) (p q : Nat) : meets s c p q = (steps s p).all fun x => found c (byL (steps s q) x.1) (c.getD x.2.toNat 0) := by
  unfold meets found byL
  congr 1
  funext x
  rw [List.any_map, List.any_filter]
  congr 1

/-- The first steps found. -/
def metTo (s : Lts) (c : List Nat) (p q : Nat) (i : Nat) : Prop := ∀ j, j < i → found c (byL (steps s q) ((steps s p).getD j (0, 0)).1) (c.getD ((steps s p).getD j (0, 0)).2.toNat 0) = true

theorem meets_all {s : Lts} {c : List Nat} {p q : Nat} (h : metTo s c p q (steps s p).length) : meets s c p q = true := by
  rw [meets_eq, List.all_eq_true]
  intro x hx
  obtain ⟨j, hj, rfl⟩ := List.mem_iff_getElem.1 hx
  have := h j hj
  rw [show (steps s p).getD j (0, 0) = (steps s p)[j] by simp [List.getD, hj]] at this
  exact this

theorem meets_not {s : Lts} {c : List Nat} {p q j : Nat} (hj : j < (steps s p).length) (h : found c (byL (steps s q) ((steps s p).getD j (0, 0)).1) (c.getD ((steps s p).getD j (0, 0)).2.toNat 0) = false) : meets s c p q = false := by
  cases e : meets s c p q
  · rfl
  · rw [meets_eq, List.all_eq_true] at e
    have := e _ (List.getElem_mem hj)
    rw [show (steps s p).getD j (0, 0) = (steps s p)[j] by simp [List.getD, hj]] at h
    rw [h] at this; cases this

end Go.Proofs.YtpmdjicaefmbnaaGreatDoor.Rd
