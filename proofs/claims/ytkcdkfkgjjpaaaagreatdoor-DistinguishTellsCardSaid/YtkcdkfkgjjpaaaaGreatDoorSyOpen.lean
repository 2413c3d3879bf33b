/- An argument that is a system, opened: its three numbers, and its edges as a slice of structs of three integers. -/
import Derived.Test.YtkcdkfkgjjpaaaaGreatDoorOpen
import Derived.Test.YtkcdkfkgjjpaaaaGreatDoorSyW2
namespace Go.Proofs.YtkcdkfkgjjpaaaaGreatDoor
open Go.ChangeShapes Go.WideShapes Go.Deep Go.RowKit
set_option linter.unusedVariables false
set_option linter.unusedSimpArgs false

section
variable {H : Type} {enc : TypeId × Value → H} {P : Program} {w : World} {base : Nat} {spare : Nat → Bool} {held : Bool}

/-- A slice of triples of integers, opened. -/
theorem tris_of_trod {t e : TypeId} {f0 f1 f2 : Field} {v : Value} {fuel : Nat} {x : DataW H × List MemPlace} (ht : P.underlying t = some (.slice e)) (he : P.underlying e = some (.struct #[f0, f1, f2]))
    (h0 : P.underlying f0.type = some (.int .i64)) (h1 : P.underlying f1.type = some (.int .i64)) (h2 : P.underlying f2.type = some (.int .i64)) (hone : oneCellFields P #[f0, f1, f2] = true) (hC : P.cellsOf e = 3)
    (hf : DataW.trod enc P w base spare held fuel t [v] = some x) : ∃ l : List Sy.Edge, Ls3 w v l ∧ l.length ≤ maxLen := by
  rcases open_slice_fields ht he hone hC hf with ⟨hv, _⟩ | ⟨a, len, cap, m, D, Pl, hv, hb, hl, hm, hmm, hxx, hi⟩
  · simp only [List.cons.injEq, and_true] at hv
    subst hv
    exact ⟨[], ⟨none, 0, 0, 0, rfl, fun h => by simp at h, fun i h => by simp at h⟩, Nat.zero_le _⟩
  · simp only [List.cons.injEq, and_true] at hv
    subst hv
    have hlm : len ≤ m := by rw [hmm]; split <;> omega
    have key : ∀ i, i < len → ∃ x y z : Int, w.cell? (a.add (i * 3)) = some (.int .i64 x) ∧ w.cell? (a.add (i * 3 + 1)) = some (.int .i64 y) ∧ w.cell? (a.add (i * 3 + 2)) = some (.int .i64 z) := by
      intro i hil
      obtain ⟨ys, n, _, _, _, hfj⟩ := hi i (by omega)
      obtain ⟨v0, y0, c0, _, t0⟩ := hfj 0 f0 rfl
      obtain ⟨v1, y1, c1, _, t1⟩ := hfj 1 f1 rfl
      obtain ⟨v2, y2, c2, _, t2⟩ := hfj 2 f2 rfl
      obtain ⟨x, hx0, _, wx⟩ := DataW.trod_int h0 t0
      obtain ⟨y, hy0, _, wy⟩ := DataW.trod_int h1 t1
      obtain ⟨z, hz0, _, wz⟩ := DataW.trod_int h2 t2
      simp only [List.cons.injEq, and_true] at hx0 hy0 hz0
      subst hx0 hy0 hz0
      exact ⟨x, y, z, c0, c1, c2⟩
    have hch : ∃ l : List Sy.Edge, l.length = len ∧ ∀ i, i < len → w.cell? (a.add (i * 3)) = some (.int .i64 (l.getD i (0, 0, 0)).1) ∧ w.cell? (a.add (i * 3 + 1)) = some (.int .i64 (l.getD i (0, 0, 0)).2.1) ∧
        w.cell? (a.add (i * 3 + 2)) = some (.int .i64 (l.getD i (0, 0, 0)).2.2) := by
      clear hi hf hlm hmm hl hm hxx
      induction len with
      | zero => exact ⟨[], rfl, fun i h => by omega⟩
      | succ len ih =>
        obtain ⟨l, hll, hlc⟩ := ih (fun i h => key i (by omega))
        obtain ⟨x, y, z, c0, c1, c2⟩ := key len (by omega)
        refine ⟨l ++ [(x, y, z)], by simp [hll], fun i h => ?_⟩
        by_cases g : i < len
        · have := hlc i g
          simp only [List.getD, List.getElem?_append, hll, g, if_true] at this ⊢
          exact this
        · obtain rfl : i = len := by omega
          simp only [List.getD, List.getElem?_append, hll, Nat.lt_irrefl, if_false, Nat.sub_self, List.getElem?_cons_zero, Option.getD_some]
          exact ⟨c0, c1, c2⟩
    obtain ⟨l, hll, hlc⟩ := hch
    by_cases h00 : len = 0
    · subst h00
      have : l = [] := List.eq_nil_of_length_eq_zero hll
      subst this
      exact ⟨[], ⟨some a, cap, 0, 0, rfl, fun h => by simp at h, fun i h => by simp at h⟩, Nat.zero_le _⟩
    · have ha := (hlc 0 (by omega)).1
      rw [Nat.zero_mul, add_zero_addr] at ha
      have hp := plain_addr ha
      obtain ⟨g, off, sp⟩ := a
      simp only [Addr.mk.injEq, true_and] at hp
      subst hp
      simp only [add_plain] at hlc
      refine ⟨l, ⟨_, cap, g, off, by rw [hll], fun _ => rfl, fun i h => ?_⟩, by omega⟩
      have := hlc i (by omega)
      simp only [← Nat.add_assoc] at this
      exact this

/-- A system among the arguments. -/
theorem open_sys {r : Reach} {b0 : Nat} {t e : TypeId} {f0 f1 f2 f3 e0 e1 e2 : Field} {v : Value} {d : DataW H} {ps : List MemPlace} (ht : P.underlying t = some (.struct #[f0, f1, f2, f3]))
    (h0 : P.underlying f0.type = some (.int .i64)) (h1 : P.underlying f1.type = some (.int .i64)) (h2 : P.underlying f2.type = some (.int .i64)) (h3 : P.underlying f3.type = some (.slice e))
    (he : P.underlying e = some (.struct #[e0, e1, e2])) (g0 : P.underlying e0.type = some (.int .i64)) (g1 : P.underlying e1.type = some (.int .i64)) (g2 : P.underlying e2.type = some (.int .i64))
    (hone4 : oneCellFields P #[f0, f1, f2, f3] = true) (hC4 : P.cellsOf t = 4) (hone : oneCellFields P #[e0, e1, e2] = true) (hC : P.cellsOf e = 3)
    (hval : Value.okWide P w r b0 t v) (hd : DataW.Trod enc P w base spare held t v d ps) :
    ∃ (s : Sy.Lts) (se : Value), v = sysV s se ∧ Ls3 w se s.es ∧ s.es.length ≤ maxLen ∧ (Lit.int .i64 s.n).wf = true ∧ (Lit.int .i64 s.m).wf = true ∧ (Lit.int .i64 s.start).wf = true := by
  obtain ⟨fuel, hf⟩ := hd
  obtain ⟨cs, rfl, hsz⟩ := okWide_struct ht hval
  obtain ⟨c0, c1, c2, c3, rfl⟩ : ∃ c0 c1 c2 c3, cs = #[c0, c1, c2, c3] := by
    rw [hC4] at hsz
    match cs, hsz with
    | ⟨[c0, c1, c2, c3]⟩, _ => exact ⟨c0, c1, c2, c3, rfl⟩
  have hcs : (Value.agg #[c0, c1, c2, c3]).cells.toList = [c0, c1, c2, c3] := rfl
  rw [hcs] at hf
  obtain ⟨ys, n', _, hy, hlen, hyl, hff⟩ := DataW.trod_struct ht hf
  have key : ∀ (j : Nat) (f : Field) (u : Value), #[f0, f1, f2, f3][j]? = some f → [c0, c1, c2, c3][j]? = some u → ∃ y, DataW.trod enc P w base spare held n' f.type [u] = some y := by
    intro j f u hj hu
    obtain ⟨ho, hk⟩ := hone_of hone4 j f hj
    have hjl : j < 4 := (Array.getElem?_eq_some_iff.1 hj).1
    have h := hff j f hj
    rw [ho, hk] at h
    have hone' : (([c0, c1, c2, c3] : List Value).drop j).take 1 = [u] := by
      have hl : j < [c0, c1, c2, c3].length := hjl
      rw [List.drop_eq_getElem_cons hl]
      have : [c0, c1, c2, c3][j] = u := by
        rw [List.getElem?_eq_getElem hl] at hu
        exact Option.some.inj hu
      rw [this]; rfl
    rw [hone'] at h
    have hys : ys[j]? = some (ys[j]'(by rw [hyl]; exact hjl)) := List.getElem?_eq_getElem _
    exact ⟨_, h.trans hys⟩
  obtain ⟨y0, t0⟩ := key 0 f0 c0 rfl rfl
  obtain ⟨y1, t1⟩ := key 1 f1 c1 rfl rfl
  obtain ⟨y2, t2⟩ := key 2 f2 c2 rfl rfl
  obtain ⟨y3, t3⟩ := key 3 f3 c3 rfl rfl
  obtain ⟨x0, q0, _, w0⟩ := DataW.trod_int h0 t0
  obtain ⟨x1, q1, _, w1⟩ := DataW.trod_int h1 t1
  obtain ⟨x2, q2, _, w2⟩ := DataW.trod_int h2 t2
  simp only [List.cons.injEq, and_true] at q0 q1 q2
  subst q0 q1 q2
  obtain ⟨l, hl, hm⟩ := tris_of_trod h3 he g0 g1 g2 hone hC t3
  exact ⟨⟨x0, x1, x2, l⟩, c3, rfl, hl, hm, w0, w1, w2⟩
end

end Go.Proofs.YtkcdkfkgjjpaaaaGreatDoor
