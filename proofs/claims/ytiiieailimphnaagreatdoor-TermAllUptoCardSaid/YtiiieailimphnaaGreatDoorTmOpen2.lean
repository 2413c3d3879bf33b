/- A slice of terms among the arguments, opened. A slice of terms among the arguments, opened, with what the form's own reach says of the lists in it. -/
import Derived.Test.YtiiieailimphnaaGreatDoorOpen
import Derived.Test.YtiiieailimphnaaGreatDoorTmW15
import Derived.SizedLaws

namespace Go.Proofs.YtiiieailimphnaaGreatDoor
open Go.ChangeShapes Go.WideShapes Go.Deep Go.RowKit
set_option linter.unusedVariables false
set_option linter.unusedSimpArgs false

section
variable {H : Type} {enc : TypeId × Value → H} {P : Program} {w : World} {base : Nat} {spare : Nat → Bool} {held : Bool}

theorem ints_of_trod {t e : TypeId} {v : Value} {fuel : Nat} {x : DataW H × List MemPlace} (ht : P.underlying t = some (.slice e)) (he : P.underlying e = some (.int .i64)) (hC : P.cellsOf e = 1)
    (hf : DataW.trod enc P w base spare held fuel t [v] = some x) :
    ∃ (cap g off : Nat) (ao : Option Addr) (l : List Int), v = .slice ao l.length cap ∧ l.length ≤ maxLen ∧ (0 < l.length → ao = some ⟨g, off, none⟩) ∧
      (∀ i, i < l.length → w.cell? ⟨g, off + i, none⟩ = some (.int .i64 (l.getD i 0))) ∧ (∀ i, i < l.length → (Lit.int .i64 (l.getD i 0)).wf = true) := by
  rcases open_ints ht he hC hf with ⟨hv, _⟩ | ⟨a, len, cap, zs, hv, hb, hl, hm, hz, hx, hi, hw⟩
  · simp only [List.cons.injEq, and_true] at hv
    subst hv
    exact ⟨0, 0, 0, none, [], rfl, Nat.zero_le _, fun h => by simp at h, fun i h => by simp at h, fun i h => by simp at h⟩
  · simp only [List.cons.injEq, and_true] at hv
    subst hv
    have hlz : len ≤ zs.length := by rw [hz]; split <;> omega
    have hln : (zs.take len).length = len := by rw [List.length_take]; omega
    have hg : ∀ i, i < len → (zs.take len).getD i 0 = zs.getD i 0 := by
      intro i h
      simp only [List.getD, List.getElem?_take, h, if_true]
    by_cases h0 : len = 0
    · subst h0
      exact ⟨cap, 0, 0, some a, [], rfl, Nat.zero_le _, fun h => by simp at h, fun i h => by simp at h, fun i h => by simp at h⟩
    · have ha := hi 0 (by omega)
      rw [add_zero_addr] at ha
      have hp := plain_addr ha
      obtain ⟨g, off, sp⟩ := a
      simp only [Addr.mk.injEq, true_and] at hp
      subst hp
      simp only [add_plain] at hi
      refine ⟨cap, g, off, _, zs.take len, by rw [hln], by rw [hln]; omega, fun _ => rfl, fun i h => ?_, fun i h => ?_⟩
      · rw [hln] at h; rw [hg i h]; exact hi i (by omega)
      · rw [hln] at h; rw [hg i h]
        refine hw _ ?_
        simp only [List.getD, List.getElem?_eq_getElem (show i < zs.length by omega), Option.getD_some]
        exact List.getElem_mem _

theorem ops_of_trod {t e : TypeId} {f0 f1 : Field} {v : Value} {fuel : Nat} {x : DataW H × List MemPlace} (ht : P.underlying t = some (.slice e)) (he : P.underlying e = some (.struct #[f0, f1]))
    (h0 : P.underlying f0.type = some (.int .i64)) (h1 : P.underlying f1.type = some (.int .i64)) (hone : oneCellFields P #[f0, f1] = true) (hC : P.cellsOf e = 2)
    (hf : DataW.trod enc P w base spare held fuel t [v] = some x) :
    ∃ (m cap g off : Nat) (ao : Option Addr) (l : List (Int × Int)), v = .slice ao m cap ∧ m ≤ maxLen ∧ l.length = m ∧ (0 < m → ao = some ⟨g, off, none⟩) ∧
      (∀ i, i < m → w.cell? ⟨g, off + i * 2, none⟩ = some (.int .i64 (l.getD i (0, 0)).1)) ∧ (∀ i, i < m → w.cell? ⟨g, off + i * 2 + 1, none⟩ = some (.int .i64 (l.getD i (0, 0)).2)) ∧
      (∀ i, i < m → (Lit.int .i64 (l.getD i (0, 0)).1).wf = true ∧ (Lit.int .i64 (l.getD i (0, 0)).2).wf = true) := by
  rcases open_slice_fields ht he hone hC hf with ⟨hv, _⟩ | ⟨a, len, cap, m, D, Pl, hv, hb, hl, hm, hmm, hxx, hi⟩
  · simp only [List.cons.injEq, and_true] at hv
    subst hv
    exact ⟨0, 0, 0, 0, none, [], rfl, Nat.zero_le _, rfl, fun h => by omega, fun i h => by omega, fun i h => by omega, fun i h => by omega⟩
  · simp only [List.cons.injEq, and_true] at hv
    subst hv
    have hlm : len ≤ m := by rw [hmm]; split <;> omega
    have key : ∀ i, i < len → ∃ x y : Int, w.cell? (a.add (i * 2)) = some (.int .i64 x) ∧ w.cell? (a.add (i * 2 + 1)) = some (.int .i64 y) ∧ (Lit.int .i64 x).wf = true ∧ (Lit.int .i64 y).wf = true := by
      intro i hil
      obtain ⟨ys, n, _, _, _, hfj⟩ := hi i (by omega)
      obtain ⟨v0, y0, c0, _, t0⟩ := hfj 0 f0 rfl
      obtain ⟨v1, y1, c1, _, t1⟩ := hfj 1 f1 rfl
      obtain ⟨x, hx0, _, wx⟩ := DataW.trod_int h0 t0
      obtain ⟨y, hy0, _, wy⟩ := DataW.trod_int h1 t1
      simp only [List.cons.injEq, and_true] at hx0 hy0
      subst hx0 hy0
      exact ⟨x, y, c0, c1, wx, wy⟩
    have hch : ∃ l : List (Int × Int), l.length = len ∧ ∀ i, i < len → w.cell? (a.add (i * 2)) = some (.int .i64 (l.getD i (0, 0)).1) ∧ w.cell? (a.add (i * 2 + 1)) = some (.int .i64 (l.getD i (0, 0)).2) ∧
        (Lit.int .i64 (l.getD i (0, 0)).1).wf = true ∧ (Lit.int .i64 (l.getD i (0, 0)).2).wf = true := by
      clear hi hf hlm hmm hl hm hxx
      induction len with
      | zero => exact ⟨[], rfl, fun i h => by omega⟩
      | succ len ih =>
        obtain ⟨l, hll, hlc⟩ := ih (fun i h => key i (by omega))
        obtain ⟨x, y, c0, c1, wx, wy⟩ := key len (by omega)
        refine ⟨l ++ [(x, y)], by simp [hll], fun i h => ?_⟩
        by_cases g : i < len
        · have := hlc i g
          simp only [List.getD, List.getElem?_append, hll, g, if_true] at this ⊢
          exact this
        · obtain rfl : i = len := by omega
          simp only [List.getD, List.getElem?_append, hll, Nat.lt_irrefl, if_false, Nat.sub_self, List.getElem?_cons_zero, Option.getD_some]
          exact ⟨c0, c1, wx, wy⟩
    obtain ⟨l, hll, hlc⟩ := hch
    by_cases h00 : len = 0
    · subst h00
      exact ⟨0, cap, 0, 0, some a, l, rfl, Nat.zero_le _, hll, fun h => by omega, fun i h => by omega, fun i h => by omega, fun i h => by omega⟩
    · have ha := (hlc 0 (by omega)).1
      rw [Nat.zero_mul, add_zero_addr] at ha
      have hp := plain_addr ha
      obtain ⟨g, off, sp⟩ := a
      simp only [Addr.mk.injEq, true_and] at hp
      subst hp
      simp only [add_plain] at hlc
      exact ⟨len, cap, g, off, _, l, rfl, by omega, hll, fun _ => rfl, fun i h => (hlc i h).1, fun i h => (by have := (hlc i h).2.1; rwa [← Nat.add_assoc] at this), fun i h => (hlc i h).2.2⟩


/-- One term, where it stands. -/
def TermAt (w : World) (a : Addr) (i : Nat) (t : Tm.T) : Prop := ∃ nv pv,
  (w.cell? (a.add (i * 6)) = some (.int .i64 t.kind) ∧ w.cell? (a.add (i * 6 + 1)) = some (.int .i64 t.label) ∧ w.cell? (a.add (i * 6 + 2)) = some (.int .i64 t.a) ∧ w.cell? (a.add (i * 6 + 3)) = some (.int .i64 t.b) ∧
    w.cell? (a.add (i * 6 + 4)) = some nv ∧ w.cell? (a.add (i * 6 + 5)) = some pv) ∧ TRead w t nv pv ∧ t.names.length ≤ 9223372036854775807 ∧ t.pairs.length ≤ 9223372036854775807

/-- A slice of terms, opened. -/
theorem open_terms {r : Reach} {b0 : Nat} {t e : TypeId} {f0 f1 f2 f3 f4 f5 p0 p1 : Field} {ie pe : TypeId} {v : Value} {d : DataW H} {ps : List MemPlace} (ht : P.underlying t = some (.slice e)) (he : P.underlying e = some (.struct #[f0, f1, f2, f3, f4, f5]))
    (h0 : P.underlying f0.type = some (.int .i64)) (h1 : P.underlying f1.type = some (.int .i64)) (h2 : P.underlying f2.type = some (.int .i64)) (h3 : P.underlying f3.type = some (.int .i64))
    (h4 : P.underlying f4.type = some (.slice ie)) (hie : P.underlying ie = some (.int .i64)) (hiC : P.cellsOf ie = 1)
    (h5 : P.underlying f5.type = some (.slice pe)) (hpe : P.underlying pe = some (.struct #[p0, p1])) (hp0 : P.underlying p0.type = some (.int .i64)) (hp1 : P.underlying p1.type = some (.int .i64)) (hpone : oneCellFields P #[p0, p1] = true) (hpC : P.cellsOf pe = 2)
    (hone : oneCellFields P #[f0, f1, f2, f3, f4, f5] = true) (hC : P.cellsOf e = 6)
    (hval : Value.okWide P w r b0 t v) (hd : DataW.Trod enc P w base spare held t v d ps) :
    ∃ (cap g off : Nat) (ao : Option Addr) (l : List Tm.T), v = .slice ao l.length cap ∧ l.length ≤ 9223372036854775807 ∧ (0 < l.length → ao = some ⟨g, off, none⟩) ∧ TermsAt w g off l := by
  obtain ⟨fuel, hf⟩ := hd
  have hcs : v.cells.toList = [v] := by
    obtain ⟨ao, m, cap, rfl⟩ := okWide_slice ht hval
    rfl
  rw [hcs] at hf
  rcases open_slice_fields ht he hone hC hf with ⟨hv, _⟩ | ⟨a, len, cap, m, D, Pl, hv, hb, hl, hm, hmm, hx, hi⟩
  · simp only [List.cons.injEq, and_true] at hv
    subst hv
    exact ⟨0, 0, 0, none, [], rfl, by simp, fun h => by simp at h, fun i h => by simp at h⟩
  · simp only [List.cons.injEq, and_true] at hv
    subst hv
    have hlm : len ≤ m := by rw [hmm]; split <;> omega
    have key : ∀ i, i < len → ∃ t, TermAt w a i t := by
      intro i hil
      obtain ⟨ys, n, _, _, _, hfj⟩ := hi i (by omega)
      obtain ⟨v0, y0, c0, _, t0⟩ := hfj 0 f0 rfl
      obtain ⟨v1, y1, c1, _, t1⟩ := hfj 1 f1 rfl
      obtain ⟨v2, y2, c2, _, t2⟩ := hfj 2 f2 rfl
      obtain ⟨v3, y3, c3, _, t3⟩ := hfj 3 f3 rfl
      obtain ⟨v4, y4, c4, _, t4⟩ := hfj 4 f4 rfl
      obtain ⟨v5, y5, c5, _, t5⟩ := hfj 5 f5 rfl
      obtain ⟨x0, e0, _, _⟩ := DataW.trod_int h0 t0
      obtain ⟨x1, e1, _, _⟩ := DataW.trod_int h1 t1
      obtain ⟨x2, e2, _, _⟩ := DataW.trod_int h2 t2
      obtain ⟨x3, e3, _, _⟩ := DataW.trod_int h3 t3
      simp only [List.cons.injEq, and_true] at e0 e1 e2 e3
      subst e0 e1 e2 e3
      obtain ⟨cn, gn, on, an, ln, en, hln, han, hcn, _⟩ := ints_of_trod h4 hie hiC t4
      obtain ⟨mp, cp, gp, op, ap, lp, ep, hmp, hlp, hap, hc0, hc1, _⟩ := ops_of_trod h5 hpe hp0 hp1 hpone hpC t5
      unfold maxLen at hln hmp
      subst hlp
      exact ⟨⟨x0, x1, x2, x3, ln, lp⟩, v4, v5, ⟨c0, c1, c2, c3, c4, c5⟩, ⟨⟨an, cn, gn, on, en, han, hcn⟩, ⟨ap, cp, gp, op, ep, hap, fun i hi => ⟨hc0 i hi, hc1 i hi⟩⟩⟩, by simp only; omega, by simp only; omega⟩
    have hch : ∃ l : List Tm.T, l.length = len ∧ ∀ i, i < len → TermAt w a i (l.getD i Tm.nilT) := by
      clear hi hf hlm hmm hl hm hx hcs hval
      induction len with
      | zero => exact ⟨[], rfl, fun i h => by omega⟩
      | succ len ih =>
        obtain ⟨l, hll, hlc⟩ := ih (fun i h => key i (by omega))
        obtain ⟨t, ht⟩ := key len (by omega)
        refine ⟨l ++ [t], by simp [hll], fun i h => ?_⟩
        by_cases g : i < len
        · have := hlc i g
          simp only [List.getD, List.getElem?_append, hll, g, if_true] at this ⊢
          exact this
        · obtain rfl : i = len := by omega
          simp only [List.getD, List.getElem?_append, hll, Nat.lt_irrefl, if_false, Nat.sub_self, List.getElem?_cons_zero, Option.getD_some]
          exact ht
    obtain ⟨l, hll, hlc⟩ := hch
    unfold maxLen at hm
    by_cases h00 : len = 0
    · subst h00
      exact ⟨cap, 0, 0, some a, l, by rw [hll], by omega, fun h => by omega, fun i h => by omega⟩
    · have ha := hlc 0 (by omega)
      obtain ⟨_, _, ⟨ha, _⟩, _⟩ := ha
      rw [Nat.zero_mul, add_zero_addr] at ha
      have hp := plain_addr ha
      obtain ⟨g, off, sp⟩ := a
      simp only [Addr.mk.injEq, true_and] at hp
      subst hp
      refine ⟨cap, g, off, _, l, by rw [hll], by omega, fun _ => rfl, fun i h => ?_⟩
      obtain ⟨nv, pv, hc, hr, h1, h2⟩ := hlc i (by omega)
      simp only [add_plain, ← Nat.add_assoc] at hc
      exact ⟨nv, pv, hc, hr, h1, h2⟩
end

end Go.Proofs.YtiiieailimphnaaGreatDoor

namespace Go.Proofs.YtiiieailimphnaaGreatDoor
open Go.ChangeShapes Go.WideShapes Go.Deep Go.RowKit
set_option linter.unusedVariables false
set_option linter.unusedSimpArgs false

/-- A term's two lists take no more bytes than the form's reach. -/
def TermFit (t : Tm.T) : Prop := t.names.length * 8 ≤ 140737488351232 ∧ t.pairs.length * 16 ≤ 140737488351232

section
variable {H : Type} {enc : TypeId × Value → H} {P : Program} {w : World} {base : Nat} {spare : Nat → Bool} {held : Bool}

theorem slice_weight {t e : TypeId} {ao : Option Addr} {n cap fuel : Nat} {x : DataW H × List MemPlace} (ht : P.underlying t = some (.slice e)) (hf : DataW.trod enc P w base spare held fuel t [.slice ao n cap] = some x) :
    n = 0 ∨ ∃ k, k ∈ x.1.weights P t ∧ n * P.bytesOf e ≤ k := by
  rcases open_slice ht hf with ⟨hv, _⟩ | ⟨a, len, cap', m, n', D, Pl, hv, hb, hl, hm, hmm, hx, hi⟩
  · simp only [List.cons.injEq, and_true, Value.slice.injEq] at hv
    exact .inl hv.2.1
  · simp only [List.cons.injEq, and_true, Value.slice.injEq] at hv
    obtain ⟨_, rfl, _⟩ := hv
    refine .inr ⟨(n + (m - n)) * P.bytesOf e, ?_, Nat.mul_le_mul (by omega) (Nat.le_refl _)⟩
    rw [hx]
    simp [DataW.weights, ht]

theorem weights_all {e : TypeId} {d : DataW H} {l : List (DataW H)} (h : d ∈ l) : ∀ k ∈ d.weights P e, k ∈ DataW.weightsAll P e l := by
  induction l with
  | nil => cases h
  | cons x r ih =>
    intro k hk
    simp only [DataW.weightsAll, List.mem_append]
    rcases List.mem_cons.1 h with rfl | h
    · exact .inl hk
    · exact .inr (ih h k hk)

/-- A slice of terms, opened. -/
theorem open_terms_fit {r : Reach} {b0 : Nat} {t e : TypeId} {f0 f1 f2 f3 f4 f5 p0 p1 : Field} {ie pe : TypeId} {v : Value} {d : DataW H} {ps : List MemPlace} (ht : P.underlying t = some (.slice e)) (he : P.underlying e = some (.struct #[f0, f1, f2, f3, f4, f5]))
    (h0 : P.underlying f0.type = some (.int .i64)) (h1 : P.underlying f1.type = some (.int .i64)) (h2 : P.underlying f2.type = some (.int .i64)) (h3 : P.underlying f3.type = some (.int .i64))
    (h4 : P.underlying f4.type = some (.slice ie)) (hie : P.underlying ie = some (.int .i64)) (hiC : P.cellsOf ie = 1)
    (h5 : P.underlying f5.type = some (.slice pe)) (hpe : P.underlying pe = some (.struct #[p0, p1])) (hp0 : P.underlying p0.type = some (.int .i64)) (hp1 : P.underlying p1.type = some (.int .i64)) (hpone : oneCellFields P #[p0, p1] = true) (hpC : P.cellsOf pe = 2)
    (hone : oneCellFields P #[f0, f1, f2, f3, f4, f5] = true) (hC : P.cellsOf e = 6) (hbi : P.bytesOf ie = 8) (hbp : P.bytesOf pe = 16)
    (hval : Value.okWide P w r b0 t v) (hd : DataW.Trod enc P w base spare held t v d ps) (hsz : ∀ k ∈ d.weights P t, k ≤ reachBytes) :
    ∃ (cap g off : Nat) (ao : Option Addr) (l : List Tm.T), v = .slice ao l.length cap ∧ l.length ≤ 9223372036854775807 ∧ (0 < l.length → ao = some ⟨g, off, none⟩) ∧ TermsAt w g off l ∧ ∀ i, i < l.length → TermFit (l.getD i Tm.nilT) := by
  obtain ⟨fuel, hf⟩ := hd
  have hcs : v.cells.toList = [v] := by
    obtain ⟨ao, m, cap, rfl⟩ := okWide_slice ht hval
    rfl
  rw [hcs] at hf
  rcases open_slice_fields ht he hone hC hf with ⟨hv, _⟩ | ⟨a, len, cap, m, D, Pl, hv, hb, hl, hm, hmm, hx, hi⟩
  · simp only [List.cons.injEq, and_true] at hv
    subst hv
    exact ⟨0, 0, 0, none, [], rfl, by simp, fun h => by simp at h, fun i h => by simp at h, fun i h => by simp at h⟩
  · simp only [List.cons.injEq, and_true] at hv
    subst hv
    have hlm : len ≤ m := by rw [hmm]; split <;> omega
    simp only [Prod.mk.injEq] at hx
    have key : ∀ i, i < len → ∃ t, TermAt w a i t ∧ TermFit t := by
      intro i hil
      obtain ⟨ys, n, hD, _, hyl, hfj⟩ := hi i (by omega)
      obtain ⟨v0, y0, c0, _, t0⟩ := hfj 0 f0 rfl
      obtain ⟨v1, y1, c1, _, t1⟩ := hfj 1 f1 rfl
      obtain ⟨v2, y2, c2, _, t2⟩ := hfj 2 f2 rfl
      obtain ⟨v3, y3, c3, _, t3⟩ := hfj 3 f3 rfl
      obtain ⟨v4, y4, c4, hy4, t4⟩ := hfj 4 f4 rfl
      obtain ⟨v5, y5, c5, hy5, t5⟩ := hfj 5 f5 rfl
      obtain ⟨x0, e0, _, _⟩ := DataW.trod_int h0 t0
      obtain ⟨x1, e1, _, _⟩ := DataW.trod_int h1 t1
      obtain ⟨x2, e2, _, _⟩ := DataW.trod_int h2 t2
      obtain ⟨x3, e3, _, _⟩ := DataW.trod_int h3 t3
      simp only [List.cons.injEq, and_true] at e0 e1 e2 e3
      subst e0 e1 e2 e3
      have hwt : ∀ k ∈ (D i).weights P e, k ≤ reachBytes := fun k hk => hsz k (by
        rw [hx.1]
        simp only [DataW.weights, ht, List.mem_cons, List.mem_append]
        exact .inr (.inl (weights_all (List.mem_map.2 ⟨i, List.mem_range.2 hil, rfl⟩) k hk)))
      have hw4 : ∀ k ∈ y4.1.weights P f4.type, k ≤ reachBytes := fun k hk => hwt k (by
        rw [hD]
        simp only [DataW.weights, he]
        exact DataW.weights_mem_each (j := 4) rfl (by rw [List.getElem?_map, hy4]; rfl) k hk)
      have hw5 : ∀ k ∈ y5.1.weights P f5.type, k ≤ reachBytes := fun k hk => hwt k (by
        rw [hD]
        simp only [DataW.weights, he]
        exact DataW.weights_mem_each (j := 5) rfl (by rw [List.getElem?_map, hy5]; rfl) k hk)
      obtain ⟨cn, gn, on, an, ln, en, hln, han, hcn, _⟩ := ints_of_trod h4 hie hiC t4
      obtain ⟨mp, cp, gp, op, ap, lp, ep, hmp, hlp, hap, hc0, hc1, _⟩ := ops_of_trod h5 hpe hp0 hp1 hpone hpC t5
      unfold maxLen at hln hmp
      subst hlp
      have f1' : ln.length * 8 ≤ 140737488351232 := by
        rw [en] at t4
        rcases slice_weight h4 t4 with h | ⟨k, hk, hle⟩
        · omega
        · have := hw4 k hk
          rw [hbi] at hle
          unfold reachBytes at this
          omega
      have f2' : lp.length * 16 ≤ 140737488351232 := by
        rw [ep] at t5
        rcases slice_weight h5 t5 with h | ⟨k, hk, hle⟩
        · omega
        · have := hw5 k hk
          rw [hbp] at hle
          unfold reachBytes at this
          omega
      exact ⟨⟨x0, x1, x2, x3, ln, lp⟩, ⟨v4, v5, ⟨c0, c1, c2, c3, c4, c5⟩, ⟨⟨an, cn, gn, on, en, han, hcn⟩, ⟨ap, cp, gp, op, ep, hap, fun i hi => ⟨hc0 i hi, hc1 i hi⟩⟩⟩, by simp only; omega, by simp only; omega⟩, f1', f2'⟩
    have hch : ∃ l : List Tm.T, l.length = len ∧ ∀ i, i < len → TermAt w a i (l.getD i Tm.nilT) ∧ TermFit (l.getD i Tm.nilT) := by
      clear hi hf hlm hmm hl hm hx hcs hval
      induction len with
      | zero => exact ⟨[], rfl, fun i h => by omega⟩
      | succ len ih =>
        obtain ⟨l, hll, hlc⟩ := ih (fun i h => key i (by omega))
        obtain ⟨t, ht⟩ := key len (by omega)
        refine ⟨l ++ [t], by simp [hll], fun i h => ?_⟩
        by_cases g : i < len
        · have := hlc i g
          simp only [List.getD, List.getElem?_append, hll, g, if_true] at this ⊢
          exact this
        · obtain rfl : i = len := by omega
          simp only [List.getD, List.getElem?_append, hll, Nat.lt_irrefl, if_false, Nat.sub_self, List.getElem?_cons_zero, Option.getD_some]
          exact ht
    obtain ⟨l, hll, hlc⟩ := hch
    unfold maxLen at hm
    by_cases h00 : len = 0
    · subst h00
      exact ⟨cap, 0, 0, some a, l, by rw [hll], by omega, fun h => by omega, fun i h => by omega, fun i h => by omega⟩
    · have ha := (hlc 0 (by omega)).1
      obtain ⟨_, _, ⟨ha, _⟩, _⟩ := ha
      rw [Nat.zero_mul, add_zero_addr] at ha
      have hp := plain_addr ha
      obtain ⟨g, off, sp⟩ := a
      simp only [Addr.mk.injEq, true_and] at hp
      subst hp
      refine ⟨cap, g, off, _, l, by rw [hll], by omega, fun _ => rfl, fun i h => ?_, fun i h => (hlc i (by omega)).2⟩
      obtain ⟨nv, pv, hc, hr, h1, h2⟩ := (hlc i (by omega)).1
      simp only [add_plain, ← Nat.add_assoc] at hc
      exact ⟨nv, pv, hc, hr, h1, h2⟩
end

end Go.Proofs.YtiiieailimphnaaGreatDoor
