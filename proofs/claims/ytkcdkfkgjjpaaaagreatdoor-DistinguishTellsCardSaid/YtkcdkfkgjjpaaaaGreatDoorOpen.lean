/- Arguments opened: slices of structs of integers; the arguments of a call that turns nothing of what was there read again as they did. No function of the program is named. A slice of integers among the arguments, opened. No function of the program is named. -/
import Derived.Test.YtkcdkfkgjjpaaaaGreatDoorMem
import Derived.ReadAgain
import Derived.Deep.Slices
import Derived.Deep.Fields
import Derived.ChangeSame
import Derived.ProofKit
import Derived.RowKit
import Derived.ChangeSlices
import Derived.OpenShut

namespace Go.Proofs.YtkcdkfkgjjpaaaaGreatDoor
open Go.ChangeShapes Go.WideShapes Go.Deep Go.RowKit
set_option linter.unusedVariables false
set_option linter.unusedSimpArgs false

section
variable {H : Type} {enc : TypeId × Value → H} {P : Program} {w : World} {base : Nat} {spare : Nat → Bool} {held : Bool}

theorem open_slice_fields {t e : TypeId} {fs : Array Field} {fuel : Nat} {cs : List Value} {x : DataW H × List MemPlace} (ht : P.underlying t = some (.slice e)) (he : P.underlying e = some (.struct fs))
    (hone : oneCellFields P fs = true) (hC : P.cellsOf e = fs.size) (h : DataW.trod enc P w base spare held fuel t cs = some x) :
    (cs = [.slice none 0 0] ∧ x = (.nil, [])) ∨
    ∃ (a : Addr) (len cap m : Nat) (D : Nat → DataW H) (Pl : Nat → List MemPlace), cs = [.slice (some a) len cap] ∧ base ≤ a.block ∧ len ≤ cap ∧ cap ≤ maxLen ∧ m = (if spare a.block then cap else len) ∧
      x = (.slice ((List.range len).map D) ((List.range (m - len)).map fun j => D (len + j)), MemPlace.row a (m * fs.size) ++ (List.range m).flatMap Pl) ∧
      ∀ i, i < m → ∃ (ys : List (DataW H × List MemPlace)) (n : Nat), D i = .agg (ys.map (·.1)) ∧ Pl i = ys.flatMap (·.2) ∧ ys.length = fs.size ∧
        ∀ (j : Nat) (f : Field), fs[j]? = some f → ∃ (v : Value) (y : DataW H × List MemPlace), w.cell? (a.add (i * fs.size + j)) = some v ∧ ys[j]? = some y ∧ DataW.trod enc P w base spare held n f.type [v] = some y := by
  rcases open_slice ht h with h0 | ⟨a, len, cap, m, n, D, Pl, hcs, hb, hl, hm, hmm, hx, hi⟩
  · exact .inl h0
  · refine .inr ⟨a, len, cap, m, D, Pl, hcs, hb, hl, hm, hmm, by rw [hC] at hx; exact hx, fun i him => ?_⟩
    obtain ⟨cs', hc, ht'⟩ := hi i him
    rw [hC] at hc
    obtain ⟨ys, n', hn', hy, hlen, hyl, hf⟩ := DataW.trod_struct he ht'
    obtain ⟨_, hcl, hat⟩ := World.cells?_some hc
    simp only [Prod.mk.injEq] at hy
    refine ⟨ys, n', hy.1, hy.2, hyl, fun j f hj => ?_⟩
    obtain ⟨ho, hk⟩ := hone_of hone j f hj
    have hjl : j < fs.size := (Array.getElem?_eq_some_iff.1 hj).1
    have hcell := hat j hjl
    have hv : cs'[j]? = some (cs'[j]'(by omega)) := List.getElem?_eq_getElem (by omega)
    have h1 := hf j f hj
    rw [ho, hk] at h1
    have hone' : (cs'.drop j).take 1 = [cs'[j]'(by omega)] := by
      rw [List.drop_eq_getElem_cons (by omega)]
      rfl
    rw [hone'] at h1
    have hys : ys[j]? = some (ys[j]'(by omega)) := List.getElem?_eq_getElem (by omega)
    refine ⟨_, _, ?_, hys, h1.trans hys⟩
    rw [← Go.Deep.add_add, hcell, hv]

theorem plain_addr {a : Addr} {v : Value} (h : w.cell? a = some v) : a = ⟨a.block, a.off, none⟩ := by
  obtain ⟨b, o, s⟩ := a
  cases s with
  | none => rfl
  | some s =>
    simp only [World.cell?] at h
    split at h
    · cases h
    · cases h

theorem add_zero_addr (a : Addr) : a.add 0 = a := by simp [Addr.add]

theorem add_plain (b o i : Nat) : (⟨b, o, none⟩ : Addr).add i = ⟨b, o + i, none⟩ := by
  unfold Addr.add
  split
  · rename_i h; subst h; rfl
  · rfl

/-- A slice of pairs of integers, opened. -/
theorem open_ops {r : Reach} {b0 : Nat} {t e : TypeId} {f0 f1 : Field} {v : Value} {d : DataW H} {ps : List MemPlace} (ht : P.underlying t = some (.slice e)) (he : P.underlying e = some (.struct #[f0, f1]))
    (h0 : P.underlying f0.type = some (.int .i64)) (h1 : P.underlying f1.type = some (.int .i64)) (hone : oneCellFields P #[f0, f1] = true) (hC : P.cellsOf e = 2)
    (hval : Value.okWide P w r b0 t v) (hd : DataW.Trod enc P w base spare held t v d ps) :
    ∃ (m cap g off : Nat) (ao : Option Addr) (l : List (Int × Int)), v = .slice ao m cap ∧ m ≤ maxLen ∧ l.length = m ∧ (0 < m → ao = some ⟨g, off, none⟩) ∧
      (∀ i, i < m → w.cell? ⟨g, off + i * 2, none⟩ = some (.int .i64 (l.getD i (0, 0)).1)) ∧ (∀ i, i < m → w.cell? ⟨g, off + i * 2 + 1, none⟩ = some (.int .i64 (l.getD i (0, 0)).2)) ∧
      (∀ i, i < m → (Lit.int .i64 (l.getD i (0, 0)).1).wf = true ∧ (Lit.int .i64 (l.getD i (0, 0)).2).wf = true) := by
  obtain ⟨fuel, hf⟩ := hd
  have hcs : v.cells.toList = [v] := by
    obtain ⟨ao, m, cap, rfl⟩ := okWide_slice ht hval
    rfl
  rw [hcs] at hf
  rcases open_slice_fields ht he hone hC hf with ⟨hv, _⟩ | ⟨a, len, cap, m, D, Pl, hv, hb, hl, hm, hmm, hx, hi⟩
  · simp only [List.cons.injEq, and_true] at hv
    subst hv
    exact ⟨0, 0, 0, 0, none, [], rfl, Nat.zero_le _, rfl, fun h => by omega, fun i h => by omega, fun i h => by omega, fun i h => by omega⟩
  · simp only [List.cons.injEq, and_true] at hv
    subst hv
    have hlm : len ≤ m := by rw [hmm]; split <;> omega
    have key : ∀ i, i < len → ∃ x y : Int, w.cell? (a.add (i * 2)) = some (.int .i64 x) ∧ w.cell? (a.add (i * 2 + 1)) = some (.int .i64 y) ∧ (Lit.int .i64 x).wf = true ∧ (Lit.int .i64 y).wf = true := by
      intro i hil
      obtain ⟨ys, n, _, _, _, hfj⟩ := hi i (by omega)
      obtain ⟨v0, y0, c0, _, t0⟩ := hfj 0 f0 rfl
      obtain ⟨v1, y1, c1, _, t1⟩ := hfj 1 f1 rfl
      obtain ⟨x, hx0, _, wx⟩ := DataW.trod_int h0 t0
      obtain ⟨y, hy0, _, wy⟩ := DataW.trod_int h1 t1
      simp only [List.cons.injEq, and_true] at hx0 hy0
      subst hx0 hy0
      exact ⟨x, y, c0, c1, wx, wy⟩
    have hch : ∃ l : List (Int × Int), l.length = len ∧ ∀ i, i < len → w.cell? (a.add (i * 2)) = some (.int .i64 (l.getD i (0, 0)).1) ∧ w.cell? (a.add (i * 2 + 1)) = some (.int .i64 (l.getD i (0, 0)).2) ∧
        (Lit.int .i64 (l.getD i (0, 0)).1).wf = true ∧ (Lit.int .i64 (l.getD i (0, 0)).2).wf = true := by
      clear hi hf hlm hmm hl hm hx hcs hval
      induction len with
      | zero => exact ⟨[], rfl, fun i h => by omega⟩
      | succ len ih =>
        obtain ⟨l, hll, hlc⟩ := ih (fun i h => key i (by omega))
        obtain ⟨x, y, c0, c1, wx, wy⟩ := key len (by omega)
        refine ⟨l ++ [(x, y)], by simp [hll], fun i h => ?_⟩
        by_cases g : i < len
        · have := hlc i g
          simp only [List.getD, List.getElem?_append, hll, g, if_true] at this ⊢
          exact this
        · obtain rfl : i = len := by omega
          simp only [List.getD, List.getElem?_append, hll, Nat.lt_irrefl, if_false, Nat.sub_self, List.getElem?_cons_zero, Option.getD_some]
          exact ⟨c0, c1, wx, wy⟩
    obtain ⟨l, hll, hlc⟩ := hch
    by_cases h00 : len = 0
    · subst h00
      exact ⟨0, cap, 0, 0, some a, l, rfl, Nat.zero_le _, hll, fun h => by omega, fun i h => by omega, fun i h => by omega, fun i h => by omega⟩
    · have ha := (hlc 0 (by omega)).1
      rw [Nat.zero_mul, add_zero_addr] at ha
      have hp := plain_addr ha
      obtain ⟨g, off, sp⟩ := a
      simp only [Addr.mk.injEq, true_and] at hp
      subst hp
      simp only [add_plain] at hlc
      exact ⟨len, cap, g, off, _, l, rfl, by omega, hll, fun _ => rfl, fun i h => (hlc i h).1, fun i h => (by have := (hlc i h).2.1; rwa [← Nat.add_assoc] at this), fun i h => (hlc i h).2.2⟩

theorem trod_up {W W' : World} {sp : Nat → Bool} {hd : Bool} {t : TypeId} {v : Value} {d : DataW H} {ps : List MemPlace}
    (hB : Below W.heap.size W W') (h : DataW.Trod enc P W base sp hd t v d ps) : DataW.Trod enc P W' base sp hd t v d ps := by
  obtain ⟨n, hn⟩ := h
  exact ⟨n, DataW.trod_carry n _ _ _ hn (fun p hp => hB.same (DataW.trod_lt n _ _ _ hn p hp))⟩

theorem trodAll_up {W W' : World} {sp : Nat → Bool} {hd : Bool} (hB : Below W.heap.size W W') : ∀ {ts : List TypeId} {vs : List Value} {ds : List (DataW H)} {ps : List MemPlace},
    DataW.TrodAll enc P W base sp hd ts vs ds ps → DataW.TrodAll enc P W' base sp hd ts vs ds ps
  | [], [], [], _, h => h
  | _ :: _, _ :: _, _ :: _, _, ⟨p, q, h1, h2, e⟩ => ⟨p, q, trod_up hB h1, trodAll_up hB h2, e⟩

/-- A law that returns true and turns nothing of what was there: what a row's post asks. -/
theorem law_post {f : Func} {s : ChangeSpec} {W W' : World} {args : Array Value} {ds : List (DataW H)} {p : List MemPlace} {fresh handsOn : Bool}
    (hl : laidOutB P = true) (hm : mapsRowed P = true) (hz : ((List.range P.types.size).all fun t => match P.underlying t with | some (.slice e) => decide (0 < P.cellsOf e) | _ => true) = true)
    (hts : (f.params.toList.all fun t => decide (t < P.types.size)) = true) (hsv : s.vars = []) {bt : TypeId} (hrt : f.resultTypes = #[bt]) (hbt : P.underlying bt = some .bool)
    (hW : DataW.Whole enc P f.params.toList [] false W args.toList ds [] p) (hb : Below W.heap.size W W')
    (hfn : s.fn H (ds ++ []) = { results := [.lit (.bool true)], args := ds }) : s.post enc P f false fresh handsOn false W args (.bool true) W' := by
  have hA := hW
  obtain ⟨pa, pv, h1, hV, hp, _⟩ := hA
  obtain ⟨_, rfl⟩ := trodVars_none hV
  have hlt : ∀ x ∈ p, x.block < W.heap.size := fun x hx => hW.lt x hx
  rw [List.append_nil] at hp
  subst hp
  refine ⟨ds, [], p, [], p, [], by rw [hsv]; exact hW, ?_, ?_, ?_, hb.frame _, fun h => by cases h⟩
  · rw [hfn, hrt]; exact trodAll_mk1 (shut_bool hbt true)
  · rw [hfn]
    refine trodAll_up hb (DataW.TrodAll.respare (kids_rows hl hm) (slices_full_of P hz) ?_ h1 ?_)
    · intro t ht
      have := List.all_eq_true.1 hts t ht
      simpa using this
    · intro x hx
      simpa using hlt x hx
  · rw [hfn, hsv]; rfl
end

end Go.Proofs.YtkcdkfkgjjpaaaaGreatDoor

namespace Go.Proofs.YtkcdkfkgjjpaaaaGreatDoor
open Go.ChangeShapes Go.WideShapes Go.Deep Go.RowKit
set_option linter.unusedVariables false
set_option linter.unusedSimpArgs false

section
variable {H : Type} {enc : TypeId × Value → H} {P : Program} {w : World} {base : Nat} {spare : Nat → Bool} {held : Bool}

/-- A slice of integers, opened. -/
theorem open_intl {r : Reach} {b0 : Nat} {t e : TypeId} {v : Value} {d : DataW H} {ps : List MemPlace} (ht : P.underlying t = some (.slice e)) (he : P.underlying e = some (.int .i64)) (hC : P.cellsOf e = 1)
    (hval : Value.okWide P w r b0 t v) (hd : DataW.Trod enc P w base spare held t v d ps) :
    ∃ (cap g off : Nat) (ao : Option Addr) (l : List Int), v = .slice ao l.length cap ∧ l.length ≤ maxLen ∧ (0 < l.length → ao = some ⟨g, off, none⟩) ∧
      (∀ i, i < l.length → w.cell? ⟨g, off + i, none⟩ = some (.int .i64 (l.getD i 0))) ∧ (∀ i, i < l.length → (Lit.int .i64 (l.getD i 0)).wf = true) := by
  obtain ⟨fuel, hf⟩ := hd
  have hcs : v.cells.toList = [v] := by
    obtain ⟨ao, m, cap, rfl⟩ := okWide_slice ht hval
    rfl
  rw [hcs] at hf
  rcases open_ints ht he hC hf with ⟨hv, _⟩ | ⟨a, len, cap, zs, hv, hb, hl, hm, hz, hx, hi, hw⟩
  · simp only [List.cons.injEq, and_true] at hv
    subst hv
    exact ⟨0, 0, 0, none, [], rfl, Nat.zero_le _, fun h => by simp at h, fun i h => by simp at h, fun i h => by simp at h⟩
  · simp only [List.cons.injEq, and_true] at hv
    subst hv
    have hlz : len ≤ zs.length := by rw [hz]; split <;> omega
    have hln : (zs.take len).length = len := by rw [List.length_take]; omega
    have hg : ∀ i, i < len → (zs.take len).getD i 0 = zs.getD i 0 := by
      intro i h
      simp only [List.getD, List.getElem?_take, h, if_true]
    by_cases h0 : len = 0
    · subst h0
      exact ⟨cap, 0, 0, some a, [], rfl, Nat.zero_le _, fun h => by simp at h, fun i h => by simp at h, fun i h => by simp at h⟩
    · have ha := hi 0 (by omega)
      rw [add_zero_addr] at ha
      have hp := plain_addr ha
      obtain ⟨g, off, sp⟩ := a
      simp only [Addr.mk.injEq, true_and] at hp
      subst hp
      simp only [add_plain] at hi
      refine ⟨cap, g, off, _, zs.take len, by rw [hln], by rw [hln]; omega, fun _ => rfl, fun i h => ?_, fun i h => ?_⟩
      · rw [hln] at h; rw [hg i h]; exact hi i (by omega)
      · rw [hln] at h; rw [hg i h]
        refine hw _ ?_
        simp only [List.getD, List.getElem?_eq_getElem (show i < zs.length by omega), Option.getD_some]
        exact List.getElem_mem _
end

end Go.Proofs.YtkcdkfkgjjpaaaaGreatDoor
