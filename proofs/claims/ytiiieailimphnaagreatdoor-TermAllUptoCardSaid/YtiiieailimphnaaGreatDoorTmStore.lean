/- The plain law behind a store of terms: what Put does to the list of terms, what it keeps. No program in sight. -/
import Derived.Test.YtiiieailimphnaaGreatDoorTmKey
namespace Go.Proofs.YtiiieailimphnaaGreatDoor.Tm

theorem has_mono {n m : Nat} {i : Int} (h : has n i = true) (hm : n ≤ m) : has m i = true := by
  simp only [has, Bool.and_eq_true, decide_eq_true_eq] at h ⊢
  exact ⟨h.1, by omega⟩

theorem may_mono {n m : Nat} {t : T} (h : t.may n = true) (hm : n ≤ m) : t.may m = true := by
  unfold T.may at h ⊢
  split
  · rename_i c; rw [if_pos c] at h; exact h
  · rename_i c1; rw [if_neg c1] at h
    split
    · rename_i c; rw [if_pos c] at h
      simp only [Bool.and_eq_true] at h ⊢
      exact ⟨h.1, has_mono h.2 hm⟩
    · rename_i c2; rw [if_neg c2] at h
      split
      · rename_i c; rw [if_pos c] at h
        simp only [Bool.and_eq_true] at h ⊢
        exact ⟨⟨h.1.1, has_mono h.1.2 hm⟩, has_mono h.2 hm⟩
      · rename_i c3; rw [if_neg c3] at h
        split
        · rename_i c; rw [if_pos c] at h
          simp only [Bool.and_eq_true] at h ⊢
          exact ⟨h.1, has_mono h.2 hm⟩
        · rename_i c4; rw [if_neg c4] at h
          split
          · rename_i c; rw [if_pos c] at h
            simp only [Bool.and_eq_true] at h ⊢
            exact ⟨h.1, has_mono h.2 hm⟩
          · rename_i c5; rw [if_neg c5] at h
            exact h

/-- What Put does: the number of the term, and the terms. -/
def put (s : List T) (t : T) : Option Nat × List T :=
  if t.may s.length = true then (if t ∈ s then (some (s.idxOf t), s) else (some s.length, s ++ [t])) else (none, s)

/-- A store's terms: each once, each put among those ahead of it. -/
structure Inv (s : List T) : Prop where
  nd : s.Nodup
  may : ∀ i (h : i < s.length), (s[i]).may i = true

theorem Inv.nil : Inv [] := ⟨List.nodup_nil, fun i h => by simp at h⟩

theorem Inv.may_mem {s : List T} (h : Inv s) {t : T} (ht : t ∈ s) : t.may s.length = true := by
  obtain ⟨i, hi, rfl⟩ := List.mem_iff_getElem.1 ht
  exact may_mono (h.may i hi) (Nat.le_of_lt hi)

theorem put_inv {s : List T} {t : T} (h : Inv s) : Inv (put s t).2 := by
  unfold put
  split
  · rename_i hm
    split
    · exact h
    · rename_i hin
      refine ⟨?_, fun i hi => ?_⟩
      · rw [List.nodup_append]
        exact ⟨h.nd, by simp, fun a ha b hb e => hin (by rw [List.mem_singleton] at hb; rw [← hb, ← e]; exact ha)⟩
      · rw [List.getElem_append]
        split
        · rename_i hlt; exact h.may i hlt
        · rename_i hge
          simp only [List.length_append, List.length_singleton] at hi
          have : i = s.length := by omega
          subst this
          simpa using hm
  · exact h

theorem put_len {s : List T} {t : T} : s.length ≤ (put s t).2.length ∧ (put s t).2.length ≤ s.length + 1 := by
  unfold put
  split
  · split <;> simp
  · simp

theorem put_some {s : List T} {t : T} {k : Nat} (h : (put s t).1 = some k) : t.may s.length = true ∧ k ≤ s.length ∧ (put s t).2[k]? = some t ∧ (put s t).2.length = max s.length (k + 1) ∧ ∀ i, i < s.length → (put s t).2[i]? = s[i]? := by
  unfold put at h ⊢
  by_cases hm : t.may s.length = true
  · rw [if_pos hm] at h ⊢
    by_cases hin : t ∈ s
    · rw [if_pos hin] at h ⊢
      simp only [Option.some.injEq] at h
      have hlt := List.idxOf_lt_length_iff.2 hin
      subst h
      refine ⟨hm, by omega, ?_, by simp only; omega, fun i _ => rfl⟩
      simp only
      rw [List.getElem?_eq_getElem hlt, List.getElem_idxOf hlt]
    · rw [if_neg hin] at h ⊢
      simp only [Option.some.injEq] at h
      subst h
      exact ⟨hm, Nat.le_refl _, by simp, by simp, fun i hi => by simp [List.getElem?_append, hi]⟩
  · rw [if_neg hm] at h; cases h

theorem nd_inj {s : List T} (h : s.Nodup) {i j : Nat} {t : T} (hi : s[i]? = some t) (hj : s[j]? = some t) : i = j := by
  have li := (List.getElem?_eq_some_iff.1 hi)
  have lj := (List.getElem?_eq_some_iff.1 hj)
  obtain ⟨li, ei⟩ := li
  obtain ⟨lj, ej⟩ := lj
  exact (List.getElem_inj h).1 (ei.trans ej.symm)

/-- A term that stands there already is put at its own number, and changes nothing. -/
theorem put_again {s : List T} {t : T} (h : Inv s) (ht : t ∈ s) : put s t = (some (s.idxOf t), s) := by
  unfold put; rw [if_pos (h.may_mem ht), if_pos ht]

/-- All terms of a store, put one behind the other into another one, stand there by the same numbers. -/
theorem put_copied {s : List T} (h : Inv s) {i : Nat} (hi : i < s.length) : put (s.take i) s[i] = (some i, s.take (i + 1)) := by
  have hl : (s.take i).length = i := by rw [List.length_take]; omega
  have hnin : s[i] ∉ s.take i := by
    intro hm
    obtain ⟨j, hj, e⟩ := List.mem_iff_getElem.1 hm
    rw [List.getElem_take] at e
    rw [hl] at hj
    have := (List.getElem_inj h.nd).1 e
    omega
  unfold put
  rw [if_pos (by rw [hl]; exact h.may i hi), if_neg hnin, hl, List.take_succ_eq_append_getElem hi]

end Go.Proofs.YtiiieailimphnaaGreatDoor.Tm
