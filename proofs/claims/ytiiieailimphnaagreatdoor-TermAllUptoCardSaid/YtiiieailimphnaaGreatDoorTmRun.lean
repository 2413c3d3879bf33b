/- The plain law behind TermBack and TermCopied: terms put one behind the other. No program in sight. -/
import Derived.Test.YtiiieailimphnaaGreatDoorTmSame
namespace Go.Proofs.YtiiieailimphnaaGreatDoor.Tm

def nilT : T := ⟨1, 0, 0, 0, [], []⟩

/-- The terms behind so many calls of Put. -/
def run (l : List T) : List T := l.foldl (fun s t => (put s t).2) [nilT]

theorem nil_inv : Inv [nilT] := ⟨by simp, fun i h => by
  obtain rfl : i = 0 := by simpa using h
  simp [nilT, T.may]⟩

theorem run_snoc (l : List T) (t : T) : run (l ++ [t]) = (put (run l) t).2 := by simp [run]

theorem run_take (l : List T) (i : Nat) (h : i < l.length) : run (l.take (i + 1)) = (put (run (l.take i)) (l.getD i nilT)).2 := by
  rw [List.take_succ_eq_append_getElem h, run_snoc]
  simp [List.getD, h]

theorem run_inv (l : List T) : Inv (run l) := by
  obtain ⟨r, rfl⟩ : ∃ r : List T, l = r.reverse := ⟨l.reverse, by simp⟩
  induction r with
  | nil => exact nil_inv
  | cons t r ih => rw [List.reverse_cons, run_snoc]; exact put_inv ih

theorem run_len (l : List T) : 1 ≤ (run l).length ∧ (run l).length ≤ l.length + 1 := by
  obtain ⟨r, rfl⟩ : ∃ r : List T, l = r.reverse := ⟨l.reverse, by simp⟩
  induction r with
  | nil => simp [run]
  | cons t r ih =>
    rw [List.reverse_cons, run_snoc]
    have := put_len (s := run r.reverse) (t := t)
    simp only [List.length_append, List.length_singleton]
    omega

theorem put_keeps (s : List T) (t : T) (i : Nat) (h : i < s.length) : (put s t).2[i]? = s[i]? := by
  unfold put
  split
  · split
    · rfl
    · simp [List.getElem?_append, h]
  · rfl

theorem run_keeps (l : List T) (i : Nat) : ∀ d, i + d ≤ l.length → ∀ k, k < (run (l.take i)).length → (run (l.take (i + d)))[k]? = (run (l.take i))[k]? ∧ k < (run (l.take (i + d))).length := by
  intro d
  induction d with
  | zero => intro _ k hk; exact ⟨rfl, hk⟩
  | succ d ih =>
    intro hd k hk
    obtain ⟨h1, h2⟩ := ih (by omega) k hk
    rw [← Nat.add_assoc, run_take l (i + d) (by omega)]
    refine ⟨(put_keeps _ _ k h2).trans h1, ?_⟩
    have := put_len (s := run (l.take (i + d))) (t := l.getD (i + d) nilT)
    omega

/-- The number that a call told; -1: none. -/
def idOf (l : List T) (j : Nat) : Int := match (put (run (l.take j)) (l.getD j nilT)).1 with | some k => (k : Int) | none => -1

theorem idOf_some {l : List T} {j k : Nat} (h : (put (run (l.take j)) (l.getD j nilT)).1 = some k) : idOf l j = k := by unfold idOf; rw [h]
theorem idOf_none {l : List T} {j : Nat} (h : (put (run (l.take j)) (l.getD j nilT)).1 = none) : idOf l j = -1 := by unfold idOf; rw [h]

theorem put_none {s : List T} {t : T} (h : t.may s.length = false) : put s t = (none, s) := by rw [put, if_neg (by simp [h])]

/-- What was put at step j stands at its number from then on. -/
theorem stands {l : List T} {j i : Nat} (hj : j < i) (hi : i ≤ l.length) {k : Nat} (h : (put (run (l.take j)) (l.getD j nilT)).1 = some k) : (run (l.take i))[k]? = some (l.getD j nilT) := by
  obtain ⟨h1, h2, h3, h4, h5⟩ := put_some h
  rw [← run_take l j (by omega)] at h3
  have hk : k < (run (l.take (j + 1))).length := (List.getElem?_eq_some_iff.1 h3).1
  obtain ⟨d, rfl⟩ : ∃ d, i = j + 1 + d := ⟨i - (j + 1), by omega⟩
  rw [(run_keeps l (j + 1) d hi k hk).1, h3]

/-- The same term has the same number, another one another. -/
theorem same_number {l : List T} {j i : Nat} (hj : j < i) (hi : i < l.length) {k : Nat} (h : (put (run (l.take i)) (l.getD i nilT)).1 = some k) :
    (0 ≤ idOf l j → ((idOf l j = k) ↔ l.getD j nilT = l.getD i nilT)) := by
  intro h0
  cases hp : (put (run (l.take j)) (l.getD j nilT)).1 with
  | none => rw [idOf_none hp] at h0; omega
  | some k' =>
    rw [idOf_some hp]
    have s1 := stands (i := i + 1) (by omega) (by omega) hp
    have s2 := stands (i := i + 1) (by omega) (by omega) h
    constructor
    · intro e
      have e : k' = k := by omega
      subst e
      rw [s1] at s2
      exact Option.some.inj s2
    · intro e
      rw [← e] at s2
      have := nd_inj (run_inv _).nd s1 s2
      omega

/-- Parts have lesser numbers. -/
theorem put_may {s : List T} {t : T} (h : Inv s) {k : Nat} (hp : (put s t).1 = some k) : t.may k = true := by
  obtain ⟨h1, h2, h3, h4, h5⟩ := put_some hp
  obtain ⟨hk, e⟩ := List.getElem?_eq_some_iff.1 h3
  rw [← e]
  exact (put_inv h).may k hk

theorem may_parts {n : Nat} {t : T} (h : t.may n = true) : (t.kind = 1 ∨ t.kind = 7) ∨ ((t.kind = 2 ∨ t.kind = 5 ∨ t.kind = 6) ∧ t.a < n) ∨ ((t.kind = 3 ∨ t.kind = 4) ∧ t.a < n ∧ t.b < n) := by
  have hp := parts_lt h
  by_cases h34 : t.kind = 3 ∨ t.kind = 4
  · rw [T.parts, if_pos h34] at hp
    exact .inr (.inr ⟨h34, (hp t.a (by simp)).2, (hp t.b (by simp)).2⟩)
  · by_cases h256 : t.kind = 2 ∨ t.kind = 5 ∨ t.kind = 6
    · rw [T.parts, if_neg h34, if_pos h256] at hp
      exact .inr (.inl ⟨h256, (hp t.a (by simp)).2⟩)
    · left
      by_cases h1 : t.kind = 1
      · exact .inl h1
      · by_cases h7 : t.kind = 7
        · exact .inr h7
        · exfalso
          rw [T.may, if_neg h1, if_neg (by omega), if_neg h34, if_neg (by omega), if_neg (by omega), if_neg h7] at h
          cases h

/-- The list of numbers behind so many rounds. -/
def idsL (l : List T) (i : Nat) : List Int := (List.range l.length).map fun j => if j < i then idOf l j else 0

theorem idsL_len (l : List T) (i : Nat) : (idsL l i).length = l.length := by simp [idsL]
theorem idsL_zero (l : List T) : idsL l 0 = List.replicate l.length 0 := by
  refine List.ext_getElem (by simp [idsL]) (fun i h1 h2 => by simp [idsL])
theorem idsL_set (l : List T) (i : Nat) : (idsL l i).set i (idOf l i) = idsL l (i + 1) := by
  refine List.ext_getElem (by simp [idsL]) (fun k h1 h2 => ?_)
  rw [List.getElem_set]
  simp only [idsL, List.getElem_map, List.getElem_range]
  by_cases hk : i = k
  · subst hk; simp
  · rw [if_neg hk]
    by_cases hlt : k < i
    · rw [if_pos hlt, if_pos (by omega)]
    · rw [if_neg hlt, if_neg (by omega)]
theorem idsL_get (l : List T) (i j : Nat) (hj : j < i) (hi : i ≤ l.length) : (idsL l i).getD j 0 = idOf l j := by
  have : j < l.length := by omega
  simp [idsL, List.getD, this, hj]

theorem idOf_ge (l : List T) (j : Nat) : -1 ≤ idOf l j ∧ idOf l j ≤ l.length := by
  unfold idOf
  split
  · rename_i k hk
    have h1 := (put_some hk).2.1
    have h2 := (run_len (l.take j)).2
    have h3 : (l.take j).length ≤ l.length := by rw [List.length_take]; omega
    by_cases hj : j < l.length
    · have h4 : (l.take j).length = j := by rw [List.length_take]; omega
      omega
    · have hd : l.getD j nilT = nilT := by simp [List.getD, Nat.le_of_not_lt hj]
      rw [hd] at hk
      -- the term 0 stands in every run
      have hin : nilT ∈ run (l.take j) := by
        have := run_keeps (l.take j) 0 (l.take j).length (by omega) 0 (by simp [run])
        have e : (run (l.take j))[0]? = some nilT := by
          have h5 := this.1
          simp only [Nat.zero_add, List.take_length, List.take_zero] at h5
          rw [h5]; rfl
        exact List.mem_of_getElem? e
      have hm : nilT.may (run (l.take j)).length = true := by simp [T.may, nilT]
      rw [put, if_pos hm, if_pos hin] at hk
      simp only [Option.some.injEq] at hk
      have := List.idxOf_lt_length_iff.2 hin
      omega
  · omega

end Go.Proofs.YtiiieailimphnaaGreatDoor.Tm
