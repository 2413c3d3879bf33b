/- The plain law behind TermSames: the document's numbers of a store's terms in another store; terms put one behind the other into any store. No program in sight. The plain law behind the document's own Same: its list of numbers, round by round. No program in sight. -/
import Derived.Test.YtiiieailimphnaaDoorTmRMem

namespace Go.Proofs.YtiiieailimphnaaDoor.Tm

/-- A term that may not be put is not there. -/
theorem num_may {o : List T} (h : Inv o) (t : T) : (if t.may o.length = true then find o t else -1) = num o t := by
  by_cases hm : t.may o.length = true
  · rw [if_pos hm]; rfl
  · rw [if_neg hm]
    unfold num
    rw [if_neg (fun hin => hm (h.may_mem hin))]

theorem asL_succ {s o : List T} (ho : Inv o) {i : Nat} (hi : i < s.length) :
    asL s o (i + 1) = asL s o i ++ [if (s[i].renum (asL s o i)).may o.length = true then find o (s[i].renum (asL s o i)) else -1] := by
  rw [num_may ho]
  simp only [asL, List.getElem?_eq_getElem hi]

theorem asL_bound {s o : List T} (i : Nat) : ∀ x ∈ asL s o i, -1 ≤ x ∧ x < o.length ∨ x = -1 := by
  induction i with
  | zero => intro x hx; simp [asL] at hx
  | succ i ih =>
    intro x hx
    simp only [asL, List.mem_append, List.mem_singleton] at hx
    rcases hx with hx | rfl
    · exact ih x hx
    · cases s[i]? with
      | none => exact .inr rfl
      | some t =>
        simp only
        unfold num
        split
        · rename_i h
          have := List.idxOf_lt_length_iff.2 h
          left; omega
        · exact .inr rfl

/-- Same of the document. -/
theorem same_num {s o : List T} (hs : Inv s) (ho : Inv o) {a b : Nat} (ha : a < s.length) (hb : b < o.length) : decide ((asL s o (a + 1)).getD a (-1) = (b : Int)) = alike s o a b := by
  have := alike_num hs ho (a + 1) a b (by omega) ha hb
  cases h : alike s o a b
  · rw [h] at this
    simp at this
    simp [this]
  · rw [h] at this
    simpa using this

/-- The terms behind so many calls of Put, from a store on. -/
def runFrom (s l : List T) : List T := l.foldl (fun s t => (put s t).2) s

theorem runFrom_nil (s : List T) : runFrom s [] = s := rfl

theorem runFrom_take (s l : List T) (i : Nat) (h : i < l.length) : runFrom s (l.take (i + 1)) = (put (runFrom s (l.take i)) (l.getD i nilT)).2 := by
  have e : l.getD i nilT = l[i] := by simp [List.getD, h]
  rw [List.take_succ_eq_append_getElem h, runFrom, List.foldl_append, e]
  rfl

theorem runFrom_len (s l : List T) : s.length ≤ (runFrom s l).length ∧ (runFrom s l).length ≤ s.length + l.length := by
  obtain ⟨r, rfl⟩ : ∃ r : List T, l = r.reverse := ⟨l.reverse, by simp⟩
  induction r with
  | nil => simp [runFrom]
  | cons t r ih =>
    have e : runFrom s (t :: r).reverse = (put (runFrom s r.reverse) t).2 := by simp [runFrom]
    rw [e]
    have := put_len (s := runFrom s r.reverse) (t := t)
    simp only [List.reverse_cons, List.length_append, List.length_singleton]
    omega

end Go.Proofs.YtiiieailimphnaaDoor.Tm

namespace Go.Proofs.YtiiieailimphnaaDoor.Tm

/-- The list as it stands ahead of the round i: the numbers so far, then zeros. -/
def asF (s o : List T) (n i : Nat) : List Int := asL s o i ++ List.replicate (n - i) 0

theorem asF_len (s o : List T) {n i : Nat} (h : i ≤ n) : (asF s o n i).length = n := by simp [asF, asL_len]; omega

theorem asF_zero (s o : List T) (n : Nat) : asF s o n 0 = List.replicate n 0 := by simp [asF, asL]

theorem asF_end (s o : List T) (n : Nat) : asF s o n n = asL s o n := by simp [asF]

theorem asF_get (s o : List T) {n i j : Nat} (h : j < i) : (asF s o n i).getD j 0 = (asL s o i).getD j (-1) := by
  have hl : j < (asL s o i).length := by rw [asL_len]; exact h
  simp [asF, List.getD, List.getElem?_append, hl]

theorem asF_set (s o : List T) (ho : Inv o) {n i : Nat} (hi : i < s.length) (hn : i < n) {x : Int} (hx : x = if (s[i].renum (asL s o i)).may o.length = true then find o (s[i].renum (asL s o i)) else -1) : (asF s o n i).set i x = asF s o n (i + 1) := by
  unfold asF
  rw [asL_succ ho hi, ← hx]
  have e : n - i = (n - (i + 1)) + 1 := by omega
  rw [e, List.replicate_succ, List.set_append_right _ _ (by rw [asL_len]; exact Nat.le_refl _), asL_len, Nat.sub_self, List.set_cons_zero, List.append_assoc]
  rfl

theorem asF_set2 (s o : List T) (ho : Inv o) {n i : Nat} (hi : i < s.length) (hn : i < n) {x y : Int} (hx : x = if (s[i].renum (asL s o i)).may o.length = true then find o (s[i].renum (asL s o i)) else -1) : ((asF s o n i).set i y).set i x = asF s o n (i + 1) := by
  rw [List.set_set]
  exact asF_set s o ho hi hn hx

theorem asF_get2 (s o : List T) {n i j : Nat} {y : Int} (h : j < i) : ((asF s o n i).set i y).getD j 0 = (asL s o i).getD j (-1) := by
  rw [← asF_get s o (n := n) h]
  simp only [List.getD, List.getElem?_set_ne (show i ≠ j by omega)]

theorem asF_last {s o : List T} {a : Nat} : (asF s o (a + 1) (a + 1)).getD a 0 = (asL s o (a + 1)).getD a (-1) := asF_get s o (by omega)

theorem renum_34 {t : T} (aL : List Int) (h : t.kind = 3 ∨ t.kind = 4) : t.renum aL = { t with a := aL.getD t.a.toNat (-1), b := aL.getD t.b.toNat (-1) } := by rw [T.renum, if_pos h]
theorem renum_256 {t : T} (aL : List Int) (h : t.kind = 2 ∨ t.kind = 5 ∨ t.kind = 6) : t.renum aL = { t with a := aL.getD t.a.toNat (-1) } := by rw [T.renum, if_neg (by omega), if_pos h]
theorem renum_17 {t : T} (aL : List Int) (h : t.kind = 1 ∨ t.kind = 7) : t.renum aL = t := by rw [T.renum, if_neg (by omega), if_neg (by omega)]

theorem renum_lists (t : T) (aL : List Int) : (t.renum aL).names = t.names ∧ (t.renum aL).pairs = t.pairs ∧ (t.renum aL).kind = t.kind ∧ (t.renum aL).label = t.label := by
  unfold T.renum
  split
  · exact ⟨rfl, rfl, rfl, rfl⟩
  split
  · exact ⟨rfl, rfl, rfl, rfl⟩
  · exact ⟨rfl, rfl, rfl, rfl⟩

end Go.Proofs.YtiiieailimphnaaDoor.Tm
