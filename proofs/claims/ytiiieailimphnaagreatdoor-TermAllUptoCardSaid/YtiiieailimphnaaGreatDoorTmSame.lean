/- The plain law behind Same: two terms of two stores are alike just if the one, its parts numbered anew, is the other. No program in sight. -/
import Derived.Test.YtiiieailimphnaaGreatDoorTmStore
namespace Go.Proofs.YtiiieailimphnaaGreatDoor.Tm

/-- A term's parts. -/
def T.parts (t : T) : List Int := if t.kind = 3 ∨ t.kind = 4 then [t.a, t.b] else if t.kind = 2 ∨ t.kind = 5 ∨ t.kind = 6 then [t.a] else []

def T.head (x y : T) : Bool := decide (x.kind = y.kind) && decide (x.label = y.label) && decide (x.names = y.names) && decide (x.pairs = y.pairs) && (decide (x.kind ≠ 7) || decide (x.a = y.a))

/-- Are two terms alike, as far down as so many steps? -/
def alikeF (s o : List T) : Nat → Nat → Nat → Bool
  | 0, _, _ => false
  | f + 1, a, b => match s[a]?, o[b]? with
    | some x, some y => x.head y && (List.zip x.parts y.parts).all fun p => alikeF s o f p.1.toNat p.2.toNat
    | _, _ => false

def alike (s o : List T) (a b : Nat) : Bool := alikeF s o (a + 1) a b

theorem parts_lt {n : Nat} {t : T} (h : t.may n = true) : ∀ i ∈ t.parts, 0 ≤ i ∧ i < n := by
  have hh : ∀ i, has n i = true → 0 ≤ i ∧ i < n := fun i h => by simpa [has] using h
  unfold T.may at h
  unfold T.parts
  intro i hi
  split at hi
  · rename_i c
    have c1 : ¬ t.kind = 1 := by omega
    have c2 : ¬ t.kind = 2 := by omega
    rw [if_neg c1, if_neg c2, if_pos c] at h
    simp only [Bool.and_eq_true] at h
    simp only [List.mem_cons, List.not_mem_nil, or_false] at hi
    rcases hi with rfl | rfl
    · exact hh _ h.1.2
    · exact hh _ h.2
  split at hi
  · rename_i c0 c
    simp only [List.mem_cons, List.not_mem_nil, or_false] at hi
    subst hi
    have c1 : ¬ t.kind = 1 := by omega
    rw [if_neg c1] at h
    rcases c with c | c | c
    · rw [if_pos c] at h
      simp only [Bool.and_eq_true] at h
      exact hh _ h.2
    · rw [if_neg (by omega), if_neg c0, if_pos c] at h
      simp only [Bool.and_eq_true] at h
      exact hh _ h.2
    · rw [if_neg (by omega), if_neg c0, if_neg (by omega), if_pos c] at h
      simp only [Bool.and_eq_true] at h
      exact hh _ h.2
  · simp at hi

theorem alikeF_more {s o : List T} (h : Inv s) : ∀ f g a b, a < f → a < g → alikeF s o f a b = alikeF s o g a b := by
  intro f
  induction f with
  | zero => intro g a b h1; omega
  | succ f ih =>
    intro g a b h1 h2
    obtain ⟨g, rfl⟩ : ∃ g', g = g' + 1 := ⟨g - 1, by omega⟩
    simp only [alikeF]
    cases hx : s[a]? with
    | none => rfl
    | some x =>
      cases hy : o[b]? with
      | none => rfl
      | some y =>
        simp only
        congr 1
        obtain ⟨ha, rfl⟩ := List.getElem?_eq_some_iff.1 hx
        have hp := parts_lt (h.may a ha)
        rw [Bool.eq_iff_iff, List.all_eq_true, List.all_eq_true]
        constructor
        · intro hh p hpm
          have := hp p.1 (List.of_mem_zip hpm).1
          rw [← ih g _ _ (by omega) (by omega)]; exact hh p hpm
        · intro hh p hpm
          have := hp p.1 (List.of_mem_zip hpm).1
          rw [ih g _ _ (by omega) (by omega)]; exact hh p hpm

theorem alike_eq {s o : List T} (h : Inv s) {a b : Nat} (ha : a < s.length) (hb : b < o.length) :
    alike s o a b = (s[a].head o[b] && (List.zip s[a].parts o[b].parts).all fun p => alike s o p.1.toNat p.2.toNat) := by
  have hp := parts_lt (h.may a ha)
  have e : alikeF s o (a + 1) a b = (s[a].head o[b] && (List.zip s[a].parts o[b].parts).all fun p => alikeF s o a p.1.toNat p.2.toNat) := by
    simp only [alikeF, List.getElem?_eq_getElem ha, List.getElem?_eq_getElem hb]
  show alikeF s o (a + 1) a b = (s[a].head o[b] && (List.zip s[a].parts o[b].parts).all fun p => alikeF s o (p.1.toNat + 1) p.1.toNat p.2.toNat)
  rw [e]
  congr 1
  rw [Bool.eq_iff_iff, List.all_eq_true, List.all_eq_true]
  constructor
  · intro hh p hpm
    have := hp p.1 (List.of_mem_zip hpm).1
    rw [alikeF_more h (p.1.toNat + 1) a _ _ (by omega) (by omega)]; exact hh p hpm
  · intro hh p hpm
    have := hp p.1 (List.of_mem_zip hpm).1
    rw [alikeF_more h a (p.1.toNat + 1) _ _ (by omega) (by omega)]; exact hh p hpm

theorem head_refl (t : T) : t.head t = true := by simp [T.head]

/-- A term is alike itself in a store that has the same terms as far as it. -/
theorem alike_self {s o : List T} (h : Inv s) : ∀ n a, a < n → a < s.length → (∀ i, i ≤ a → o[i]? = s[i]?) → alike s o a a = true := by
  intro n
  induction n with
  | zero => intro a h1; omega
  | succ n ih =>
    intro a h1 ha ho
    have hb := ho a (Nat.le_refl _)
    rw [List.getElem?_eq_getElem ha] at hb
    obtain ⟨hb', e⟩ := List.getElem?_eq_some_iff.1 hb
    rw [alike_eq h ha hb', e, head_refl, Bool.true_and, List.all_eq_true]
    intro p hp
    have hpp : p.1 = p.2 := by
      have := List.mem_iff_getElem.1 hp
      obtain ⟨i, hi, rfl⟩ := this
      simp [List.getElem_zip]
    have hl := parts_lt (h.may a ha) p.1 (List.of_mem_zip hp).1
    rw [← hpp]
    exact ih p.1.toNat (by omega) (by omega) (fun i hi => ho i (by omega))

/-- A term with its parts numbered anew. -/
def T.renum (as : List Int) (t : T) : T :=
  if t.kind = 3 ∨ t.kind = 4 then { t with a := as.getD t.a.toNat (-1), b := as.getD t.b.toNat (-1) } else if t.kind = 2 ∨ t.kind = 5 ∨ t.kind = 6 then { t with a := as.getD t.a.toNat (-1) } else t

def num (o : List T) (t : T) : Int := if t ∈ o then (o.idxOf t : Nat) else -1

/-- The first terms of s by their numbers in o. -/
def asL (s o : List T) : Nat → List Int
  | 0 => []
  | i + 1 => asL s o i ++ [match s[i]? with | some t => num o (t.renum (asL s o i)) | none => -1]

theorem asL_len (s o : List T) (i : Nat) : (asL s o i).length = i := by
  induction i with
  | zero => rfl
  | succ i ih => simp [asL, ih]

theorem asL_get (s o : List T) : ∀ {n i : Nat}, i < n → (asL s o n).getD i (-1) = (asL s o (i + 1)).getD i (-1) := by
  intro n
  induction n with
  | zero => intro i h; omega
  | succ n ih =>
    intro i h
    by_cases e : i = n
    · subst e; rfl
    · rw [← ih (show i < n by omega)]
      simp only [asL, List.getD, List.getElem?_append, asL_len, show i < n by omega, if_true]

theorem asL_at (s o : List T) {i : Nat} (hi : i < s.length) : (asL s o (i + 1)).getD i (-1) = num o (s[i].renum (asL s o i)) := by
  simp [asL, List.getD, asL_len, List.getElem?_eq_getElem hi]

theorem num_eq {o : List T} (h : o.Nodup) {t : T} {b : Nat} (hb : b < o.length) : num o t = (b : Int) ↔ o[b] = t := by
  unfold num
  split
  · rename_i hin
    have hl := List.idxOf_lt_length_iff.2 hin
    have hg := List.getElem_idxOf hl
    constructor
    · intro e
      have e' : o.idxOf t = b := by omega
      subst e'; exact hg
    · intro e
      have : o.idxOf t = b := (List.getElem_inj h).1 (hg.trans e.symm)
      omega
  · rename_i hin
    constructor
    · intro e; omega
    · intro e; exact absurd (e ▸ List.getElem_mem hb) hin

/-- What may stand where no part and no list does. -/
theorem may_zero {n : Nat} {t : T} (h : t.may n = true) : (t.kind ≠ 3 → t.kind ≠ 4 → t.b = 0) ∧ (t.kind = 1 → t.a = 0) ∧ 1 ≤ t.kind ∧ t.kind ≤ 7 := by
  unfold T.may at h
  split at h
  · rename_i c; simp at h; exact ⟨fun _ _ => h.2.2.1, fun _ => h.2.1, by omega, by omega⟩
  split at h
  · rename_i c1 c; simp at h; exact ⟨fun _ _ => h.1.2.2.1, fun e => absurd e c1, by omega, by omega⟩
  split at h
  · rename_i c1 c2 c; exact ⟨fun a b => by omega, fun e => absurd e c1, by omega, by omega⟩
  split at h
  · rename_i c1 c2 c3 c; simp at h; exact ⟨fun _ _ => h.1.1.2.1, fun e => absurd e c1, by omega, by omega⟩
  split at h
  · rename_i c1 c2 c3 c4 c; simp at h; exact ⟨fun _ _ => h.1.1.2.1, fun e => absurd e c1, by omega, by omega⟩
  split at h
  · rename_i c1 c2 c3 c4 c5 c; simp at h; exact ⟨fun _ _ => h.2.2.2.1, fun e => absurd e c1, by omega, by omega⟩
  · cases h

theorem head_iff (x y : T) : x.head y = true ↔ x.kind = y.kind ∧ x.label = y.label ∧ x.names = y.names ∧ x.pairs = y.pairs ∧ (x.kind = 7 → x.a = y.a) := by
  simp only [T.head, Bool.and_eq_true, Bool.or_eq_true, decide_eq_true_eq]
  constructor
  · rintro ⟨⟨⟨⟨h1, h2⟩, h3⟩, h4⟩, h5⟩
    exact ⟨h1, h2, h3, h4, fun h => by rcases h5 with h5 | h5; exact absurd h h5; exact h5⟩
  · rintro ⟨h1, h2, h3, h4, h5⟩
    refine ⟨⟨⟨⟨h1, h2⟩, h3⟩, h4⟩, ?_⟩
    by_cases h : x.kind = 7
    · exact .inr (h5 h)
    · exact .inl h

/-- The law: a term of s is alike the term b of o just if b is its number there. -/
theorem alike_num {s o : List T} (hs : Inv s) (ho : Inv o) : ∀ n a b, a < n → (ha : a < s.length) → (hb : b < o.length) → (alike s o a b = true ↔ (asL s o (a + 1)).getD a (-1) = (b : Int)) := by
  intro n
  induction n with
  | zero => intro a b h1; omega
  | succ n ih =>
    intro a b h1 ha hb
    rw [alike_eq hs ha hb, asL_at s o ha, num_eq ho.nd hb]
    have hx := hs.may a ha
    have hy := ho.may b hb
    have px := parts_lt hx
    have py := parts_lt hy
    have zx := may_zero hx
    have zy := may_zero hy
    generalize s[a] = x at *
    generalize o[b] = y at *
    have key : ∀ i j : Int, 0 ≤ i ∧ i < a → 0 ≤ j ∧ j < b → (alike s o i.toNat j.toNat = true ↔ (asL s o a).getD i.toNat (-1) = j) := by
      intro i j hi hj
      rw [ih i.toNat j.toNat (by omega) (by omega) (by omega), asL_get s o (show i.toNat < a by omega), show ((j.toNat : Nat) : Int) = j by omega]
    rw [Bool.and_eq_true, head_iff, List.all_eq_true]
    obtain ⟨k, la, xa, xb, ns, ps⟩ := x
    obtain ⟨k', la', ya, yb, ns', ps'⟩ := y
    simp only [T.parts, T.renum] at px py ⊢
    simp only at zx zy
    by_cases c34 : k = 3 ∨ k = 4
    · constructor
      · rintro ⟨⟨rfl, rfl, rfl, rfl, _⟩, hall⟩
        rw [if_pos c34] at px py hall ⊢
        rw [if_pos c34] at hall
        have h1 := (key xa ya (px xa (by simp)) (py ya (by simp))).1 (hall (xa, ya) (by simp))
        have h2 := (key xb yb (px xb (by simp)) (py yb (by simp))).1 (hall (xb, yb) (by simp))
        rw [h1, h2]
      · intro e
        rw [if_pos c34] at e
        simp only [T.mk.injEq] at e
        obtain ⟨rfl, rfl, rfl, rfl, rfl, rfl⟩ := e
        rw [if_pos c34] at px py
        refine ⟨⟨rfl, rfl, rfl, rfl, fun h => by omega⟩, ?_⟩
        rw [if_pos c34, if_pos c34]
        intro p hp
        simp only [List.zip_cons_cons, List.zip_nil_left, List.mem_cons, List.not_mem_nil, or_false] at hp
        rcases hp with rfl | rfl
        · exact (key _ _ (px _ (by simp)) (py _ (by simp))).2 rfl
        · exact (key _ _ (px _ (by simp)) (py _ (by simp))).2 rfl
    · by_cases c2 : k = 2 ∨ k = 5 ∨ k = 6
      · have hxb : xb = 0 := zx.1 (fun h => c34 (.inl h)) (fun h => c34 (.inr h))
        constructor
        · rintro ⟨⟨rfl, rfl, rfl, rfl, _⟩, hall⟩
          have hyb : yb = 0 := zy.1 (fun h => c34 (.inl h)) (fun h => c34 (.inr h))
          rw [if_neg c34, if_pos c2] at px py hall ⊢
          rw [if_neg c34, if_pos c2] at hall
          have h1 := (key xa ya (px xa (by simp)) (py ya (by simp))).1 (hall (xa, ya) (by simp))
          rw [h1, hxb, hyb]
        · intro e
          rw [if_neg c34, if_pos c2] at e
          simp only [T.mk.injEq] at e
          obtain ⟨rfl, rfl, rfl, rfl, rfl, rfl⟩ := e
          rw [if_neg c34, if_pos c2] at px py
          refine ⟨⟨rfl, rfl, rfl, rfl, fun h => by omega⟩, ?_⟩
          rw [if_neg c34, if_pos c2, if_neg c34, if_pos c2]
          intro p hp
          simp only [List.zip_cons_cons, List.zip_nil_left, List.mem_cons, List.not_mem_nil, or_false] at hp
          subst hp
          exact (key _ _ (px _ (by simp)) (py _ (by simp))).2 rfl
      · have hxb : xb = 0 := zx.1 (fun h => c34 (.inl h)) (fun h => c34 (.inr h))
        rw [if_neg c34, if_neg c2, if_neg c34, if_neg c2]
        constructor
        · rintro ⟨⟨rfl, rfl, rfl, rfl, h7⟩, _⟩
          have hyb : yb = 0 := zy.1 (fun h => c34 (.inl h)) (fun h => c34 (.inr h))
          have hk : k = 1 ∨ k = 7 := by omega
          rcases hk with rfl | rfl
          · rw [zx.2.1 rfl, zy.2.1 rfl, hxb, hyb]
          · rw [h7 rfl, hxb, hyb]
        · intro e
          simp only [T.mk.injEq] at e
          obtain ⟨rfl, rfl, rfl, rfl, rfl, rfl⟩ := e
          exact ⟨⟨rfl, rfl, rfl, rfl, fun _ => rfl⟩, fun p hp => by simp at hp⟩

end Go.Proofs.YtiiieailimphnaaGreatDoor.Tm
