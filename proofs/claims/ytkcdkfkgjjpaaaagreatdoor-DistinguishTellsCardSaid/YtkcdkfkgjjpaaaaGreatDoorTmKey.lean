/- The plain law behind a term's key: decimal numerals with a blank behind each tell the numbers; the numbers tell a term that may be put. No program in sight. -/
import Derived.Lib.ItoaNum
namespace Go.Proofs.YtkcdkfkgjjpaaaaGreatDoor.Tm
open Go.Lib

/-- What digits come to. -/
def valOf (l : List UInt8) : Nat := l.foldl (fun a c => 10 * a + (c.toNat - 48)) 0

theorem valOf_snoc (l : List UInt8) (c : UInt8) : valOf (l ++ [c]) = 10 * valOf l + (c.toNat - 48) := by simp [valOf]

theorem toNat_digit (d : Nat) (h : d < 10) : (UInt8.ofNat (48 + d)).toNat = 48 + d := by
  rw [UInt8.toNat_ofNat']
  exact Nat.mod_eq_of_lt (by omega)

theorem val_dec (u : Nat) : valOf (decDigits u) = u := by
  induction u using Nat.strongRecOn with
  | _ u ih =>
    by_cases h : u < 10
    · rw [decDigits, dif_pos h]
      simp only [valOf, List.foldl_cons, List.foldl_nil]
      rw [toNat_digit u h]; omega
    · rw [decDigits, dif_neg h, valOf_snoc, ih (u / 10) (by omega), toNat_digit _ (by omega)]
      omega

theorem digit_mem (u : Nat) : ∀ c ∈ decDigits u, 48 ≤ c.toNat ∧ c.toNat ≤ 57 := by
  induction u using Nat.strongRecOn with
  | _ u ih =>
    intro c hc
    by_cases h : u < 10
    · rw [decDigits, dif_pos h, List.mem_singleton] at hc
      rw [hc, toNat_digit u h]; omega
    · rw [decDigits, dif_neg h, List.mem_append, List.mem_singleton] at hc
      rcases hc with hc | hc
      · exact ih (u / 10) (by omega) c hc
      · rw [hc, toNat_digit _ (by omega)]; omega

theorem dec_inj {u v : Nat} (h : decDigits u = decDigits v) : u = v := by rw [← val_dec u, ← val_dec v, h]

theorem dec_ne_nil (u : Nat) : decDigits u ≠ [] := by
  rw [decDigits]; split <;> simp

theorem itoa_mem (n : Int) : ∀ c ∈ itoa n, c.toNat ≠ 32 := by
  intro c hc
  unfold itoa at hc
  split at hc
  · rcases List.mem_cons.1 hc with hc | hc
    · rw [hc]; decide
    · have := digit_mem _ c hc; omega
  · have := digit_mem _ c hc; omega

theorem itoa_inj {m n : Int} (h : itoa m = itoa n) : m = n := by
  have hd : ∀ u v : Nat, decDigits u ≠ 45 :: decDigits v := by
    intro u v e
    have : (45 : UInt8) ∈ decDigits u := by rw [e]; exact List.mem_cons_self
    have := digit_mem u _ this
    have h45 : (45 : UInt8).toNat = 45 := by decide
    omega
  unfold itoa at h
  split at h <;> split at h
  · rename_i h1 h2
    have := dec_inj (List.cons.inj h).2
    omega
  · exact absurd h.symm (hd _ _)
  · exact absurd h (hd _ _)
  · have := dec_inj h; omega

/-- The key: each number, a blank behind it. -/
def enc (l : List Int) : List UInt8 := l.flatMap fun n => itoa n ++ [32]

theorem enc_cons (n : Int) (l : List Int) : enc (n :: l) = itoa n ++ 32 :: enc l := by simp [enc]
theorem enc_snoc (l : List Int) (n : Int) : enc (l ++ [n]) = enc l ++ (itoa n ++ [32]) := by simp [enc]
theorem enc_append (l m : List Int) : enc (l ++ m) = enc l ++ enc m := by simp [enc]

theorem split_blank : ∀ {a b r s : List UInt8}, (∀ c ∈ a, c.toNat ≠ 32) → (∀ c ∈ b, c.toNat ≠ 32) → a ++ 32 :: r = b ++ 32 :: s → a = b ∧ r = s
  | [], [], _, _, _, _, h => ⟨rfl, (List.cons.inj h).2⟩
  | [], c :: b, _, _, _, hb, h => by
    have := (List.cons.inj h).1
    exact absurd (by rw [← this]; decide) (hb c List.mem_cons_self)
  | c :: a, [], _, _, ha, _, h => by
    have := (List.cons.inj h).1
    exact absurd (by rw [this]; decide) (ha c List.mem_cons_self)
  | c :: a, d :: b, r, s, ha, hb, h => by
    obtain ⟨h1, h2⟩ := List.cons.inj h
    obtain ⟨h3, h4⟩ := split_blank (fun x hx => ha x (List.mem_cons_of_mem _ hx)) (fun x hx => hb x (List.mem_cons_of_mem _ hx)) h2
    exact ⟨by rw [h1, h3], h4⟩

theorem enc_inj : ∀ {l m : List Int}, enc l = enc m → l = m
  | [], [], _ => rfl
  | [], n :: m, h => by rw [enc_cons] at h; simp [enc] at h
  | n :: l, [], h => by rw [enc_cons] at h; simp [enc] at h
  | n :: l, k :: m, h => by
    rw [enc_cons, enc_cons] at h
    obtain ⟨h1, h2⟩ := split_blank (itoa_mem n) (itoa_mem k) h
    rw [itoa_inj h1, enc_inj h2]

/-- A term. -/
structure T where
  kind : Int
  label : Int
  a : Int
  b : Int
  names : List Int
  pairs : List (Int × Int)
deriving DecidableEq

def flat (l : List (Int × Int)) : List Int := l.flatMap fun p => [p.1, p.2]

theorem flat_inj : ∀ {l m : List (Int × Int)}, flat l = flat m → l = m
  | [], [], _ => rfl
  | [], p :: m, h => by simp [flat] at h
  | p :: l, [], h => by simp [flat] at h
  | p :: l, q :: m, h => by
    have h' : p.1 :: p.2 :: flat l = q.1 :: q.2 :: flat m := by simpa [flat] using h
    simp only [List.cons.injEq] at h'
    rw [flat_inj h'.2.2, Prod.ext h'.1 h'.2.1]

/-- The numbers that a term's key holds. -/
def T.seq (t : T) : List Int := [t.kind, t.label, t.a, t.b] ++ t.names ++ flat t.pairs

def isName (i : Int) : Bool := decide (0 ≤ i) && decide (i < 100)

def rising : List Int → Bool
  | [] => true
  | [x] => isName x
  | x :: y :: l => isName x && decide (x < y) && rising (y :: l)

def okPairs (l : List (Int × Int)) : Bool := (l.all fun p => isName p.2) && rising (l.map (·.1))

def has (n : Nat) (i : Int) : Bool := decide (0 ≤ i) && decide (i < n)

/-- May a term be put among n? -/
def T.may (n : Nat) (t : T) : Bool :=
  if t.kind = 1 then decide (t.label = 0 ∧ t.a = 0 ∧ t.b = 0 ∧ t.names = [] ∧ t.pairs = [])
  else if t.kind = 2 then decide (0 ≤ t.label ∧ t.label < 201 ∧ t.b = 0 ∧ t.names = [] ∧ t.pairs = []) && has n t.a
  else if t.kind = 3 ∨ t.kind = 4 then decide (t.label = 0 ∧ t.names = [] ∧ t.pairs = []) && has n t.a && has n t.b
  else if t.kind = 5 then decide (t.label = 0 ∧ t.b = 0 ∧ t.pairs = []) && rising t.names && has n t.a
  else if t.kind = 6 then decide (t.label = 0 ∧ t.b = 0 ∧ t.names = []) && okPairs t.pairs && has n t.a
  else if t.kind = 7 then decide (t.label = 0 ∧ 0 ≤ t.a ∧ t.a < 200 ∧ t.b = 0 ∧ t.names = [] ∧ t.pairs = [])
  else false

theorem may_lists {n : Nat} {t : T} (h : t.may n = true) : (t.kind = 5 ∧ t.pairs = []) ∨ (t.kind ≠ 5 ∧ t.names = []) := by
  unfold T.may at h
  split at h
  · right; simp at h; exact ⟨by omega, h.2.2.2.1⟩
  split at h
  · right; simp at h; exact ⟨by omega, h.1.2.2.2.1⟩
  split at h
  · right; simp at h; exact ⟨by omega, h.1.1.2.1⟩
  split at h
  · left; rename_i h5; simp at h; exact ⟨h5, h.1.1.2.2⟩
  split at h
  · right; simp at h; exact ⟨by omega, h.1.1.2.2⟩
  split at h
  · right; simp at h; exact ⟨by omega, h.2.2.2.2.1⟩
  · cases h

theorem seq_inj {n m : Nat} {t u : T} (ht : t.may n = true) (hu : u.may m = true) (h : t.seq = u.seq) : t = u := by
  obtain ⟨k, la, a, b, ns, ps⟩ := t
  obtain ⟨k', la', a', b', ns', ps'⟩ := u
  have hs : k = k' ∧ la = la' ∧ a = a' ∧ b = b' ∧ ns ++ flat ps = ns' ++ flat ps' := by simpa [T.seq] using h
  obtain ⟨rfl, rfl, rfl, rfl, hl⟩ := hs
  rcases may_lists ht with ⟨h5, hp⟩ | ⟨h5, hp⟩ <;> rcases may_lists hu with ⟨h5', hp'⟩ | ⟨h5', hp'⟩
  · simp only at hp hp'
    subst hp hp'
    simp [flat] at hl
    rw [hl]
  · exact absurd h5 h5'
  · exact absurd h5' h5
  · simp only at hp hp'
    subst hp hp'
    simp only [List.nil_append] at hl
    rw [flat_inj hl]

/-- The key of a term that may be put tells it. -/
theorem key_inj {n m : Nat} {t u : T} (ht : t.may n = true) (hu : u.may m = true) (h : enc t.seq = enc u.seq) : t = u := seq_inj ht hu (enc_inj h)

end Go.Proofs.YtkcdkfkgjjpaaaaGreatDoor.Tm
