/- The document's rounds are the rounds: a signature as rising numbers tells what a signature tells; the rounds end where no class is new. No function of the program is named. Plain: the document's sort: two sorted halves merged, each element once; its signature, a number put in among rising ones; its search for a class. No function of the program is named. -/
import Derived.Test.YtkcdkfkgjjpaaaaGreatDoorRdLaws
import Derived.Test.YtkcdkfkgjjpaaaaGreatDoorTmKey

namespace Go.Proofs.YtkcdkfkgjjpaaaaGreatDoor.Rd
open Go.Proofs.YtkcdkfkgjjpaaaaGreatDoor.Sy
set_option linter.unusedVariables false
set_option linter.unusedSimpArgs false

def ltI (a b : Int) : Bool := decide (a < b)

theorem totI : Tot ltI where
  irrefl a := by simp [ltI]
  trans a b c h1 h2 := by simp [ltI] at *; omega
  total a b := by simp [ltI]; omega

/-- A step's number by some classes. -/
def num (c : List Nat) (x : Int × Int) : Int := x.1 * 1001 + ((c.getD x.2.toNat 0 : Nat) : Int)

/-- The signature as rising numbers. -/
def refSig (c : List Nat) (l : List (Int × Int)) : List Int := norm ltI (l.map (num c))

/-- The classes of a round are small. -/
def Small (c : List Nat) : Prop := ∀ i, c.getD i 0 ≤ 1000

theorem num_inj {c : List Nat} (hc : Small c) {x y : Int × Int} (h : num c x = num c y) : x.1 = y.1 ∧ c.getD x.2.toNat 0 = c.getD y.2.toNat 0 := by
  have h1 := hc x.2.toNat
  have h2 := hc y.2.toNat
  unfold num at h
  omega

theorem refSig_iff {c : List Nat} (hc : Small c) (a b : List (Int × Int)) : refSig c a = refSig c b ↔
    norm lt2 (a.map fun x => (x.1, ((c.getD x.2.toNat 0 : Nat) : Int))) = norm lt2 (b.map fun x => (x.1, ((c.getD x.2.toNat 0 : Nat) : Int))) := by
  unfold refSig
  rw [norm_eq_iff totI, norm_eq_iff tot2]
  have key : ∀ (l : List (Int × Int)) (x : Int × Int), num c x ∈ l.map (num c) ↔ (x.1, ((c.getD x.2.toNat 0 : Nat) : Int)) ∈ l.map fun x => (x.1, ((c.getD x.2.toNat 0 : Nat) : Int)) := by
    intro l x
    simp only [List.mem_map]
    constructor
    · rintro ⟨y, hy, e⟩
      obtain ⟨e1, e2⟩ := num_inj hc e
      exact ⟨y, hy, by rw [e1, e2]⟩
    · rintro ⟨y, hy, e⟩
      simp only [Prod.mk.injEq] at e
      exact ⟨y, hy, by unfold num; rw [e.1, e.2]⟩
  constructor
  · intro h z
    constructor
    · intro hz
      obtain ⟨x, hx, rfl⟩ := List.mem_map.1 hz
      exact (key b x).1 ((h _).1 (List.mem_map_of_mem hx))
    · intro hz
      obtain ⟨x, hx, rfl⟩ := List.mem_map.1 hz
      exact (key a x).1 ((h _).2 (List.mem_map_of_mem hx))
  · intro h z
    constructor
    · intro hz
      obtain ⟨x, hx, rfl⟩ := List.mem_map.1 hz
      exact (key b x).2 ((h _).1 (List.mem_map.2 ⟨x, hx, rfl⟩))
    · intro hz
      obtain ⟨x, hx, rfl⟩ := List.mem_map.1 hz
      exact (key a x).2 ((h _).2 (List.mem_map.2 ⟨x, hx, rfl⟩))

def refSigs (s : Lts) (c : List Nat) : List (Nat × List Int) := (List.range c.length).map fun p => (c.getD p 0, refSig c (steps s p))

theorem refNext_eq (s : Lts) (c : List Nat) (hc : Small c) : canon (refSigs s c) = next s c := by
  unfold next
  refine canon_congr _ _ (by simp [refSigs, sigs]) (fun i j hi hj => ?_)
  simp only [refSigs, sigs, sig, List.getElem_map, List.getElem_range, Prod.mk.injEq, refSig_iff hc]

theorem next_small (s : Lts) (c : List Nat) (h : c.length ≤ 1000) : Small (next s c) := by
  intro i
  by_cases hi : i < (next s c).length
  · have hl : (next s c).length = c.length := next_len s c
    have := canon_lt (sigs s c) i (by rw [sigs_len]; omega)
    have h2 := seen_len (sigs s c)
    rw [sigs_len] at h2
    show (canon (sigs s c)).getD i 0 ≤ 1000
    omega
  · simp [List.getD, List.getElem?_eq_none (Nat.le_of_not_lt hi)]

theorem R_lt (s : Lts) (k p : Nat) (h : p < s.n.toNat) : (R s k).getD p 0 < s.n.toNat := by
  cases k with
  | zero => rw [R_zero]; omega
  | succ k =>
    have hl : (R s k).length = s.n.toNat := R_len s k
    have := canon_lt (sigs s (R s k)) p (by rw [sigs_len]; omega)
    have h2 := seen_len (sigs s (R s k))
    rw [sigs_len] at h2
    show (canon (sigs s (R s k))).getD p 0 < _
    omega

theorem R_small (s : Lts) (k : Nat) (h : s.n.toNat ≤ 1000) : Small (R s k) := by
  intro i
  by_cases hi : i < s.n.toNat
  · have := R_lt s k i hi; omega
  · simp [List.getD, List.getElem?_eq_none (show (R s k).length ≤ i by rw [R_len]; omega)]

/-- No new class is no new round. -/
theorem next_same (s : Lts) (k : Nat) : cls (R s (k + 1)) = cls (R s k) ↔ R s (k + 1) = R s k := by
  constructor
  · intro h
    by_cases e : R s (k + 1) = R s k
    · exact e
    · have := R_more s k e; omega
  · intro h; rw [h]

/-! ### The signature as a text -/

open Go.Proofs.YtkcdkfkgjjpaaaaGreatDoor.Tm in
/-- A state's signature as the program's map keeps it: its class, and each label and class in decimal numerals, a blank behind each. -/
def text (l : List (Int × Int)) : List UInt8 := enc (flat l)

theorem text_inj {l m : List (Int × Int)} (h : text l = text m) : l = m := Tm.flat_inj (Tm.enc_inj h)

end Go.Proofs.YtkcdkfkgjjpaaaaGreatDoor.Rd

namespace Go.Proofs.YtkcdkfkgjjpaaaaGreatDoor.Rd
open Go.Proofs.YtkcdkfkgjjpaaaaGreatDoor.Sy
set_option linter.unusedVariables false
set_option linter.unusedSimpArgs false
set_option linter.unusedSectionVars false

section
variable {α : Type} [DecidableEq α] {lt : α → α → Bool}

/-- Where a merge stands: i of a and k of b are taken, M are the taken ones in their order. -/
def Merged (lt : α → α → Bool) (a b : List α) (i k : Nat) (out : List α) : Prop :=
  ∃ M : List α, out = cpt M ∧ M.Pairwise (fun x y => lt y x = false) ∧ (∀ x, x ∈ M ↔ x ∈ a.take i ∨ x ∈ b.take k) ∧ (∀ x ∈ M, ∀ y ∈ a.drop i, lt y x = false) ∧ (∀ x ∈ M, ∀ y ∈ b.drop k, lt y x = false)

theorem Merged.start (a b : List α) : Merged lt a b 0 0 [] := ⟨[], rfl, List.Pairwise.nil, by simp, by simp, by simp⟩

theorem addNew_cpt (M : List α) (x : α) : addNew (cpt M) x = cpt (M ++ [x]) := by
  rw [cpt_snoc]; rfl

theorem mem_drop_split {l : List α} {i : Nat} (h : i < l.length) {y : α} (hy : y ∈ l.drop i) : y = l[i] ∨ y ∈ l.drop (i + 1) := by
  rw [List.drop_eq_getElem_cons h] at hy
  exact List.mem_cons.1 hy

theorem drop_after {l : List α} {i : Nat} (h : i < l.length) (hl : l.Pairwise (fun a b => lt a b = true)) {y : α} (hy : y ∈ l.drop (i + 1)) : lt l[i] y = true := by
  have h1 := hl.drop (i := i)
  rw [List.drop_eq_getElem_cons h, List.pairwise_cons] at h1
  exact h1.1 y hy

theorem tot_asym (T : Tot lt) {a b : α} (h : lt a b = true) : lt b a = false := by
  cases e : lt b a
  · rfl
  · have := T.trans _ _ _ h e
    rw [T.irrefl] at this; cases this

theorem Merged.left (T : Tot lt) {a b : List α} {i k : Nat} {out : List α} (h : Merged lt a b i k out) (ha : a.Pairwise (fun a b => lt a b = true)) (hb : b.Pairwise (fun a b => lt a b = true)) (hi : i < a.length)
    (hk : b.length ≤ k ∨ ∃ hk : k < b.length, lt b[k] a[i] = false) : Merged lt a b (i + 1) k (addNew out a[i]) := by
  obtain ⟨M, rfl, h1, h2, h3, h4⟩ := h
  have hin : a[i] ∈ a.drop i := List.mem_drop_iff_getElem.2 ⟨0, by omega, by simp⟩
  refine ⟨M ++ [a[i]], addNew_cpt M _, ?_, ?_, ?_, ?_⟩
  · rw [List.pairwise_append]
    exact ⟨h1, by simp, fun x hx y hy => by rw [List.mem_singleton.1 hy]; exact h3 x hx _ hin⟩
  · intro x
    rw [List.mem_append, List.mem_singleton, h2, List.take_succ_eq_append_getElem hi, List.mem_append, List.mem_singleton]
    constructor
    · rintro ((h | h) | h)
      · exact .inl (.inl h)
      · exact .inr h
      · exact .inl (.inr h)
    · rintro ((h | h) | h)
      · exact .inl (.inl h)
      · exact .inr h
      · exact .inl (.inr h)
  · intro x hx y hy
    rcases List.mem_append.1 hx with hx | hx
    · exact h3 x hx y (by rw [List.drop_eq_getElem_cons hi]; exact List.mem_cons_of_mem _ hy)
    · rw [List.mem_singleton.1 hx]; exact tot_asym T (drop_after hi ha hy)
  · intro x hx y hy
    rcases List.mem_append.1 hx with hx | hx
    · exact h4 x hx y hy
    · rw [List.mem_singleton.1 hx]
      rcases hk with hk | ⟨hk, he⟩
      · rw [List.drop_eq_nil_of_le hk] at hy; cases hy
      · rcases mem_drop_split hk hy with rfl | hy
        · exact he
        · cases e : lt y a[i]
          · rfl
          · rw [T.trans _ _ _ (drop_after hk hb hy) e] at he; cases he

theorem Merged.right (T : Tot lt) {a b : List α} {i k : Nat} {out : List α} (h : Merged lt a b i k out) (ha : a.Pairwise (fun a b => lt a b = true)) (hb : b.Pairwise (fun a b => lt a b = true)) (hk : k < b.length)
    (hi : a.length ≤ i ∨ ∃ hi : i < a.length, lt b[k] a[i] = true) : Merged lt a b i (k + 1) (addNew out b[k]) := by
  obtain ⟨M, rfl, h1, h2, h3, h4⟩ := h
  have hin : b[k] ∈ b.drop k := List.mem_drop_iff_getElem.2 ⟨0, by omega, by simp⟩
  refine ⟨M ++ [b[k]], addNew_cpt M _, ?_, ?_, ?_, ?_⟩
  · rw [List.pairwise_append]
    exact ⟨h1, by simp, fun x hx y hy => by rw [List.mem_singleton.1 hy]; exact h4 x hx _ hin⟩
  · intro x
    rw [List.mem_append, List.mem_singleton, h2, List.take_succ_eq_append_getElem hk, List.mem_append, List.mem_singleton, or_assoc]
  · intro x hx y hy
    rcases List.mem_append.1 hx with hx | hx
    · exact h3 x hx y hy
    · rw [List.mem_singleton.1 hx]
      rcases hi with hi | ⟨hi, he⟩
      · rw [List.drop_eq_nil_of_le hi] at hy; cases hy
      · rcases mem_drop_split hi hy with rfl | hy
        · exact tot_asym T he
        · exact tot_asym T (T.trans _ _ _ he (drop_after hi ha hy))
  · intro x hx y hy
    rcases List.mem_append.1 hx with hx | hx
    · exact h4 x hx y (by rw [List.drop_eq_getElem_cons hk]; exact List.mem_cons_of_mem _ hy)
    · rw [List.mem_singleton.1 hx]; exact tot_asym T (drop_after hk hb hy)

theorem Merged.done (T : Tot lt) {a b : List α} {i k : Nat} {out : List α} (h : Merged lt a b i k out) (hi : a.length ≤ i) (hk : b.length ≤ k) : out = norm lt (a ++ b) := by
  obtain ⟨M, rfl, h1, h2, -, -⟩ := h
  refine cpt_norm T M _ h1 (fun x => ?_)
  rw [h2, List.take_of_length_le hi, List.take_of_length_le hk, List.mem_append]

theorem norm_halves (T : Tot lt) (l : List α) (h : Nat) : norm lt (norm lt (l.take h) ++ norm lt (l.drop h)) = norm lt l := by
  refine (norm_eq_iff T _ _).2 (fun x => ?_)
  rw [List.mem_append, mem_norm, mem_norm, ← List.mem_append, List.take_append_drop]

theorem norm_short (l : List α) (h : l.length < 2) : norm lt l = l := by
  match l, h with
  | [], _ => rfl
  | [x], _ => rfl

/-! ### A number put in among rising ones -/

/-- Where a number stands or is to stand: behind all that are not greater. -/
def spot (l : List Int) (v : Int) : Nat := l.countP fun x => decide (x ≤ v)

def putIn (l : List Int) (v : Int) : List Int := if v ∈ l then l else l.take (spot l v) ++ v :: l.drop (spot l v)

theorem spot_le (l : List Int) (v : Int) : spot l v ≤ l.length := List.countP_le_length

theorem spot_take {l : List Int} (hl : l.Pairwise (fun a b => ltI a b = true)) (v : Int) : (∀ x ∈ l.take (spot l v), x ≤ v) ∧ (∀ x ∈ l.drop (spot l v), v < x) := by
  induction l with
  | nil => simp [spot]
  | cons a t ih =>
    obtain ⟨h1, h2⟩ := ih (List.pairwise_cons.1 hl).2
    have hat : ∀ x ∈ t, a < x := fun x hx => by have := (List.pairwise_cons.1 hl).1 x hx; simpa [ltI] using this
    by_cases h : a ≤ v
    · have e : spot (a :: t) v = spot t v + 1 := by simp [spot, List.countP_cons, h]
      rw [e]
      simp only [List.take_succ_cons, List.drop_succ_cons, List.mem_cons]
      exact ⟨fun x hx => by rcases hx with rfl | hx; exact h; exact h1 x hx, h2⟩
    · have e0 : spot t v = 0 := by
        unfold spot
        rw [List.countP_eq_zero]
        intro x hx
        have := hat x hx
        simp; omega
      have e : spot (a :: t) v = 0 := by unfold spot at e0 ⊢; simp [List.countP_cons, h, e0]
      rw [e]
      simp only [List.take_zero, List.not_mem_nil, false_implies, implies_true, List.drop_zero, List.mem_cons, true_and]
      intro x hx
      rcases hx with rfl | hx
      · omega
      · have := hat x hx; omega

theorem putIn_norm (l : List Int) (v : Int) : putIn (norm ltI l) v = norm ltI (l ++ [v]) := by
  have hp := pairwise_norm totI l
  obtain ⟨h1, h2⟩ := spot_take hp v
  have hmem : ∀ x, x ∈ norm ltI (l ++ [v]) ↔ x ∈ norm ltI l ∨ x = v := fun x => by simp [mem_norm]
  unfold putIn
  split
  · rename_i hv
    refine eq_of_strict totI _ _ hp (pairwise_norm totI _) (fun x => ?_)
    rw [hmem]
    exact ⟨.inl, fun h => by rcases h with h | rfl; exact h; exact hv⟩
  · rename_i hv
    refine eq_of_strict totI _ _ ?_ (pairwise_norm totI _) (fun x => ?_)
    · rw [List.pairwise_append, List.pairwise_cons]
      refine ⟨hp.take, ⟨fun x hx => by simp [ltI, h2 x hx], hp.drop⟩, fun x hx y hy => ?_⟩
      have hx1 := h1 x hx
      have hxv : x ≠ v := fun e => hv (e ▸ List.mem_of_mem_take hx)
      rcases List.mem_cons.1 hy with rfl | hy
      · simp [ltI]; omega
      · have := h2 y hy; simp [ltI]; omega
    · rw [hmem]
      conv => rhs; lhs; rw [← List.take_append_drop (spot (norm ltI l) v) (norm ltI l)]
      simp only [List.mem_append, List.mem_cons]
      constructor
      · rintro (h | h | h)
        · exact .inl (.inl h)
        · exact .inr h
        · exact .inl (.inr h)
      · rintro ((h | h) | h)
        · exact .inl h
        · exact .inr (.inr h)
        · exact .inr (.inl h)

/-- The place ahead of the spot is the number itself if it is there. -/
theorem spot_mem {l : List Int} (hl : l.Pairwise (fun a b => ltI a b = true)) (v : Int) : v ∈ l ↔ 0 < spot l v ∧ l.getD (spot l v - 1) 0 = v := by
  obtain ⟨h1, h2⟩ := spot_take hl v
  constructor
  · intro hv
    rw [← List.take_append_drop (spot l v) l, List.mem_append] at hv
    rcases hv with hv | hv
    · have hpos : 0 < spot l v := by
        rcases Nat.eq_zero_or_pos (spot l v) with e | e
        · rw [e] at hv; simp at hv
        · exact e
      refine ⟨hpos, ?_⟩
      obtain ⟨i, hi, e⟩ := List.mem_iff_getElem.1 hv
      rw [List.length_take] at hi
      rw [List.getElem_take] at e
      have hle := spot_le l v
      have hlast : l.getD (spot l v - 1) 0 = l[spot l v - 1] := by simp [List.getD, show spot l v - 1 < l.length by omega]
      rw [hlast]
      rcases Nat.lt_or_ge i (spot l v - 1) with h | h
      · have h3 := List.pairwise_iff_getElem.1 hl i (spot l v - 1) (by omega) (by omega) h
        have h4 := h1 (l[spot l v - 1]'(by omega)) (List.mem_take_iff_getElem.2 ⟨spot l v - 1, by omega, rfl⟩)
        simp [ltI] at h3
        omega
      · have : i = spot l v - 1 := by omega
        subst this; exact e
    · have := h2 v hv; omega
  · rintro ⟨hpos, e⟩
    have hle := spot_le l v
    rw [← e]
    have : l.getD (spot l v - 1) 0 = l[spot l v - 1] := by simp [List.getD, show spot l v - 1 < l.length by omega]
    rw [this]; exact List.getElem_mem _

/-- How the spot is found from behind. -/
theorem spot_back {l : List Int} (hl : l.Pairwise (fun a b => ltI a b = true)) (v : Int) {k : Nat} (hk : k ≤ l.length) (h : ∀ i, k ≤ i → i < l.length → v < l.getD i 0) (hs : k = 0 ∨ l.getD (k - 1) 0 ≤ v) : k = spot l v := by
  obtain ⟨h1, h2⟩ := spot_take hl v
  have hle := spot_le l v
  rcases Nat.lt_trichotomy k (spot l v) with h3 | h3 | h3
  · have := h k (Nat.le_refl _) (by omega)
    have e : l.getD k 0 = l[k]'(by omega) := by simp [List.getD, show k < l.length by omega]
    rw [e] at this
    have := h1 (l[k]'(by omega)) (List.mem_take_iff_getElem.2 ⟨k, by omega, rfl⟩)
    omega
  · exact h3
  · rcases hs with hs | hs
    · omega
    · have e : l.getD (k - 1) 0 = l[k - 1]'(by omega) := by simp [List.getD, show k - 1 < l.length by omega]
      rw [e] at hs
      have : l[k - 1]'(by omega) ∈ l.drop (spot l v) := List.mem_drop_iff_getElem.2 ⟨k - 1 - spot l v, by omega, by congr 1; omega⟩
      have := h2 _ this
      omega
end

end Go.Proofs.YtkcdkfkgjjpaaaaGreatDoor.Rd
