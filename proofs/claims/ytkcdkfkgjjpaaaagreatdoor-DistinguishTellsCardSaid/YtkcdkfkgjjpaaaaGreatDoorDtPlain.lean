/- The plain side of distinguish: the formula of two states, as its nodes one behind the other; what it is by steps and ranks; formulas as lists of nodes are read one way alone. No function of the program is named. The plain side of distinguish's table of parts: each node stands there once, by what it is, its label and the numbers of its parts; the same number, the same formula. How long formulas get. The plain side of distinguish's bounds: what Bound comes to; that it grows; formulas are within it; a formula in the document's desk, with its limit. No function of the program is named. The plain side of distinguish's teller: the key of a part; a part put; what is known of pairs, and how many parts that makes; the numbers of a step's formulas; the sizes. No function of the program is named. The plain side of the teller's two maps: a map's datum by the keys and numbers that were put; the parts' map; the pairs' map. No function of the program is named. -/
import Derived.Test.YtkcdkfkgjjpaaaaGreatDoorRdLaws
import Derived.Test.YtkcdkfkgjjpaaaaGreatDoorTmKey
import Derived.Maps.OwnSet

namespace Go.Proofs.YtkcdkfkgjjpaaaaGreatDoor.Dt
open Go.Proofs.YtkcdkfkgjjpaaaaGreatDoor.Sy Go.Proofs.YtkcdkfkgjjpaaaaGreatDoor.Rd
set_option linter.unusedVariables false
set_option linter.unusedSimpArgs false

/-- A node: what it is, its label. 1: true, 2: not, 3: and, 4: may. -/
abbrev Nd := Int × Int

/-- How many parts a node takes away, less the one that it puts. -/
def wt (x : Nd) : Int := if x.1 = 1 then 1 else if x.1 = 3 then -1 else 0
def wts : List Nd → Int
  | [] => 0
  | x :: l => wt x + wts l

theorem wts_append (a b : List Nd) : wts (a ++ b) = wts a + wts b := by
  induction a with
  | nil => simp [wts]
  | cons x a ih => simp [wts, ih]; omega

/-- A formula's nodes: all of them put one; what stands behind a cut puts none. -/
structure Proper (f : List Nd) : Prop where
  one : wts f = 1
  rest : ∀ a b, f = a ++ b → a ≠ [] → wts b ≤ 0

theorem Proper.ne {f : List Nd} (h : Proper f) : f ≠ [] := fun e => by
  have := h.one
  rw [e] at this
  simp [wts] at this

theorem Proper.pos {f : List Nd} (h : Proper f) : 0 < f.length := List.length_pos_iff.2 h.ne

theorem proper_true : Proper [((1 : Int), (0 : Int))] := by
  refine ⟨by simp [wts, wt], fun a b h ha => ?_⟩
  cases a with
  | nil => exact absurd rfl ha
  | cons x a =>
    simp only [List.cons_append, List.cons.injEq] at h
    have : b = [] := (List.append_eq_nil_iff.1 h.2.symm).2
    rw [this]; simp [wts]

/-- A node that takes one part. -/
theorem Proper.one_more {f : List Nd} (h : Proper f) {x : Nd} (hx : wt x = 0) : Proper (f ++ [x]) := by
  refine ⟨by rw [wts_append, h.one]; simp [wts, hx], fun a b he ha => ?_⟩
  rcases List.append_eq_append_iff.1 he with ⟨c, h1, h2⟩ | ⟨c, h1, h2⟩
  · -- a = f ++ c
    have : wts ([x] : List Nd) = wts c + wts b := by rw [← wts_append, ← h2]
    simp only [wts, hx] at this
    cases c with
    | nil => simp only [wts] at this; omega
    | cons y c =>
      simp only [List.cons_append, List.cons.injEq] at h2
      have hb : b = [] := (List.append_eq_nil_iff.1 h2.2.symm).2
      rw [hb]; simp [wts]
  · rw [h2, wts_append]
    have := h.rest a c h1 ha
    simp only [wts, hx]; omega

/-- A node that takes two parts. -/
theorem Proper.two {f g : List Nd} (hf : Proper f) (hg : Proper g) {x : Nd} (hx : wt x = -1) : Proper (f ++ g ++ [x]) := by
  refine ⟨by rw [wts_append, wts_append, hf.one, hg.one]; simp [wts, hx], fun a b he ha => ?_⟩
  rcases List.append_eq_append_iff.1 he with ⟨c, h1, h2⟩ | ⟨c, h1, h2⟩
  · cases c with
    | nil =>
      simp only [List.nil_append] at h2
      rw [← h2]; simp [wts, hx]
    | cons y c =>
      simp only [List.cons_append, List.cons.injEq] at h2
      have hb : b = [] := (List.append_eq_nil_iff.1 h2.2.symm).2
      rw [hb]; simp [wts]
  · rw [h2, wts_append]
    simp only [wts, hx]
    rcases List.append_eq_append_iff.1 h1 with ⟨d, k1, k2⟩ | ⟨d, k1, k2⟩
    · -- a = f ++ d, g = d ++ c
      cases d with
      | nil =>
        simp only [List.nil_append] at k2
        rw [← k2, hg.one]; omega
      | cons y d => have := hg.rest (y :: d) c k2 (by simp); omega
    · -- f = a ++ d, c = d ++ g
      rw [k2, wts_append, hg.one]
      have := hf.rest a d k1 ha
      omega

/-- The last formula of two lists of nodes is the same one. -/
theorem last_same {a b f g : List Nd} (hf : Proper f) (hg : Proper g) (h : a ++ f = b ++ g) : a = b ∧ f = g := by
  rcases List.append_eq_append_iff.1 h with ⟨c, h1, h2⟩ | ⟨c, h1, h2⟩
  · -- b = a ++ c, f = c ++ g
    cases c with
    | nil => simp only [List.append_nil] at h1; simp only [List.nil_append] at h2; exact ⟨h1.symm, h2⟩
    | cons y c => have := hf.rest (y :: c) g h2 (by simp); rw [hg.one] at this; omega
  · cases c with
    | nil => simp only [List.append_nil] at h1; simp only [List.nil_append] at h2; exact ⟨h1, h2.symm⟩
    | cons y c => have := hg.rest (y :: c) f h2 (by simp); rw [hf.one] at this; omega

theorem flat_same : ∀ (fs gs : List (List Nd)), fs.length = gs.length → (∀ f ∈ fs, Proper f) → (∀ g ∈ gs, Proper g) → fs.flatten = gs.flatten → fs = gs := by
  intro fs
  refine snoc_ind (p := fun fs => ∀ gs : List (List Nd), fs.length = gs.length → (∀ f ∈ fs, Proper f) → (∀ g ∈ gs, Proper g) → fs.flatten = gs.flatten → fs = gs) ?_ ?_ fs
  · intro gs hl _ _ _
    exact (List.eq_nil_of_length_eq_zero hl.symm).symm
  · intro fs f ih gs hl hf hg he
    rcases List.eq_nil_or_concat gs with rfl | ⟨gs', g, rfl⟩
    · simp at hl
    · rw [List.concat_eq_append] at hl hg he ⊢
      rw [List.flatten_append, List.flatten_append] at he
      simp only [List.flatten_cons, List.flatten_nil, List.append_nil] at he
      obtain ⟨h1, h2⟩ := last_same (hf f (by simp)) (hg g (by simp)) he
      rw [ih gs' (by simpa using hl) (fun x hx => hf x (by simp [hx])) (fun x hx => hg x (by simp [hx])) h1, h2]

/-! ### The formula of two states -/

/-- The states that steps of q with a label lead to. -/
def meetsL (s : Lts) (q : Nat) (l : Int) : List Nat := ((steps s q).filter fun y => y.1 == l).map fun y => y.2.toNat

/-- Does a step tell its state from q, of a rank? -/
def tells (s : Lts) (x : Int × Int) (q : Nat) (k : Int) : Bool := (meetsL s q x.1).all fun t => decide (0 ≤ rank s x.2.toNat t) && decide (rank s x.2.toNat t < k)

/-- The first step of p that tells it from q. -/
def telling (s : Lts) (p q : Nat) : Option (Int × Int) := (steps s p).find? fun x => tells s x q (rank s p q)

/-- All of some formulas; of none: true. -/
def conj : List (List Nd) → List Nd
  | [] => [(1, 0)]
  | f :: r => r.foldl (fun a g => a ++ g ++ [(3, 0)]) f

theorem conj_snoc (f : List Nd) (r : List (List Nd)) (g : List Nd) : conj (f :: (r ++ [g])) = conj (f :: r) ++ g ++ [(3, 0)] := by simp [conj]

theorem conj_proper : ∀ l : List (List Nd), (∀ f ∈ l, Proper f) → Proper (conj l)
  | [], _ => proper_true
  | f :: r, h => by
    revert h
    refine snoc_ind (p := fun r => (∀ g ∈ f :: r, Proper g) → Proper (conj (f :: r))) (fun h => h f (by simp)) (fun r g ih h => ?_) r
    rw [conj_snoc]
    exact (ih (fun x hx => h x (by rcases List.mem_cons.1 hx with e | e; exact e ▸ List.mem_cons_self; exact List.mem_cons_of_mem _ (List.mem_append_left _ e)))).two (h g (by simp)) (by simp [wt])

/-- The formula, by fuel. -/
def form (s : Lts) : Nat → Nat → Nat → List Nd
  | 0, _, _ => []
  | d + 1, p, q => match telling s p q with
    | none => form s d q p ++ [(2, 0)]
    | some x => conj (Rd.seen ((meetsL s q x.1).map fun t => form s d x.2.toNat t)) ++ [(4, x.1)]

/-- How much fuel two states want. -/
def fuel (s : Lts) (p q : Nat) : Nat := 2 * (rank s p q).toNat + (if (telling s p q).isSome then 0 else 1)

/-- The formula of two states. -/
def F (s : Lts) (p q : Nat) : List Nd := form s (fuel s p q + 1) p q

/-- Of two states that are not together one has a step that tells. -/
theorem some_tells {s : Lts} (hR : Right s) {p q : Nat} (hp : p < s.n.toNat) (hq : q < s.n.toNat) (h : 0 ≤ rank s p q) (hn : telling s p q = none) : (telling s q p).isSome = true := by
  obtain ⟨h1, _⟩ | ⟨k, hk, hkl, hne, hall⟩ := rank_cases s p q
  · omega
  · have hk0 : 0 < k := by
      have := rank_ne_zero s p q
      omega
    have hlaw := next_eq_iff s (R s (k - 1)) (p := p) (q := q) (by rw [R_len]; exact hp) (by rw [R_len]; exact hq)
    have hnx : next s (R s (k - 1)) = R s k := by
      obtain ⟨j, rfl⟩ : ∃ j, k = j + 1 := ⟨k - 1, by omega⟩
      rfl
    rw [hnx] at hlaw
    have hprev := hall (k - 1) (by omega)
    have key : ∀ p q, p < s.n.toNat → q < s.n.toNat → rank s p q = (k : Int) → telling s p q = none → meets s (R s (k - 1)) p q = true := by
      intro p q hp hq hr hnone
      simp only [meets, List.all_eq_true]
      intro x hx
      have h3 := List.find?_eq_none.1 hnone x hx
      simp only [tells, List.all_eq_true, Bool.and_eq_true, decide_eq_true_eq] at h3
      obtain ⟨t, h3⟩ := Classical.not_forall.1 h3
      obtain ⟨ht, hbad⟩ := Classical.not_imp.1 h3
      simp only [meetsL, List.mem_map, List.mem_filter, beq_iff_eq] at ht
      obtain ⟨y, ⟨hy1, hy2⟩, rfl⟩ := ht
      rw [List.any_eq_true]
      refine ⟨y, hy1, ?_⟩
      simp only [Bool.and_eq_true, beq_iff_eq]
      refine ⟨hy2, ?_⟩
      rcases rank_cases s x.2.toNat y.2.toNat with ⟨e, hall2⟩ | ⟨j, e, hjl, hjn, hj⟩
      · exact (hall2 (k - 1) (by omega)).symm
      · refine (hj (k - 1) ?_).symm
        rw [e, hr] at hbad
        omega
    have hm1 := key p q hp hq hk hn
    rcases ht : telling s q p with _ | x
    · have hm2 := key q p hq hp (by rw [rank_comm]; exact hk) ht
      exact absurd (hlaw.2 ⟨hprev, hm1, hm2⟩) hne
    · rfl


/-- Where a step tells, the states that it is held against are apart, in an earlier round. -/
theorem telling_spec {s : Lts} {p q : Nat} {x : Int × Int} (h : telling s p q = some x) : x ∈ steps s p ∧ ∀ t ∈ meetsL s q x.1, 0 ≤ rank s x.2.toNat t ∧ rank s x.2.toNat t < rank s p q := by
  refine ⟨List.mem_of_find?_eq_some h, fun t ht => ?_⟩
  have h2 : tells s x q (rank s p q) = true := by simpa using List.find?_some h
  simp only [tells, List.all_eq_true, Bool.and_eq_true, decide_eq_true_eq] at h2
  exact h2 t ht

theorem meetsL_lt {s : Lts} (hR : Right s) {q t : Nat} {l : Int} (h : t ∈ meetsL s q l) : t < s.n.toNat := by
  simp only [meetsL, List.mem_map, List.mem_filter] at h
  obtain ⟨y, ⟨hy, -⟩, rfl⟩ := h
  have := hR.ok _ ((mem_steps s q y).1 hy)
  simp only at this
  omega

theorem step_lt {s : Lts} (hR : Right s) {p : Nat} {x : Int × Int} (h : x ∈ steps s p) : x.2.toNat < s.n.toNat := by
  have := hR.ok _ ((mem_steps s p x).1 h)
  simp only at this
  omega

/-- More fuel than wanted changes nothing. -/
theorem form_fuel {s : Lts} (hR : Right s) : ∀ (d p q : Nat), p < s.n.toNat → q < s.n.toNat → 0 ≤ rank s p q → fuel s p q < d → form s d p q = F s p q := by
  intro d
  induction d using Nat.strongRecOn with
  | ind d ih =>
    intro p q hp hq h0 hd
    obtain ⟨d, rfl⟩ : ∃ e, d = e + 1 := ⟨d - 1, by omega⟩
    unfold F
    rcases ht : telling s p q with _ | x
    · have hs := some_tells hR hp hq h0 ht
      have hf : fuel s p q = 2 * (rank s p q).toNat + 1 := by simp [fuel, ht]
      have hf2 : fuel s q p = 2 * (rank s p q).toNat := by simp [fuel, hs, rank_comm s q p]
      have e1 : form s (d + 1) p q = form s d q p ++ [(2, 0)] := by rw [form, ht]
      have e2 : form s (fuel s p q + 1) p q = form s (fuel s p q) q p ++ [(2, 0)] := by rw [form, ht]
      rw [e1, e2]
      have h0' : 0 ≤ rank s q p := by rw [rank_comm]; exact h0
      rw [ih d (by omega) q p hq hp h0' (by omega)]
      by_cases hdd : fuel s p q < d + 1
      · rw [ih (fuel s p q) (by omega) q p hq hp h0' (by omega)]
      · omega
    · obtain ⟨hx, hall⟩ := telling_spec ht
      have hf : fuel s p q = 2 * (rank s p q).toNat := by simp [fuel, ht]
      have e : ∀ d, form s (d + 1) p q = conj (Rd.seen ((meetsL s q x.1).map fun t => form s d x.2.toNat t)) ++ [(4, x.1)] := fun d => by rw [form, ht]
      rw [e, e]
      have key : ∀ d', d' < d + 1 → fuel s p q ≤ d' → ((meetsL s q x.1).map fun t => form s d' x.2.toNat t) = (meetsL s q x.1).map fun t => F s x.2.toNat t := fun d' h1 h2 => by
        refine List.map_congr_left (fun t ht' => ?_)
        have ha := hall t ht'
        refine ih d' h1 _ _ (step_lt hR hx) (meetsL_lt hR ht') ha.1 ?_
        have : fuel s x.2.toNat t ≤ 2 * (rank s x.2.toNat t).toNat + 1 := by unfold fuel; split <;> omega
        omega
      rw [key d (by omega) (by omega), key (fuel s p q) (by omega) (Nat.le_refl _)]

/-- The formula of two states that are apart: by a step that tells, or as the other one's formula denied. -/
theorem F_some {s : Lts} (hR : Right s) {p q : Nat} (hp : p < s.n.toNat) (hq : q < s.n.toNat) (h0 : 0 ≤ rank s p q) {x : Int × Int} (ht : telling s p q = some x) :
    F s p q = conj (Rd.seen ((meetsL s q x.1).map fun t => F s x.2.toNat t)) ++ [(4, x.1)] := by
  obtain ⟨hx, hall⟩ := telling_spec ht
  have hf : fuel s p q = 2 * (rank s p q).toNat := by simp [fuel, ht]
  have e : F s p q = conj (Rd.seen ((meetsL s q x.1).map fun t => form s (fuel s p q) x.2.toNat t)) ++ [(4, x.1)] := by unfold F; rw [form, ht]
  rw [e]
  congr 3
  refine List.map_congr_left (fun t ht' => ?_)
  have ha := hall t ht'
  refine form_fuel hR _ _ _ (step_lt hR hx) (meetsL_lt hR ht') ha.1 ?_
  have : fuel s x.2.toNat t ≤ 2 * (rank s x.2.toNat t).toNat + 1 := by unfold fuel; split <;> omega
  omega

theorem F_none {s : Lts} (hR : Right s) {p q : Nat} (hp : p < s.n.toNat) (hq : q < s.n.toNat) (h0 : 0 ≤ rank s p q) (ht : telling s p q = none) : F s p q = F s q p ++ [(2, 0)] := by
  have hs := some_tells hR hp hq h0 ht
  have hf : fuel s p q = 2 * (rank s p q).toNat + 1 := by simp [fuel, ht]
  have hf2 : fuel s q p = 2 * (rank s p q).toNat := by simp [fuel, hs, rank_comm s q p]
  have e : F s p q = form s (fuel s p q) q p ++ [(2, 0)] := by unfold F; rw [form, ht]
  rw [e, form_fuel hR _ q p hq hp (by rw [rank_comm]; exact h0) (by omega)]

/-- By the rank: what is shown of the formulas of states of lesser ranks, and of those that a step tells, is shown of all. -/
theorem F_ind {s : Lts} (hR : Right s) (P : Nat → Nat → Prop) (h1 : ∀ p q x, p < s.n.toNat → q < s.n.toNat → 0 ≤ rank s p q → telling s p q = some x → (∀ t ∈ meetsL s q x.1, P x.2.toNat t) → P p q)
    (h2 : ∀ p q, p < s.n.toNat → q < s.n.toNat → 0 ≤ rank s p q → telling s p q = none → P q p → P p q) : ∀ p q, p < s.n.toNat → q < s.n.toNat → 0 ≤ rank s p q → P p q := by
  have key : ∀ d p q, p < s.n.toNat → q < s.n.toNat → 0 ≤ rank s p q → fuel s p q < d → P p q := by
    intro d
    induction d with
    | zero => intro p q _ _ _ h; omega
    | succ d ih =>
      intro p q hp hq h0 hd
      rcases ht : telling s p q with _ | x
      · have hs := some_tells hR hp hq h0 ht
        have hf : fuel s p q = 2 * (rank s p q).toNat + 1 := by simp [fuel, ht]
        have hf2 : fuel s q p = 2 * (rank s p q).toNat := by simp [fuel, hs, rank_comm s q p]
        exact h2 p q hp hq h0 ht (ih q p hq hp (by rw [rank_comm]; exact h0) (by omega))
      · obtain ⟨hx, hall⟩ := telling_spec ht
        have hf : fuel s p q = 2 * (rank s p q).toNat := by simp [fuel, ht]
        refine h1 p q x hp hq h0 ht (fun t ht' => ?_)
        have ha := hall t ht'
        refine ih _ _ (step_lt hR hx) (meetsL_lt hR ht') ha.1 ?_
        have : fuel s x.2.toNat t ≤ 2 * (rank s x.2.toNat t).toNat + 1 := by unfold fuel; split <;> omega
        omega
  exact fun p q hp hq h0 => key _ p q hp hq h0 (Nat.lt_succ_self _)

theorem F_proper {s : Lts} (hR : Right s) : ∀ p q, p < s.n.toNat → q < s.n.toNat → 0 ≤ rank s p q → Proper (F s p q) := by
  refine F_ind hR _ (fun p q x hp hq h0 ht hall => ?_) (fun p q hp hq h0 ht h => ?_)
  · rw [F_some hR hp hq h0 ht]
    refine (conj_proper _ (fun f hf => ?_)).one_more (by simp [wt])
    rw [mem_seen, List.mem_map] at hf
    obtain ⟨t, ht', rfl⟩ := hf
    exact hall t ht'
  · rw [F_none hR hp hq h0 ht]
    exact h.one_more (by simp [wt])

end Go.Proofs.YtkcdkfkgjjpaaaaGreatDoor.Dt

namespace Go.Proofs.YtkcdkfkgjjpaaaaGreatDoor.Dt
open Go.Proofs.YtkcdkfkgjjpaaaaGreatDoor.Sy Go.Proofs.YtkcdkfkgjjpaaaaGreatDoor.Rd
set_option linter.unusedVariables false
set_option linter.unusedSimpArgs false

/-- A part: its node, the numbers of its parts. -/
abbrev Part := Nd × List Nat

/-- How many parts a node has; of none of the four: 0. -/
def ar (x : Nd) : Nat := if x.1 = 2 ∨ x.1 = 4 then 1 else if x.1 = 3 then 2 else 0

/-- A node that stands in a formula. -/
def Is (x : Nd) : Prop := x.1 = 1 ∨ x.1 = 2 ∨ x.1 = 3 ∨ x.1 = 4

/-- The formula of a new part. -/
def made (ts : List (List Nd)) (x : Nd) (l : List Nat) : List Nd := (l.map fun i => ts.getD i []).flatten ++ [x]

/-- A table of parts, and the formulas that they are. -/
structure Table (ps : List Part) (ts : List (List Nd)) : Prop where
  len : ts.length = ps.length
  less : ∀ i, i < ps.length → ∀ k ∈ (ps.getD i ((0, 0), [])).2, k < i
  is : ∀ i, i < ps.length → Is (ps.getD i ((0, 0), [])).1 ∧ (ps.getD i ((0, 0), [])).2.length = ar (ps.getD i ((0, 0), [])).1
  eq : ∀ i, i < ps.length → ts.getD i [] = made ts (ps.getD i ((0, 0), [])).1 (ps.getD i ((0, 0), [])).2
  pr : ∀ i, i < ps.length → Proper (ts.getD i [])
  once : ps.Nodup

theorem Table.nil : Table [] [] := ⟨rfl, fun i h => by simp at h, fun i h => by simp at h, fun i h => by simp at h, fun i h => by simp at h, List.nodup_nil⟩

theorem made_proper {ts : List (List Nd)} {x : Nd} {l : List Nat} (hx : Is x) (hl : l.length = ar x) (hp : ∀ k ∈ l, Proper (ts.getD k [])) : Proper (made ts x l) := by
  unfold made
  rcases hx with h | h | h | h
  · have h0 : l = [] := List.eq_nil_of_length_eq_zero (by rw [hl]; simp [ar, h])
    subst h0
    obtain ⟨a, b⟩ := x
    simp only at h
    subst h
    refine ⟨by simp [wts, wt], fun c d he hc => ?_⟩
    simp only [List.map_nil, List.flatten_nil, List.nil_append] at he
    cases c with
    | nil => exact absurd rfl hc
    | cons y c =>
      simp only [List.cons_append, List.cons.injEq] at he
      have : d = [] := (List.append_eq_nil_iff.1 he.2.symm).2
      rw [this]; simp [wts]
  · match l, hl with
    | [k], _ =>
      simp only [List.map_cons, List.map_nil, List.flatten_cons, List.flatten_nil, List.append_nil]
      exact (hp k (by simp)).one_more (by simp [wt, h])
    | [], hl => simp [ar, h] at hl
    | _ :: _ :: _, hl => simp [ar, h] at hl
  · match l, hl with
    | [k, m], _ =>
      simp only [List.map_cons, List.map_nil, List.flatten_cons, List.flatten_nil, List.append_nil]
      exact (hp k (by simp)).two (hp m (by simp)) (by simp [wt, h])
    | [], hl => simp [ar, h] at hl
    | [_], hl => simp [ar, h] at hl
    | _ :: _ :: _ :: _, hl => simp [ar, h] at hl
  · match l, hl with
    | [k], _ =>
      simp only [List.map_cons, List.map_nil, List.flatten_cons, List.flatten_nil, List.append_nil]
      exact (hp k (by simp)).one_more (by simp [wt, h])
    | [], hl => simp [ar, h] at hl
    | _ :: _ :: _, hl => simp [ar, h] at hl

theorem getD_snoc_lt {α : Type} (l : List α) (x d : α) {i : Nat} (h : i < l.length) : (l ++ [x]).getD i d = l.getD i d := by
  simp [List.getD, List.getElem?_append_left h]

theorem getD_snoc_len {α : Type} (l : List α) (x d : α) : (l ++ [x]).getD l.length d = x := by simp [List.getD]

theorem made_snoc {ts : List (List Nd)} {x : Nd} {l : List Nat} (t : List Nd) (h : ∀ k ∈ l, k < ts.length) : made (ts ++ [t]) x l = made ts x l := by
  unfold made
  congr 2
  exact List.map_congr_left (fun k hk => getD_snoc_lt ts t [] (h k hk))

/-- Two parts of one formula are one. -/
theorem Table.inj {ps : List Part} {ts : List (List Nd)} (h : Table ps ts) : ∀ i j, i < ps.length → j < ps.length → ts.getD i [] = ts.getD j [] → i = j := by
  have key : ∀ n i j, i < n → i < ps.length → j < ps.length → ts.getD i [] = ts.getD j [] → i = j := by
    intro n
    induction n with
    | zero => intro i j h; omega
    | succ n ih =>
      intro i j hin hi hj he
      have hm := he
      rw [h.eq i hi, h.eq j hj] at hm
      unfold made at hm
      obtain ⟨h1, h2⟩ := List.append_inj' hm rfl
      simp only [List.cons.injEq, and_true] at h2
      have hl : (ps.getD i ((0, 0), [])).2.length = (ps.getD j ((0, 0), [])).2.length := by rw [(h.is i hi).2, (h.is j hj).2, h2]
      have hprop : ∀ i, i < ps.length → ∀ f ∈ ((ps.getD i ((0, 0), [])).2.map fun i => ts.getD i []), Proper f := fun i hi f hf => by
        obtain ⟨k, hk, rfl⟩ := List.mem_map.1 hf
        exact h.pr k (Nat.lt_trans (h.less i hi k hk) hi)
      have hfs := flat_same _ _ (by rw [List.length_map, List.length_map, hl]) (hprop i hi) (hprop j hj) h1
      have hls : (ps.getD i ((0, 0), [])).2 = (ps.getD j ((0, 0), [])).2 := by
        refine List.ext_getElem hl (fun k hk1 hk2 => ?_)
        have e : (((ps.getD i ((0, 0), [])).2.map fun i => ts.getD i []))[k]'(by rw [List.length_map]; exact hk1) = (((ps.getD j ((0, 0), [])).2.map fun i => ts.getD i []))[k]'(by rw [List.length_map]; exact hk2) := by
          simp only [hfs]
        rw [List.getElem_map, List.getElem_map] at e
        have hki := h.less i hi _ (List.getElem_mem hk1)
        have hkj := h.less j hj _ (List.getElem_mem hk2)
        exact ih _ _ (by omega) (by omega) (by omega) e
      have hp : ps.getD i ((0, 0), []) = ps.getD j ((0, 0), []) := Prod.ext h2 hls
      have e1 : ps.getD i ((0, 0), []) = ps[i] := by simp [List.getD, hi]
      have e2 : ps.getD j ((0, 0), []) = ps[j] := by simp [List.getD, hj]
      rw [e1, e2] at hp
      rcases Nat.lt_trichotomy i j with hlt | rfl | hlt
      · exact absurd hp ((List.pairwise_iff_getElem.1 h.once) i j hi hj hlt)
      · rfl
      · exact absurd hp.symm ((List.pairwise_iff_getElem.1 h.once) j i hj hi hlt)
  exact fun i j hi hj he => key (i + 1) i j (Nat.lt_succ_self _) hi hj he

/-- A part that was not there is put behind the others. -/
theorem Table.push {ps : List Part} {ts : List (List Nd)} (h : Table ps ts) {x : Nd} {l : List Nat} (hx : Is x) (hl : l.length = ar x) (hk : ∀ k ∈ l, k < ps.length) (hn : (x, l) ∉ ps) : Table (ps ++ [(x, l)]) (ts ++ [made ts x l]) := by
  have hk' : ∀ k ∈ l, k < ts.length := fun k hk2 => by rw [h.len]; exact hk k hk2
  have old : ∀ i, i < ps.length → (ps ++ [(x, l)]).getD i ((0, 0), []) = ps.getD i ((0, 0), []) := fun i hi => getD_snoc_lt ps _ _ hi
  have new : (ps ++ [(x, l)]).getD ps.length ((0, 0), []) = (x, l) := getD_snoc_len ps _ _
  have oldt : ∀ i, i < ps.length → (ts ++ [made ts x l]).getD i [] = ts.getD i [] := fun i hi => getD_snoc_lt ts _ _ (by rw [h.len]; exact hi)
  have newt : (ts ++ [made ts x l]).getD ps.length [] = made ts x l := by rw [← h.len]; exact getD_snoc_len ts _ _
  have cases : ∀ i, i < (ps ++ [(x, l)]).length → i < ps.length ∨ i = ps.length := fun i hi => by
    rw [List.length_append] at hi; simp at hi; omega
  refine ⟨by simp [h.len], fun i hi => ?_, fun i hi => ?_, fun i hi => ?_, fun i hi => ?_, ?_⟩
  · rcases cases i hi with e | rfl
    · rw [old i e]; exact h.less i e
    · rw [new]; exact hk
  · rcases cases i hi with e | rfl
    · rw [old i e]; exact h.is i e
    · rw [new]; exact ⟨hx, hl⟩
  · rcases cases i hi with e | rfl
    · rw [old i e, oldt i e, h.eq i e]
      exact (made_snoc _ (fun k hk2 => by rw [h.len]; exact Nat.lt_trans (h.less i e k hk2) e)).symm
    · rw [new, newt]; exact (made_snoc _ hk').symm
  · rcases cases i hi with e | rfl
    · rw [oldt i e]; exact h.pr i e
    · rw [newt]; exact made_proper hx hl (fun k hk2 => h.pr k (hk k hk2))
  · exact List.nodup_append.2 ⟨h.once, by simp, fun a ha b hb e => hn (by rw [List.mem_singleton] at hb; rw [← hb, ← e]; exact ha)⟩

/-- A part that was there. -/
theorem Table.had {ps : List Part} {ts : List (List Nd)} (h : Table ps ts) {x : Nd} {l : List Nat} {i : Nat} (hi : i < ps.length) (he : ps.getD i ((0, 0), []) = (x, l)) : ts.getD i [] = made ts x l := by
  have := h.eq i hi
  rw [he] at this; exact this

/-! ### How long formulas get -/

/-- The document's bound, without a limit. -/
def bnd (deg : Nat) : Nat → Nat
  | 0 => 1
  | k + 1 => 1 + deg * (bnd deg k + 1)

theorem bnd_pos (deg : Nat) : ∀ k, 1 ≤ bnd deg k
  | 0 => Nat.le_refl 1
  | k + 1 => by simp [bnd]

theorem bnd_step {deg : Nat} (hd : 1 ≤ deg) : ∀ k, bnd deg k ≤ bnd deg (k + 1) := by
  intro k
  induction k with
  | zero => simp [bnd]
  | succ k ih =>
    show 1 + deg * (bnd deg k + 1) ≤ 1 + deg * (bnd deg (k + 1) + 1)
    have := Nat.mul_le_mul_left deg (Nat.add_le_add_right ih 1)
    omega

theorem bnd_mono {deg : Nat} (hd : 1 ≤ deg) {j k : Nat} (h : j ≤ k) : bnd deg j ≤ bnd deg k := by
  induction h with
  | refl => exact Nat.le_refl _
  | step h ih => exact Nat.le_trans ih (bnd_step hd _)

theorem conj_len (b : Nat) : ∀ l : List (List Nd), l ≠ [] → (∀ f ∈ l, f.length ≤ b) → (conj l).length + 1 ≤ l.length * (b + 1)
  | [], h, _ => absurd rfl h
  | f :: r, _, h => by
    revert h
    refine snoc_ind (p := fun r => (∀ g ∈ f :: r, g.length ≤ b) → (conj (f :: r)).length + 1 ≤ (f :: r).length * (b + 1)) (fun h => ?_) (fun r g ih h => ?_) r
    · have := h f (by simp)
      simp [conj]; omega
    · have h1 := ih (fun x hx => h x (by rcases List.mem_cons.1 hx with e | e; exact e ▸ List.mem_cons_self; exact List.mem_cons_of_mem _ (List.mem_append_left _ e)))
      have h2 := h g (by simp)
      rw [conj_snoc]
      simp only [List.length_append, List.length_cons, List.length_nil] at h1 ⊢
      rw [show r.length + (0 + 1) + 1 = (r.length + 1) + 1 by omega, Nat.add_mul (r.length + 1) 1]
      omega

/-- A formula's length, by the rank and the greatest number of steps. -/
theorem F_len {s : Lts} (hR : Right s) {deg : Nat} (hd : 1 ≤ deg) (hdeg : ∀ q l, (meetsL s q l).length ≤ deg) : ∀ p q, p < s.n.toNat → q < s.n.toNat → 0 ≤ rank s p q →
    ((telling s p q).isSome = true → (F s p q).length + 1 ≤ bnd deg (rank s p q).toNat) ∧ (F s p q).length ≤ bnd deg (rank s p q).toNat := by
  refine F_ind hR _ (fun p q x hp hq h0 ht hall => ?_) (fun p q hp hq h0 ht h => ?_)
  · have hk1 : rank s p q ≠ 0 := rank_ne_zero s p q
    obtain ⟨k, hk⟩ : ∃ k, (rank s p q).toNat = k + 1 := ⟨(rank s p q).toNat - 1, by omega⟩
    obtain ⟨hx, hsp⟩ := telling_spec ht
    have key : (F s p q).length + 1 ≤ bnd deg (k + 1) := by
      rw [F_some hR hp hq h0 ht]
      simp only [List.length_append, List.length_cons, List.length_nil]
      have hb1 := bnd_pos deg k
      have hm : deg * 2 ≤ deg * (bnd deg k + 1) := Nat.mul_le_mul_left deg (by omega)
      by_cases hne : Rd.seen ((meetsL s q x.1).map fun t => F s x.2.toNat t) = []
      · rw [hne]
        show 1 + 1 + 1 ≤ 1 + deg * (bnd deg k + 1)
        omega
      · have h1 := conj_len (bnd deg k) _ hne (fun f hf => by
          rw [mem_seen, List.mem_map] at hf
          obtain ⟨t, ht', rfl⟩ := hf
          have ha := hsp t ht'
          exact Nat.le_trans (hall t ht').2 (bnd_mono hd (by omega)))
        have h2 := seen_len ((meetsL s q x.1).map fun t => F s x.2.toNat t)
        rw [List.length_map] at h2
        have h3 := hdeg q x.1
        have h4 : (Rd.seen ((meetsL s q x.1).map fun t => F s x.2.toNat t)).length * (bnd deg k + 1) ≤ deg * (bnd deg k + 1) := Nat.mul_le_mul_right _ (by omega)
        show _ ≤ 1 + deg * (bnd deg k + 1)
        omega
    rw [hk]
    exact ⟨fun _ => key, by omega⟩
  · rw [F_none hR hp hq h0 ht]
    have hs := some_tells hR hp hq h0 ht
    have h1 := h.1 hs
    rw [rank_comm s q p] at h1
    refine ⟨fun hh => absurd hh (by rw [ht]; simp), ?_⟩
    simp only [List.length_append, List.length_cons, List.length_nil]
    omega

end Go.Proofs.YtkcdkfkgjjpaaaaGreatDoor.Dt

namespace Go.Proofs.YtkcdkfkgjjpaaaaGreatDoor.Dt
open Go.Proofs.YtkcdkfkgjjpaaaaGreatDoor.Sy Go.Proofs.YtkcdkfkgjjpaaaaGreatDoor.Rd
set_option linter.unusedVariables false
set_option linter.unusedSimpArgs false

/-- The bound by depth and degree. -/
def bound (k d : Int) : Nat := if k < 1 then 1 else if d < 1 then 3 else min (bnd d.toNat k.toNat) 5001

/-- One round of the bound's loop. -/
theorem bnd_round (d k b : Nat) (hb : b = min (bnd d k) 5001) : min (1 + d * (b + 1)) 5001 = min (bnd d (k + 1)) 5001 := by
  show _ = min (1 + d * (bnd d k + 1)) 5001
  by_cases h : bnd d k ≤ 5001
  · have e : b = bnd d k := by omega
    rw [e]
  · have e : b = 5001 := by omega
    rw [e]
    rcases Nat.eq_zero_or_pos d with rfl | hd
    · simp
    · have h1 := Nat.le_mul_of_pos_left (5001 + 1) hd
      have h2 := Nat.le_mul_of_pos_left (bnd d k + 1) hd
      omega

/-- The same with a degree that is cut off. -/
theorem bnd_cut (d k : Nat) (hd : 5001 ≤ d) : min (bnd d (k + 1)) 5001 = 5001 := by
  have h : d * 2 ≤ d * (bnd d k + 1) := Nat.mul_le_mul_left d (by have := bnd_pos d k; omega)
  show min (1 + d * (bnd d k + 1)) 5001 = 5001
  omega

theorem bnd_cut_eq (d : Nat) (k : Nat) : min (bnd (min d 5001) k) 5001 = min (bnd d k) 5001 := by
  by_cases h : d ≤ 5001
  · have e : min d 5001 = d := by omega
    rw [e]
  · have e : min d 5001 = 5001 := by omega
    rw [e]
    cases k with
    | zero => rfl
    | succ k => rw [bnd_cut _ _ (Nat.le_refl _), bnd_cut _ _ (by omega)]

/-- At the limit the bound stays. -/
theorem bnd_stay {d j k : Nat} (hd : 1 ≤ d) (h : 5001 ≤ bnd d j) (hjk : j ≤ k) : min (bnd d k) 5001 = min (bnd d j) 5001 := by
  have := bnd_mono hd hjk
  omega

theorem bnd_deg {d e : Nat} (h : d ≤ e) : ∀ k, bnd d k ≤ bnd e k
  | 0 => Nat.le_refl _
  | k + 1 => by
    have := Nat.mul_le_mul h (Nat.add_le_add_right (bnd_deg h k) 1)
    show 1 + d * (bnd d k + 1) ≤ 1 + e * (bnd e k + 1)
    omega

theorem bound_pos (k d : Int) : 1 ≤ bound k d := by
  unfold bound
  split
  · exact Nat.le_refl _
  · split
    · omega
    · have := bnd_pos d.toNat k.toNat
      omega

theorem bound_le (k d : Int) : bound k d ≤ 5001 := by
  unfold bound
  split
  · omega
  · split
    · omega
    · omega

theorem bound_depth (k d : Int) : bound k d ≤ bound (k + 1) d := by
  by_cases hk : k < 1
  · have : bound k d = 1 := by simp [bound, hk]
    rw [this]; exact bound_pos _ _
  · by_cases hd : d < 1
    · have h1 : bound k d = 3 := by simp [bound, hk, hd]
      have h2 : bound (k + 1) d = 3 := by simp [bound, hd, show ¬ k + 1 < 1 by omega]
      rw [h1, h2]; exact Nat.le_refl _
    · have h1 : bound k d = min (bnd d.toNat k.toNat) 5001 := by simp [bound, hk, hd]
      have h2 : bound (k + 1) d = min (bnd d.toNat (k + 1).toNat) 5001 := by simp [bound, hd, show ¬ k + 1 < 1 by omega]
      have := bnd_mono (deg := d.toNat) (by omega) (show k.toNat ≤ (k + 1).toNat by omega)
      rw [h1, h2]; omega

theorem bound_degree (k d : Int) (hd : ¬ d < 1) : bound k d ≤ bound k (d + 1) := by
  by_cases hk : k < 1
  · have : bound k d = 1 := by simp [bound, hk]
    rw [this]; exact bound_pos _ _
  · have h1 : bound k d = min (bnd d.toNat k.toNat) 5001 := by simp [bound, hk, hd]
    have h2 : bound k (d + 1) = min (bnd (d + 1).toNat k.toNat) 5001 := by simp [bound, hk, show ¬ d + 1 < 1 by omega]
    have := bnd_deg (show d.toNat ≤ (d + 1).toNat by omega) k.toNat
    rw [h1, h2]; omega

theorem bound_one (k d : Int) (hk : ¬ 1 ≤ k) : bound k d = 1 := by simp [bound, show k < 1 by omega]

/-! ### Formulas are within the bound -/

theorem F_within {s : Lts} (hR : Right s) {deg : Nat} (hdeg : ∀ q, q < s.n.toNat → (steps s q).length ≤ deg) {p q : Nat} (hp : p < s.n.toNat) (hq : q < s.n.toNat) (h0 : 0 ≤ rank s p q) (hb : bound (s.n - 1) deg ≤ 5000) :
    (F s p q).length ≤ bound (s.n - 1) deg := by
  have hlt := (rank_lt s p q (by omega)).1
  have h00 := rank_ne_zero s p q
  have hdeg2 : ∀ q l, (meetsL s q l).length ≤ deg := fun q l => by
    unfold meetsL
    rw [List.length_map]
    refine Nat.le_trans (List.length_filter_le _ _) ?_
    by_cases hq : q < s.n.toNat
    · exact hdeg q hq
    · have : steps s q = [] := List.eq_nil_iff_forall_not_mem.2 (fun x hx => by
        have := hR.ok _ ((mem_steps s q x).1 hx)
        simp only at this
        omega)
      rw [this]; exact Nat.zero_le _
  have hd1 : 1 ≤ deg := by
    have key : ∀ p q, p < s.n.toNat → (telling s p q).isSome = true → 1 ≤ deg := fun p q hp h => by
      obtain ⟨x, hx⟩ := Option.isSome_iff_exists.1 h
      have := (telling_spec hx).1
      have h2 := hdeg p hp
      have h3 := List.length_pos_of_mem this
      omega
    rcases ht : telling s p q with _ | x
    · exact key q p hq (some_tells hR hp hq h0 ht)
    · exact key p q hp (by rw [ht]; rfl)
  have hl := (F_len hR hd1 hdeg2 p q hp hq h0).2
  have hm := bnd_mono hd1 (show (rank s p q).toNat ≤ (s.n - 1).toNat by omega)
  have hbe : bound (s.n - 1) deg = min (bnd deg (s.n - 1).toNat) 5001 := by
    unfold bound
    rw [if_neg (by omega), if_neg (by omega)]
    rfl
  omega

/-! ### The document's desk: a formula, or none where it is too long -/

/-- A formula and whether it fits. -/
def fits (f : List Nd) : Bool := decide (f.length ≤ 5000)
def held (f : List Nd) : List Nd := if f.length ≤ 5000 then f else []

theorem conj_head (f : List Nd) (r : List (List Nd)) : ∃ t, conj (f :: r) = f ++ t := by
  revert r
  refine snoc_ind ⟨[], by simp [conj]⟩ (fun r g ⟨t, h⟩ => ?_)
  exact ⟨t ++ g ++ [(3, 0)], by rw [conj_snoc, h]; simp⟩

theorem conj_more (l r : List (List Nd)) (hl : l ≠ []) : ∃ t, conj (l ++ r) = conj l ++ t := by
  cases l with
  | nil => exact absurd rfl hl
  | cons f l =>
    revert r
    refine snoc_ind ⟨[], by simp⟩ (fun r g ⟨t, h⟩ => ?_)
    refine ⟨t ++ g ++ [(3, 0)], ?_⟩
    rw [List.cons_append, show l ++ (r ++ [g]) = (l ++ r) ++ [g] by simp, conj_snoc, ← List.cons_append, h]
    simp

theorem conj_mem {l : List (List Nd)} {f : List Nd} (h : f ∈ l) : f.length ≤ (conj l).length := by
  obtain ⟨a, b, rfl⟩ := List.append_of_mem h
  cases a with
  | nil =>
    obtain ⟨t, ht⟩ := conj_head f b
    rw [List.nil_append, ht]; simp
  | cons x a =>
    obtain ⟨t, ht⟩ := conj_more ((x :: a) ++ [f]) b (by simp)
    rw [show (x :: a) ++ f :: b = ((x :: a) ++ [f]) ++ b by simp, ht, List.cons_append, conj_snoc]
    simp; omega

/-- What the desk has gathered behind k of the formulas. -/
def gath (g : List (List Nd)) (k : Nat) : List Nd := if Rd.seen (g.take k) = [] then [] else conj (Rd.seen (g.take k))

theorem gath_le (g : List (List Nd)) (k : Nat) : (gath g k).length ≤ (conj (Rd.seen g)).length := by
  unfold gath
  split
  · simp
  · rename_i h
    obtain ⟨t, ht⟩ := seen_prefix g k
    obtain ⟨u, hu⟩ := conj_more (Rd.seen (g.take k)) t h
    rw [ht, hu]; simp

theorem gath_old {g : List (List Nd)} {k : Nat} (h : k < g.length) (hm : g[k] ∈ Rd.seen (g.take k)) : gath g (k + 1) = gath g k := by
  unfold gath
  rw [seen_old h hm]

theorem gath_new {g : List (List Nd)} {k : Nat} (h : k < g.length) (hm : g[k] ∉ Rd.seen (g.take k)) :
    gath g (k + 1) = gath g k ++ g[k] ++ (if 1 < (Rd.seen (g.take (k + 1))).length then [(3, 0)] else []) := by
  unfold gath
  rw [seen_new h hm, if_neg (by simp)]
  cases he : Rd.seen (g.take k) with
  | nil => simp [conj]
  | cons f r => rw [List.cons_append, conj_snoc]; simp

theorem gath_end {g : List (List Nd)} (h : g ≠ []) : gath g g.length = conj (Rd.seen g) := by
  unfold gath
  rw [List.take_length, if_neg (fun e => ?_)]
  cases g with
  | nil => exact absurd rfl h
  | cons x g =>
    have : x ∈ Rd.seen (x :: g) := (mem_seen x _).2 (by simp)
    rw [e] at this
    simp at this

/-- A formula's parts too long: so is it. -/
theorem long_part {g : List (List Nd)} {k : Nat} (hk : k < g.length) (h : 5000 < g[k].length) (x : Nd) : 5000 < (conj (Rd.seen g) ++ [x]).length := by
  have := conj_mem ((mem_seen g[k] g).2 (List.getElem_mem hk))
  simp; omega

theorem long_gath {g : List (List Nd)} {k : Nat} (h : 5000 ≤ (gath g k).length) (x : Nd) : 5000 < (conj (Rd.seen g) ++ [x]).length := by
  have := gath_le g k
  simp; omega

end Go.Proofs.YtkcdkfkgjjpaaaaGreatDoor.Dt

namespace Go.Proofs.YtkcdkfkgjjpaaaaGreatDoor.Dt
open Go.Lib Go.Proofs.YtkcdkfkgjjpaaaaGreatDoor.Sy Go.Proofs.YtkcdkfkgjjpaaaaGreatDoor.Rd
set_option linter.unusedVariables false
set_option linter.unusedSimpArgs false

/-! ### The key of a part -/

/-- Numbers, a blank ahead of each. -/
def tailT (l : List Nat) : List UInt8 := l.flatMap fun k : Nat => 32 :: itoa (k : Int)
theorem tailT_snoc (l : List Nat) (k : Nat) : tailT (l ++ [k]) = tailT l ++ 32 :: itoa (k : Int) := by simp [tailT]

/-- A part's numbers. -/
def nums (y : Part) : List Int := y.1.1 :: y.1.2 :: y.2.map fun k : Nat => (k : Int)

/-- A part's key. -/
def keyT (y : Part) : List UInt8 := itoa y.1.1 ++ 32 :: itoa y.1.2 ++ tailT y.2

theorem tail_enc : ∀ (l : List Nat) (a : List UInt8), a ++ tailT l ++ [32] = a ++ 32 :: Tm.enc (l.map fun k : Nat => (k : Int))
  | [], a => by simp [tailT, Tm.enc]
  | k :: l, a => by
    have h := tail_enc l (a ++ 32 :: itoa (k : Int))
    rw [show a ++ tailT (k :: l) ++ [32] = a ++ 32 :: itoa (k : Int) ++ tailT l ++ [32] by simp [tailT], h, List.map_cons, Tm.enc_cons]
    simp

theorem key_enc (y : Part) : keyT y ++ [32] = Tm.enc (nums y) := by
  unfold keyT nums
  rw [tail_enc, Tm.enc_cons, Tm.enc_cons]
  simp

theorem nums_inj {x y : Part} (h : nums x = nums y) : x = y := by
  obtain ⟨⟨a, b⟩, l⟩ := x
  obtain ⟨⟨c, d⟩, m⟩ := y
  simp only [nums, List.cons.injEq] at h
  obtain ⟨rfl, rfl, h3⟩ := h
  have : l = m := by
    refine List.ext_getElem (by simpa using congrArg List.length h3) (fun i h1 h2 => ?_)
    have e : (l.map fun k : Nat => (k : Int))[i]'(by simpa using h1) = (m.map fun k : Nat => (k : Int))[i]'(by simpa using h2) := by simp only [h3]
    rw [List.getElem_map, List.getElem_map] at e
    exact Int.ofNat.inj e
  rw [this]

theorem keyT_inj {x y : Part} (h : keyT x = keyT y) : x = y := nums_inj (Tm.enc_inj (by rw [← key_enc, ← key_enc, h]))

/-! ### A part put -/

/-- A later table. -/
structure Later (ps : List Part) (ts : List (List Nd)) (ps' : List Part) (ts' : List (List Nd)) : Prop where
  p : ∃ r, ps' = ps ++ r
  t : ∃ r, ts' = ts ++ r

theorem Later.refl (ps : List Part) (ts : List (List Nd)) : Later ps ts ps ts := ⟨⟨[], by simp⟩, ⟨[], by simp⟩⟩
theorem Later.trans {ps ts ps1 ts1 ps2 ts2} (h : Later ps ts ps1 ts1) (k : Later ps1 ts1 ps2 ts2) : Later ps ts ps2 ts2 := by
  obtain ⟨⟨a, ha⟩, ⟨b, hb⟩⟩ := h
  obtain ⟨⟨c, hc⟩, ⟨d, hd⟩⟩ := k
  exact ⟨⟨a ++ c, by rw [hc, ha, List.append_assoc]⟩, ⟨b ++ d, by rw [hd, hb, List.append_assoc]⟩⟩

theorem Later.len {ps ts ps' ts'} (h : Later ps ts ps' ts') : ps.length ≤ ps'.length := by
  obtain ⟨⟨a, rfl⟩, -⟩ := h
  simp

theorem Later.tell {ps ts ps' ts'} (h : Later ps ts ps' ts') (hT : Table ps ts) {i : Nat} (hi : i < ps.length) : ts'.getD i [] = ts.getD i [] := by
  obtain ⟨-, ⟨b, rfl⟩⟩ := h
  have : i < ts.length := by rw [hT.len]; exact hi
  simp [List.getD, List.getElem?_append_left this]

theorem Later.part {ps ts ps' ts'} (h : Later ps ts ps' ts') {i : Nat} (hi : i < ps.length) (d : Part) : ps'.getD i d = ps.getD i d := by
  obtain ⟨⟨b, rfl⟩, -⟩ := h
  simp [List.getD, List.getElem?_append_left hi]

/-- What a put part comes to: an old number, or a new one behind the others. -/
theorem Table.put {ps : List Part} {ts : List (List Nd)} (h : Table ps ts) {x : Nd} {l : List Nat} (hx : Is x) (hl : l.length = ar x) (hk : ∀ k ∈ l, k < ps.length) (hn : (x, l) ∉ ps) :
    Table (ps ++ [(x, l)]) (ts ++ [made ts x l]) ∧ Later ps ts (ps ++ [(x, l)]) (ts ++ [made ts x l]) ∧ (ts ++ [made ts x l]).getD ps.length [] = made ts x l :=
  ⟨h.push hx hl hk hn, ⟨⟨_, rfl⟩, ⟨_, rfl⟩⟩, by rw [← h.len]; exact getD_snoc_len ts _ _⟩

theorem made_one (ts : List (List Nd)) (x : Nd) (k : Nat) : made ts x [k] = ts.getD k [] ++ [x] := by simp [made]
theorem made_two (ts : List (List Nd)) (x : Nd) (k m : Nat) : made ts x [k, m] = ts.getD k [] ++ ts.getD m [] ++ [x] := by simp [made]
theorem made_nil (ts : List (List Nd)) (x : Nd) : made ts x [] = [x] := by simp [made]

/-! ### The teller -/

/-- What a teller has: its parts, their formulas, the pairs that it knows. -/
structure Tl where
  ps : List Part
  ts : List (List Nd)
  kn : List ((Nat × Nat) × Nat)

structure Tl.Ok (s : Lts) (T : Tl) : Prop where
  tab : Table T.ps T.ts
  kn : ∀ e ∈ T.kn, e.1.1 < s.n.toNat ∧ e.1.2 < s.n.toNat ∧ e.2 < T.ps.length ∧ T.ts.getD e.2 [] = F s e.1.1 e.1.2
  keys : (T.kn.map Prod.fst).Nodup

/-- Later on: of new pairs all want less fuel than d; so many parts came, by the new pairs and by e more. -/
structure Tl.To (s : Lts) (C d e : Nat) (T U : Tl) : Prop where
  later : Later T.ps T.ts U.ps U.ts
  kn : ∃ r, U.kn = T.kn ++ r ∧ ∀ y ∈ r, fuel s y.1.1 y.1.2 < d
  many : U.ps.length + T.kn.length * C ≤ T.ps.length + U.kn.length * C + e

theorem Tl.To.refl (s : Lts) (C d : Nat) (T : Tl) : T.To s C d 0 T := ⟨Later.refl _ _, ⟨[], by simp, by simp⟩, by omega⟩

theorem Tl.To.trans {s : Lts} {C d e d' e' : Nat} {T U V : Tl} (h : T.To s C d e U) (k : U.To s C d' e' V) : T.To s C (max d d') (e + e') V := by
  obtain ⟨l1, ⟨r1, h1, f1⟩, m1⟩ := h
  obtain ⟨l2, ⟨r2, h2, f2⟩, m2⟩ := k
  refine ⟨l1.trans l2, ⟨r1 ++ r2, by rw [h2, h1, List.append_assoc], fun y hy => ?_⟩, by omega⟩
  rcases List.mem_append.1 hy with hy | hy
  · have := f1 y hy; omega
  · have := f2 y hy; omega

theorem Tl.To.mono {s : Lts} {C d e d' e' : Nat} {T U : Tl} (h : T.To s C d e U) (hd : d ≤ d') (he : e ≤ e') : T.To s C d' e' U := by
  obtain ⟨l1, ⟨r1, h1, f1⟩, m1⟩ := h
  exact ⟨l1, ⟨r1, h1, fun y hy => Nat.lt_of_lt_of_le (f1 y hy) hd⟩, by omega⟩

/-- A part put. -/
theorem Tl.push {s : Lts} {C : Nat} {T : Tl} (h : T.Ok s) {x : Nd} {l : List Nat} (hx : Is x) (hl : l.length = ar x) (hk : ∀ k ∈ l, k < T.ps.length) (hn : (x, l) ∉ T.ps) :
    (Tl.mk (T.ps ++ [(x, l)]) (T.ts ++ [made T.ts x l]) T.kn).Ok s ∧ T.To s C 0 1 (Tl.mk (T.ps ++ [(x, l)]) (T.ts ++ [made T.ts x l]) T.kn) := by
  obtain ⟨h1, h2, h3⟩ := h.tab.put hx hl hk hn
  refine ⟨⟨h1, fun e he => ?_, h.keys⟩, ⟨h2, ⟨[], by simp, by simp⟩, by simp; omega⟩⟩
  obtain ⟨a, b, c, d⟩ := h.kn e he
  exact ⟨a, b, by show _ < (T.ps ++ [(x, l)]).length; rw [List.length_append]; omega, (h2.tell h.tab c).trans d⟩

/-- A pair that is known from now on. -/
theorem Tl.know {s : Lts} {C e p q n : Nat} {T U : Tl} (hU : U.Ok s) (hT : T.To s C (fuel s p q) e U) (he : e ≤ C) (hp : p < s.n.toNat) (hq : q < s.n.toNat) (hn : n < U.ps.length) (hf : U.ts.getD n [] = F s p q)
    (h0 : (p, q) ∉ T.kn.map Prod.fst) : (Tl.mk U.ps U.ts (U.kn ++ [((p, q), n)])).Ok s ∧ T.To s C (fuel s p q + 1) 0 (Tl.mk U.ps U.ts (U.kn ++ [((p, q), n)])) := by
  obtain ⟨l1, ⟨r1, h1, f1⟩, m1⟩ := hT
  refine ⟨⟨hU.tab, fun y hy => ?_, ?_⟩, ⟨l1, ⟨r1 ++ [((p, q), n)], by show U.kn ++ _ = _; rw [h1, List.append_assoc], fun y hy => ?_⟩, ?_⟩⟩
  · rcases List.mem_append.1 hy with hy | hy
    · exact hU.kn y hy
    · rw [List.mem_singleton] at hy
      subst hy
      exact ⟨hp, hq, hn, hf⟩
  · show ((U.kn ++ [((p, q), n)]).map Prod.fst).Nodup
    rw [List.map_append]
    refine List.nodup_append.2 ⟨hU.keys, by simp, fun a ha b hb e => ?_⟩
    simp only [List.map_cons, List.map_nil, List.mem_singleton] at hb
    subst hb
    subst e
    rw [h1, List.map_append, List.mem_append] at ha
    rcases ha with ha | ha
    · exact h0 ha
    · obtain ⟨y, hy, e⟩ := List.mem_map.1 ha
      have := f1 y hy
      rw [e] at this
      exact Nat.lt_irrefl _ this
  · rcases List.mem_append.1 hy with hy | hy
    · have := f1 y hy; omega
    · rw [List.mem_singleton] at hy
      subst hy
      exact Nat.lt_succ_self _
  · show U.ps.length + T.kn.length * C ≤ T.ps.length + (U.kn ++ [((p, q), n)]).length * C + 0
    rw [List.length_append, Nat.add_mul]
    simp only [List.length_cons, List.length_nil]
    omega

/-! ### How many -/

theorem nodup_le : ∀ (m : Nat) (l : List Nat), l.Nodup → (∀ x ∈ l, x < m) → l.length ≤ m := by
  intro m
  induction m with
  | zero =>
    intro l _ h
    cases l with
    | nil => simp
    | cons x l => exact absurd (h x (by simp)) (by omega)
  | succ m ih =>
    intro l hl h
    have h1 := ih (l.filter fun x => decide (x < m)) (hl.filter _) (fun x hx => by simpa using (List.mem_filter.1 hx).2)
    have h2 : ∀ l : List Nat, l.Nodup → (∀ x ∈ l, x < m + 1) → l.length ≤ (l.filter fun x => decide (x < m)).length + 1 := by
      intro l
      induction l with
      | nil => intro _ _; simp
      | cons x l ihl =>
        intro hn hb
        have hn2 := List.nodup_cons.1 hn
        by_cases hx : x < m
        · have := ihl hn2.2 (fun y hy => hb y (List.mem_cons_of_mem _ hy))
          simp [hx]; omega
        · have hxm : x = m := by have := hb x (by simp); omega
          have : l.filter (fun x => decide (x < m)) = l := List.filter_eq_self.2 (fun y hy => by
            have h3 := hb y (List.mem_cons_of_mem _ hy)
            have h4 : y ≠ m := fun e => hn2.1 (by rw [hxm, ← e]; exact hy)
            simp; omega)
          simp [hx, this]
    have := h2 l hl h
    omega

theorem pairs_le {n : Nat} {l : List (Nat × Nat)} (hl : l.Nodup) (h : ∀ x ∈ l, x.1 < n ∧ x.2 < n) : l.length ≤ n * n := by
  have hinj : ∀ a ∈ l, ∀ b ∈ l, a.1 * n + a.2 = b.1 * n + b.2 → a = b := by
    intro a ha b hb e
    have h1 := h a ha
    have h2 := h b hb
    have e1 : (a.1 * n + a.2) / n = a.1 := by rw [Nat.mul_comm, Nat.mul_add_div (by omega), Nat.div_eq_of_lt h1.2]; omega
    have e2 : (b.1 * n + b.2) / n = b.1 := by rw [Nat.mul_comm, Nat.mul_add_div (by omega), Nat.div_eq_of_lt h2.2]; omega
    have e3 : a.1 = b.1 := by rw [← e1, ← e2, e]
    refine Prod.ext e3 ?_
    rw [e3] at e
    omega
  have := nodup_le (n * n) (l.map fun x => x.1 * n + x.2) (List.pairwise_map.2 (hl.imp_of_mem (fun ha hb hab e => hab (hinj _ ha _ hb e)))) (fun x hx => by
    obtain ⟨y, hy, rfl⟩ := List.mem_map.1 hx
    have h1 := h y hy
    have : y.1 * n + n ≤ n * n := by
      have := Nat.mul_le_mul_right n (show y.1 + 1 ≤ n by omega)
      rw [Nat.add_mul] at this; omega
    omega)
  simpa using this

theorem Tl.Ok.many {s : Lts} {T : Tl} (h : T.Ok s) : T.kn.length ≤ s.n.toNat * s.n.toNat := by
  have := pairs_le h.keys (fun x hx => by
    obtain ⟨e, he, rfl⟩ := List.mem_map.1 hx
    have := h.kn e he
    exact ⟨this.1, this.2.1⟩)
  simpa using this

theorem Tl.To.many2 {s : Lts} {C d e : Nat} {U : Tl} (h : (Tl.mk [] [] []).To s C d e U) (hU : U.Ok s) : U.ps.length ≤ s.n.toNat * s.n.toNat * C + e := by
  have h1 := h.many
  have h2 := Nat.mul_le_mul_right C hU.many
  simp at h1
  omega

/-! ### The numbers of a step's formulas -/

/-- Parts with numbers, and their formulas. -/
structure Nums (T : Tl) (l : List Nat) (fs : List (List Nd)) : Prop where
  lt : ∀ k ∈ l, k < T.ps.length
  eq : l.map (fun k => T.ts.getD k []) = fs

theorem Nums.later {s : Lts} {C d e : Nat} {T U : Tl} (hT : T.Ok s) (h : T.To s C d e U) {l : List Nat} {fs : List (List Nd)} (hl : Nums T l fs) : Nums U l fs :=
  ⟨fun k hk => Nat.lt_of_lt_of_le (hl.lt k hk) h.later.len, by rw [← hl.eq]; exact List.map_congr_left (fun k hk => h.later.tell hT.tab (hl.lt k hk))⟩

theorem Nums.mem {s : Lts} {T : Tl} (hT : T.Ok s) {l : List Nat} {fs : List (List Nd)} (hl : Nums T l fs) {n : Nat} (hn : n < T.ps.length) : n ∈ l ↔ T.ts.getD n [] ∈ fs := by
  rw [← hl.eq, List.mem_map]
  constructor
  · exact fun h => ⟨n, h, rfl⟩
  · rintro ⟨k, hk, he⟩
    rw [← hT.tab.inj k n (hl.lt k hk) hn he]
    exact hk

/-- One formula more, if it was not there. -/
theorem Nums.step {s : Lts} {T : Tl} (hT : T.Ok s) {l : List Nat} {g : List (List Nd)} {k : Nat} (hk : k < g.length) (hl : Nums T l (Rd.seen (g.take k))) {n : Nat} (hn : n < T.ps.length) (hf : T.ts.getD n [] = g[k]) :
    (n ∈ l → Nums T l (Rd.seen (g.take (k + 1)))) ∧ (n ∉ l → Nums T (l ++ [n]) (Rd.seen (g.take (k + 1)))) := by
  have hm := hl.mem hT hn
  rw [hf] at hm
  constructor
  · intro h
    rw [seen_old hk (hm.1 h)]; exact hl
  · intro h
    rw [seen_new hk (fun h' => h (hm.2 h'))]
    refine ⟨fun j hj => ?_, by rw [List.map_append, hl.eq, List.map_cons, List.map_nil, hf]⟩
    rcases List.mem_append.1 hj with hj | hj
    · exact hl.lt j hj
    · rw [List.mem_singleton] at hj; rw [hj]; exact hn

/-! ### Sizes -/

def size (f : List Nd) : Nat := min f.length 5001

theorem size_one (f : List Nd) (x : Nd) : size (f ++ [x]) = min (1 + size f) 5001 := by simp [size]; omega
theorem size_two (f g : List Nd) (x : Nd) : size (f ++ g ++ [x]) = min (min (1 + size f) 5001 + size g) 5001 := by simp [size]; omega
theorem size_nil (x : Nd) : size [x] = 1 := by simp [size]

end Go.Proofs.YtkcdkfkgjjpaaaaGreatDoor.Dt

namespace Go.Proofs.YtkcdkfkgjjpaaaaGreatDoor.Dt
open Go.Maps Go.Proofs.YtkcdkfkgjjpaaaaGreatDoor.Sy Go.Proofs.YtkcdkfkgjjpaaaaGreatDoor.Rd
set_option linter.unusedVariables false
set_option linter.unusedSimpArgs false

/-- The map of keys and numbers, in the order in which they were put. -/
def mp (l : List (Lit × Nat)) : DataW Unit := l.foldl (fun D p => D.put p.1 (.lit (.int .i64 (p.2 : Nat)))) (.map [])

theorem mp_nil : mp [] = .map [] := rfl
theorem mp_snoc (l : List (Lit × Nat)) (k : Lit) (n : Nat) : mp (l ++ [(k, n)]) = (mp l).put k (.lit (.int .i64 (n : Nat))) := by simp [mp, List.foldl_append]

theorem mp_map (l : List (Lit × Nat)) : IsMap (mp l) := by
  obtain ⟨r, rfl⟩ : ∃ r : List (Lit × Nat), l = r.reverse := ⟨l.reverse, by simp⟩
  induction r with
  | nil => exact isMap_empty
  | cons x r ih => rw [List.reverse_cons, mp_snoc]; exact ih.put _ _

theorem mp_at {l : List (Lit × Nat)} (hk : ∀ e ∈ l, WideAt.IsKeyLit e.1) (hn : (l.map Prod.fst).Nodup) (k : Lit) :
    (Maps.has (mp l) k = true ↔ k ∈ l.map Prod.fst) ∧ ∀ n z, (k, n) ∈ l → (mp l).atKey k z = .lit (.int .i64 (n : Nat)) := by
  obtain ⟨r, rfl⟩ : ∃ r : List (Lit × Nat), l = r.reverse := ⟨l.reverse, by simp⟩
  induction r with
  | nil => exact ⟨by simp [mp_nil, Maps.has], fun n z h => by simp at h⟩
  | cons x r ih =>
    obtain ⟨c, m⟩ := x
    rw [List.reverse_cons] at hk hn ⊢
    rw [List.map_append] at hn ⊢
    have hn2 := List.nodup_append.1 hn
    obtain ⟨i1, i2⟩ := ih (fun e he => hk e (List.mem_append_left _ he)) hn2.1
    have hc := hk (c, m) (by simp)
    rw [mp_snoc]
    by_cases e : k = c
    · subst e
      refine ⟨?_, fun n z h => ?_⟩
      · rw [has_put_same (mp_map _) hc]; simp
      · rw [atKey_put_same (mp_map _) hc]
        rcases List.mem_append.1 h with h | h
        · exact absurd rfl (hn2.2.2 k (List.mem_map.2 ⟨_, h, rfl⟩) k (by simp))
        · simp at h; rw [h]
    · refine ⟨?_, fun n z h => ?_⟩
      · rw [has_put_other e, i1]; simp [e]
      · rw [atKey_put_other e]
        rcases List.mem_append.1 h with h | h
        · exact i2 n z h
        · simp at h; exact absurd h.1 e

/-- The parts' map. -/
def atOf (ps : List Part) : List (Lit × Nat) := ps.zipIdx.map fun p => (.string (keyT p.1), p.2)

theorem atOf_snoc (ps : List Part) (y : Part) : atOf (ps ++ [y]) = atOf ps ++ [(.string (keyT y), ps.length)] := by simp [atOf, List.zipIdx_append]

theorem atOf_keys (ps : List Part) : (atOf ps).map Prod.fst = ps.map fun y => Lit.string (keyT y) := by
  have : (atOf ps).map Prod.fst = (ps.zipIdx.map Prod.fst).map fun y => Lit.string (keyT y) := by
    unfold atOf
    rw [List.map_map, List.map_map]
    rfl
  rw [this, List.zipIdx_map_fst]

theorem atOf_key (ps : List Part) : ∀ e ∈ atOf ps, WideAt.IsKeyLit e.1 := by
  intro e he
  obtain ⟨p, _, rfl⟩ := List.mem_map.1 he
  trivial

theorem lit_inj {x y : Part} (h : Lit.string (keyT x) = Lit.string (keyT y)) : x = y := keyT_inj (by simpa using h)

theorem atOf_nodup {ps : List Part} (h : ps.Nodup) : ((atOf ps).map Prod.fst).Nodup := by
  rw [atOf_keys]
  exact List.pairwise_map.2 (h.imp (fun hab e => hab (lit_inj e)))

/-- What the parts' map tells of a part. -/
theorem atOf_has {ps : List Part} (h : ps.Nodup) (y : Part) : Maps.has (mp (atOf ps)) (.string (keyT y)) = decide (y ∈ ps) := by
  have h1 := (mp_at (atOf_key ps) (atOf_nodup h) (.string (keyT y))).1
  rw [atOf_keys, List.mem_map] at h1
  have h2 : (∃ a, a ∈ ps ∧ Lit.string (keyT a) = Lit.string (keyT y)) ↔ y ∈ ps := ⟨fun ⟨a, ha, e⟩ => lit_inj e ▸ ha, fun hy => ⟨y, hy, rfl⟩⟩
  rw [h2] at h1
  exact Bool.eq_iff_iff.2 (by rw [h1, decide_eq_true_eq])

theorem atOf_get {ps : List Part} (h : ps.Nodup) {y : Part} (hy : y ∈ ps) : ∃ i, i < ps.length ∧ ps.getD i ((0, 0), []) = y ∧ ∀ z, (mp (atOf ps)).atKey (.string (keyT y)) z = .lit (.int .i64 (i : Nat)) := by
  obtain ⟨i, hi, rfl⟩ := List.getElem_of_mem hy
  refine ⟨i, hi, by simp [List.getD, hi], fun z => (mp_at (atOf_key ps) (atOf_nodup h) _).2 i z ?_⟩
  refine List.mem_map.2 ⟨(ps[i], i), ?_, rfl⟩
  exact List.mem_zipIdx_iff_getElem?.2 (by simp [hi])

/-- The pairs' map, by what a pair's key is. -/
def knOf (key : Nat → Nat → Lit) (kn : List ((Nat × Nat) × Nat)) : List (Lit × Nat) := kn.map fun e => (key e.1.1 e.1.2, e.2)

theorem knOf_snoc (key : Nat → Nat → Lit) (kn : List ((Nat × Nat) × Nat)) (e : (Nat × Nat) × Nat) : knOf key (kn ++ [e]) = knOf key kn ++ [(key e.1.1 e.1.2, e.2)] := by simp [knOf]

structure KeyFor (n : Nat) (key : Nat → Nat → Lit) : Prop where
  lit : ∀ a b, WideAt.IsKeyLit (key a b)
  inj : ∀ a b c d, a < n → b < n → c < n → d < n → key a b = key c d → a = c ∧ b = d

theorem knOf_at {n : Nat} {key : Nat → Nat → Lit} (hK : KeyFor n key) {kn : List ((Nat × Nat) × Nat)} (hlt : ∀ e ∈ kn, e.1.1 < n ∧ e.1.2 < n) (hn : (kn.map Prod.fst).Nodup) {p q : Nat} (hp : p < n) (hq : q < n) :
    Maps.has (mp (knOf key kn)) (key p q) = decide ((p, q) ∈ kn.map Prod.fst) ∧ ∀ m z, ((p, q), m) ∈ kn → (mp (knOf key kn)).atKey (key p q) z = .lit (.int .i64 (m : Nat)) := by
  have hkeys : (knOf key kn).map Prod.fst = (kn.map Prod.fst).map fun a => key a.1 a.2 := by simp [knOf]
  have hnd : ((knOf key kn).map Prod.fst).Nodup := by
    rw [hkeys]
    refine List.pairwise_map.2 (hn.imp_of_mem (fun {a b} ha hb hab e => hab ?_))
    obtain ⟨x, hx, rfl⟩ := List.mem_map.1 ha
    obtain ⟨y, hy, rfl⟩ := List.mem_map.1 hb
    obtain ⟨e1, e2⟩ := hK.inj _ _ _ _ (hlt x hx).1 (hlt x hx).2 (hlt y hy).1 (hlt y hy).2 e
    exact Prod.ext e1 e2
  have hall := mp_at (l := knOf key kn) (fun e he => by obtain ⟨a, _, rfl⟩ := List.mem_map.1 he; exact hK.lit _ _) hnd (key p q)
  refine ⟨?_, fun m z h => hall.2 m z (List.mem_map.2 ⟨_, h, rfl⟩)⟩
  have h1 := hall.1
  rw [hkeys, List.mem_map] at h1
  refine Bool.eq_iff_iff.2 ?_
  rw [h1, decide_eq_true_eq]
  constructor
  · rintro ⟨a, ha, e⟩
    obtain ⟨x, hx, rfl⟩ := List.mem_map.1 ha
    obtain ⟨e1, e2⟩ := hK.inj _ _ _ _ (hlt x hx).1 (hlt x hx).2 hp hq e
    have : x.1 = (p, q) := Prod.ext e1 e2
    rw [← this]; exact ha
  · exact fun h => ⟨(p, q), h, rfl⟩

end Go.Proofs.YtkcdkfkgjjpaaaaGreatDoor.Dt
