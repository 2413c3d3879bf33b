/- The plain side of systems: lists in strict order, each element once; the edges of a system in their order, the steps of each state. No function of the program is named. -/
import Derived.Sort.Statements
namespace Go.Proofs.YtkcdkfkgjjpaaaaGreatDoor.Sy
set_option linter.unusedVariables false
set_option linter.unusedSimpArgs false
set_option linter.unusedSectionVars false

/-! ### Lists in a strict order -/

/-- A strict total order. -/
structure Tot {α : Type} (lt : α → α → Bool) : Prop where
  irrefl : ∀ a, lt a a = false
  trans : ∀ a b c, lt a b = true → lt b c = true → lt a c = true
  total : ∀ a b, lt a b = true ∨ a = b ∨ lt b a = true

section
variable {α : Type} [DecidableEq α] {lt : α → α → Bool}

/-- An element put into its place, unless it stands there. -/
def ins (lt : α → α → Bool) (x : α) : List α → List α
  | [] => [x]
  | y :: t => if x = y then y :: t else if lt x y then x :: y :: t else y :: ins lt x t

/-- A list's elements in their order, each once. -/
def norm (lt : α → α → Bool) (l : List α) : List α := l.foldr (ins lt) []

theorem mem_ins (x z : α) : ∀ l : List α, z ∈ ins lt x l ↔ z = x ∨ z ∈ l
  | [] => by simp [ins]
  | y :: t => by
    unfold ins
    split
    · rename_i h; subst h; simp
    · split
      · simp
      · rw [List.mem_cons, mem_ins x z t, List.mem_cons]
        constructor
        · rintro (h | h | h); exact .inr (.inl h); exact .inl h; exact .inr (.inr h)
        · rintro (h | h | h); exact .inr (.inl h); exact .inl h; exact .inr (.inr h)

theorem mem_norm (z : α) : ∀ l : List α, z ∈ norm lt l ↔ z ∈ l
  | [] => by simp [norm]
  | y :: t => by
    have := mem_norm z t
    simp only [norm, List.foldr_cons] at this ⊢
    rw [mem_ins, this, List.mem_cons]

theorem pairwise_ins (T : Tot lt) (x : α) : ∀ l : List α, l.Pairwise (fun a b => lt a b = true) → (ins lt x l).Pairwise (fun a b => lt a b = true)
  | [], _ => by simp [ins]
  | y :: t, h => by
    obtain ⟨h1, h2⟩ := List.pairwise_cons.1 h
    unfold ins
    split
    · exact h
    · rename_i hne
      split
      · rename_i hlt
        refine List.pairwise_cons.2 ⟨?_, h⟩
        intro b hb
        rcases List.mem_cons.1 hb with rfl | hb
        · exact hlt
        · exact T.trans _ _ _ hlt (h1 b hb)
      · rename_i hnl
        refine List.pairwise_cons.2 ⟨?_, pairwise_ins T x t h2⟩
        intro b hb
        rcases (mem_ins x b t).1 hb with rfl | hb
        · rcases T.total b y with h | h | h
          · exact absurd h hnl
          · exact absurd h hne
          · exact h
        · exact h1 b hb

theorem pairwise_norm (T : Tot lt) : ∀ l : List α, (norm lt l).Pairwise (fun a b => lt a b = true)
  | [] => List.Pairwise.nil
  | y :: t => by
    simp only [norm, List.foldr_cons]
    exact pairwise_ins T y _ (pairwise_norm T t)

theorem nodup_of_pairwise (T : Tot lt) {l : List α} (h : l.Pairwise (fun a b => lt a b = true)) : l.Nodup :=
  h.imp (fun {a b} hab e => by subst e; rw [T.irrefl] at hab; cases hab)

/-- Two lists in strict order with the same elements are one. -/
theorem eq_of_strict (T : Tot lt) : ∀ (a b : List α), a.Pairwise (fun a b => lt a b = true) → b.Pairwise (fun a b => lt a b = true) → (∀ x, x ∈ a ↔ x ∈ b) → a = b
  | [], [], _, _, _ => rfl
  | [], y :: t, _, _, h => by have := (h y).2 (by simp); simp at this
  | x :: s, [], _, _, h => by have := (h x).1 (by simp); simp at this
  | x :: s, y :: t, ha, hb, h => by
    obtain ⟨a1, a2⟩ := List.pairwise_cons.1 ha
    obtain ⟨b1, b2⟩ := List.pairwise_cons.1 hb
    have hxy : x = y := by
      rcases List.mem_cons.1 ((h x).1 (by simp)) with e | hx
      · exact e
      rcases List.mem_cons.1 ((h y).2 (by simp)) with e | hy
      · exact e.symm
      have := T.trans _ _ _ (a1 y hy) (b1 x hx)
      rw [T.irrefl] at this; cases this
    subst hxy
    rw [eq_of_strict T s t a2 b2 (fun z => ?_)]
    constructor
    · intro hz
      rcases List.mem_cons.1 ((h z).1 (List.mem_cons_of_mem _ hz)) with e | hz'
      · subst e; have := a1 z hz; rw [T.irrefl] at this; cases this
      · exact hz'
    · intro hz
      rcases List.mem_cons.1 ((h z).2 (List.mem_cons_of_mem _ hz)) with e | hz'
      · subst e; have := b1 z hz; rw [T.irrefl] at this; cases this
      · exact hz'

/-- What stands behind its like is left out. -/
def addNew (acc : List α) (x : α) : List α := if acc.getLast? = some x then acc else acc ++ [x]

def cpt (l : List α) : List α := l.foldl addNew []

theorem cpt_snoc (l : List α) (x : α) : cpt (l ++ [x]) = if (cpt l).getLast? = some x then cpt l else cpt l ++ [x] := by
  simp only [cpt, List.foldl_append, List.foldl_cons, List.foldl_nil]
  rfl

theorem cpt_take (l : List α) (k : Nat) (h : k < l.length) : cpt (l.take (k + 1)) = if (cpt (l.take k)).getLast? = some l[k] then cpt (l.take k) else cpt (l.take k) ++ [l[k]] := by
  rw [List.take_succ_eq_append_getElem h, cpt_snoc]

theorem snoc_ind {p : List α → Prop} (h0 : p []) (h1 : ∀ s c, p s → p (s ++ [c])) (s : List α) : p s := by
  have h : ∀ r : List α, p r.reverse := by
    intro r
    induction r with
    | nil => exact h0
    | cons c r ih => rw [List.reverse_cons]; exact h1 _ _ ih
  have := h s.reverse
  rwa [List.reverse_reverse] at this

theorem cpt_last (l : List α) : (cpt l).getLast? = l.getLast? := by
  revert l
  refine snoc_ind rfl ?_
  intro l x ih
  rw [cpt_snoc]
  split
  · rename_i h; rw [h]; simp
  · simp

theorem mem_cpt (z : α) (l : List α) : z ∈ cpt l ↔ z ∈ l := by
  revert l
  refine snoc_ind (by simp [cpt]) ?_
  intro l x ih
  rw [cpt_snoc]
  split
  · rename_i h
    rw [ih, List.mem_append, List.mem_singleton]
    constructor
    · exact .inl
    · rintro (h' | rfl)
      · exact h'
      · exact List.mem_of_getLast? ((cpt_last l).symm.trans h)
  · simp [ih]

theorem cpt_len (l : List α) : (cpt l).length ≤ l.length := by
  revert l
  refine snoc_ind (by simp [cpt]) ?_
  intro l x ih
  rw [cpt_snoc]
  split <;> simp <;> omega

theorem cpt_pos (l : List α) (h : 0 < l.length) : 0 < (cpt l).length := by
  cases l with
  | nil => simp at h
  | cons x t =>
    have : x ∈ cpt (x :: t) := (mem_cpt _ _).2 (by simp)
    exact List.length_pos_of_mem this

/-- A rising list without repeated neighbours is in strict order. -/
theorem pairwise_cpt (T : Tot lt) (l : List α) (h : l.Pairwise (fun a b => lt b a = false)) : (cpt l).Pairwise (fun a b => lt a b = true) := by
  revert l
  refine snoc_ind (fun _ => List.Pairwise.nil) ?_
  intro l x ih h
  obtain ⟨h1, h2, h3⟩ := List.pairwise_append.1 h
  rw [cpt_snoc]
  split
  · exact ih h1
  · rename_i hne
    have hl := ih h1
    refine List.pairwise_append.2 ⟨hl, List.pairwise_singleton _ _, ?_⟩
    intro a ha b hb
    obtain rfl := List.mem_singleton.1 hb
    have hna := h3 a ((mem_cpt _ _).1 ha) b (by simp)
    rcases T.total a b with h | h | h
    · exact h
    · subst h
      -- a is in cpt l, and all of l stands ahead of it: a is the last one
      exfalso
      apply hne
      rcases hc : (cpt l).getLast? with _ | y
      · rw [List.getLast?_eq_none_iff.1 hc] at ha; cases ha
      · have hym := List.mem_of_getLast? hc
        have hyx := h3 y ((mem_cpt _ _).1 hym) a (by simp)
        obtain ⟨ini, hini⟩ := List.getLast?_eq_some_iff.1 hc
        rw [hini] at ha hl
        rcases List.mem_append.1 ha with ha | ha
        · have := (List.pairwise_append.1 hl).2.2 a ha y (by simp)
          rw [hyx] at this; cases this
        · rw [List.mem_singleton.1 ha]
    · rw [hna] at h; cases h

theorem cpt_norm (T : Tot lt) (l m : List α) (h : l.Pairwise (fun a b => lt b a = false)) (hm : ∀ x, x ∈ l ↔ x ∈ m) : cpt l = norm lt m :=
  eq_of_strict T _ _ (pairwise_cpt T l h) (pairwise_norm T m) (fun x => by rw [mem_cpt, mem_norm, hm])

theorem norm_of_strict (T : Tot lt) (l : List α) (h : l.Pairwise (fun a b => lt a b = true)) : norm lt l = l :=
  eq_of_strict T _ _ (pairwise_norm T l) h (fun x => mem_norm x l)

theorem ins_len (x : α) : ∀ l : List α, (ins lt x l).length ≤ l.length + 1
  | [] => by simp [ins]
  | y :: t => by
    unfold ins
    split
    · simp
    · split
      · simp
      · have := ins_len x t; simp; omega

theorem norm_len : ∀ l : List α, (norm lt l).length ≤ l.length
  | [] => by simp [norm]
  | y :: t => by
    have h1 := norm_len t
    have h2 := ins_len (lt := lt) y (norm lt t)
    simp only [norm, List.foldr_cons, List.length_cons] at h1 h2 ⊢
    omega
end

/-! ### A list made compact in its place -/

section
variable {α : Type} [DecidableEq α]

theorem take_last (d : α) (l : List α) (j : Nat) (h1 : 1 ≤ j) (h2 : j ≤ l.length) : (l.take j).getLast? = some (l.getD (j - 1) d) := by
  rw [List.getLast?_eq_getElem?, List.length_take, Nat.min_eq_left h2, List.getElem?_take, if_pos (by omega), List.getElem?_eq_getElem (by omega)]
  simp [List.getD, show j - 1 < l.length by omega]

theorem cpt_step (d : α) (l : List α) (j : Nat) (h1 : 1 ≤ j) (h2 : j < l.length) : cpt (l.take (j + 1)) = if l.getD j d = l.getD (j - 1) d then cpt (l.take j) else cpt (l.take j) ++ [l.getD j d] := by
  rw [cpt_take l j h2, cpt_last, take_last d l j h1 (by omega)]
  have e : l[j] = l.getD j d := by simp [List.getD, h2]
  rw [e]
  by_cases h : l.getD j d = l.getD (j - 1) d
  · rw [if_pos (by rw [h]), if_pos h]
  · rw [if_neg (fun e => h (Option.some.inj e).symm), if_neg h]

/-- A list under way: j elements are looked at, kk of them are kept, ahead of all that was not looked at. -/
structure CptInv (d : α) (l m : List α) (j kk : Nat) : Prop where
  len : m.length = l.length
  kept : kk = (cpt (l.take j)).length
  take : m.take kk = cpt (l.take j)
  high : ∀ i, j ≤ i + 1 → m.getD i d = l.getD i d
  lt : kk < j
  le : j ≤ l.length

theorem cpt_one (l : List α) (h : 1 ≤ l.length) : cpt (l.take 1) = l.take 1 := by
  cases l with
  | nil => simp at h
  | cons x t => rfl

theorem CptInv.start {d : α} {l : List α} {k : Nat} (h0 : cpt (l.take k) = l.take k) (h1 : 1 ≤ k) (h2 : k < l.length) (he : l.getD k d = l.getD (k - 1) d) : CptInv d l l (k + 1) k := by
  have hs := cpt_step d l k h1 h2
  rw [if_pos he, h0] at hs
  exact ⟨rfl, by rw [hs, List.length_take]; omega, hs.symm, fun i _ => rfl, by omega, by omega⟩

theorem CptInv.skip {d : α} {l m : List α} {j kk : Nat} (h : CptInv d l m j kk) (h1 : j < l.length) (he : l.getD j d = l.getD (j - 1) d) : CptInv d l m (j + 1) kk := by
  have := h.lt
  have hs := cpt_step d l j (by omega) h1
  rw [if_pos he] at hs
  exact ⟨h.len, by rw [hs]; exact h.kept, by rw [hs]; exact h.take, fun i hi => h.high i (by omega), by omega, by omega⟩

theorem CptInv.keep {d : α} {l m : List α} {j kk : Nat} (h : CptInv d l m j kk) (h1 : j < l.length) (he : l.getD j d ≠ l.getD (j - 1) d) : CptInv d l (m.set kk (l.getD j d)) (j + 1) (kk + 1) := by
  have hlt := h.lt
  have hlen := h.len
  have hs := cpt_step d l j (by omega) h1
  rw [if_neg he] at hs
  refine ⟨by rw [List.length_set]; exact hlen, by rw [hs, List.length_append, ← h.kept]; rfl, ?_, fun i hi => ?_, by omega, by omega⟩
  · rw [hs, ← h.take, List.take_add_one, List.take_set, List.getElem?_set_self (by omega)]
    rw [List.set_eq_of_length_le (by rw [List.length_take]; omega)]
    rfl
  · rw [List.getD, List.getElem?_set_ne (by omega)]
    exact h.high i (by omega)

theorem CptInv.endd {d : α} {l m : List α} {kk : Nat} (h : CptInv d l m l.length kk) : m.take kk = cpt l ∧ kk = (cpt l).length := by
  have h1 := h.take
  have h2 := h.kept
  rw [List.take_length] at h1 h2
  exact ⟨h1, h2⟩

theorem cpt_more (d : α) {l : List α} {k : Nat} (h0 : cpt (l.take k) = l.take k) (h1 : 1 ≤ k) (h2 : k < l.length) (he : l.getD k d ≠ l.getD (k - 1) d) : cpt (l.take (k + 1)) = l.take (k + 1) := by
  rw [cpt_step d l k h1 h2, if_neg he, h0, List.take_succ_eq_append_getElem h2]
  simp [List.getD, h2]
end

/-! ### Pairs and triples of integers in their order -/

def lt2 (a b : Int × Int) : Bool := decide (a.1 < b.1 ∨ a.1 = b.1 ∧ a.2 < b.2)
def lt3 (a b : Int × Int × Int) : Bool := decide (a.1 < b.1 ∨ a.1 = b.1 ∧ (a.2.1 < b.2.1 ∨ a.2.1 = b.2.1 ∧ a.2.2 < b.2.2))
/-- By the third, then the second, then the first one. -/
def lt3r (a b : Int × Int × Int) : Bool := decide (a.2.2 < b.2.2 ∨ a.2.2 = b.2.2 ∧ (a.2.1 < b.2.1 ∨ a.2.1 = b.2.1 ∧ a.1 < b.1))

theorem tot2 : Tot lt2 where
  irrefl a := by simp [lt2]
  trans a b c h1 h2 := by simp [lt2] at *; omega
  total a b := by
    obtain ⟨a1, a2⟩ := a; obtain ⟨b1, b2⟩ := b
    simp only [lt2, decide_eq_true_eq, Prod.mk.injEq]; omega

theorem tot3 : Tot lt3 where
  irrefl a := by simp [lt3]
  trans a b c h1 h2 := by simp [lt3] at *; omega
  total a b := by
    obtain ⟨a1, a2, a3⟩ := a; obtain ⟨b1, b2, b3⟩ := b
    simp only [lt3, decide_eq_true_eq, Prod.mk.injEq]; omega

theorem tot3r : Tot lt3r where
  irrefl a := by simp [lt3r]
  trans a b c h1 h2 := by simp [lt3r] at *; omega
  total a b := by
    obtain ⟨a1, a2, a3⟩ := a; obtain ⟨b1, b2, b3⟩ := b
    simp only [lt3r, decide_eq_true_eq, Prod.mk.injEq]; omega

/-! ### Systems -/

abbrev Edge := Int × Int × Int

/-- A system as it is handed over: states, labels, start, edges (from, label, to). -/
structure Lts where
  n : Int
  m : Int
  start : Int
  es : List Edge

def okEdge (s : Lts) (e : Edge) : Bool := decide (0 ≤ e.1 ∧ 0 ≤ e.2.2 ∧ 0 ≤ e.2.1 ∧ e.1 < s.n ∧ e.2.2 < s.n ∧ e.2.1 < s.m)

def right (s : Lts) : Bool :=
  decide (0 ≤ s.n ∧ s.n ≤ 1000 ∧ 1 ≤ s.m ∧ s.m ≤ 201 ∧ 0 ≤ s.start ∧ (0 < s.start → s.start < s.n) ∧ s.es.length ≤ 10000) && s.es.all (okEdge s)

structure Right (s : Lts) : Prop where
  n0 : 0 ≤ s.n
  n1 : s.n ≤ 1000
  m1 : 1 ≤ s.m
  m2 : s.m ≤ 201
  st0 : 0 ≤ s.start
  st1 : 0 < s.start → s.start < s.n
  len : s.es.length ≤ 10000
  ok : ∀ e ∈ s.es, 0 ≤ e.1 ∧ 0 ≤ e.2.2 ∧ 0 ≤ e.2.1 ∧ e.1 < s.n ∧ e.2.2 < s.n ∧ e.2.1 < s.m

theorem right_iff (s : Lts) : right s = true ↔ Right s := by
  simp only [right, Bool.and_eq_true, decide_eq_true_eq, List.all_eq_true, okEdge]
  constructor
  · rintro ⟨⟨h1, h2, h3, h4, h5, h6, h7⟩, h8⟩; exact ⟨h1, h2, h3, h4, h5, h6, h7, h8⟩
  · rintro ⟨h1, h2, h3, h4, h5, h6, h7, h8⟩; exact ⟨⟨h1, h2, h3, h4, h5, h6, h7⟩, h8⟩

/-- The edges in their order, each once. -/
def sorted (s : Lts) : List Edge := norm lt3 s.es
/-- The same, by where they lead. -/
def turned (s : Lts) : List Edge := norm lt3r s.es

/-- A state's steps: label, and where it leads. -/
def steps (s : Lts) (p : Nat) : List (Int × Int) := ((sorted s).filter fun e => e.1 == (p : Int)).map (·.2)
/-- The steps to a state: label, and where it comes from. -/
def backs (s : Lts) (p : Nat) : List (Int × Int) := ((turned s).filter fun e => e.2.2 == (p : Int)).map fun e => (e.2.1, e.1)

theorem mem_sorted (s : Lts) (e : Edge) : e ∈ sorted s ↔ e ∈ s.es := mem_norm e s.es
theorem mem_turned (s : Lts) (e : Edge) : e ∈ turned s ↔ e ∈ s.es := mem_norm e s.es

theorem mem_steps (s : Lts) (p : Nat) (x : Int × Int) : x ∈ steps s p ↔ ((p : Int), x.1, x.2) ∈ s.es := by
  simp only [steps, List.mem_map, List.mem_filter, mem_sorted, beq_iff_eq]
  constructor
  · rintro ⟨⟨a, b, c⟩, ⟨h1, h2⟩, rfl⟩; simp at h2; subst h2; exact h1
  · intro h; exact ⟨_, ⟨h, rfl⟩, rfl⟩

theorem mem_backs (s : Lts) (p : Nat) (x : Int × Int) : x ∈ backs s p ↔ (x.2, x.1, (p : Int)) ∈ s.es := by
  simp only [backs, List.mem_map, List.mem_filter, mem_turned, beq_iff_eq]
  constructor
  · rintro ⟨⟨a, b, c⟩, ⟨h1, h2⟩, rfl⟩; simp at h2; subst h2; exact h1
  · intro h; exact ⟨_, ⟨h, rfl⟩, rfl⟩

theorem steps_pairwise (s : Lts) (p : Nat) : (steps s p).Pairwise (fun a b => lt2 a b = true) := by
  have h := (pairwise_norm tot3 s.es).filter (fun e => e.1 == (p : Int))
  have h' : ((sorted s).filter fun e => e.1 == (p : Int)).Pairwise (fun a b => lt2 a.2 b.2 = true) := by
    refine List.Pairwise.imp_of_mem ?_ h
    intro a b ha hb hab
    obtain ⟨_, h1⟩ := List.mem_filter.1 ha
    obtain ⟨_, h2⟩ := List.mem_filter.1 hb
    simp only [beq_iff_eq] at h1 h2
    simp only [lt3, lt2, decide_eq_true_eq] at hab ⊢
    omega
  exact List.pairwise_map.2 h'

/-! ### Rows one behind the other -/

/-- How many of a list's elements have a key below a number. -/
def below {α : Type} (key : α → Int) (l : List α) (i : Nat) : Nat := l.countP fun x => decide (key x < (i : Int))

theorem below_le {α : Type} (key : α → Int) (l : List α) (i : Nat) : below key l i ≤ l.length := List.countP_le_length

theorem below_mono {α : Type} (key : α → Int) (l : List α) {i j : Nat} (h : i ≤ j) : below key l i ≤ below key l j :=
  List.countP_mono_left (fun x _ hx => by simp at hx ⊢; omega)

theorem below_lt {α : Type} (key : α → Int) (x : α) (t : List α) {i : Nat} (h : key x < (i : Int)) : below key (x :: t) i = below key t i + 1 := by
  simp only [below, List.countP_cons, decide_eq_true_eq]; rw [if_pos h]

theorem below_ge {α : Type} (key : α → Int) (x : α) (t : List α) {i : Nat} (h : ¬ key x < (i : Int)) : below key (x :: t) i = below key t i := by
  simp only [below, List.countP_cons, decide_eq_true_eq]; rw [if_neg h]; rfl

theorem below_succ {α : Type} (key : α → Int) : ∀ (l : List α) (i : Nat), below key l (i + 1) = below key l i + l.countP fun x => decide (key x = (i : Int))
  | [], i => by simp [below]
  | x :: t, i => by
    have := below_succ key t i
    rw [List.countP_cons]
    by_cases h1 : key x < (i : Int)
    · rw [below_lt key x t (i := i + 1) (by omega), below_lt key x t h1, if_neg (by simp; omega), this]; omega
    · by_cases h2 : key x = (i : Int)
      · rw [below_lt key x t (i := i + 1) (by omega), below_ge key x t h1, if_pos (by simpa using h2), this]; omega
      · rw [below_ge key x t (i := i + 1) (by omega), below_ge key x t h1, if_neg (by simpa using h2), this]; omega

/-- In a list that rises by its keys a row is what stands between two numbers. -/
theorem filter_row {α : Type} (key : α → Int) : ∀ (l : List α) (i : Nat), l.Pairwise (fun a b => key a ≤ key b) →
    l.filter (fun x => key x == (i : Int)) = (l.drop (below key l i)).take (below key l (i + 1) - below key l i)
  | [], i, _ => by simp [below]
  | x :: t, i, h => by
    obtain ⟨h1, h2⟩ := List.pairwise_cons.1 h
    have ih := filter_row key t i h2
    have hm := below_mono key t (show i ≤ i + 1 by omega)
    by_cases g1 : key x < (i : Int)
    · rw [below_lt key x t (i := i + 1) (by omega), below_lt key x t g1, List.filter_cons_of_neg (by simp; omega), ih, List.drop_succ_cons]
      congr 1; omega
    · have z : below key t i = 0 := by
        unfold below; rw [List.countP_eq_zero]; intro y hy; have := h1 y hy; simp; omega
      rw [z] at ih
      rw [below_ge key x t g1, z]
      by_cases g2 : key x = (i : Int)
      · rw [below_lt key x t (i := i + 1) (by omega), List.filter_cons_of_pos (by simpa using g2), ih]
        simp
      · have z2 : below key t (i + 1) = 0 := by
          unfold below; rw [List.countP_eq_zero]; intro y hy; have := h1 y hy; simp; omega
        rw [below_ge key x t (i := i + 1) (by omega), z2, List.filter_cons_of_neg (by simpa using g2), ih, z2]
        simp

theorem below_zero {α : Type} (key : α → Int) (l : List α) (h : ∀ x ∈ l, 0 ≤ key x) : below key l 0 = 0 := by
  unfold below; rw [List.countP_eq_zero]; intro y hy; have := h y hy; simp; omega

theorem below_all {α : Type} (key : α → Int) (l : List α) (n : Nat) (h : ∀ x ∈ l, key x < n) : below key l n = l.length := by
  unfold below; rw [List.countP_eq_length]; intro y hy; have := h y hy; simpa using this

theorem sorted_rises (s : Lts) : (sorted s).Pairwise (fun a b => a.1 ≤ b.1) :=
  (pairwise_norm tot3 s.es).imp (fun {a b} h => by simp only [lt3, decide_eq_true_eq] at h; omega)
theorem turned_rises (s : Lts) : (turned s).Pairwise (fun a b => a.2.2 ≤ b.2.2) :=
  (pairwise_norm tot3r s.es).imp (fun {a b} h => by simp only [lt3r, decide_eq_true_eq] at h; omega)

end Go.Proofs.YtkcdkfkgjjpaaaaGreatDoor.Sy
