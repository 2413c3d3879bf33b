/- The plain law behind Weight and Consts: the terms that stand in a term are marked downwards; what is reckoned of the marked ones alone is what is reckoned of all. No program in sight. -/
import Derived.Test.YtiiieailimphnaaGreatDoorTmSame
namespace Go.Proofs.YtiiieailimphnaaGreatDoor.Tm

def partsAt (s : List T) (i : Nat) : List Int := match s[i]? with | some t => t.parts | none => []

def mk1 (l : List Bool) (ps : List Int) : List Bool := ps.foldl (fun l p => l.set p.toNat true) l

theorem mk1_len (ps : List Int) : ∀ l, (mk1 l ps).length = l.length := by
  induction ps with
  | nil => intro l; rfl
  | cons p ps ih => intro l; simp only [mk1, List.foldl_cons]; exact (ih _).trans (List.length_set ..)

theorem getD_set' {α : Type} (l : List α) (i j : Nat) (v d : α) : (l.set i v).getD j d = if i = j ∧ i < l.length then v else l.getD j d := by
  simp only [List.getD, List.getElem?_set]
  by_cases h : i = j
  · subst h
    by_cases h2 : i < l.length <;> simp [h2]
  · simp [h]

theorem mk1_get (ps : List Int) : ∀ (l : List Bool) (k : Nat), (mk1 l ps).getD k false = (l.getD k false || (decide (k < l.length) && decide (∃ p ∈ ps, p.toNat = k))) := by
  induction ps with
  | nil => intro l k; simp [mk1]
  | cons p ps ih =>
    intro l k
    have := ih (l.set p.toNat true) k
    simp only [mk1, List.foldl_cons] at this ⊢
    rw [this, getD_set', List.length_set]
    by_cases h1 : p.toNat = k
    · subst h1
      by_cases h2 : p.toNat < l.length
      · simp [h2]
      · simp [h2]
    · simp [h1]

/-- The marks, downwards. -/
def down (s : List T) : Nat → List Bool → List Bool
  | 0, l => l
  | i + 1, l => down s i (if l.getD i false = true then mk1 l (partsAt s i) else l)

def within (s : List T) (id : Nat) : List Bool := down s (id + 1) ((List.replicate (id + 1) false).set id true)

theorem down_len (s : List T) : ∀ i l, (down s i l).length = l.length := by
  intro i
  induction i with
  | zero => intro l; rfl
  | succ i ih => intro l; rw [down, ih]; split <;> simp [mk1_len]

theorem down_mono (s : List T) (k : Nat) : ∀ i l, l.getD k false = true → (down s i l).getD k false = true := by
  intro i
  induction i with
  | zero => intro l h; exact h
  | succ i ih =>
    intro l h
    rw [down]
    apply ih
    split
    · rw [mk1_get, h]; rfl
    · exact h

theorem partsAt_lt {s : List T} (h : Inv s) (i : Nat) : ∀ p ∈ partsAt s i, 0 ≤ p ∧ p < i := by
  intro p hp
  unfold partsAt at hp
  cases hx : s[i]? with
  | none => rw [hx] at hp; simp at hp
  | some t =>
    rw [hx] at hp
    obtain ⟨hi, rfl⟩ := List.getElem?_eq_some_iff.1 hx
    exact parts_lt (h.may i hi) p hp

theorem down_high {s : List T} (h : Inv s) (k : Nat) : ∀ i l, i ≤ k + 1 → (∀ _ : i ≤ k + 1, (down s i l).getD k false = l.getD k false) := by
  intro i
  induction i with
  | zero => intro l _ _; rfl
  | succ i ih =>
    intro l hik _
    rw [down, ih _ (by omega) (by omega)]
    split
    · rw [mk1_get]
      have : decide (∃ p ∈ partsAt s i, p.toNat = k) = false := by
        rw [decide_eq_false_iff_not]
        rintro ⟨p, hp, e⟩
        have := partsAt_lt h i p hp
        omega
      rw [this]; simp
    · rfl

/-- What is marked has its parts marked. -/
theorem down_closed {s : List T} (h : Inv s) : ∀ i l, i ≤ l.length → ∀ j, j < i → (down s i l).getD j false = true → ∀ p ∈ partsAt s j, (down s i l).getD p.toNat false = true := by
  intro i
  induction i with
  | zero => intro l _ j hj; omega
  | succ i ih =>
    intro l hl j hj hm p hp
    rw [down] at hm ⊢
    by_cases hji : j = i
    · subst hji
      rw [down_high h j j _ (by omega) (by omega)] at hm
      apply down_mono
      have hpl := partsAt_lt h j p hp
      split at hm
      · rename_i hc
        rw [if_pos hc, mk1_get]
        have h1 : decide (p.toNat < l.length) = true := by simp; omega
        have h2 : decide (∃ q ∈ partsAt s j, q.toNat = p.toNat) = true := by simp only [decide_eq_true_eq]; exact ⟨p, hp, rfl⟩
        rw [h1, h2]; simp
      · rename_i hc
        exact absurd hm hc
    · exact ih _ (by split <;> first | (rw [mk1_len]; omega) | omega) j (by omega) hm p hp

theorem within_len (s : List T) (id : Nat) : (within s id).length = id + 1 := by rw [within, down_len]; simp

theorem within_self (s : List T) (id : Nat) : (within s id).getD id false = true := by
  rw [within]; apply down_mono; rw [getD_set']; simp

theorem within_closed {s : List T} (h : Inv s) {id j : Nat} (hj : j ≤ id) (hm : (within s id).getD j false = true) : ∀ p ∈ partsAt s j, (within s id).getD p.toNat false = true :=
  down_closed h (id + 1) _ (by simp) j (by omega) hm

def sumAt (l : List Int) (ps : List Int) : Int := ps.foldl (fun n p => n + l.getD p.toNat 0) 1

/-- What is reckoned of the marked ones. -/
def kn (s : List T) (ins : List Bool) (m : Nat) : Nat → List Int
  | 0 => List.replicate m 0
  | i + 1 => if ins.getD i false = true then (kn s ins m i).set i (min (sumAt (kn s ins m i) (partsAt s i)) 65537) else kn s ins m i

/-- What is reckoned of all. -/
def rwt (s : List T) (m : Nat) : Nat → List Int
  | 0 => List.replicate m 0
  | i + 1 => (rwt s m i).set i (min (sumAt (rwt s m i) (partsAt s i)) 65537)

theorem kn_len (s : List T) (ins : List Bool) (m i : Nat) : (kn s ins m i).length = m := by
  induction i with
  | zero => simp [kn]
  | succ i ih => rw [kn]; split <;> simp [ih]

theorem rwt_len (s : List T) (m i : Nat) : (rwt s m i).length = m := by
  induction i with
  | zero => simp [rwt]
  | succ i ih => rw [rwt]; simp [ih]

theorem sum_congr {l m : List Int} : ∀ {ps : List Int} {a : Int}, (∀ p ∈ ps, l.getD p.toNat 0 = m.getD p.toNat 0) → ps.foldl (fun n p => n + l.getD p.toNat 0) a = ps.foldl (fun n p => n + m.getD p.toNat 0) a
  | [], _, _ => rfl
  | p :: ps, a, h => by
    simp only [List.foldl_cons]
    rw [h p List.mem_cons_self]
    exact sum_congr (fun q hq => h q (List.mem_cons_of_mem _ hq))

theorem kn_rwt {s : List T} (h : Inv s) {ins : List Bool} {m : Nat} (hcl : ∀ j, j < m → ins.getD j false = true → ∀ p ∈ partsAt s j, ins.getD p.toNat false = true) :
    ∀ i, i ≤ m → ∀ j, j < i → ins.getD j false = true → (kn s ins m i).getD j 0 = (rwt s m i).getD j 0 := by
  intro i
  induction i with
  | zero => intro _ j hj; omega
  | succ i ih =>
    intro him j hj hm
    rw [kn, rwt, getD_set', rwt_len]
    by_cases hji : j = i
    · subst hji
      rw [if_pos hm, getD_set', kn_len]
      have hlt : j < m := by omega
      simp only [hlt, and_self, if_true]
      have e : sumAt (kn s ins m j) (partsAt s j) = sumAt (rwt s m j) (partsAt s j) := by
        refine sum_congr (fun p hp => ?_)
        have hpl := partsAt_lt h j p hp
        exact ih (by omega) p.toNat (by omega) (hcl j (by omega) hm p hp)
      rw [e]
    · have hne : ¬ i = j := fun e => hji e.symm
      simp only [hne, false_and, if_false]
      have := ih (by omega) j (by omega) hm
      split
      · rw [getD_set']; simp only [hne, false_and, if_false]; exact this
      · exact this

/-- Weight, of the marked ones alone or of all. -/
def weight (s : List T) (id : Nat) : Int := (rwt s (id + 1) (id + 1)).getD id 0

theorem weight_kn {s : List T} (h : Inv s) (id : Nat) : (kn s (within s id) (id + 1) (id + 1)).getD id 0 = weight s id :=
  kn_rwt h (fun j hj hm => within_closed h (by omega) hm) (id + 1) (Nat.le_refl _) id (by omega) (within_self s id)

theorem sum_bound {l : List Int} {B : Int} (hl : ∀ k, 0 ≤ l.getD k 0 ∧ l.getD k 0 ≤ B) (hB : 0 ≤ B) : ∀ (ps : List Int) (a : Int), a ≤ ps.foldl (fun n p => n + l.getD p.toNat 0) a ∧ ps.foldl (fun n p => n + l.getD p.toNat 0) a ≤ a + B * ps.length
  | [], a => by simp
  | p :: ps, a => by
    simp only [List.foldl_cons, List.length_cons]
    have h1 := hl p.toNat
    have h2 := sum_bound hl hB ps (a + l.getD p.toNat 0)
    have h3 : B * ((ps.length + 1 : Nat) : Int) = B * ps.length + B := by rw [Int.natCast_add, Int.mul_add]; simp
    omega

theorem sorted_unique {a b : List Int} (ha : a.Pairwise (· < ·)) (hb : b.Pairwise (· < ·)) (h : ∀ x, x ∈ a ↔ x ∈ b) : a = b := by
  induction a generalizing b with
  | nil => cases b with
    | nil => rfl
    | cons y b => exact absurd ((h y).2 (List.mem_cons_self ..)) (List.not_mem_nil)
  | cons x a ih =>
    cases b with
    | nil => exact absurd ((h x).1 (List.mem_cons_self ..)) (List.not_mem_nil)
    | cons y b =>
      rw [List.pairwise_cons] at ha hb
      have hxy : x = y := by
        have h1 := (h x).1 (List.mem_cons_self ..)
        have h2 := (h y).2 (List.mem_cons_self ..)
        rcases List.mem_cons.1 h1 with e | h1
        · exact e
        · rcases List.mem_cons.1 h2 with e | h2
          · exact e.symm
          · have := ha.1 y h2; have := hb.1 x h1; omega
      subst hxy
      rw [ih ha.2 hb.2 (fun z => ?_)]
      have hz := h z
      simp only [List.mem_cons] at hz
      constructor
      · intro hm
        rcases hz.1 (.inr hm) with e | hm'
        · have := ha.1 z hm; omega
        · exact hm'
      · intro hm
        rcases hz.2 (.inr hm) with e | hm'
        · have := hb.1 z hm; omega
        · exact hm'

/-- The constants of the marked terms, as they stand. -/
def constAt (s : List T) (ins : List Bool) (i : Nat) : Option Int := match s[i]? with | some t => if ins.getD i false = true ∧ t.kind = 7 then some t.a else none | none => none

def consts (s : List T) (ins : List Bool) (n : Nat) : List Int := (List.range n).filterMap (constAt s ins)

theorem consts_succ (s : List T) (ins : List Bool) (n : Nat) : consts s ins (n + 1) = consts s ins n ++ (constAt s ins n).toList := by
  simp only [consts, List.range_succ, List.filterMap_append, List.filterMap_cons, List.filterMap_nil]
  cases constAt s ins n <;> rfl

theorem const_term {n : Nat} {t : T} (h : t.may n = true) (hk : t.kind = 7) : t = ⟨7, 0, t.a, 0, [], []⟩ ∧ 0 ≤ t.a ∧ t.a < 200 := by
  obtain ⟨k, la, a, b, ns, ps⟩ := t
  simp only at hk
  subst hk
  simp [T.may] at h
  obtain ⟨rfl, h1, h2, rfl, rfl, rfl⟩ := h
  exact ⟨rfl, h1, h2⟩

theorem constAt_some {s : List T} {ins : List Bool} {i : Nat} {a : Int} : constAt s ins i = some a ↔ ∃ h : i < s.length, ins.getD i false = true ∧ s[i].kind = 7 ∧ s[i].a = a := by
  unfold constAt
  cases hx : s[i]? with
  | none =>
    simp only [reduceCtorEq, false_iff]
    rintro ⟨h, _⟩
    rw [List.getElem?_eq_getElem h] at hx; cases hx
  | some t =>
    obtain ⟨hi, rfl⟩ := List.getElem?_eq_some_iff.1 hx
    simp only
    split
    · rename_i hc
      simp only [Option.some.injEq]
      exact ⟨fun e => ⟨hi, hc.1, hc.2, e⟩, fun ⟨_, _, _, e⟩ => e⟩
    · rename_i hc
      simp only [reduceCtorEq, false_iff]
      rintro ⟨_, h1, h2, _⟩
      exact hc ⟨h1, h2⟩

theorem consts_mem {s : List T} {ins : List Bool} {n : Nat} {a : Int} : a ∈ consts s ins n ↔ ∃ i, i < n ∧ constAt s ins i = some a := by
  simp [consts, List.mem_filterMap]

theorem consts_nodup {s : List T} (h : Inv s) (ins : List Bool) (n : Nat) : (consts s ins n).Nodup := by
  induction n with
  | zero => simp [consts]
  | succ n ih =>
    rw [consts_succ, List.nodup_append]
    refine ⟨ih, ?_, ?_⟩
    · cases constAt s ins n <;> simp
    · intro a ha b hb e
      subst e
      obtain ⟨i, hi, hc⟩ := consts_mem.1 ha
      have hc2 : constAt s ins n = some a := by simpa using hb
      obtain ⟨h1, _, k1, a1⟩ := constAt_some.1 hc
      obtain ⟨h2, _, k2, a2⟩ := constAt_some.1 hc2
      have t1 := (const_term (h.may i h1) k1).1
      have t2 := (const_term (h.may n h2) k2).1
      have : i = n := (List.getElem_inj h.nd).1 (by rw [t1, t2, a1, a2])
      omega

/-- The document's list of constants. -/
def refConsts (s : List T) (ins : List Bool) (n : Nat) : List Int := ((List.range 200).filter fun a => decide (((a : Nat) : Int) ∈ consts s ins n)).map Int.ofNat

theorem consts_sorted {s : List T} (h : Inv s) (ins : List Bool) (n : Nat) : (consts s ins n).mergeSort (fun x y => decide (x ≤ y)) = refConsts s ins n := by
  refine sorted_unique ?_ ?_ ?_
  · have h1 : ((consts s ins n).mergeSort (fun x y => decide (x ≤ y))).Pairwise (fun x y => decide (x ≤ y) = true) := List.pairwise_mergeSort (by intro a b c; simp; omega) (by intro a b; simp; omega) _
    have h2 : ((consts s ins n).mergeSort (fun x y => decide (x ≤ y))).Nodup := (List.mergeSort_perm _ _).nodup_iff.2 (consts_nodup h ins n)
    exact (h1.and h2).imp (fun ⟨a, b⟩ => by simp only [decide_eq_true_eq] at a; omega)
  · unfold refConsts
    rw [List.pairwise_map]
    exact (List.pairwise_lt_range.filter _).imp (fun h => by simp only [Int.ofNat_eq_natCast]; omega)
  · intro x
    rw [List.mem_mergeSort]
    simp only [refConsts, List.mem_map, List.mem_filter, List.mem_range, decide_eq_true_eq, Int.ofNat_eq_natCast]
    constructor
    · intro hx
      obtain ⟨i, hi, hc⟩ := consts_mem.1 hx
      obtain ⟨h1, _, k1, a1⟩ := constAt_some.1 hc
      have hb := (const_term (h.may i h1) k1).2
      exact ⟨x.toNat, ⟨by omega, by rw [show ((x.toNat : Nat) : Int) = x by omega]; exact hx⟩, by omega⟩
    · rintro ⟨a, ⟨_, ha⟩, rfl⟩
      exact ha

end Go.Proofs.YtiiieailimphnaaGreatDoor.Tm
