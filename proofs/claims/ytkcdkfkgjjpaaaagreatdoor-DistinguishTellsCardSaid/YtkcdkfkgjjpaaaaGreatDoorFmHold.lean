/- The plain side of formulas worked off by a stack: how deep they stand and where they hold; the formula of two states is as deep as their rank, holds at the first and not at the second. No function of the program is named. The plain side of a ladder of n steps beside one with a step less: its ranks, and the formula of the two first states. No function of the program is named. Walks: (*Graph).Degree, the law's small, the statement DistinguishBounded. Walks: formula.parts, the closure of depth, work at integers, depth, Depth. Walks: the closure of here, slices.ContainsFunc at steps, here. Walks: the closure of Holds, work at lists of truths, Valid, Holds, At. -/
import Derived.Test.YtkcdkfkgjjpaaaaGreatDoorDtPlain
import Derived.Test.YtkcdkfkgjjpaaaaGreatDoorDtCmp
import Derived.Test.YtkcdkfkgjjpaaaaGreatDoorDtOf
import Derived.WalkSmall
import Derived.Deep.QuietTactic

namespace Go.Proofs.YtkcdkfkgjjpaaaaGreatDoor.Dt
open Go.Proofs.YtkcdkfkgjjpaaaaGreatDoor.Sy Go.Proofs.YtkcdkfkgjjpaaaaGreatDoor.Rd
set_option linter.unusedVariables false
set_option linter.unusedSimpArgs false

/-- How many parts a node has, below 0: it is none. -/
def arity (x : Nd) : Int := if x.1 = 3 then (if x.2 = 0 then 2 else -1) else if x.1 = 2 then (if x.2 = 0 then 1 else -1) else if x.1 = 1 then (if x.2 = 0 then 0 else -1)
  else if x.1 = 4 then (if 0 ≤ x.2 ∧ x.2 < 201 then 1 else -1) else -1

/-- A formula worked off by a stack whose top stands last. -/
def exec {β : Type} (f : Nd → List β → β) : List Nd → List β → Option (List β)
  | [], st => some st
  | x :: r, st => if arity x < 0 ∨ (st.length : Int) < arity x then none
    else exec f r (st.take (st.length - (arity x).toNat) ++ [f x (st.drop (st.length - (arity x).toNat))])

/-- A list of nodes that puts one value. -/
def Ev {β : Type} (f : Nd → List β → β) (l : List Nd) (v : β) : Prop := ∀ st r, exec f (l ++ r) st = exec f r (st ++ [v])

theorem Ev.run {β : Type} {f : Nd → List β → β} {l : List Nd} {v : β} (h : Ev f l v) : exec f l [] = some [v] := by
  have := h [] []
  simpa [exec] using this

theorem ev_nil {β : Type} (f : Nd → List β → β) : Ev f [((1 : Int), (0 : Int))] (f (1, 0) []) := fun st r => by
  show exec f ((1, 0) :: r) st = _
  have ha : arity ((1 : Int), (0 : Int)) = 0 := by decide
  rw [exec, ha, if_neg (by simp)]
  simp

theorem Ev.one {β : Type} {f : Nd → List β → β} {l : List Nd} {v : β} (h : Ev f l v) {x : Nd} (hx : arity x = 1) : Ev f (l ++ [x]) (f x [v]) := fun st r => by
  rw [List.append_assoc, h, List.singleton_append, exec, hx, if_neg (by simp; omega)]
  simp

theorem Ev.two {β : Type} {f : Nd → List β → β} {l m : List Nd} {v w : β} (h : Ev f l v) (k : Ev f m w) {x : Nd} (hx : arity x = 2) : Ev f (l ++ m ++ [x]) (f x [v, w]) := fun st r => by
  rw [List.append_assoc, List.append_assoc, h, k, List.singleton_append, exec, hx, if_neg (by simp; omega)]
  simp

/-! ### Depth -/

/-- A node's depth, by its parts'. -/
def deep (x : Nd) (l : List Int) : Int := l.foldl max 0 + (if x.1 = 4 then 1 else 0)

theorem conj_ev {β : Type} {f : Nd → List β → β} (P : List (List Nd) → β → Prop) (h0 : P [] (f (1, 0) [])) (h1 : ∀ g v, Ev f g v → P [g] v)
    (h2 : ∀ l v g w, l ≠ [] → P l v → Ev f g w → P (l ++ [g]) (f (3, 0) [v, w])) : ∀ l : List (List Nd), (∀ g ∈ l, ∃ v, Ev f g v) → ∃ v, Ev f (conj l) v ∧ P l v
  | [], _ => ⟨_, ev_nil f, h0⟩
  | g :: r, h => by
    revert h
    refine snoc_ind (p := fun r => (∀ k ∈ g :: r, ∃ v, Ev f k v) → ∃ v, Ev f (conj (g :: r)) v ∧ P (g :: r) v) (fun h => ?_) (fun r k ih h => ?_) r
    · obtain ⟨v, hv⟩ := h g (by simp)
      exact ⟨v, hv, h1 g v hv⟩
    · obtain ⟨v, hv, hp⟩ := ih (fun x hx => h x (by rcases List.mem_cons.1 hx with e | e; exact e ▸ List.mem_cons_self; exact List.mem_cons_of_mem _ (List.mem_append_left _ e)))
      obtain ⟨w, hw⟩ := h k (by simp)
      rw [conj_snoc]
      exact ⟨_, hv.two hw (by decide), h2 (g :: r) v k w (by simp) hp hw⟩

theorem Ev.same {β : Type} {f : Nd → List β → β} {l : List Nd} {v w : β} (h : Ev f l v) (k : Ev f l w) : v = w := by
  have := h.run.symm.trans k.run
  simpa using this

/-- A list of formulas with their depths: all of them are as deep as the deepest one. -/
theorem conj_deep (l : List (List Nd)) (d : List Nd → Int) (h : ∀ g ∈ l, Ev deep g (d g) ∧ 0 ≤ d g) : ∃ v, Ev deep (conj l) v ∧ 0 ≤ v ∧ (∀ g ∈ l, d g ≤ v) ∧ (v = 0 ∨ ∃ g ∈ l, v = d g) := by
  obtain ⟨v, hv, hp⟩ := conj_ev (f := deep) (fun m v => (∀ g ∈ m, g ∈ l) → 0 ≤ v ∧ (∀ g ∈ m, d g ≤ v) ∧ (v = 0 ∨ ∃ g ∈ m, v = d g))
    (fun _ => ⟨by simp [deep], fun g hg => by simp at hg, .inl (by simp [deep])⟩)
    (fun g v hv hm => by
      have hg := h g (hm g (by simp))
      have e := hv.same hg.1
      subst e
      exact ⟨hg.2, fun k hk => by rw [List.mem_singleton] at hk; rw [hk]; exact Int.le_refl _, .inr ⟨g, by simp, rfl⟩⟩)
    (fun m v g w _ hp hw hm => by
      have hg := h g (hm g (by simp))
      have e := hw.same hg.1
      obtain ⟨h1, h2, h3⟩ := hp (fun k hk => hm k (List.mem_append_left _ hk))
      have hd : deep (3, 0) [v, w] = max (max 0 v) w := by simp [deep]
      rw [hd]
      refine ⟨by omega, fun k hk => ?_, ?_⟩
      · rcases List.mem_append.1 hk with hk | hk
        · have := h2 k hk; omega
        · rw [List.mem_singleton] at hk; rw [hk]; omega
      · by_cases hvw : v ≤ w
        · exact .inr ⟨g, by simp, by omega⟩
        · rcases h3 with h3 | ⟨k, hk, h3⟩
          · omega
          · exact .inr ⟨k, List.mem_append_left _ hk, by omega⟩)
    l (fun g hg => ⟨_, (h g hg).1⟩)
  exact ⟨v, hv, hp (fun g hg => hg)⟩

/-- Parted in a round: the rank is no greater. -/
theorem rank_le {s : Lts} {p q j : Nat} (hj : j ≤ last s) (h : (R s j).getD p 0 ≠ (R s j).getD q 0) : 0 ≤ rank s p q ∧ rank s p q ≤ j := by
  rcases rank_cases s p q with ⟨_, hall⟩ | ⟨k, hk, hkl, hne, hall⟩
  · exact absurd (hall j (by omega)) h
  · refine ⟨by omega, ?_⟩
    rcases Nat.lt_or_ge j k with hjk | hjk
    · exact absurd (hall j hjk) h
    · omega

/-- What is parted stays parted. -/
theorem stay_parted {s : Lts} {p q : Nat} (hp : p < s.n.toNat) (hq : q < s.n.toNat) {i j : Nat} (hij : i ≤ j) (h : (R s i).getD p 0 ≠ (R s i).getD q 0) : (R s j).getD p 0 ≠ (R s j).getD q 0 := by
  induction hij with
  | refl => exact h
  | step _ ih => exact fun e => ih ((next_eq_iff s _ (by rw [R_len]; exact hp) (by rw [R_len]; exact hq)).1 e).1

/-- No rank: together in the last round. -/
theorem rank_last {s : Lts} {p q : Nat} (hp : p < s.n.toNat) (hq : q < s.n.toNat) : rank s p q < 0 ↔ (R s (last s)).getD p 0 = (R s (last s)).getD q 0 := by
  rcases rank_cases s p q with ⟨e, hall⟩ | ⟨k, hk, hkl, hne, _⟩
  · exact ⟨fun _ => hall (last s) (by omega), fun _ => by omega⟩
  · exact ⟨fun h => by omega, fun h => absurd h (stay_parted hp hq (by omega) hne)⟩

/-- A step that tells is met in no earlier round: the greatest rank of what meets it is one less than the states' own. -/
theorem telling_rank {s : Lts} (hR : Right s) {p q : Nat} (hp : p < s.n.toNat) (hq : q < s.n.toNat) {x : Int × Int} (h0 : 0 ≤ rank s p q) (ht : telling s p q = some x) {j : Nat} (hj : ∀ t ∈ meetsL s q x.1, rank s x.2.toNat t ≤ j) : rank s p q ≤ j + 1 := by
  obtain ⟨hx, hall⟩ := telling_spec ht
  rcases rank_cases s p q with ⟨e, _⟩ | ⟨k, hk, hkl, hne, hsame⟩
  · omega
  · apply Classical.byContradiction
    intro hbig
    have hjk : j + 1 < k := by omega
    have e := hsame (j + 1) hjk
    have hm := ((next_eq_iff s (R s j) (by rw [R_len]; exact hp) (by rw [R_len]; exact hq)).1 e).2.1
    simp only [meets, List.all_eq_true, List.any_eq_true, Bool.and_eq_true, beq_iff_eq] at hm
    obtain ⟨y, hy, hy1, hy2⟩ := hm x hx
    have hmem : y.2.toNat ∈ meetsL s q x.1 := by
      simp only [meetsL, List.mem_map, List.mem_filter, beq_iff_eq]
      exact ⟨y, ⟨hy, hy1⟩, rfl⟩
    have ha := hall _ hmem
    have hb := hj _ hmem
    rcases rank_cases s x.2.toNat y.2.toNat with ⟨e', _⟩ | ⟨i, hi, hil, hine, _⟩
    · omega
    · exact stay_parted (step_lt hR hx) (step_lt hR hy) (by omega) hine hy2.symm

open Classical in
/-- The formula of two states is as deep as their rank. -/
theorem F_deep {s : Lts} (hR : Right s) (hm : s.m ≤ 201) : ∀ p q, p < s.n.toNat → q < s.n.toNat → 0 ≤ rank s p q → Ev deep (F s p q) (rank s p q) := by
  refine F_ind hR _ (fun p q x hp hq h0 ht hall => ?_) (fun p q hp hq h0 ht h => ?_)
  · obtain ⟨hx, hsp⟩ := telling_spec ht
    have hok := hR.ok _ ((mem_steps s p x).1 hx)
    simp only at hok
    rw [F_some hR hp hq h0 ht]
    have hex : ∀ g ∈ Rd.seen ((meetsL s q x.1).map fun t => F s x.2.toNat t), ∃ t ∈ meetsL s q x.1, g = F s x.2.toNat t := fun g hg => by
      rw [mem_seen, List.mem_map] at hg
      obtain ⟨t, ht', rfl⟩ := hg
      exact ⟨t, ht', rfl⟩
    have hd : ∀ g ∈ Rd.seen ((meetsL s q x.1).map fun t => F s x.2.toNat t), ∃ v, Ev deep g v := fun g hg => by
      obtain ⟨t, ht', rfl⟩ := hex g hg
      exact ⟨_, hall t ht'⟩
    obtain ⟨v, hv, hv0, hle, hor⟩ := conj_deep (Rd.seen ((meetsL s q x.1).map fun t => F s x.2.toNat t))
      (fun g => if h : ∃ v, Ev deep g v then h.choose else 0) (fun g hg => by
        have hx := hd g hg
        simp only [dif_pos hx]
        refine ⟨hx.choose_spec, ?_⟩
        obtain ⟨t, ht', e⟩ := hex g hg
        have h1 := hall t ht'
        rw [← e] at h1
        rw [hx.choose_spec.same h1]
        exact (hsp t ht').1)
    have hval : ∀ t ∈ meetsL s q x.1, (if h : ∃ v, Ev deep (F s x.2.toNat t) v then h.choose else 0) = rank s x.2.toNat t := fun t ht' => by
      have hx : ∃ v, Ev deep (F s x.2.toNat t) v := ⟨_, hall t ht'⟩
      rw [dif_pos hx]
      exact hx.choose_spec.same (hall t ht')
    have har : arity ((4 : Int), x.1) = 1 := by
      unfold arity
      simp
      omega
    have hone := hv.one har
    have hdp : deep (4, x.1) [v] = v + 1 := by simp [deep]; omega
    rw [hdp] at hone
    have hup : ∀ t ∈ meetsL s q x.1, rank s x.2.toNat t ≤ v := fun t ht' => by
      have := hle (F s x.2.toNat t) (by rw [mem_seen, List.mem_map]; exact ⟨t, ht', rfl⟩)
      rw [hval t ht'] at this; exact this
    have h1 := telling_rank hR hp hq h0 ht (j := v.toNat) (fun t ht' => by have := hup t ht'; omega)
    have h00 := rank_ne_zero s p q
    have h2 : v + 1 ≤ rank s p q := by
      rcases hor with e | ⟨g, hg, e⟩
      · omega
      · obtain ⟨t, ht', rfl⟩ := hex g hg
        simp only [hval t ht'] at e
        have := (hsp t ht').2
        omega
    have : rank s p q = v + 1 := by omega
    rw [this]; exact hone
  · rw [F_none hR hp hq h0 ht]
    have h1 := h.one (x := ((2 : Int), (0 : Int))) (by decide)
    rw [rank_comm s q p] at h1
    have : deep (2, 0) [rank s p q] = rank s p q := by simp [deep]; omega
    rw [this] at h1; exact h1

/-! ### Where a formula holds -/

/-- A node, at each state, by its parts. -/
def hereP (s : Lts) (x : Nd) (l : List (List Bool)) : List Bool := (List.range s.n.toNat).map fun p =>
  if x.1 = 4 then (steps s p).any fun y => y.1 == x.2 && (l.getD 0 []).getD y.2.toNat false
  else if x.1 = 2 then !(l.getD 0 []).getD p false
  else if x.1 = 3 then (l.getD 0 []).getD p false && (l.getD 1 []).getD p false
  else x.1 == 1

theorem here_at (s : Lts) (x : Nd) (l : List (List Bool)) {p : Nat} (hp : p < s.n.toNat) : (hereP s x l).getD p false =
    (if x.1 = 4 then (steps s p).any fun y => y.1 == x.2 && (l.getD 0 []).getD y.2.toNat false
  else if x.1 = 2 then !(l.getD 0 []).getD p false
  else if x.1 = 3 then (l.getD 0 []).getD p false && (l.getD 1 []).getD p false
  else x.1 == 1) := by
  simp [hereP, List.getD, hp]

theorem conj_holds (s : Lts) (l : List (List Nd)) (h : ∀ g ∈ l, ∃ v, Ev (hereP s) g v) : ∃ v, Ev (hereP s) (conj l) v ∧
    ∀ p, p < s.n.toNat → (v.getD p false = true ↔ ∀ g ∈ l, ∀ w, Ev (hereP s) g w → w.getD p false = true) := by
  refine conj_ev (f := hereP s) (fun m v => ∀ p, p < s.n.toNat → (v.getD p false = true ↔ ∀ g ∈ m, ∀ w, Ev (hereP s) g w → w.getD p false = true))
    (fun p hp => ?_) (fun g v hv p hp => ?_) (fun m v g w _ hp hw p hpp => ?_) l h
  · rw [here_at s _ _ hp]; simp
  · simp only [List.mem_singleton, forall_eq]
    exact ⟨fun h w hw => by rw [← hv.same hw]; exact h, fun h => h v hv⟩
  · rw [here_at s _ _ hpp]
    have h34 : ¬ ((3 : Int) = 4) := by decide
    have h32 : ¬ ((3 : Int) = 2) := by decide
    simp only [h34, h32, if_false, if_true, Bool.and_eq_true, List.mem_append, List.mem_singleton]
    show v.getD p false = true ∧ w.getD p false = true ↔ _
    rw [hp p hpp]
    constructor
    · rintro ⟨h1, h2⟩ k (hk | rfl) u hu
      · exact h1 k hk u hu
      · rw [← hw.same hu]; exact h2
    · exact fun h1 => ⟨fun k hk u hu => h1 k (.inl hk) u hu, h1 g (.inr rfl) w hw⟩

/-- The formula of two states holds at the first one and not at the second one. -/
theorem F_holds {s : Lts} (hR : Right s) (hm : s.m ≤ 201) : ∀ p q, p < s.n.toNat → q < s.n.toNat → 0 ≤ rank s p q →
    ∃ v, Ev (hereP s) (F s p q) v ∧ v.getD p false = true ∧ v.getD q false = false := by
  refine F_ind hR _ (fun p q x hp hq h0 ht hall => ?_) (fun p q hp hq h0 ht h => ?_)
  · obtain ⟨hx, hsp⟩ := telling_spec ht
    have hok := hR.ok _ ((mem_steps s p x).1 hx)
    simp only at hok
    rw [F_some hR hp hq h0 ht]
    have hex : ∀ g ∈ Rd.seen ((meetsL s q x.1).map fun t => F s x.2.toNat t), ∃ t ∈ meetsL s q x.1, g = F s x.2.toNat t := fun g hg => by
      rw [mem_seen, List.mem_map] at hg
      obtain ⟨t, ht', rfl⟩ := hg
      exact ⟨t, ht', rfl⟩
    obtain ⟨v, hv, hat⟩ := conj_holds s (Rd.seen ((meetsL s q x.1).map fun t => F s x.2.toNat t)) (fun g hg => by
      obtain ⟨t, ht', rfl⟩ := hex g hg
      obtain ⟨w, hw, _⟩ := hall t ht'
      exact ⟨w, hw⟩)
    have har : arity ((4 : Int), x.1) = 1 := by
      unfold arity
      simp
      omega
    refine ⟨_, hv.one har, ?_, ?_⟩
    · rw [here_at s _ _ hp]
      simp only [if_true, List.any_eq_true, Bool.and_eq_true, beq_iff_eq]
      refine ⟨x, hx, rfl, ?_⟩
      show v.getD x.2.toNat false = true
      refine (hat _ (step_lt hR hx)).2 (fun g hg w hw => ?_)
      obtain ⟨t, ht', rfl⟩ := hex g hg
      obtain ⟨u, hu, h1, _⟩ := hall t ht'
      rw [hw.same hu]; exact h1
    · rw [here_at s _ _ hq]
      simp only [if_true]
      apply Bool.eq_false_iff.2
      intro hany
      simp only [List.any_eq_true, Bool.and_eq_true, beq_iff_eq] at hany
      obtain ⟨y, hy, hy1, hy2⟩ := hany
      have hmem : y.2.toNat ∈ meetsL s q x.1 := by
        simp only [meetsL, List.mem_map, List.mem_filter, beq_iff_eq]
        exact ⟨y, ⟨hy, hy1⟩, rfl⟩
      obtain ⟨u, hu, _, h2⟩ := hall _ hmem
      have := (hat _ (step_lt hR hy)).1 hy2 (F s x.2.toNat y.2.toNat) (by rw [mem_seen, List.mem_map]; exact ⟨_, hmem, rfl⟩) u hu
      rw [h2] at this
      exact Bool.noConfusion this
  · rw [F_none hR hp hq h0 ht]
    obtain ⟨v, hv, h1, h2⟩ := h
    refine ⟨_, hv.one (x := ((2 : Int), (0 : Int))) (by decide), ?_, ?_⟩
    · rw [here_at s _ _ hp]
      simp [h2]
      simpa [List.getD] using h2
    · rw [here_at s _ _ hq]
      simp
      simpa [List.getD] using h1

end Go.Proofs.YtkcdkfkgjjpaaaaGreatDoor.Dt

namespace Go.Proofs.YtkcdkfkgjjpaaaaGreatDoor.Dt
open Go.Proofs.YtkcdkfkgjjpaaaaGreatDoor.Sy Go.Proofs.YtkcdkfkgjjpaaaaGreatDoor.Rd
set_option linter.unusedVariables false
set_option linter.unusedSimpArgs false

/-- What a round of the ladder's making puts. -/
def rung (n i : Nat) : List Sy.Edge := ((i : Int), (1 : Int), (i : Int) + 1) :: (if i + 1 < n then [((n : Int) + 1 + i, (1 : Int), (n : Int) + 2 + i)] else [])
def rungs (n k : Nat) : List Sy.Edge := (List.range k).flatMap (rung n)
theorem rungs_succ (n k : Nat) : rungs n (k + 1) = rungs n k ++ rung n k := by simp [rungs, List.range_succ]
theorem rungs_zero (n : Nat) : rungs n 0 = [] := by simp [rungs]

/-- The ladder. -/
def lad (n : Nat) : Lts := ⟨2 * n + 1, 3, 0, rungs n n⟩

theorem mem_rungs {n k : Nat} {e : Sy.Edge} : e ∈ rungs n k ↔ ∃ i, i < k ∧ (e = ((i : Int), (1 : Int), (i : Int) + 1) ∨ i + 1 < n ∧ e = ((n : Int) + 1 + i, (1 : Int), (n : Int) + 2 + i)) := by
  simp only [rungs, List.mem_flatMap, List.mem_range, rung, List.mem_cons]
  constructor
  · rintro ⟨i, hi, h | h⟩
    · exact ⟨i, hi, .inl h⟩
    · split at h
      · rename_i h1
        exact ⟨i, hi, .inr ⟨h1, by simpa using h⟩⟩
      · simp at h
  · rintro ⟨i, hi, h | ⟨h1, h⟩⟩
    · exact ⟨i, hi, .inl h⟩
    · exact ⟨i, hi, .inr (by rw [if_pos h1]; simpa using h)⟩

/-- How many steps a state's way has. -/
def hgt (n p : Nat) : Nat := if p ≤ n then n - p else 2 * n - p

theorem rungs_len (n : Nat) : ∀ k, (rungs n k).length ≤ 2 * k
  | 0 => by simp [rungs]
  | k + 1 => by
    rw [rungs_succ, List.length_append]
    have := rungs_len n k
    have : (rung n k).length ≤ 2 := by unfold rung; split <;> simp
    omega

theorem lad_right {n : Nat} (h1 : 1 ≤ n) (h2 : n ≤ 40) : Right (lad n) where
  n0 := by show (0 : Int) ≤ 2 * n + 1; omega
  n1 := by show (2 * n + 1 : Int) ≤ 1000; omega
  m1 := by show (1 : Int) ≤ 3; decide
  m2 := by show (3 : Int) ≤ 201; decide
  st0 := by show (0 : Int) ≤ 0; decide
  st1 := fun h => absurd (show (0 : Int) < 0 from h) (by decide)
  len := by have := rungs_len n n; show (rungs n n).length ≤ 10000; omega
  ok := fun e he => by
    obtain ⟨i, hi, rfl | ⟨h, rfl⟩⟩ := mem_rungs.1 (show e ∈ rungs n n from he)
    · refine ⟨?_, ?_, ?_, ?_, ?_, ?_⟩ <;> simp only [lad] <;> omega
    · refine ⟨?_, ?_, ?_, ?_, ?_, ?_⟩ <;> simp only [lad] <;> omega

theorem lad_n (n : Nat) : (lad n).n.toNat = 2 * n + 1 := by simp only [lad]; omega

theorem mem_lad {n : Nat} (h1 : 1 ≤ n) {p : Nat} (hp : p < 2 * n + 1) (x : Int × Int) : x ∈ steps (lad n) p ↔ 0 < hgt n p ∧ x = (1, (p : Int) + 1) := by
  rw [mem_steps]
  show ((p : Int), x.1, x.2) ∈ rungs n n ↔ _
  rw [mem_rungs]
  obtain ⟨a, b⟩ := x
  simp only [Prod.mk.injEq]
  unfold hgt
  constructor
  · rintro ⟨i, hi, ⟨e1, e2, e3⟩ | ⟨h, e1, e2, e3⟩⟩
    · rw [if_pos (by omega)]
      exact ⟨by omega, e2, by omega⟩
    · rw [if_neg (by omega)]
      exact ⟨by omega, e2, by omega⟩
  · rintro ⟨h, e1, e2⟩
    split at h
    · exact ⟨p, by omega, .inl ⟨rfl, e1, e2⟩⟩
    · exact ⟨p - n - 1, by omega, .inr ⟨by omega, by omega, e1, by omega⟩⟩

theorem hgt_succ {n p : Nat} (hp : p < 2 * n + 1) (h : 0 < hgt n p) : p + 1 < 2 * n + 1 ∧ hgt n (p + 1) + 1 = hgt n p := by
  unfold hgt at h ⊢
  split at h
  · split <;> omega
  · rw [if_neg (by omega), if_neg (by omega)]
    omega

theorem steps_lad {n : Nat} (h1 : 1 ≤ n) {p : Nat} (hp : p < 2 * n + 1) : steps (lad n) p = if 0 < hgt n p then [(1, (p : Int) + 1)] else [] := by
  have hm := mem_lad h1 hp
  have hw := steps_pairwise (lad n) p
  revert hm hw
  generalize steps (lad n) p = l
  intro hm hw
  split
  · rename_i h
    cases l with
    | nil => exact absurd ((hm (1, (p : Int) + 1)).2 ⟨h, rfl⟩) (by simp)
    | cons x l =>
      have hx := ((hm x).1 (by simp)).2
      cases l with
      | nil => rw [hx]
      | cons y l =>
        have hy := ((hm y).1 (by simp)).2
        have := List.rel_of_pairwise_cons hw (show y ∈ y :: l by simp)
        rw [hx, hy] at this
        simp [lt2] at this
  · rename_i h
    exact List.eq_nil_iff_forall_not_mem.2 (fun x hx => h ((hm x).1 hx).1)

/-- Two states are together in a round by the steps that they have, up to the round's number. -/
theorem R_lad {n : Nat} (h1 : 1 ≤ n) : ∀ k p q, p < 2 * n + 1 → q < 2 * n + 1 → ((R (lad n) k).getD p 0 = (R (lad n) k).getD q 0 ↔ min (hgt n p) k = min (hgt n q) k) := by
  intro k
  induction k with
  | zero => intro p q hp hq; rw [R_zero, R_zero]; simp
  | succ k ih =>
    intro p q hp hq
    have hl := next_eq_iff (lad n) (R (lad n) k) (p := p) (q := q) (by rw [R_len, lad_n]; exact hp) (by rw [R_len, lad_n]; exact hq)
    have hm : ∀ p q, p < 2 * n + 1 → q < 2 * n + 1 → (meets (lad n) (R (lad n) k) p q = true ↔ (0 < hgt n p → 0 < hgt n q ∧ min (hgt n p - 1) k = min (hgt n q - 1) k)) := by
      intro p q hp hq
      unfold meets
      rw [steps_lad h1 hp, steps_lad h1 hq]
      by_cases a : 0 < hgt n p
      · obtain ⟨a1, a2⟩ := hgt_succ hp a
        by_cases b : 0 < hgt n q
        · obtain ⟨b1, b2⟩ := hgt_succ hq b
          rw [if_pos a, if_pos b]
          have := ih (p + 1) (q + 1) a1 b1
          have e1 : ((p : Int) + 1).toNat = p + 1 := by omega
          have e2 : ((q : Int) + 1).toNat = q + 1 := by omega
          simp only [List.all_cons, List.all_nil, List.any_cons, List.any_nil, Bool.and_true, Bool.or_false, Bool.and_eq_true, beq_iff_eq, e1, e2]
          simp only [true_and]
          rw [show hgt n p - 1 = hgt n (p + 1) by omega, show hgt n q - 1 = hgt n (q + 1) by omega]
          constructor
          · intro h _; exact ⟨b, by first | exact this.1 h | exact this.1 h.symm⟩
          · intro h; first | exact this.2 (h a).2 | exact (this.2 (h a).2).symm
        · rw [if_pos a, if_neg b]
          simp
          omega
      · rw [if_neg a]
        simp
        omega
    show (next (lad n) (R (lad n) k)).getD p 0 = (next (lad n) (R (lad n) k)).getD q 0 ↔ _
    rw [hl, ih p q hp hq, hm p q hp hq, hm q p hq hp]
    omega

theorem R_stay (s : Lts) : ∀ j, R s (last s + j) = R s (last s)
  | 0 => rfl
  | j + 1 => by
    show next s (R s (last s + j)) = _
    rw [R_stay s j]
    exact last_end s

/-- The first round in which two states are parted is their rank. -/
theorem rank_first {s : Lts} {p q k : Nat} (h : (R s k).getD p 0 ≠ (R s k).getD q 0) (h0 : ∀ j, j < k → (R s j).getD p 0 = (R s j).getD q 0) : rank s p q = (k : Int) := by
  have hk : k < last s + 1 := by
    apply Classical.byContradiction
    intro hn
    apply h
    obtain ⟨j, rfl⟩ : ∃ j, k = last s + j := ⟨k - last s, by omega⟩
    rw [R_stay]
    exact h0 (last s) (by omega)
  rcases rank_cases s p q with ⟨_, hall⟩ | ⟨i, hi, _, hne, hall⟩
  · exact absurd (hall k hk) h
  · rcases Nat.lt_trichotomy i k with hik | rfl | hik
    · exact absurd (h0 i hik) hne
    · exact hi
    · exact absurd (hall k hik) h

theorem rank_lad {n i : Nat} (h1 : 1 ≤ n) (hi : i < n) : rank (lad n) i (n + 1 + i) = ((n - i : Nat) : Int) := by
  have a : hgt n i = n - i := by unfold hgt; rw [if_pos (by omega)]
  have b : hgt n (n + 1 + i) = n - i - 1 := by unfold hgt; rw [if_neg (by omega)]; omega
  refine rank_first (fun h => ?_) (fun j hj => ?_)
  · have := (R_lad h1 _ _ _ (by omega) (by omega)).1 h
    rw [a, b] at this
    omega
  · refine (R_lad h1 _ _ _ (by omega) (by omega)).2 ?_
    rw [a, b]
    omega

theorem F_lad {n : Nat} (h1 : 1 ≤ n) (h2 : n ≤ 40) : ∀ j i, i + j = n → 1 ≤ j → F (lad n) i (n + 1 + i) = ((1 : Int), (0 : Int)) :: List.replicate j ((4 : Int), (1 : Int)) := by
  have hR := lad_right h1 h2
  intro j
  induction j with
  | zero => intro i _ h; omega
  | succ j ih =>
    intro i hi _
    have hp : i < (lad n).n.toNat := by rw [lad_n]; omega
    have hq : n + 1 + i < (lad n).n.toNat := by rw [lad_n]; omega
    have hr := rank_lad h1 (show i < n by omega)
    have hsp : steps (lad n) i = [(1, (i : Int) + 1)] := by
      rw [steps_lad h1 (by omega), if_pos]
      unfold hgt; rw [if_pos (by omega)]; omega
    have hsq : steps (lad n) (n + 1 + i) = if 1 ≤ j then [(1, ((n + 1 + i : Nat) : Int) + 1)] else [] := by
      rw [steps_lad h1 (by omega)]
      have : hgt n (n + 1 + i) = j := by unfold hgt; rw [if_neg (by omega)]; omega
      rw [this]; rfl
    have hmeet : meetsL (lad n) (n + 1 + i) 1 = if 1 ≤ j then [n + 1 + (i + 1)] else [] := by
      unfold meetsL
      rw [hsq]
      split
      · simp; omega
      · rfl
    have ht : telling (lad n) i (n + 1 + i) = some (1, (i : Int) + 1) := by
      unfold telling
      rw [hsp, List.find?_cons_of_pos]
      unfold tells
      rw [hmeet]
      split
      · rename_i hj
        have hr' := rank_lad h1 (show i + 1 < n by omega)
        have e : ((i : Int) + 1).toNat = i + 1 := by omega
        simp only [List.all_cons, List.all_nil, Bool.and_true, Bool.and_eq_true, decide_eq_true_eq, e, hr, hr']
        omega
      · rfl
    rw [F_some hR hp hq (by rw [hr]; omega) ht]
    simp only [hmeet]
    by_cases hj : 1 ≤ j
    · rw [if_pos hj]
      have e : ((i : Int) + 1).toNat = i + 1 := by omega
      simp only [List.map_cons, List.map_nil, e]
      rw [ih (i + 1) (by omega) hj]
      simp [Rd.seen, addSeen, conj, List.replicate_succ']
    · rw [if_neg hj]
      have : j = 0 := by omega
      subst this
      simp [Rd.seen, conj]

/-- The formula of the two first states of the two ways. -/
theorem F_long {n : Nat} (h1 : 1 ≤ n) (h2 : n ≤ 40) : F (lad n) 0 (n + 1) = ((1 : Int), (0 : Int)) :: List.replicate n ((4 : Int), (1 : Int)) := F_lad h1 h2 n 0 (by omega) h1

theorem rank_long {n : Nat} (h1 : 1 ≤ n) : rank (lad n) 0 (n + 1) = (n : Int) := by
  have := rank_lad h1 (show 0 < n by omega)
  simpa using this

end Go.Proofs.YtkcdkfkgjjpaaaaGreatDoor.Dt

namespace Go.Proofs.YtkcdkfkgjjpaaaaGreatDoor
open Go.RowKit Go.Sort Go.Maps
set_option linter.unusedVariables false
set_option linter.unusedSimpArgs false

/-- The greatest number of steps. -/
def DegDone (s : Sy.Lts) (w : World) (r : Ending) (w' : World) : Prop := ∃ dg : Nat, r = .returned (.int .i64 (dg : Nat)) ∧ (∀ q, q < s.n.toNat → (Sy.steps s q).length ≤ dg) ∧ dg ≤ 1000000 ∧ Up w w'

set_option maxHeartbeats 4000000 in
set_option maxRecDepth 100000 in
theorem degree_any {w : World} {B : Nat} {s : Sy.Lts} (h : GraphAt w B s) (hR : Sy.Right s) :
    Calls Tryz.prog 14 #[.pointer (some ⟨B, 0, none⟩)] w (DegDone s w) := by
  obtain ⟨n, hn⟩ : ∃ n : Nat, s.n = (n : Nat) := ⟨s.n.toNat, by have := hR.n0; omega⟩
  have hn2 : s.n.toNat = n := by omega
  have hn1 : n ≤ 1000 := by have := hR.n1; omega
  have HS := Lib.hid (states_in h)
  rw [hn] at HS
  have HE : Hid (∀ W p, Up w W → p < n → Calls Tryz.prog 44 #[.pointer (some ⟨B, 0, none⟩), .int .i64 (p : Nat)] W (Read2 W (Sy.steps s p))) := Lib.hid (fun W p hW hp => each_in (h.up hW) hR (by omega))
  have HL : Hid (∀ p, (Sy.steps s p).length ≤ 1000000) := Lib.hid (steps_len hR)
  unfold DegDone
  rw [hn2]
  clear h hR hn hn2
  go_enter Tryz.func14, Tryz.ntmps14
  go_wp2_with (go_at_call 43; refine HS.out.mono ?_; rintro r w1 ⟨rfl, hu1⟩)
  go_loopw [7, 3] (fun i v wr => ∃ j dg : Nat, i = .int .i64 j ∧ v = .int .i64 dg ∧ j ≤ n ∧ dg ≤ 1000000 ∧ Up w wr ∧ Hid (∀ q, q < j → (Sy.steps s q).length ≤ dg)) (fun i _ _ => n - (intOf i).toNat)
  case atStart => exact ⟨0, 0, rfl, rfl, Nat.zero_le _, Nat.zero_le _, hu1, Lib.hid (fun q hq => by omega)⟩
  case round =>
    obtain ⟨j, dg, rfl, rfl, hj, hdl, hu, HJ⟩ := hrel
    by_cases hlt : j < n
    · have HC := Lib.hid (HE.out wr j hu hlt)
      have hl := HL.out j
      go_wp2_with (go_at_call 44; refine HC.out.mono ?_; rintro r w2 ⟨v1, rfl, hu2, ao, cap, g, off, rfl, -, -⟩)
      obtain ⟨K, hK⟩ : ∃ K, K = (Sy.steps s j).length := ⟨_, rfl⟩
      have HN : Hid (∀ q, q < j + 1 → (Sy.steps s q).length ≤ max dg K) := Lib.hid (fun q hq => by
        rcases Nat.lt_succ_iff_lt_or_eq.1 hq with h1 | rfl
        · have := HJ.out q h1; omega
        · rw [← hK]; omega)
      rw [← hK] at hl ⊢
      clear hK
      go_roundw
      case rel => exact ⟨j + 1, max dg K, by go_num, by congr 1; omega, by omega, by omega, hu.trans hu2, HN⟩
      case measure => simp [intOf]; omega
    · obtain rfl : j = n := by omega
      go_wp2_with fail
      go_ret
      exact ⟨dg, rfl, HJ.out, hdl, hu⟩

set_option maxHeartbeats 1000000 in
theorem small_any (s : Sy.Lts) (ao : Option Addr) (k cap : Nat) (w : World) : Calls Tryz.prog 12 #[.agg #[.int .i64 s.n, .int .i64 s.m, .int .i64 s.start, .slice ao k cap]] w fun r w' =>
    r = .returned (.bool (decide (s.n ≤ 30) && decide ((k : Int) ≤ 150))) ∧ Up w w' := by
  by_cases h1 : s.n ≤ 30
  · have q1 : decide (s.n ≤ 30) = true := by simpa using h1
    go_enter Tryz.func12, Tryz.ntmps12
    go_wp2_with fail
    go_ret
    exact ⟨ret_bool (by simp [q1]), (Up.refl w).alloc _⟩
  · have q1 : decide (s.n ≤ 30) = false := by simpa using h1
    go_enter Tryz.func12, Tryz.ntmps12
    go_wp2_with fail
    go_ret
    exact ⟨ret_bool (by simp [q1]), (Up.refl w).alloc _⟩

/-- New of a system that is one. -/
theorem new_for {s : Sy.Lts} {ao : Option Addr} {cap : Nat} {xt : TypeId} {xv : Value} {w : World} (hr : Sy.right s = true) (hs : Ls3 w (.slice ao s.es.length cap) s.es) (hE : w.cell? ⟨2, 0, none⟩ = some (.iface xt xv)) (hl : s.es.length ≤ maxLen) :
    Calls Tryz.prog 13 #[.agg #[.int .i64 s.n, .int .i64 s.m, .int .i64 s.start, .slice ao s.es.length cap]] w fun r w1 => Up w w1 ∧ ∃ B, r = .returned (.tuple #[.pointer (some ⟨B, 0, none⟩), .nilIface]) ∧ GraphAt w1 B s := by
  refine (new_any s (.slice ao s.es.length cap) xt xv _ hs hE hl).mono ?_
  rintro r w1 ⟨hu1, ⟨-, B, rfl, hB, hg⟩ | ⟨h1, -⟩⟩
  · exact ⟨hu1, B, rfl, hg⟩
  · exact absurd (hr.symm.trans h1) (by decide)

theorem new_not {s : Sy.Lts} {ao : Option Addr} {cap : Nat} {xt : TypeId} {xv : Value} {w : World} (hr : Sy.right s = false) (hs : Ls3 w (.slice ao s.es.length cap) s.es) (hE : w.cell? ⟨2, 0, none⟩ = some (.iface xt xv)) (hl : s.es.length ≤ maxLen) :
    Calls Tryz.prog 13 #[.agg #[.int .i64 s.n, .int .i64 s.m, .int .i64 s.start, .slice ao s.es.length cap]] w fun r w1 => Up w w1 ∧ ∃ pb, r = .returned (.tuple #[.pointer none, .iface 103 (.pointer (some ⟨pb, 0, none⟩))]) := by
  refine (new_any s (.slice ao s.es.length cap) xt xv _ hs hE hl).mono ?_
  rintro r w1 ⟨hu1, ⟨h1, -⟩ | ⟨-, pb, rfl, -⟩⟩
  · exact absurd (h1.symm.trans hr) (by decide)
  · exact ⟨hu1, pb, rfl⟩

/-- Compare tells no error: what it tells. -/
theorem cmp_ok {s : Sy.Lts} {ao : Option Addr} {cap p q : Nat} {a b i n m : Addr} {w : World} (hr : Sy.right s = true) (ht : There s p q) (h3 : s.n ≤ 300) (hno : Rd.rank s p q < 0 ∨ (Dt.F s p q).length ≤ 5000) (hT : Tab w) (hG : ErrT w) (hs : Ls3 w (.slice ao s.es.length cap) s.es) (hC : CmpSent w a b i n m) (hl : s.es.length ≤ maxLen) :
    Calls Tryz.prog 15 #[.agg #[.int .i64 s.n, .int .i64 s.m, .int .i64 s.start, .slice ao s.es.length cap], .int .i64 (p : Nat), .int .i64 (q : Nat)] w fun r w1 => Up w w1 ∧
      ((Rd.rank s p q < 0 ∧ ∃ a1 c1, r = .returned (.tuple #[.agg #[.bool true, .slice a1 s.n.toNat c1, .slice none 0 0], .nilIface]) ∧ w1.ownsRow w.heap.size 3 1 (.slice a1 s.n.toNat c1) s.n.toNat (ints (Rd.R s (Rd.last s)))) ∨
       (0 ≤ Rd.rank s p q ∧ (Dt.F s p q).length ≤ 5000 ∧ ∃ a1 c1, r = .returned (.tuple #[.agg #[.bool false, .slice none 0 0, .slice a1 (Dt.F s p q).length c1], .nilIface]) ∧ w1.ownsRow w.heap.size 71 2 (.slice a1 (Dt.F s p q).length c1) (Dt.F s p q).length (cells2 (Dt.F s p q)))) := by
  have hC2 := compare_any s (.slice ao s.es.length cap) p q a b i n m w hT hG hs hC hl
  refine Calls.mono hC2 ?_
  rintro r w1 ⟨hu1, ⟨-, -, -, hy⟩ | ⟨-, -, -, h1, h2, -⟩ | ⟨e, rfl, hb⟩⟩
  · exact ⟨hu1, hy⟩
  · simp only [Int.toNat_natCast] at h1 h2
    exact absurd hno (by omega)
  · rcases hb with ⟨_, _, k, _⟩ | ⟨_, k, _⟩ | ⟨k, _⟩
    · omega
    · exact absurd ht k
    · exact absurd (hr.symm.trans k) (by decide)

/-- Compare tells that the formula gets too great. -/
theorem cmp_lim {s : Sy.Lts} {ao : Option Addr} {cap p q : Nat} {a b i n m : Addr} {w : World} (hr : Sy.right s = true) (ht : There s p q) (h3 : s.n ≤ 300) (h0 : 0 ≤ Rd.rank s p q) (hlong : 5000 < (Dt.F s p q).length) (hT : Tab w) (hG : ErrT w) (hs : Ls3 w (.slice ao s.es.length cap) s.es) (hC : CmpSent w a b i n m) (hl : s.es.length ≤ maxLen) :
    Calls Tryz.prog 15 #[.agg #[.int .i64 s.n, .int .i64 s.m, .int .i64 s.start, .slice ao s.es.length cap], .int .i64 (p : Nat), .int .i64 (q : Nat)] w fun r w1 => Up w w1 ∧
      ∃ pb, r = .returned (.tuple #[.agg #[.bool false, .slice none 0 0, .slice none 0 0], .iface 103 (.pointer (some ⟨pb, 0, none⟩))]) ∧ FaultE w1 pb layerDist (.iface 354 (.pointer (some m))) := by
  have hC2 := compare_any s (.slice ao s.es.length cap) p q a b i n m w hT hG hs hC hl
  refine Calls.mono hC2 ?_
  rintro r w1 ⟨hu1, ⟨-, -, -, ⟨k, -⟩ | ⟨-, k, -⟩⟩ | ⟨-, -, -, h1, h2, pb, rfl, -, hf⟩ | ⟨e, rfl, hb⟩⟩
  · simp only [Int.toNat_natCast] at k
    omega
  · simp only [Int.toNat_natCast] at k
    omega
  · exact ⟨hu1, pb, rfl, hf⟩
  · rcases hb with ⟨_, _, k, _⟩ | ⟨_, k, _⟩ | ⟨k, _⟩
    · omega
    · exact absurd ht k
    · exact absurd (hr.symm.trans k) (by decide)

/-- Not there: which of the four questions tells it. -/
theorem not_there {s : Sy.Lts} {p q : Int} (hn0 : 0 ≤ s.n) (h : ¬ There s p q) : (decide (p < 0) = true) ∨ (decide (p < 0) = false ∧ decide (s.n ≤ p) = true) ∨ (decide (p < 0) = false ∧ decide (s.n ≤ p) = false ∧ decide (q < 0) = true) ∨ (decide (p < 0) = false ∧ decide (s.n ≤ p) = false ∧ decide (q < 0) = false ∧ decide (s.n ≤ q) = true) := by
  unfold There at h
  simp only [decide_eq_true_eq, decide_eq_false_iff_not]
  omega

set_option maxHeartbeats 8000000 in
set_option maxRecDepth 100000 in
theorem bounded_off {s : Sy.Lts} {se : Value} {w : World} {a b i n m : Addr} (hs : Ls3 w se s.es) (hl : s.es.length ≤ maxLen) (p q : Int) (hC : CmpSent w a b i n m) (hT : Tab w) (hG : ErrT w) (hoff : ¬ (s.n ≤ 30 ∧ (s.es.length : Int) ≤ 150 ∧ Sy.right s = true ∧ There s p q)) :
    Calls Tryz.prog 5 #[sysV s se, .int .i64 p, .int .i64 q] w (GoodD w) := by
  obtain ⟨ao, cap, rfl⟩ := ls3_shape hs
  have HA : Hid (∀ W, Up w W → Calls Tryz.prog 9 #[] W fun r w' => r = .returned (.bool true) ∧ Up W w') := Lib.hid (fun W hW => aliveD_any (hT.up hW) (hW.cell hG) (hC.up hW))
  have HNB : Hid (Sy.right s = false → ∀ W, Up w W → _) := Lib.hid (fun hr W hW => new_not hr (hs.up hW) (hC.up hW).sys hl)
  have HNY : Hid (Sy.right s = true → ∀ W, Up w W → _) := Lib.hid (fun hr W hW => new_for hr (hs.up hW) (hC.up hW).sys hl)
  have HSM := fun W => Lib.hid (small_any s ao s.es.length cap W)
  obtain ⟨L, hL⟩ : ∃ L, L = s.es.length := ⟨_, rfl⟩
  rw [← hL] at HNB HNY HSM hoff
  unfold sysV
  rw [← hL]
  have HB1 := Lib.hid (heap_alloc_new w (.cells #[.int .i64 s.n, .int .i64 s.m, .int .i64 s.start, .slice ao L cap] 27))
  have HU1 := Lib.hid ((Up.refl w).alloc (.cells #[.int .i64 s.n, .int .i64 s.m, .int .i64 s.start, .slice ao L cap] 27))
  clear hs hl hC hT hG hL
  by_cases hsm : s.n ≤ 30 ∧ (L : Int) ≤ 150
  · have e1 : (decide (s.n ≤ 30) && decide ((L : Int) ≤ 150)) = true := by simp [hsm.1, hsm.2]
    rw [e1] at HSM
    cases hr : Sy.right s
    · have HN := Lib.hid (HNB.out hr)
      clear HNB HNY hoff hsm hr e1
      go_enter Tryz.func5, Tryz.ntmps5
      go_wp2_with (first
        | (go_at_call 12; refine (HSM _).out.mono ?_; rintro r w2 ⟨rfl, hu2⟩; (obtain ⟨⟨b0, b1, b2, b3⟩, -⟩ := four_cells ((hu2.block _ (lt_of_block' HB1.out)).trans HB1.out)))
        | (go_at_call 13; refine (HN.out _ (HU1.out.trans hu2)).mono ?_; rintro r w3 ⟨hu3, pb, rfl⟩)
        | (go_at_call 9; refine (HA.out _ ((HU1.out.trans hu2).trans hu3)).mono ?_; rintro r w4 ⟨rfl, hu4⟩))
      go_ret
      exact ⟨rfl, ((HU1.out.trans hu2).trans hu3).trans hu4⟩
    · have HN := Lib.hid (HNY.out hr)
      have hcs := not_there (p := p) (q := q) ((Sy.right_iff s).1 hr).n0 (fun h => hoff ⟨hsm.1, hsm.2, hr, h⟩)
      clear HNB HNY hoff hsm hr e1
      rcases hcs with q1 | ⟨q1, q2⟩ | ⟨q1, q2, q3⟩ | ⟨q1, q2, q3, q4⟩
      all_goals
        go_enter Tryz.func5, Tryz.ntmps5
        go_wp2_with (first
          | (go_at_call 12; refine (HSM _).out.mono ?_; rintro r w2 ⟨rfl, hu2⟩; (obtain ⟨⟨b0, b1, b2, b3⟩, -⟩ := four_cells ((hu2.block _ (lt_of_block' HB1.out)).trans HB1.out)))
          | (go_at_call 13; refine (HN.out _ (HU1.out.trans hu2)).mono ?_; rintro r w3 ⟨hu3, B, rfl, -⟩; (obtain ⟨⟨c0, c1, c2, c3⟩, -⟩ := four_cells (((hu2.trans hu3).block _ (lt_of_block' HB1.out)).trans HB1.out)))
          | (go_at_call 9; refine (HA.out _ ((HU1.out.trans hu2).trans hu3)).mono ?_; rintro r w4 ⟨rfl, hu4⟩))
        go_ret
        exact ⟨rfl, ((HU1.out.trans hu2).trans hu3).trans hu4⟩
  · have e1 : (decide (s.n ≤ 30) && decide ((L : Int) ≤ 150)) = false := by
      by_cases h : s.n ≤ 30
      · have : ¬ (L : Int) ≤ 150 := fun h2 => hsm ⟨h, h2⟩
        simp [h, this]
      · simp [h]
    rw [e1] at HSM
    clear HNB HNY hoff hsm e1
    go_enter Tryz.func5, Tryz.ntmps5
    go_wp2_with (first
      | (go_at_call 12; refine (HSM _).out.mono ?_; rintro r w2 ⟨rfl, hu2⟩)
      | (go_at_call 9; refine (HA.out _ (HU1.out.trans hu2)).mono ?_; rintro r w4 ⟨rfl, hu4⟩))
    go_ret
    exact ⟨rfl, (HU1.out.trans hu2).trans hu4⟩

/-- The way to Compare's answer: the system's box, the greatest formula. -/
structure BoundedAt (s : Sy.Lts) (ao : Option Addr) (L cap : Nat) (w : World) (dg : Nat) (wr : World) : Prop where
  up : Up w wr
  box : wr.heap[w.heap.size]? = some (.cells #[.int .i64 s.n, .int .i64 s.m, .int .i64 s.start, .slice ao L cap] 27 (0, 0))
  deg : ∀ q, q < s.n.toNat → (Sy.steps s q).length ≤ dg

set_option maxHeartbeats 8000000 in
set_option maxRecDepth 100000 in
theorem bounded_in {s : Sy.Lts} {se : Value} {w : World} {a b i n m : Addr} (hs : Ls3 w se s.es) (hl : s.es.length ≤ maxLen) (p q : Nat) (hC : CmpSent w a b i n m) (hT : Tab w) (hG : ErrT w) (h30 : s.n ≤ 30) (h150 : (s.es.length : Int) ≤ 150) (hr : Sy.right s = true) (ht : There s p q) :
    Calls Tryz.prog 5 #[sysV s se, .int .i64 (p : Nat), .int .i64 (q : Nat)] w (GoodD w) := by
  obtain ⟨ao, cap, rfl⟩ := ls3_shape hs
  have hR := (Sy.right_iff s).1 hr
  have HA : Hid (∀ W, Up w W → Calls Tryz.prog 9 #[] W fun r w' => r = .returned (.bool true) ∧ Up W w') := Lib.hid (fun W hW => aliveD_any (hT.up hW) (hW.cell hG) (hC.up hW))
  have HN : Hid (∀ W, Up w W → _) := Lib.hid (fun W hW => new_for hr (hs.up hW) (hC.up hW).sys hl)
  have HOK : Hid ((Rd.rank s p q < 0 ∨ (Dt.F s p q).length ≤ 5000) → ∀ W, Up w W → _) := Lib.hid (fun hno W hW => cmp_ok hr ht (by omega) hno (hT.up hW) (hW.cell hG) (hs.up hW) (hC.up hW) hl)
  have HLIM : Hid (0 ≤ Rd.rank s p q → 5000 < (Dt.F s p q).length → ∀ W, Up w W → _) := Lib.hid (fun h0 h1 W hW => cmp_lim hr ht (by omega) h0 h1 (hT.up hW) (hW.cell hG) (hs.up hW) (hC.up hW) hl)
  have HSM := fun W => Lib.hid (small_any s ao s.es.length cap W)
  have e1 : (decide (s.n ≤ 30) && decide ((s.es.length : Int) ≤ 150)) = true := by simp [h30, h150]
  rw [e1] at HSM
  have HWI : Hid (∀ dg : Nat, (∀ q, q < s.n.toNat → (Sy.steps s q).length ≤ dg) → 0 ≤ Rd.rank s p q → Dt.bound (s.n - 1) dg ≤ 5000 → (Dt.F s p q).length ≤ Dt.bound (s.n - 1) dg) := Lib.hid (fun dg hd h0 hb => Dt.F_within hR hd (by unfold There at ht; omega) (by unfold There at ht; omega) h0 hb)
  have HDG : Hid (∀ W B, GraphAt W B s → Calls Tryz.prog 14 #[.pointer (some ⟨B, 0, none⟩)] W (DegDone s W)) := Lib.hid (fun W B hg => degree_any hg hR)
  have HBN := fun (dg : Nat) W => Lib.hid (bound_any (s.n - 1) dg W (by omega))
  have q1 : decide ((p : Int) < 0) = false := by simp
  have q2 : decide (s.n ≤ (p : Int)) = false := by unfold There at ht; simp; omega
  have q3 : decide ((q : Int) < 0) = false := by simp
  have q4 : decide (s.n ≤ (q : Int)) = false := by unfold There at ht; simp; omega
  have hwr : IntKind.i64.wrap (s.n - 1) = s.n - 1 := IntWalk.i64_in _ (by have := hR.n0; omega)
  obtain ⟨L, hL⟩ : ∃ L, L = s.es.length := ⟨_, rfl⟩
  rw [← hL] at HN HOK HLIM HSM
  unfold sysV
  rw [← hL]
  have HB1 := Lib.hid (heap_alloc_new w (.cells #[.int .i64 s.n, .int .i64 s.m, .int .i64 s.start, .slice ao L cap] 27))
  have HU1 := Lib.hid ((Up.refl w).alloc (.cells #[.int .i64 s.n, .int .i64 s.m, .int .i64 s.start, .slice ao L cap] 27))
  have HWR := Lib.hid hwr
  have GL := Lib.hid hC.lim
  have hn1 : 1 ≤ s.n := by unfold There at ht; omega
  clear hs hl hC hT hG hL h150 hr ht hR e1 hwr
  go_enter Tryz.func5, Tryz.ntmps5
  go_upto_region 6 with (first
    | (go_at_call 12; refine (HSM _).out.mono ?_; rintro r w2 ⟨rfl, hu2⟩; (obtain ⟨⟨b0, b1, b2, b3⟩, -⟩ := four_cells ((hu2.block _ (lt_of_block' HB1.out)).trans HB1.out)))
    | (go_at_call 13; refine (HN.out _ (HU1.out.trans hu2)).mono ?_; rintro r w3 ⟨hu3, B, rfl, hgr⟩; (have hbx3 := ((hu2.trans hu3).block _ (lt_of_block' HB1.out)).trans HB1.out); (obtain ⟨⟨c0, c1, c2, c3⟩, -⟩ := four_cells hbx3); (have HGR := Lib.hid hgr); (have HB3 := Lib.hid hbx3); (have HU3 := Lib.hid ((HU1.out.trans hu2).trans hu3)); clear hgr hbx3))
  refine wp_region_ord 6 [(0, true), (1, true), (2, true), (3, true), (4, false), (5, false)] (fun w' => w'.cell? ⟨w.heap.size, 0, none⟩ = some (.int .i64 s.n)) (by kernel_rfl) (by kernel_rfl) (fun _ _ _ _ _ h => h) c0 ?_
  have hud : Up w3 w3.drew := (Up.refl w3).drew
  generalize w3.drew = W3 at hud ⊢
  have HGR3 := Lib.hid (HGR.out.up hud)
  have HB3' := Lib.hid ((hud.block _ (lt_of_block' HB3.out)).trans HB3.out)
  have HU3' := Lib.hid (HU3.out.trans hud)
  clear b0 b1 b2 b3 c1 c2 c3 hu2 hu3 hud
  iterate 4
    refine WO.still rfl rfl (fun K hK => ?_)
    apply Exists.intro
    refine ⟨?_, hK _ ?_⟩
    · intro w' hS
      go_simp
      first | done | rfl | exact ⟨rfl, rfl⟩
    clear hK K
  refine WO.act rfl rfl (fun K hK => ?_)
  go_simp
  refine (HDG.out _ _ HGR3.out).mono ?_
  rintro r w4 ⟨dg, rfl, hdg, hdl, hu4⟩
  have hbx4 := (hu4.block _ (lt_of_block' HB3'.out)).trans HB3'.out
  refine hK _ _ (four_cells hbx4).1.1 ?_
  clear hK K
  have HB4 := Lib.hid hbx4
  have HU4 := Lib.hid (HU3'.out.trans hu4)
  have HDQ := Lib.hid hdg
  clear hdg hu4 hbx4
  refine WO.act rfl rfl (fun K hK => ?_)
  go_simp
  rw [HWR.out]
  refine (HBN dg w4).out.mono ?_
  rintro r w5 ⟨rfl, rfl⟩
  refine hK _ _ (four_cells HB4.out).1.1 ?_
  clear hK K
  refine WO.last rfl rfl (fun K hK => ?_)
  go_simp
  refine hK _ _ ?_
  clear hK K
  obtain ⟨mo, hmo⟩ : ∃ mo, mo = Dt.bound (s.n - 1) dg := ⟨_, rfl⟩
  have HWI2 := Lib.hid (HWI.out dg HDQ.out)
  rw [← hmo] at HWI2 ⊢
  obtain ⟨⟨d0, d1, d2, d3⟩, -⟩ := four_cells HB4.out
  have hgl := HU4.out.cell GL.out
  clear hmo c0 HSM HN HDG HBN HWI HGR HGR3 HB3 HB3' HU3 HU3' HDQ hdl
  by_cases hlim : 0 ≤ Rd.rank s p q ∧ 5000 < (Dt.F s p q).length
  · have HCL := Lib.hid (HLIM.out hlim.1 hlim.2 _ HU4.out)
    have hbig : 5000 < mo := by
      rcases Nat.lt_or_ge 5000 mo with h | h
      · exact h
      · have := HWI2.out hlim.1 h
        omega
    have q5 : decide ((5000 : Int) < (mo : Int)) = true := by simp; omega
    clear hlim hbig HLIM HOK HWI2
    go_wp2_with (first
      | (go_at_call 15; refine HCL.out.mono ?_; rintro r w6 ⟨hu6, pb, rfl, hf⟩; (have hu6' := hu6.alloc (.cells #[.bool false, .slice none 0 0, .slice none 0 0] 38)); (have HF6 := Lib.hid (hf.up ((Up.refl w6).alloc (.cells #[.bool false, .slice none 0 0, .slice none 0 0] 38)))); (have HU6 := Lib.hid (HU4.out.trans hu6')); (have hgl6 := hu6'.cell hgl); clear hu6 hu6' hf)
      | (go_at_call 9; refine (HA.out _ HU6.out).mono ?_; rintro r w7 ⟨rfl, hu7⟩; (have hgl7 := hu7.cell hgl6); (have HF7 := Lib.hid (HF6.out.up hu7)))
      | (go_at_call 16; refine (is_fault_same pb m _ (fault_cell HF7.out)).mono ?_; rintro e w8 ⟨rfl, rfl⟩))
    go_ret
    exact ⟨rfl, HU6.out.trans hu7⟩
  · have hno : Rd.rank s p q < 0 ∨ (Dt.F s p q).length ≤ 5000 := by omega
    have HCO := Lib.hid (HOK.out hno _ HU4.out)
    have HK : Hid (0 ≤ Rd.rank s p q → mo ≤ 5000 → (Dt.F s p q).length ≤ mo) := HWI2
    clear hlim hno HLIM HOK HWI2
    have HCOK : Hid (Calls Tryz.prog 15 #[.agg #[.int .i64 s.n, .int .i64 s.m, .int .i64 s.start, .slice ao L cap], .int .i64 (p : Nat), .int .i64 (q : Nat)] w4 fun r w1 => Up w4 w1 ∧
        ∃ bb a1 n1 c1 a2 c2, ∃ K : Nat, r = .returned (.tuple #[.agg #[.bool bb, .slice a1 n1 c1, .slice a2 K c2], .nilIface]) ∧ (mo ≤ 5000 → K ≤ mo)) := Lib.hid (HCO.out.mono (by
      rintro r w1 ⟨hu1, ⟨-, a1, c1, rfl, -⟩ | ⟨k0, k1, a1, c1, rfl, -⟩⟩
      · exact ⟨hu1, true, a1, _, c1, none, 0, 0, rfl, fun _ => Nat.zero_le _⟩
      · exact ⟨hu1, false, none, 0, 0, a1, c1, _, rfl, fun h => HK.out k0 h⟩))
    clear HCO HK
    by_cases hbig : 5000 < mo
    · have q5 : decide ((5000 : Int) < (mo : Int)) = true := by simp; omega
      clear hbig
      go_wp2_with (first
        | (go_at_call 15; refine HCOK.out.mono ?_; rintro r w6 ⟨hu6, bb, a1, n1, c1, a2, c2, K, rfl, -⟩; (have HU6 := Lib.hid (HU4.out.trans (hu6.alloc (.cells #[.bool bb, .slice a1 n1 c1, .slice a2 K c2] 38)))); clear hu6)
        | (go_at_call 9; refine (HA.out _ HU6.out).mono ?_; rintro r w7 ⟨rfl, hu7⟩))
      go_ret
      exact ⟨rfl, HU6.out.trans hu7⟩
    · have q5 : decide ((5000 : Int) < (mo : Int)) = false := by simp; omega
      have hmo5 : mo ≤ 5000 := by omega
      clear hbig
      go_upto_if 58 with (go_at_call 15; refine HCOK.out.mono ?_; rintro r w6 ⟨hu6, bb, a1, n1, c1, a2, c2, K, rfl, hK⟩; (have hv6 := heap_alloc_new w6 (.cells #[.bool bb, .slice a1 n1 c1, .slice a2 K c2] 38)); (have HV6 := Lib.hid hv6); (have HU6 := Lib.hid (HU4.out.trans (hu6.alloc (.cells #[.bool bb, .slice a1 n1 c1, .slice a2 K c2] 38)))); (have hKm := hK hmo5); clear hu6 hv6 hK)
      have q6 : decide ((K : Int) ≤ (mo : Int)) = true := by simp; omega
      go_wp2_with (go_at_call 9; refine (HA.out _ HU6.out).mono ?_; rintro r w7 ⟨rfl, hu7⟩; (obtain ⟨⟨v0, v1, v2⟩, -⟩ := verdict_cells ((hu7.block _ (lt_of_block' HV6.out)).trans HV6.out)))
      go_ret
      exact ⟨ret_bool (by simp), HU6.out.trans hu7⟩

theorem bounded_any {s : Sy.Lts} {se : Value} {w : World} {a b i n m : Addr} (hs : Ls3 w se s.es) (hl : s.es.length ≤ maxLen) (p q : Int) (hC : CmpSent w a b i n m) (hT : Tab w) (hG : ErrT w) :
    Calls Tryz.prog 5 #[sysV s se, .int .i64 p, .int .i64 q] w (GoodD w) := by
  by_cases h : s.n ≤ 30 ∧ (s.es.length : Int) ≤ 150 ∧ Sy.right s = true ∧ There s p q
  · obtain ⟨h1, h2, h3, h4⟩ := h
    obtain ⟨P, rfl⟩ : ∃ P : Nat, p = (P : Nat) := ⟨p.toNat, by unfold There at h4; omega⟩
    obtain ⟨Q, rfl⟩ : ∃ Q : Nat, q = (Q : Nat) := ⟨q.toNat, by unfold There at h4; omega⟩
    exact bounded_in hs hl P Q hC hT hG h1 h2 h3 h4
  · exact bounded_off hs hl p q hC hT hG h

end Go.Proofs.YtkcdkfkgjjpaaaaGreatDoor

namespace Go.Proofs.YtkcdkfkgjjpaaaaGreatDoor
open Go.RowKit Go.Maps
set_option linter.unusedVariables false
set_option linter.unusedSimpArgs false

set_option maxHeartbeats 2000000 in
theorem parts_any (a b : Int) (w : World) : Calls Tryz.prog 185 #[.agg #[.int .i64 a, .int .i64 b]] w fun r w' => r = .returned (.int .i64 (Dt.arity (a, b))) ∧ Up w w' := by
  have HU : Hid (∀ o, Up w (w.alloc o)) := Lib.hid (fun o => (Up.refl w).alloc o)
  obtain ⟨k, hk⟩ : ∃ k, k = Dt.arity (a, b) := ⟨_, rfl⟩
  rw [← hk]
  have HK := Lib.hid hk
  clear hk
  by_cases h3 : a = 3
  · subst h3
    by_cases h0 : b = 0
    · subst h0
      have HV : Hid (k = 2) := Lib.hid (by rw [HK.out]; decide)
      go_enter Tryz.func185, Tryz.ntmps185
      go_wp2_with fail
      go_ret
      exact ⟨ret_intD HV.out.symm, HU.out _⟩
    · have q1 : decide (b = 0) = false := by simpa using h0
      have q2 : (b == 0) = false := by simpa using h0
      have HV : Hid (k = -1) := Lib.hid (by rw [HK.out]; simp [Dt.arity, h0])
      clear h0
      go_enter Tryz.func185, Tryz.ntmps185
      go_wp2_with fail
      go_ret
      exact ⟨ret_intD HV.out.symm, HU.out _⟩
  · have a1 : decide (a = 3) = false := by simpa using h3
    have a2 : (a == 3) = false := by simpa using h3
    by_cases h2 : a = 2
    · subst h2
      by_cases h0 : b = 0
      · subst h0
        have HV : Hid (k = 1) := Lib.hid (by rw [HK.out]; decide)
        clear h3
        go_enter Tryz.func185, Tryz.ntmps185
        go_wp2_with fail
        go_ret
        exact ⟨ret_intD HV.out.symm, HU.out _⟩
      · have q1 : decide (b = 0) = false := by simpa using h0
        have q2 : (b == 0) = false := by simpa using h0
        have HV : Hid (k = -1) := Lib.hid (by rw [HK.out]; simp [Dt.arity, h0])
        clear h0 h3
        go_enter Tryz.func185, Tryz.ntmps185
        go_wp2_with fail
        go_ret
        exact ⟨ret_intD HV.out.symm, HU.out _⟩
    · have b1 : decide (a = 2) = false := by simpa using h2
      have b2 : (a == 2) = false := by simpa using h2
      by_cases h1 : a = 1
      · subst h1
        by_cases h0 : b = 0
        · subst h0
          have HV : Hid (k = 0) := Lib.hid (by rw [HK.out]; decide)
          clear h3 h2
          go_enter Tryz.func185, Tryz.ntmps185
          go_wp2_with fail
          go_ret
          exact ⟨ret_intD HV.out.symm, HU.out _⟩
        · have q1 : decide (b = 0) = false := by simpa using h0
          have q2 : (b == 0) = false := by simpa using h0
          have HV : Hid (k = -1) := Lib.hid (by rw [HK.out]; simp [Dt.arity, h0])
          clear h0 h3 h2
          go_enter Tryz.func185, Tryz.ntmps185
          go_wp2_with fail
          go_ret
          exact ⟨ret_intD HV.out.symm, HU.out _⟩
      · have c1 : decide (a = 1) = false := by simpa using h1
        have c2 : (a == 1) = false := by simpa using h1
        by_cases h4 : a = 4
        · subst h4
          by_cases h0 : 0 ≤ b
          · have q1 : decide (0 ≤ b) = true := by simpa using h0
            by_cases h5 : b < 201
            · have q2 : decide (b < 201) = true := by simpa using h5
              have HV : Hid (k = 1) := Lib.hid (by rw [HK.out]; simp [Dt.arity, h0, h5])
              clear h0 h3 h2 h1 h5
              go_enter Tryz.func185, Tryz.ntmps185
              go_wp2_with fail
              go_ret
              exact ⟨ret_intD HV.out.symm, HU.out _⟩
            · have q2 : decide (b < 201) = false := by simpa using h5
              have HV : Hid (k = -1) := Lib.hid (by rw [HK.out]; simp [Dt.arity, h0, h5])
              clear h0 h3 h2 h1 h5
              go_enter Tryz.func185, Tryz.ntmps185
              go_wp2_with fail
              go_ret
              exact ⟨ret_intD HV.out.symm, HU.out _⟩
          · have q1 : decide (0 ≤ b) = false := by simpa using h0
            have HV : Hid (k = -1) := Lib.hid (by rw [HK.out]; simp [Dt.arity, h0])
            clear h0 h3 h2 h1
            go_enter Tryz.func185, Tryz.ntmps185
            go_wp2_with fail
            go_ret
            exact ⟨ret_intD HV.out.symm, HU.out _⟩
        · have d1 : decide (a = 4) = false := by simpa using h4
          have d2 : (a == 4) = false := by simpa using h4
          have HV : Hid (k = -1) := Lib.hid (by rw [HK.out]; simp [Dt.arity, h1, h2, h3, h4])
          clear h3 h2 h1 h4
          go_enter Tryz.func185, Tryz.ntmps185
          go_wp2_with fail
          go_ret
          exact ⟨ret_intD HV.out.symm, HU.out _⟩

/-- The greatest of some numbers. -/
def most0 (l : List Int) : Int := l.foldl max 0

theorem most0_take {l : List Int} {j : Nat} (h : j < l.length) : most0 (l.take (j + 1)) = max (most0 (l.take j)) (l.getD j 0) := by
  unfold most0
  rw [List.take_succ_eq_append_getElem h, List.foldl_append]
  simp [List.getD, h]

theorem most0_le {K : Int} (hK : 0 ≤ K) : ∀ (l : List Int), (∀ z ∈ l, z ≤ K) → most0 l ≤ K := by
  intro l
  refine Sy.snoc_ind (p := fun l => (∀ z ∈ l, z ≤ K) → most0 l ≤ K) (fun _ => by simpa [most0] using hK) (fun l z ih h => ?_) l
  unfold most0 at *
  rw [List.foldl_append]
  have h1 := ih (fun y hy => h y (by simp [hy]))
  have h2 := h z (by simp)
  simp only [List.foldl_cons, List.foldl_nil]
  omega

theorem most0_ge : ∀ (l : List Int), 0 ≤ most0 l := by
  intro l
  refine Sy.snoc_ind (p := fun l => 0 ≤ most0 l) (by simp [most0]) (fun l z ih => ?_) l
  unfold most0 at *
  rw [List.foldl_append]
  simp only [List.foldl_cons, List.foldl_nil]
  omega

set_option maxHeartbeats 4000000 in
set_option maxRecDepth 100000 in
theorem depth1_any (a b : Int) {v : Value} {l : List Int} {w : World} (h : Lst w v l) (hl : l.length ≤ 5000) (hb : ∀ z ∈ l, z ≤ 1000000) :
    Calls Tryz.prog 147 #[.agg #[.int .i64 a, .int .i64 b], v] w fun r w' => r = .returned (.int .i64 (Dt.deep (a, b) l)) ∧ Up w w' := by
  obtain ⟨ao, cap, g, off, rfl, ha, hx⟩ := h
  obtain ⟨m, hm⟩ : ∃ m, m = l.length := ⟨_, rfl⟩
  rw [← hm] at ha hl ⊢
  have HA := Lib.hid ha
  have HX := Lib.hid hx
  have HM := Lib.hid hm
  have HB := Lib.hid hb
  have hub := (Up.refl w).alloc (.cells #[.int .i64 a, .int .i64 b] 71)
  obtain ⟨x0, x1⟩ := two_cells (heap_alloc_new w (.cells #[.int .i64 a, .int .i64 b] 71))
  have HU := Lib.hid hub
  have hbn : most0 l ≤ 1000000 := most0_le (by omega) l hb
  have hbp := most0_ge l
  have HD : Hid (Dt.deep (a, b) l = most0 l + (if a = 4 then 1 else 0)) := Lib.hid rfl
  clear ha hx hm hb
  go_enter Tryz.func147, Tryz.ntmps147
  go_wp2_with fail
  go_loopw [10, 5] (fun i z wr => ∃ j : Nat, i = .int .i64 j ∧ j ≤ m ∧ z = .int .i64 (most0 (l.take j)) ∧ wr = w.alloc (.cells #[.int .i64 a, .int .i64 b] 71)) (fun i _ _ => m - (intOf i).toNat)
  case atStart => exact ⟨0, rfl, Nat.zero_le _, rfl, rfl⟩
  case round =>
    obtain ⟨j, rfl, hj, rfl, rfl⟩ := hrel
    by_cases hlt : j < m
    · obtain rfl := HA.out (by omega)
      have hjl : j < l.length := by rw [← HM.out]; exact hlt
      have c := HU.out.cell (HX.out j hjl)
      have hstep := most0_take hjl
      obtain ⟨z, hz⟩ : ∃ z, z = l.getD j 0 := ⟨_, rfl⟩
      obtain ⟨y, hy⟩ : ∃ y, y = most0 (l.take j) := ⟨_, rfl⟩
      rw [← hz] at c hstep
      rw [← hy] at hstep ⊢
      have HS := Lib.hid hstep
      clear hstep hz hy hjl
      go_wp2_with fail
      go_roundw
      case rel => exact ⟨j + 1, by go_num, by omega, by rw [HS.out], trivial⟩
      case measure => simp [intOf]; omega
    · obtain rfl : j = m := by omega
      have htk : l.take j = l := by rw [HM.out, List.take_length]
      rw [htk]
      obtain ⟨y, hy⟩ : ∃ y, y = most0 l := ⟨_, rfl⟩
      rw [← hy] at hbn hbp ⊢
      have HY := Lib.hid hy
      clear htk hy
      by_cases h4 : a = 4
      · subst h4
        go_wp2_with fail
        go_ret
        exact ⟨ret_intD (by rw [HD.out, HY.out]; simp), HU.out⟩
      · have d1 : decide (a = 4) = false := by simpa using h4
        have d2 : (a == 4) = false := by simpa using h4
        have H4 := Lib.hid h4
        clear h4
        go_wp2_with fail
        go_ret
        exact ⟨ret_intD (by rw [HD.out, HY.out, if_neg H4.out]; simp), HU.out⟩

/-- The first elements of an owned slice. -/
theorem owns_take {w : World} {base : Nat} {e : TypeId} {size g cap n a : Nat} {xs : List Value} (ha : a ≤ n) (h : w.ownsRow base e size (.slice (some ⟨g, 0, none⟩) n cap) n xs) :
    w.ownsRow base e size (.slice (some ⟨g, 0, none⟩) a cap) a (xs.take (a * size)) := by
  obtain ⟨hx, h2⟩ := h
  rcases h2 with ⟨h0, _⟩ | ⟨g', cap', cur, hv, hg, hh, hn, hcap, hsz, htake⟩
  · cases h0
  · cases hv
    have hm := Nat.mul_le_mul_right size ha
    refine ⟨by rw [List.length_take]; omega, .inr ⟨g, cap, cur, rfl, hg, hh, by omega, hcap, hsz, ?_⟩⟩
    have h3 : (cur.toList.take (n * size)).take (a * size) = xs.take (a * size) := by rw [htake]
    rw [List.take_take, Nat.min_eq_left hm] at h3
    exact h3

theorem exec_step {β : Type} {f : Dt.Nd → List β → β} {x : Dt.Nd} {r : List Dt.Nd} {st : List β} {o : List β} (h : Dt.exec f (x :: r) st = some o) :
    ∃ k : Nat, Dt.arity x = (k : Int) ∧ k ≤ st.length ∧ k ≤ 2 ∧ Dt.exec f r (st.take (st.length - k) ++ [f x (st.drop (st.length - k))]) = some o := by
  rw [Dt.exec] at h
  split at h
  · cases h
  · rename_i hn
    have h2 : Dt.arity x ≤ 2 := by
      unfold Dt.arity
      split <;> (try split) <;> (try split) <;> (try split) <;> (try split) <;> omega
    refine ⟨(Dt.arity x).toNat, by omega, by omega, by omega, h⟩

theorem lst_drop {W : World} {g m cap at_ : Nat} {st : List Int} (hc : ∀ i, i < st.length → W.cell? ⟨g, i, none⟩ = some (.int .i64 (st.getD i 0))) (hm : m = st.length - at_) (ha : at_ ≤ st.length) : Lst W (.slice (some ⟨g, at_, none⟩) m cap) (st.drop at_) := by
  refine ⟨_, cap, g, at_, by rw [List.length_drop, hm], fun _ => rfl, fun i hi => ?_⟩
  rw [List.length_drop] at hi
  have h := hc (at_ + i) (by omega)
  rw [h]
  simp [List.getD, show at_ + i < st.length by omega]

theorem lst_arg {W : World} {g a k cp : Nat} {st : List Int} (hc : ∀ i, i < st.length → W.cell? ⟨g, i, none⟩ = some (.int .i64 (st.getD i 0))) (hm : a + k = st.length) (hk : a + k ≤ cp) :
    Lst W (.slice (if cp = a then some ⟨g, 0, none⟩ else some ⟨g, a, none⟩) k (cp - a)) (st.drop a) := by
  by_cases e : cp = a
  · obtain rfl : k = 0 := by omega
    rw [List.drop_eq_nil_of_le (by omega)]
    exact ⟨_, _, 0, 0, rfl, fun h => by simp at h, fun i hi => by simp at hi⟩
  · rw [if_neg e]
    exact lst_drop hc (by omega) (by omega)

theorem lst_none {W : World} {ao : Option Addr} {cap : Nat} : Lst W (.slice ao 0 cap) [] := ⟨ao, cap, 0, 0, rfl, fun h => by simp at h, fun i hi => by simp at hi⟩

set_option maxHeartbeats 8000000 in
set_option maxRecDepth 100000 in
theorem work_int {w : World} {v : Value} {l : List Dt.Nd} (h : Ls2 w v l) (hl : l.length ≤ 5000) {d : Int} (he : Dt.exec Dt.deep l [] = some [d]) :
    Calls Tryz.prog 146 #[v, .func (.func 147) #[] #[]] w fun r w' => r = .returned (.tuple #[.int .i64 d, .bool true]) ∧ Up w w' := by
  obtain ⟨i0, hi, hz0, hz1, hz2⟩ := info_parts Tryz.intsInfo
  obtain ⟨ao, cap, g, off, rfl, ha, hx⟩ := h
  obtain ⟨n, hn⟩ : ∃ n, n = l.length := ⟨_, rfl⟩
  rw [← hn] at ha hl ⊢
  have HA := Lib.hid ha
  have HX := Lib.hid hx
  have HN := Lib.hid hn
  have HE := Lib.hid he
  have q0 : decide ((5000 : Int) < (n : Int)) = false := by simp; omega
  clear ha hx hn he
  go_enter Tryz.func146, Tryz.ntmps146
  go_wp2_with fail
  go_loopw [18, 7] (fun i sv wr => ∃ (j : Nat) (st : List Int), i = .int .i64 j ∧ j ≤ n ∧ st.length ≤ j ∧ Up w wr ∧ wr.ownsRow w.heap.size 3 1 sv st.length (ivs st) ∧ Hid (Dt.exec Dt.deep (l.drop j) st = some [d]) ∧ Hid (∀ z ∈ st, z ≤ j)) (fun i _ _ => n - (intOf i).toNat)
  case atStart => exact ⟨0, [], rfl, Nat.zero_le _, Nat.zero_le _, Up.refl _, World.ownsRow_nil _ _ _ _, Lib.hid (by rw [List.drop_zero]; exact HE.out), Lib.hid (fun z hz => by cases hz)⟩
  case round =>
    obtain ⟨j, st, rfl, hj, hsl, hu, hown, HX2, HB⟩ := hrel
    by_cases hlt : j < n
    · obtain rfl := HA.out (by omega)
      have hjl : j < l.length := by rw [← HN.out]; exact hlt
      have hdrop : l.drop j = l.getD j (0, 0) :: l.drop (j + 1) := by rw [List.drop_eq_getElem_cons hjl]; simp [List.getD, hjl]
      have hcx := HX.out j hjl
      obtain ⟨x, hxe⟩ : ∃ x, x = l.getD j (0, 0) := ⟨_, rfl⟩
      rw [← hxe] at hdrop hcx
      have hex := HX2.out
      rw [hdrop] at hex
      obtain ⟨k, hk1, hk2, hk3, hnext⟩ := exec_step hex
      obtain ⟨x1, x2⟩ := x
      simp only at hcx
      have e0 := hu.cell hcx.1
      have e1 := hu.cell hcx.2
      obtain ⟨m, hm⟩ : ∃ m, m = st.length := ⟨_, rfl⟩
      have HP := fun W => Lib.hid (parts_any x1 x2 W)
      rw [hk1] at HP
      rw [← hm] at hown hk2 hsl hnext
      have p1 : decide ((k : Int) < 0) = false := by simp
      have p2 : decide ((m : Int) < (k : Int)) = false := by simp; omega
      obtain ⟨a, ha⟩ : ∃ a, m = a + k := ⟨m - k, by omega⟩
      subst ha
      have hat : a + k - k = a := by omega
      rw [hat] at hnext
      obtain ⟨y, hy⟩ : ∃ y, y = Dt.deep (x1, x2) (st.drop a) := ⟨_, rfl⟩
      rw [← hy] at hnext
      have hbb := HB.out
      have HC : Hid (∀ v2 W, Lst W v2 (st.drop a) → Calls Tryz.prog 147 #[.agg #[.int .i64 x1, .int .i64 x2], v2] W fun r w' => r = .returned (.int .i64 y) ∧ Up W w') := Lib.hid (fun v2 W hL => by
        rw [hy]; exact depth1_any x1 x2 hL (by rw [List.length_drop]; omega) (fun z hz => by have := hbb z (List.mem_of_mem_drop hz); omega))
      have hyb : y ≤ (j : Int) + 1 := by
        rw [hy]
        have h1 : most0 (st.drop a) ≤ (j : Int) := most0_le (by omega) _ (fun z hz => hbb z (List.mem_of_mem_drop hz))
        have h2 : Dt.deep (x1, x2) (st.drop a) = most0 (st.drop a) + (if x1 = 4 then 1 else 0) := rfl
        rw [h2]
        split <;> omega
      have HNX : Hid (Dt.exec Dt.deep (l.drop (j + 1)) (st.take a ++ [y]) = some [d]) := Lib.hid hnext
      have HB2 : Hid (∀ z ∈ st.take a ++ [y], z ≤ ((j + 1 : Nat) : Int)) := Lib.hid (fun z hz => by
        rcases List.mem_append.1 hz with h1 | h1
        · have := hbb z (List.mem_of_mem_take h1); push_cast; omega
        · rw [List.mem_singleton] at h1; rw [h1]; push_cast; omega)
      have HLN : Hid ((st.take a ++ [y]).length = a + 1) := Lib.hid (by rw [List.length_append, List.length_take, List.length_singleton]; omega)
      have hbx := heap_alloc_new wr (.cells #[.int .i64 x1, .int .i64 x2] 71)
      have hux := (Up.refl wr).alloc (.cells #[.int .i64 x1, .int .i64 x2] 71)
      have HBX := Lib.hid hbx
      have HUX := Lib.hid hux
      have HUW := Lib.hid hu
      have HM := Lib.hid hm
      have hws : w.heap.size ≤ wr.heap.size := hu.size
      have hal : a ≤ 5000 := by omega
      rcases owns_cases hown with ⟨hsv, hm0, hst⟩ | ⟨g7, cp, hsv, hrow, hmc, hcc, -⟩
      · obtain rfl : a = 0 := by omega
        obtain rfl : k = 0 := by omega
        obtain rfl : st = [] := List.eq_nil_of_length_eq_zero (by omega)
        subst hsv
        rw [List.drop_nil] at HC
        rw [List.take_nil, List.nil_append] at HNX HB2
        clear hown hbb hnext hex hdrop hcx hxe hjl hy hk1 hat HB HX2 hbx hux hu hm
        go_upto_region 12 with (go_at_call 185; (with_reducible refine (HP _).out.mono ?_); rintro r w2 ⟨rfl, hu2⟩)
        have hbx2 := (hu2.block _ (lt_of_block' HBX.out)).trans HBX.out
        obtain ⟨b0, b1⟩ := two_cells hbx2
        have hU2 : Up wr w2 := HUX.out.trans hu2
        have HNE : Hid ((Value.slice none 0 0).ownBlock ≠ some wr.heap.size) := Lib.hid (fun e => by simp [Value.ownBlock] at e)
        have hS0 := And.intro b0 b1
        refine wp_region_ord 11 [(0, true), (1, true), (2, true), (3, true), (4, true), (5, true), (6, true), (7, true), (8, false), (9, false), (10, false)] (fun w' => w'.cell? ⟨wr.heap.size, 0, none⟩ = some (.int .i64 x1) ∧ w'.cell? ⟨wr.heap.size, 1, none⟩ = some (.int .i64 x2)) (by kernel_rfl) (by kernel_rfl) (fun _ _ _ _ _ h => h) hS0 ?_
        have hU3 : Up wr w2.drew := hU2.drew
        have hS3 : w2.drew.cell? ⟨wr.heap.size, 0, none⟩ = some (.int .i64 x1) ∧ w2.drew.cell? ⟨wr.heap.size, 1, none⟩ = some (.int .i64 x2) := hS0
        generalize w2.drew = W3 at hU3 hS3 ⊢
        iterate 8
          refine WO.still rfl rfl (fun K hK => ?_)
          apply Exists.intro
          refine ⟨?_, hK _ ?_⟩
          · rintro w' ⟨s1, s2⟩
            go_simp
            first | done | rfl | exact ⟨rfl, rfl⟩
          clear hK K
        refine WO.act rfl rfl (fun K hK => ?_)
        go_simp
        refine (HC.out _ W3 lst_none).mono ?_
        rintro r w5 ⟨rfl, hu5⟩
        have hS5 := And.intro (hu5.cell hS3.1) (hu5.cell hS3.2)
        refine hK _ _ hS5 ?_
        clear hK K
        refine WO.act rfl rfl (fun K hK => ?_)
        go_simp
        have hu6 := (Up.refl w5).alloc (.cells #[.int .i64 y] 3)
        refine hK _ _ ?_ ?_
        · exact ⟨hu6.cell hS5.1, hu6.cell hS5.2⟩
        clear hK K
        refine WO.act rfl rfl (fun K hK => ?_)
        have hU5 : Up wr w5 := hU3.trans hu5
        refine wp_append_own (.tmp 39) (.tmp 46) 35 rfl w.heap.size 3 i0 (.int .i64 0) 1 8 Tryz.underlying35 hi hz0 hz1 hz2 rfl (by decide) (.slice none 0 0) 0 [] rfl (World.ownsRow_nil _ _ _ _) _ 1 1 [.int .i64 y] rfl rfl (one_new _ _ _) (int_one y) (by unfold maxLen; omega) (by omega) (by have := hU5.size; simp only [World.size_alloc]; omega) ?_
        intro v9 x9 hown9 hgrow9 hat9
        have hg9 : (w5.alloc (.cells #[.int .i64 y] 3)).grownBy x9 (Value.slice none 0 0).ownBlock := hgrow9
        refine hK _ _ ⟨grown_cell hg9 (hu6.cell hS5.1) HNE.out, grown_cell hg9 (hu6.cell hS5.2) HNE.out⟩ ?_
        clear hK K
        have HU9 : Hid (Up w x9) := Lib.hid (((HUW.out.trans hU5).alloc _).grown hg9 (fun b hb => by simp [Value.ownBlock] at hb))
        have HO9 : Hid (x9.ownsRow w.heap.size 3 1 v9 ([y]).length (ivs ([y]))) := Lib.hid (by
          exact hown9)
        clear hown9 hgrow9 hat9 hg9 hu6 hu5 hS5 hS3 hS0 b0 b1 hbx2 hu2 hU2 hU3 hU5
        refine WO.last rfl rfl (fun K hK => ?_)
        go_simp
        refine hK _ _ ?_
        clear hK K
        go_wp2_with fail
        go_roundw
        case rel => exact ⟨j + 1, [y], by go_num, by omega, by simp, HU9.out, HO9.out, HNX, HB2⟩
        case measure => simp [intOf]; omega
      · have HROW : Hid (∀ W, Up wr W → ∀ i, i < st.length → W.cell? ⟨g7, i, none⟩ = some (.int .i64 (st.getD i 0))) := Lib.hid (fun W hW i hi => hW.cell (hrow.cell (by simp [ivs, List.getD, hi])))
        rw [hsv] at hown
        have HOA := Lib.hid (owns_take (a := a) (by omega) hown)
        have hglt := (hown.lt g7 rfl).2
        subst hsv
        clear hrow hown hbb hnext hex hdrop hcx hxe hjl hy hk1 hat HB HX2 hbx hux hu hm
        go_upto_region 12 with (go_at_call 185; (with_reducible refine (HP _).out.mono ?_); rintro r w2 ⟨rfl, hu2⟩)
        have hbx2 := (hu2.block _ (lt_of_block' HBX.out)).trans HBX.out
        obtain ⟨b0, b1⟩ := two_cells hbx2
        have hU2 : Up wr w2 := HUX.out.trans hu2
        have HNE : Hid ((Value.slice (some ⟨g7, 0, none⟩) a cp).ownBlock ≠ some wr.heap.size) := Lib.hid (fun e => by
          simp only [Value.ownBlock, Option.some.injEq] at e
          omega)
        have hS0 := And.intro b0 b1
        have hacp : a ≤ cp := by omega
        have haak : (a : Int) ≤ (a : Int) + (k : Int) := by omega
        have hakc : a + k ≤ cp := by omega
        refine wp_region_ord 11 [(0, true), (1, true), (2, true), (3, true), (4, true), (5, true), (6, true), (7, true), (8, false), (9, false), (10, false)] (fun w' => w'.cell? ⟨wr.heap.size, 0, none⟩ = some (.int .i64 x1) ∧ w'.cell? ⟨wr.heap.size, 1, none⟩ = some (.int .i64 x2)) (by kernel_rfl) (by kernel_rfl) (fun _ _ _ _ _ h => h) hS0 ?_
        have hU3 : Up wr w2.drew := hU2.drew
        have hS3 : w2.drew.cell? ⟨wr.heap.size, 0, none⟩ = some (.int .i64 x1) ∧ w2.drew.cell? ⟨wr.heap.size, 1, none⟩ = some (.int .i64 x2) := hS0
        generalize w2.drew = W3 at hU3 hS3 ⊢
        iterate 8
          refine WO.still rfl rfl (fun K hK => ?_)
          apply Exists.intro
          refine ⟨?_, hK _ ?_⟩
          · rintro w' ⟨s1, s2⟩
            go_simp
            first | done | rfl | exact ⟨rfl, rfl⟩ | rw [if_pos hacp] | rw [if_pos haak] | rw [if_pos hakc]
          clear hK K
        refine WO.act rfl rfl (fun K hK => ?_)
        go_simp
        refine (HC.out _ W3 (lst_arg (HROW.out W3 hU3) HM.out hakc)).mono ?_
        rintro r w5 ⟨rfl, hu5⟩
        have hS5 := And.intro (hu5.cell hS3.1) (hu5.cell hS3.2)
        refine hK _ _ hS5 ?_
        clear hK K
        refine WO.act rfl rfl (fun K hK => ?_)
        go_simp
        have hu6 := (Up.refl w5).alloc (.cells #[.int .i64 y] 3)
        refine hK _ _ ?_ ?_
        · exact ⟨hu6.cell hS5.1, hu6.cell hS5.2⟩
        clear hK K
        refine WO.act rfl rfl (fun K hK => ?_)
        have hU5 : Up wr w5 := hU3.trans hu5
        refine wp_append_own (.tmp 39) (.tmp 46) 35 rfl w.heap.size 3 i0 (.int .i64 0) 1 8 Tryz.underlying35 hi hz0 hz1 hz2 rfl (by decide) (.slice (some ⟨g7, 0, none⟩) a cp) a _ rfl ((hU5.owns HOA.out).alloc _) _ 1 1 [.int .i64 y] rfl rfl (one_new _ _ _) (int_one y) (by unfold maxLen; omega) (by omega) (by have := hU5.size; simp only [World.size_alloc]; omega) ?_
        intro v9 x9 hown9 hgrow9 hat9
        have hg9 : (w5.alloc (.cells #[.int .i64 y] 3)).grownBy x9 (Value.slice (some ⟨g7, 0, none⟩) a cp).ownBlock := hgrow9
        refine hK _ _ ⟨grown_cell hg9 (hu6.cell hS5.1) HNE.out, grown_cell hg9 (hu6.cell hS5.2) HNE.out⟩ ?_
        clear hK K
        have hsz9 : w.heap.size ≤ g7 := by
          have := (HOA.out.lt g7 rfl).1
          exact this
        have HU9 : Hid (Up w x9) := Lib.hid (((HUW.out.trans hU5).alloc _).grown hg9 (fun b hb => by
          simp only [Value.ownBlock, Option.some.injEq] at hb
          rw [← hb]; exact hsz9))
        have HO9 : Hid (x9.ownsRow w.heap.size 3 1 v9 (st.take a ++ [y]).length (ivs (st.take a ++ [y]))) := Lib.hid (by
          rw [HLN.out]
          have e : ivs (st.take a ++ [y]) = (ivs st).take (a * 1) ++ [.int .i64 y] := by
            rw [Nat.mul_one]; simp [ivs, List.map_take]
          rw [e]
          exact hown9)
        clear hown9 hgrow9 hat9 hg9 hu6 hu5 hS5 hS3 hS0 b0 b1 hbx2 hu2 hU2 hU3 hU5
        refine WO.last rfl rfl (fun K hK => ?_)
        go_simp
        refine hK _ _ ?_
        clear hK K
        go_wp2_with fail
        go_roundw
        case rel => exact ⟨j + 1, st.take a ++ [y], by go_num, by omega, by rw [HLN.out]; omega, HU9.out, HO9.out, HNX, HB2⟩
        case measure => simp [intOf]; omega
    · obtain rfl : j = n := by omega
      have hex := HX2.out
      rw [List.drop_eq_nil_of_le (by rw [HN.out]; exact Nat.le_refl _), Dt.exec, Option.some.injEq] at hex
      subst hex
      rcases owns_cases hown with ⟨_, h0, _⟩ | ⟨g7, cp, hsv, hrow, hmc, hcc, -⟩
      · simp at h0
      · have c0 := hrow.cell (i := 0) (u := .int .i64 d) (by simp [ivs])
        subst hsv
        have HU := Lib.hid hu
        clear hrow hown HX2 HB hu
        go_wp2_with fail
        go_ret2
        exact ⟨rfl, HU.out⟩

set_option maxHeartbeats 1000000 in
theorem depth_any {w : World} {v : Value} {l : List Dt.Nd} (h : Ls2 w v l) (hl : l.length ≤ 5000) {d : Int} (he : Dt.exec Dt.deep l [] = some [d]) :
    Calls Tryz.prog 98 #[v] w fun r w' => r = .returned (.tuple #[.int .i64 d, .bool true]) ∧ Up w w' := by
  have HW := Lib.hid (work_int h hl he)
  clear h hl he
  go_enter Tryz.func98, Tryz.ntmps98
  go_wp2_with (go_at_call 146; refine HW.out.mono ?_; rintro r w1 ⟨rfl, hu1⟩)
  go_ret2
  exact ⟨rfl, hu1⟩

set_option maxHeartbeats 1000000 in
theorem depthTop_any {w : World} {v : Value} {l : List Dt.Nd} (h : Ls2 w v l) (hl : l.length ≤ 5000) {d : Int} (he : Dt.exec Dt.deep l [] = some [d]) :
    Calls Tryz.prog 26 #[v] w fun r w' => r = .returned (.int .i64 d) ∧ Up w w' := by
  have HW := Lib.hid (depth_any h hl he)
  clear h hl he
  go_enter Tryz.func26, Tryz.ntmps26
  go_wp2_with (go_at_call 98; refine HW.out.mono ?_; rintro r w1 ⟨rfl, hu1⟩)
  go_ret
  exact ⟨rfl, hu1⟩

end Go.Proofs.YtkcdkfkgjjpaaaaGreatDoor

namespace Go.Proofs.YtkcdkfkgjjpaaaaGreatDoor
open Go.RowKit Go.Maps
set_option linter.unusedVariables false
set_option linter.unusedSimpArgs false

/-- A list of truths, as it is read. -/
def RowB (w : World) (v : Value) (l : List Bool) : Prop := ∃ g off cap, v = .slice (some ⟨g, off, none⟩) l.length cap ∧ ∀ i, i < l.length → w.cell? ⟨g, off + i, none⟩ = some (.bool (l.getD i false))
/-- Lists of truths, as they are read. -/
def ArgB (w : World) (v : Value) (ls : List (List Bool)) : Prop := ∃ ao cap g off, v = .slice ao ls.length cap ∧ (0 < ls.length → ao = some ⟨g, off, none⟩) ∧ ∀ i, i < ls.length → ∃ rv, w.cell? ⟨g, off + i, none⟩ = some rv ∧ RowB w rv (ls.getD i [])

theorem RowB.up {w w1 : World} {v : Value} {l : List Bool} (h : RowB w v l) (hu : Up w w1) : RowB w1 v l := by
  obtain ⟨g, off, cap, e, hx⟩ := h
  exact ⟨g, off, cap, e, fun i hi => hu.cell (hx i hi)⟩

theorem ArgB.up {w w1 : World} {v : Value} {ls : List (List Bool)} (h : ArgB w v ls) (hu : Up w w1) : ArgB w1 v ls := by
  obtain ⟨ao, cap, g, off, e, ha, hx⟩ := h
  exact ⟨ao, cap, g, off, e, ha, fun i hi => by obtain ⟨rv, h1, h2⟩ := hx i hi; exact ⟨rv, hu.cell h1, h2.up hu⟩⟩

set_option maxHeartbeats 4000000 in
set_option maxRecDepth 100000 in
theorem here1_any {w : World} {bx bl t : Nat} {a lb : Int} {lv : Value} {ls : List (List Bool)} (h0 : w.cell? ⟨bx, 1, none⟩ = some (.int .i64 lb)) (h1 : w.cell? ⟨bl, 0, none⟩ = some lv) (hl : ArgB w lv ls) (hls : 0 < ls.length) (hls2 : ls.length ≤ 1000) (ht : t < (ls.getD 0 []).length) (ht2 : (ls.getD 0 []).length ≤ 1000) :
    Calls Tryz.prog 200 #[.agg #[.int .i64 a, .int .i64 (t : Nat)], .pointer (some ⟨bx, 0, none⟩), .pointer (some ⟨bl, 0, none⟩)] w fun r w' => r = .returned (.bool (a == lb && (ls.getD 0 []).getD t false)) ∧ Up w w' := by
  obtain ⟨ao, cap, g, off, rfl, ha, hx⟩ := hl
  obtain rfl := ha hls
  obtain ⟨rv, c0, g2, off2, cap2, rfl, hrow⟩ := hx 0 hls
  have c1 := hrow t ht
  obtain ⟨K, hK⟩ : ∃ K, K = ls.length := ⟨_, rfl⟩
  obtain ⟨M, hM⟩ : ∃ M, M = (ls.getD 0 []).length := ⟨_, rfl⟩
  obtain ⟨bb, hb⟩ : ∃ bb, bb = (ls.getD 0 []).getD t false := ⟨_, rfl⟩
  rw [← hK] at h1 hls hls2
  rw [← hM] at c0 ht ht2
  rw [← hb] at c1 ⊢
  rw [Nat.add_zero] at c0
  have hu0 := (Up.refl w).alloc (.cells #[.int .i64 a, .int .i64 (t : Nat)] 92)
  obtain ⟨s0, s1⟩ := two_cells (heap_alloc_new w (.cells #[.int .i64 a, .int .i64 (t : Nat)] 92))
  have d0 := hu0.cell h0
  have d1 := hu0.cell h1
  have d2 := hu0.cell c0
  have d3 := hu0.cell c1
  have HU := Lib.hid hu0
  obtain ⟨X, hX⟩ : ∃ X, X = w.alloc (.cells #[.int .i64 a, .int .i64 (t : Nat)] 92) := ⟨_, rfl⟩
  rw [← hX] at s0 s1 d0 d1 d2 d3 HU
  have HXX := Lib.hid hX
  clear h0 h1 ha hx hrow c0 c1 hK hM hb hu0 hX
  by_cases e : a = lb
  · have q1 : decide (a = lb) = true := by simpa using e
    have q2 : (a == lb) = true := by simpa using e
    clear e
    go_enter Tryz.func200, Tryz.ntmps200
    go_upto_region 1 with fail
    rw [← HXX.out]
    go_quiet (fail)
    go_wp2_with fail
    go_ret
    exact ⟨ret_bool (by simp [q2]), ⟨HU.out.os, HU.out.tape, HU.out.output, HU.out.size, HU.out.block⟩⟩
  · have q1 : decide (a = lb) = false := by simpa using e
    have q2 : (a == lb) = false := by simpa using e
    clear e
    go_enter Tryz.func200, Tryz.ntmps200
    go_upto_region 1 with fail
    rw [← HXX.out]
    go_quiet (fail)
    go_wp2_with fail
    go_ret
    exact ⟨ret_bool (by simp [q2]), ⟨HU.out.os, HU.out.tape, HU.out.output, HU.out.size, HU.out.block⟩⟩

theorem any_snoc (f : Int × Int → Bool) (l : List (Int × Int)) {j : Nat} (h : j < l.length) (hn : ∀ i, i < j → f (l.getD i (0, 0)) = false) (ht : f (l.getD j (0, 0)) = true) : l.any f = true := by
  rw [List.any_eq_true]
  exact ⟨l.getD j (0, 0), by simp only [List.getD, List.getElem?_eq_getElem h, Option.getD_some]; exact List.getElem_mem h, ht⟩

theorem any_none (f : Int × Int → Bool) (l : List (Int × Int)) (hn : ∀ i, i < l.length → f (l.getD i (0, 0)) = false) : l.any f = false := by
  rw [List.any_eq_false]
  intro x hx
  obtain ⟨i, hi, rfl⟩ := List.getElem_of_mem hx
  have := hn i hi
  simpa [List.getD, hi] using this

set_option maxHeartbeats 4000000 in
set_option maxRecDepth 100000 in
theorem containsF_any {w : World} {v p4 p5 : Value} {l : List (Int × Int)} {f : Int × Int → Bool} (hv : Ls2 w v l) (hl : l.length ≤ 1000000)
    (hc : ∀ W x, Up w W → x ∈ l → Calls Tryz.prog 200 #[.agg #[.int .i64 x.1, .int .i64 x.2], p4, p5] W fun r w' => r = .returned (.bool (f x)) ∧ Up W w') :
    Calls Tryz.prog 199 #[v, .func (.func 200) #[] #[p4, p5]] w fun r w' => r = .returned (.bool (l.any f)) ∧ Up w w' := by
  have HIX : Hid (Calls Tryz.prog 234 #[v, .func (.func 200) #[] #[p4, p5]] w fun r w' => (∃ z : Int, r = .returned (.int .i64 z) ∧ decide (0 ≤ z) = l.any f) ∧ Up w w') := by
    refine Lib.hid ?_
    obtain ⟨ao, cap, g, off, rfl, ha, hx⟩ := hv
    obtain ⟨m, hm⟩ : ∃ m, m = l.length := ⟨_, rfl⟩
    rw [← hm] at ha hl ⊢
    have HA := Lib.hid ha
    have HX := Lib.hid hx
    have HM := Lib.hid hm
    have HC := Lib.hid hc
    clear ha hx hm hc
    go_enter Tryz.func234, Tryz.ntmps234
    go_wp2_with fail
    go_loopw [8] (fun i wr => ∃ j : Nat, j ≤ m ∧ i = .int .i64 (j : Int) ∧ Hid (∀ k, k < j → f (l.getD k (0, 0)) = false) ∧ Up w wr) (fun i _ => m - (intOf i).toNat)
    case atStart => exact ⟨0, Nat.zero_le _, rfl, Lib.hid (fun k hk => by omega), Up.refl _⟩
    case round =>
      obtain ⟨j, hj, rfl, HN, hu⟩ := hrel
      by_cases hlt : j < m
      · obtain rfl := HA.out (by omega)
        have hjl : j < l.length := by rw [← HM.out]; exact hlt
        have hcx := HX.out j hjl
        obtain ⟨x, hxe⟩ : ∃ x, x = l.getD j (0, 0) := ⟨_, rfl⟩
        have hxm : x ∈ l := by rw [hxe]; simp only [List.getD, List.getElem?_eq_getElem hjl, Option.getD_some]; exact List.getElem_mem hjl
        rw [← hxe] at hcx
        have e0 := hu.cell hcx.1
        have e1 := hu.cell hcx.2
        have HCX := Lib.hid (HC.out wr x hu hxm)
        obtain ⟨x1, x2⟩ := x
        obtain ⟨bb, hb⟩ : ∃ bb, bb = f (x1, x2) := ⟨_, rfl⟩
        rw [← hb] at HCX
        simp only at e0 e1 HCX
        have HBB := Lib.hid hb
        have HXE := Lib.hid hxe
        have HU := Lib.hid hu
        clear hcx hxe hxm hb hu
        cases bb
        · have HN2 : Hid (∀ k, k < j + 1 → f (l.getD k (0, 0)) = false) := Lib.hid (fun k hk => by
            rcases Nat.lt_succ_iff_lt_or_eq.1 hk with h1 | rfl
            · exact HN.out k h1
            · rw [← HXE.out]; exact HBB.out.symm)
          go_wp2_with (go_at_call 200; refine HCX.out.mono ?_; rintro r w2 ⟨rfl, hu2⟩)
          go_roundw
          case rel => exact ⟨j + 1, by omega, by go_num, HN2, HU.out.trans hu2⟩
          case measure => simp [intOf]; omega
        · have HR : Hid (l.any f = true) := Lib.hid (any_snoc f l hjl HN.out (by rw [← HXE.out]; exact HBB.out.symm))
          go_wp2_with (go_at_call 200; refine HCX.out.mono ?_; rintro r w2 ⟨rfl, hu2⟩)
          go_ret
          exact ⟨⟨_, rfl, by rw [HR.out]; simp⟩, HU.out.trans hu2⟩
      · obtain rfl : j = m := by omega
        have HR : Hid (l.any f = false) := Lib.hid (any_none f l (fun i hi => HN.out i (by rw [HM.out]; exact hi)))
        go_wp2_with fail
        go_ret
        exact ⟨⟨_, rfl, by rw [HR.out]; decide⟩, hu⟩
  clear hv hl hc
  go_enter Tryz.func199, Tryz.ntmps199
  go_wp2_with (go_at_call 234; refine HIX.out.mono ?_; rintro r y ⟨⟨z, rfl, hz⟩, hu⟩; (have HZ := Lib.hid hz); clear hz)
  go_ret
  exact ⟨ret_bool HZ.out, hu⟩

theorem fill_setB {l : List Bool} {n i : Nat} {v : Bool} (h : i < n) (hl : l.length = i) : (l ++ List.replicate (n - i) false).set i v = (l ++ [v]) ++ List.replicate (n - (i + 1)) false := by
  rw [List.set_append_right _ _ (by omega), hl, Nat.sub_self, show n - i = (n - (i + 1)) + 1 by omega, List.replicate_succ, List.set_cons_zero, List.append_assoc]
  rfl

theorem sysB_box (w : World) (A : Array Value) (t : TypeId) (B : Obj) : ((w.alloc (.cells A t)).alloc B).heap[w.heap.size]? = some (.cells A t (0, 0)) :=
  (Below.heap_alloc (w.alloc (.cells A t)) B _ (by simp)).trans (heap_alloc_new w _)

def bools (l : List Bool) : List Value := l.map Value.bool
theorem bools_set (l : List Bool) (i : Nat) (v : Bool) : bools (l.set i v) = (bools l).set i (.bool v) := by simp [bools]

theorem Tryz.boolInfoF : (Tryz.prog.info? 4).map (fun i => (i.zero, i.size, i.bytes)) = some (some (.bool false), 1, 1) := by kernel_rfl

/-- What here leaves. -/
def HereDone (s : Sy.Lts) (x : Dt.Nd) (ls : List (List Bool)) (w : World) (r : Ending) (w' : World) : Prop :=
  ∃ g, r = .returned (.slice (some ⟨g, 0, none⟩) s.n.toNat s.n.toNat) ∧ w.heap.size ≤ g ∧ Row w' g 4 s.n.toNat (bools (Dt.hereP s x ls)) ∧ Up w w'

theorem hereP_len (s : Sy.Lts) (x : Dt.Nd) (ls : List (List Bool)) : (Dt.hereP s x ls).length = s.n.toNat := by simp [Dt.hereP]

theorem hereP_step (s : Sy.Lts) (x : Dt.Nd) (ls : List (List Bool)) {j : Nat} (hj : j < s.n.toNat) : ((Dt.hereP s x ls).take j ++ List.replicate (s.n.toNat - j) false).set j ((Dt.hereP s x ls).getD j false) = (Dt.hereP s x ls).take (j + 1) ++ List.replicate (s.n.toNat - (j + 1)) false := by
  have hl : j < (Dt.hereP s x ls).length := by rw [hereP_len]; exact hj
  rw [fill_setB hj (by rw [List.length_take]; omega), List.take_succ_eq_append_getElem hl]
  simp [List.getD, hl]

set_option maxHeartbeats 8000000 in
set_option maxRecDepth 100000 in
theorem here_any {w : World} {B : Nat} {s : Sy.Lts} {op lb : Int} {lv : Value} {ls : List (List Bool)} (hg : GraphAt w B s) (hR : Sy.Right s) (ha : ArgB w lv ls) (hk : Dt.arity (op, lb) = (ls.length : Int)) (hls : ∀ i, i < ls.length → (ls.getD i []).length = s.n.toNat) :
    Calls Tryz.prog 160 #[.pointer (some ⟨B, 0, none⟩), .agg #[.int .i64 op, .int .i64 lb], lv] w (HereDone s (op, lb) ls w) := by
  obtain ⟨i0, hi, hz0, hz1, hz2⟩ := info_parts Tryz.boolInfoF
  have har := ha
  obtain ⟨ao, cap, g, off, rfl, haa, hxx⟩ := ha
  obtain ⟨n, hn⟩ : ∃ n, n = s.n.toNat := ⟨_, rfl⟩
  have hsn : s.n = (n : Int) := by have := hR.n0; omega
  have hn1 : n ≤ 1000 := by have := hR.n1; omega
  obtain ⟨y0, hy0⟩ : ∃ y0, y0 = (w.alloc (.cells #[.int .i64 op, .int .i64 lb] 71)).alloc (.cells #[.slice ao ls.length cap] 51) := ⟨_, rfl⟩
  have hu0 : Up w y0 := by rw [hy0]; exact ((Up.refl w).alloc _).alloc _
  have HS : Hid (Calls Tryz.prog 43 #[.pointer (some ⟨B, 0, none⟩)] y0 fun r w' => r = .returned (.int .i64 (n : Nat)) ∧ Up y0 w') := Lib.hid (by have h := states_in (hg.up hu0); rw [hsn] at h; exact h)
  have hb0 : y0.heap[w.heap.size]? = some (.cells #[.int .i64 op, .int .i64 lb] 71 (0, 0)) := by rw [hy0]; exact sysB_box w _ _ _
  have hb1 : y0.heap[w.heap.size + 1]? = some (.cells #[.slice ao ls.length cap] 51 (0, 0)) := by
    have h := heap_alloc_new (w.alloc (.cells #[.int .i64 op, .int .i64 lb] 71)) (.cells #[.slice ao ls.length cap] 51)
    rw [World.size_alloc] at h
    rw [hy0]; exact h
  have HG := Lib.hid hg
  have HRR := Lib.hid hR
  have HAR := Lib.hid har
  obtain ⟨K, hKe⟩ : ∃ K, K = ls.length := ⟨_, rfl⟩
  have HXX : Hid (∀ i, i < K → ao = some ⟨g, off, none⟩ ∧ ∃ gr ro rc, w.cell? ⟨g, off + i, none⟩ = some (.slice (some ⟨gr, ro, none⟩) n rc) ∧ ∀ p, p < n → w.cell? ⟨gr, ro + p, none⟩ = some (.bool ((ls.getD i []).getD p false))) := Lib.hid (fun i hi => by
    rw [hKe] at hi
    obtain ⟨rv, c, gr, ro, rc, e, hrow⟩ := hxx i hi
    rw [hls i hi, ← hn] at e
    exact ⟨haa (by omega), gr, ro, rc, by rw [c, e], fun p hp => hrow p (by rw [hls i hi, ← hn]; exact hp)⟩)
  have hK2 : K ≤ 2 := by
    have h2 : Dt.arity (op, lb) ≤ 2 := by
      unfold Dt.arity
      split <;> (try split) <;> (try split) <;> (try split) <;> (try split) <;> omega
    rw [hk] at h2
    omega
  rw [← hKe] at hb1 hy0 hk ⊢
  have HY0 := Lib.hid hy0
  have HU0 := Lib.hid hu0
  have HB0 := Lib.hid hb0
  have HB1 := Lib.hid hb1
  have HK := Lib.hid hk
  have HLS := Lib.hid hls
  have HN := Lib.hid hn
  unfold HereDone
  rw [← hn]
  obtain ⟨P, hP⟩ : ∃ P, P = Dt.hereP s (op, lb) ls := ⟨_, rfl⟩
  have HPS : Hid (∀ j, j < n → (P.take j ++ List.replicate (n - j) false).set j (P.getD j false) = P.take (j + 1) ++ List.replicate (n - (j + 1)) false) := Lib.hid (fun j hj => by
    rw [hP]
    have h := hereP_step s (op, lb) ls (j := j) (by rw [← HN.out]; exact hj)
    rw [← HN.out] at h
    exact h)
  have HPA : Hid (∀ p, p < n → P.getD p false = if op = 4 then (Sy.steps s p).any fun y => y.1 == lb && (ls.getD 0 []).getD y.2.toNat false else if op = 2 then !(ls.getD 0 []).getD p false else if op = 3 then (ls.getD 0 []).getD p false && (ls.getD 1 []).getD p false else op == 1) := Lib.hid (fun p hp => by
    rw [hP]; exact Dt.here_at s (op, lb) ls (by rw [← HN.out]; exact hp))
  have hPl : P.length = n := by rw [hP, hereP_len, HN.out]
  rw [← hP]
  have HPL := Lib.hid hPl
  have HKE := Lib.hid hKe
  clear hg hR har haa hxx hk hls hn hsn hy0 hu0 hb0 hb1 hKe hP hPl
  go_enter Tryz.func160, Tryz.ntmps160
  go_wp2_with (first
    | (go_at_call 43; rw [← HY0.out]; refine HS.out.mono ?_; rintro r y1 ⟨rfl, hu1⟩)
    | (at_make; refine wpList_make_full _ rfl _ _ 150 rfl 0 4 i0 (.bool false) 1 Tryz.underlying150 hi hz0 hz1 _ _ _ _ n rfl rfl rfl rfl (by rw [hz2]; omega) (by unfold maxLen; omega) (Nat.zero_le _) ?_; intro y2 hown hgrow))
  obtain ⟨hrow, -, -, -⟩ := Row.of hown
  have hrow0 : Row y2 y1.heap.size 4 n (bools (List.replicate n false)) := by
    have e : (madeCells (Value.bool false).cells (n * 1)).toList = bools (List.replicate n false) := by
      rw [Nat.mul_one, bools, List.map_replicate]; exact toList_madeCells_one _ _
    rw [← e]; simpa using hrow
  have hup2 : Up y1 y2 := (Up.refl y1).grown hgrow (by simp)
  have HU1 := Lib.hid hu1
  have HR0 := Lib.hid hrow0
  have HU2 : Hid (Up y1 y2) := Lib.hid hup2
  have hOy : y1.heap.size ≤ y1.heap.size := Nat.le_refl _
  clear hrow hown hgrow hrow0 hup2 hu1
  go_loopw [15] (fun i wr => ∃ j : Nat, i = .int .i64 j ∧ j ≤ n ∧ Up y1 wr ∧ Hid (Row wr y1.heap.size 4 n (bools (P.take j ++ List.replicate (n - j) false)))) (fun i _ => n - (intOf i).toNat)
  case atStart => exact ⟨0, rfl, Nat.zero_le _, HU2.out, by simpa using HR0⟩
  case round =>
    obtain ⟨j, rfl, hj, hu, HR⟩ := hrel
    have huy : Up y0 wr := HU1.out.trans hu
    have huw : Up w wr := HU0.out.trans huy
    obtain ⟨x0, x1⟩ := two_cells ((huy.block _ (lt_of_block' HB0.out)).trans HB0.out)
    have z0 := (one_cell ((huy.block _ (lt_of_block' HB1.out)).trans HB1.out)).1
    by_cases hlt : j < n
    · have hpa := HPA.out j hlt
      obtain ⟨v, hv⟩ : ∃ v, v = P.getD j false := ⟨_, rfl⟩
      have hset := HPS.out j hlt
      rw [← hv] at hpa hset
      have HNX : Hid (∀ W, Row W y1.heap.size 4 n (bools (P.take j ++ List.replicate (n - j) false)) → Row (W.setCell ⟨y1.heap.size, j, none⟩ (.bool v)) y1.heap.size 4 n (bools (P.take (j + 1) ++ List.replicate (n - (j + 1)) false))) := Lib.hid (fun W hW => by
        have h := hW.set j (.bool v)
        rw [← bools_set, hset] at h
        exact h)
      have hfr := HR.out.free j
      obtain ⟨ob, co⟩ : ∃ ob : Bool, wr.cell? ⟨y1.heap.size, j, none⟩ = some (.bool ob) := by
        have hl2 : j < (P.take j ++ List.replicate (n - j) false).length := by simp [HPL.out]; omega
        exact ⟨(P.take j ++ List.replicate (n - j) false)[j], HR.out.cell (by rw [bools, List.getElem?_map, List.getElem?_eq_getElem hl2]; rfl)⟩
      have HPAJ := Lib.hid hpa
      have HUWR := Lib.hid huw
      have HUYR := Lib.hid hu
      clear hpa hv hset huy
      by_cases h1 : op = 1
      · subst h1
        have HV : Hid (v = true) := Lib.hid (by rw [HPAJ.out]; simp)
        rw [HV.out] at HNX
        clear HPAJ HV
        go_wp2_with fail
        go_roundw
        case rel => exact ⟨j + 1, by go_num, by omega, (HUYR.out).setCell hOy _, Lib.hid (HNX.out _ HR.out)⟩
        case measure => simp [intOf]; omega
      · have a1 : decide (op = 1) = false := by simpa using h1
        have a2 : (op == 1) = false := by simpa using h1
        by_cases h2 : op = 2
        · subst h2
          have hK1 : K = 1 := by have h := HK.out; have e : Dt.arity ((2 : Int), lb) = 1 ∨ Dt.arity ((2 : Int), lb) = -1 := (by unfold Dt.arity; simp; by_cases hb : lb = 0 <;> simp [hb]); omega
          obtain ⟨rfl, gr, ro, rc, c0, hrb⟩ := HXX.out 0 (by omega)
          have c1 := hrb j hlt
          rw [Nat.add_zero] at c0
          have d0 := HUWR.out.cell c0
          have d1 := HUWR.out.cell c1
          obtain ⟨bb, hbb⟩ : ∃ bb, bb = (ls.getD 0 []).getD j false := ⟨_, rfl⟩
          rw [← hbb] at d1
          have HV : Hid (v = !bb) := Lib.hid (by rw [HPAJ.out, hbb]; simp)
          rw [HV.out] at HNX
          clear c0 c1 hrb hbb HPAJ HV h1
          go_wp2_with fail
          go_roundw
          case rel => exact ⟨j + 1, by go_num, by omega, (HUYR.out).setCell hOy _, Lib.hid (HNX.out _ HR.out)⟩
          case measure => simp [intOf]; omega
        · have b1 : decide (op = 2) = false := by simpa using h2
          have b2 : (op == 2) = false := by simpa using h2
          by_cases h3 : op = 3
          · subst h3
            have hK1 : K = 2 := by have h := HK.out; have e : Dt.arity ((3 : Int), lb) = 2 ∨ Dt.arity ((3 : Int), lb) = -1 := (by unfold Dt.arity; simp; by_cases hb : lb = 0 <;> simp [hb]); omega
            obtain ⟨rfl, gr, ro, rc, c0, hrb⟩ := HXX.out 0 (by omega)
            obtain ⟨-, gr2, ro2, rc2, c2, hrb2⟩ := HXX.out 1 (by omega)
            rw [Nat.add_zero] at c0
            have d0 := HUWR.out.cell c0
            have d1 := HUWR.out.cell (hrb j hlt)
            have d2 := HUWR.out.cell c2
            have d3 := HUWR.out.cell (hrb2 j hlt)
            obtain ⟨bb, hbb⟩ : ∃ bb, bb = (ls.getD 0 []).getD j false := ⟨_, rfl⟩
            obtain ⟨bc, hbc⟩ : ∃ bc, bc = (ls.getD 1 []).getD j false := ⟨_, rfl⟩
            rw [← hbb] at d1
            rw [← hbc] at d3
            have HV : Hid (v = (bb && bc)) := Lib.hid (by rw [HPAJ.out, hbb, hbc]; simp)
            rw [HV.out] at HNX
            clear c0 c2 hrb hrb2 hbb hbc HPAJ HV h1 h2
            cases bb
            · go_wp2_with fail
              go_roundw
              case rel => exact ⟨j + 1, by go_num, by omega, (HUYR.out).setCell hOy _, Lib.hid (HNX.out _ HR.out)⟩
              case measure => simp [intOf]; omega
            · go_wp2_with fail
              go_roundw
              case rel => exact ⟨j + 1, by go_num, by omega, (HUYR.out).setCell hOy _, Lib.hid (HNX.out _ HR.out)⟩
              case measure => simp [intOf]; omega
          · have c1 : decide (op = 3) = false := by simpa using h3
            have c2 : (op == 3) = false := by simpa using h3
            have h4 : op = 4 := by
              have h := HK.out
              unfold Dt.arity at h
              simp [h1, h2, h3] at h
              by_cases h4 : op = 4
              · exact h4
              · exfalso; rw [if_neg h4] at h; omega
            subst h4
            have hK1 : K = 1 := by
              have h := HK.out
              have e : Dt.arity ((4 : Int), lb) = 1 ∨ Dt.arity ((4 : Int), lb) = -1 := by
                unfold Dt.arity
                simp
                omega
              omega
            have hkl := HKE.out
            obtain ⟨F, hF⟩ : ∃ F : Int × Int → Bool, F = fun y => y.1 == lb && (ls.getD 0 []).getD y.2.toNat false := ⟨_, rfl⟩
            have HV : Hid (v = (Sy.steps s j).any F) := Lib.hid (by rw [HPAJ.out, hF]; simp)
            have HCF : Hid (∀ W v2, Up wr W → Ls2 W v2 (Sy.steps s j) → Calls Tryz.prog 199 #[v2, .func (.func 200) #[] #[.pointer (some ⟨w.heap.size, 0, none⟩), .pointer (some ⟨w.heap.size + 1, 0, none⟩)]] W fun r w' => r = .returned (.bool ((Sy.steps s j).any F)) ∧ Up W w') :=
              Lib.hid (fun W v2 hW hv2 => containsF_any hv2 (steps_len HRR.out j) (fun W' x hW' hx => by
                have hxo := steps_ok HRR.out j x hx
                obtain ⟨xa, xb⟩ := x
                simp only at hxo
                obtain ⟨t, rfl⟩ : ∃ t : Nat, xb = (t : Int) := ⟨xb.toNat, by omega⟩
                have hn2 := HN.out
                have hl0 := HLS.out 0 (by omega)
                have hh := here1_any (a := xa) (t := t) ((hW.trans hW').cell x1) ((hW.trans hW').cell z0) (by rw [hkl]; exact HAR.out.up (HUWR.out.trans (hW.trans hW'))) (by omega) (by omega) (by rw [hl0]; omega) (by rw [hl0]; omega)
                rw [hF]
                simpa using hh))
            have HEA : Hid (Calls Tryz.prog 44 #[.pointer (some ⟨B, 0, none⟩), .int .i64 (j : Nat)] wr (Read2 wr (Sy.steps s j))) := Lib.hid (each_in (HG.out.up HUWR.out) HRR.out (by rw [← HN.out]; exact hlt))
            obtain ⟨vv, hvv⟩ : ∃ vv, vv = (Sy.steps s j).any F := ⟨_, rfl⟩
            rw [← hvv] at HCF HV
            rw [HV.out] at HNX
            clear hF hvv HV HPAJ h1 h2 h3 hkl hK1
            go_wp2_with (first
              | (go_at_call 44; refine HEA.out.mono ?_; rintro r w4 ⟨v4, rfl, hu4, hls4⟩; (have HL4 := Lib.hid hls4); clear hls4)
              | (go_at_call 199; refine (HCF.out w4 v4 hu4 HL4.out).mono ?_; rintro r w5 ⟨rfl, hu5⟩; (have co5 := (hu4.trans hu5).cell co); (have hf5 := ((hu4.trans hu5).free co).trans hfr); (have HU5 := Lib.hid (hu4.trans hu5)); clear hu4 hu5))
            go_roundw
            case rel => exact ⟨j + 1, by go_num, by omega, (HUYR.out.trans HU5.out).setCell hOy _, Lib.hid (HNX.out _ (HU5.out.row HR.out))⟩
            case measure => simp [intOf]; omega
    · obtain rfl : j = n := by omega
      have hrow := HR.out
      rw [Nat.sub_self, List.replicate_zero, List.append_nil, List.take_of_length_le (by rw [HPL.out]; exact Nat.le_refl _)] at hrow
      have HROW := Lib.hid hrow
      have HSZ : Hid (w.heap.size ≤ y1.heap.size) := Lib.hid (Nat.le_trans HU0.out.size HU1.out.size)
      have HUW := Lib.hid huw
      clear hrow HR
      go_wp2_with fail
      go_ret
      exact ⟨_, rfl, HSZ.out, HROW.out, HUW.out⟩

end Go.Proofs.YtkcdkfkgjjpaaaaGreatDoor

namespace Go.Proofs.YtkcdkfkgjjpaaaaGreatDoor
open Go.RowKit Go.Maps
set_option linter.unusedVariables false
set_option linter.unusedSimpArgs false

/-- A list of truths in a block of its own. -/
def RB (w : World) (v : Value) (l : List Bool) : Prop := ∃ g, v = .slice (some ⟨g, 0, none⟩) l.length l.length ∧ Row w g 4 l.length (bools l)

theorem RB.row {w : World} {v : Value} {l : List Bool} (h : RB w v l) : RowB w v l := by
  obtain ⟨g, e, hr⟩ := h
  refine ⟨g, 0, l.length, e, fun i hi => ?_⟩
  rw [Nat.zero_add]
  exact hr.cell (by rw [bools, List.getElem?_map, List.getElem?_eq_getElem hi]; simp [List.getD, hi])

theorem RB.up {w w1 : World} {v : Value} {l : List Bool} (h : RB w v l) (hu : Up w w1) : RB w1 v l := by
  obtain ⟨g, e, hr⟩ := h
  exact ⟨g, e, hu.row hr⟩

theorem RB.grown {w w2 : World} {v sv : Value} {l : List Bool} {b n : Nat} {xs : List Value} {o : Obj} (h : RB w v l) (ho : w.ownsRow b 150 1 sv n xs) (hg : (w.alloc o).grownBy w2 sv.ownBlock) : RB w2 v l := by
  obtain ⟨g, e, hr⟩ := h
  have hlt := hr.lt
  refine ⟨g, e, hr.keep ((hg.block g (by simp; omega) (fun e2 => ?_)).trans (Below.heap_alloc w o g hlt))⟩
  obtain ⟨cur, hc⟩ := owns_type ho e2.symm
  exact row_ne' hr hc (by decide)

/-- Such lists. -/
def RBs (w : World) (vs : List Value) (st : List (List Bool)) : Prop := vs.length = st.length ∧ ∀ i, i < st.length → RB w (vs.getD i undef) (st.getD i [])

theorem RBs.up {w w1 : World} {vs : List Value} {st : List (List Bool)} (h : RBs w vs st) (hu : Up w w1) : RBs w1 vs st := ⟨h.1, fun i hi => (h.2 i hi).up hu⟩

theorem argB_arg {W : World} {g a k cp : Nat} {vs : List Value} {st : List (List Bool)} (hb : RBs W vs st) (hc : ∀ i, i < st.length → W.cell? ⟨g, i, none⟩ = some (vs.getD i undef)) (hm : a + k = st.length) (hk : a + k ≤ cp) :
    ArgB W (.slice (if cp = a then some ⟨g, 0, none⟩ else some ⟨g, a, none⟩) k (cp - a)) (st.drop a) := by
  have hlen : (st.drop a).length = k := by rw [List.length_drop]; omega
  by_cases e : cp = a
  · obtain rfl : k = 0 := by omega
    rw [List.drop_eq_nil_of_le (by omega)]
    exact ⟨_, _, 0, 0, rfl, fun h => by simp at h, fun i hi => by simp at hi⟩
  · rw [if_neg e]
    refine ⟨_, cp - a, g, a, by rw [hlen], fun _ => rfl, fun i hi => ?_⟩
    rw [hlen] at hi
    refine ⟨_, hc (a + i) (by omega), ?_⟩
    have h := (hb.2 (a + i) (by omega)).row
    have e2 : (st.drop a).getD i [] = st.getD (a + i) [] := by simp [List.getD]
    rw [e2]; exact h

theorem argB_none {W : World} {ao : Option Addr} {cap : Nat} : ArgB W (.slice ao 0 cap) [] := ⟨ao, cap, 0, 0, rfl, fun h => by simp at h, fun i hi => by simp at hi⟩

theorem RBs.push {w w2 : World} {vs : List Value} {st : List (List Bool)} {a : Nat} {v : Value} {y : List Bool} (h : ∀ i, i < st.length → RB w2 (vs.getD i undef) (st.getD i [])) (hl : vs.length = st.length) (ha : a ≤ st.length) (hv : RB w2 v y) : RBs w2 (vs.take a ++ [v]) (st.take a ++ [y]) := by
  have e1 : (vs.take a).length = a := by rw [List.length_take]; omega
  have e2 : (st.take a).length = a := by rw [List.length_take]; omega
  refine ⟨by simp [e1, e2], fun i hi => ?_⟩
  rw [List.length_append, e2, List.length_singleton] at hi
  by_cases hia : i < a
  · have h1 := h i (by omega)
    have f1 : (vs.take a ++ [v]).getD i undef = vs.getD i undef := by
      simp only [List.getD]
      rw [List.getElem?_append_left (by omega), List.getElem?_take]
      simp [hia]
    have f2 : (st.take a ++ [y]).getD i [] = st.getD i [] := by
      simp only [List.getD]
      rw [List.getElem?_append_left (by omega), List.getElem?_take]
      simp [hia]
    rw [f1, f2]; exact h1
  · obtain rfl : i = a := by omega
    have f1 : (vs.take i ++ [v]).getD i undef = v := by
      simp only [List.getD]
      rw [List.getElem?_append_right (by omega), e1]; simp
    have f2 : (st.take i ++ [y]).getD i [] = y := by
      simp only [List.getD]
      rw [List.getElem?_append_right (by omega), e2]; simp
    rw [f1, f2]; exact hv

theorem Tryz.boolsInfoF : (Tryz.prog.info? 150).map (fun i => (i.zero, i.size, i.bytes)) = some (some (.slice none 0 0), 1, 24) := by kernel_rfl

theorem slice_one (ao : Option Addr) (n c : Nat) : ∀ u ∈ [Value.slice ao n c], u.oneCell' = true := by
  intro u hu
  simp only [List.mem_singleton] at hu
  subst hu; rfl

set_option maxHeartbeats 1000000 in
theorem holds1_any {w : World} {B gp : Nat} {s : Sy.Lts} {op lb : Int} {lv : Value} {ls : List (List Bool)} (hg : GraphAt w B s) (hp : w.cell? ⟨gp, 0, none⟩ = some (.pointer (some ⟨B, 0, none⟩))) (hR : Sy.Right s) (ha : ArgB w lv ls) (hk : Dt.arity (op, lb) = (ls.length : Int)) (hls : ∀ i, i < ls.length → (ls.getD i []).length = s.n.toNat) :
    Calls Tryz.prog 159 #[.agg #[.int .i64 op, .int .i64 lb], lv, .pointer (some ⟨gp, 0, none⟩)] w (HereDone s (op, lb) ls w) := by
  obtain ⟨wb, hwb⟩ : ∃ wb, wb = w.alloc (.cells #[.int .i64 op, .int .i64 lb] 71) := ⟨_, rfl⟩
  have hub : Up w wb := by rw [hwb]; exact (Up.refl w).alloc _
  obtain ⟨b0, b1⟩ : wb.cell? ⟨w.heap.size, 0, none⟩ = some (.int .i64 op) ∧ wb.cell? ⟨w.heap.size, 1, none⟩ = some (.int .i64 lb) := by rw [hwb]; exact two_cells (heap_alloc_new w _)
  have HH := Lib.hid (here_any (hg.up hub) hR (ha.up hub) hk hls)
  have d0 := hub.cell hp
  have HWB := Lib.hid hwb
  have HUB := Lib.hid hub
  obtain ⟨ao, cap, g, off, rfl, -, -⟩ := ha
  clear hg hp hR hk hls hwb hub
  go_enter Tryz.func159, Tryz.ntmps159
  go_upto_region 1 with fail
  rw [← HWB.out]
  go_wp2_with (go_at_call 160; refine HH.out.mono ?_; rintro r w2 ⟨g2, rfl, hg2, hrow, hu2⟩; (have HROW := Lib.hid hrow); clear hrow)
  go_ret
  exact ⟨g2, rfl, Nat.le_trans HUB.out.size hg2, HROW.out, HUB.out.trans hu2⟩

set_option maxHeartbeats 8000000 in
set_option maxRecDepth 100000 in
theorem work_bools {w : World} {v : Value} {B gp : Nat} {s : Sy.Lts} {l : List Dt.Nd} (h : Ls2 w v l) (hl : l.length ≤ 5000) (hg : GraphAt w B s) (hgp : w.cell? ⟨gp, 0, none⟩ = some (.pointer (some ⟨B, 0, none⟩))) (hR : Sy.Right s) {d : List Bool} (he : Dt.exec (Dt.hereP s) l [] = some [d]) :
    Calls Tryz.prog 158 #[v, .func (.func 159) #[] #[.pointer (some ⟨gp, 0, none⟩)]] w fun r w' => (∃ dv, r = .returned (.tuple #[dv, .bool true]) ∧ RB w' dv d) ∧ Up w w' := by
  obtain ⟨i0, hi, hz0, hz1, hz2⟩ := info_parts Tryz.boolsInfoF
  obtain ⟨ao, cap, g, off, rfl, ha, hx⟩ := h
  obtain ⟨n, hn⟩ : ∃ n, n = l.length := ⟨_, rfl⟩
  rw [← hn] at ha hl ⊢
  have HA := Lib.hid ha
  have HX := Lib.hid hx
  have HN := Lib.hid hn
  have HE := Lib.hid he
  have HH1 : Hid (∀ W op lb lv ls, Up w W → ArgB W lv ls → Dt.arity (op, lb) = (ls.length : Int) → (∀ i, i < ls.length → (ls.getD i []).length = s.n.toNat) → Calls Tryz.prog 159 #[.agg #[.int .i64 op, .int .i64 lb], lv, .pointer (some ⟨gp, 0, none⟩)] W (HereDone s (op, lb) ls W)) := Lib.hid (fun W op lb lv ls hW ha hk hls => holds1_any (hg.up hW) (hW.cell hgp) hR ha hk hls)
  obtain ⟨N, hNs⟩ : ∃ N, N = s.n.toNat := ⟨_, rfl⟩
  have HNS := Lib.hid hNs
  have q0 : decide ((5000 : Int) < (n : Int)) = false := by simp; omega
  clear ha hx hn he hg hgp hR hNs
  go_enter Tryz.func158, Tryz.ntmps158
  go_wp2_with fail
  go_loopw [18, 7] (fun i sv wr => ∃ (j : Nat) (st : List (List Bool)) (vs : List Value), i = .int .i64 j ∧ j ≤ n ∧ st.length ≤ j ∧ Up w wr ∧ wr.ownsRow w.heap.size 150 1 sv st.length vs ∧ Hid (Dt.exec (Dt.hereP s) (l.drop j) st = some [d]) ∧ Hid (∀ i, i < st.length → (st.getD i []).length = s.n.toNat) ∧ Hid (RBs wr vs st)) (fun i _ _ => n - (intOf i).toNat)
  case atStart => exact ⟨0, [], [], rfl, Nat.zero_le _, Nat.zero_le _, Up.refl _, World.ownsRow_nil _ _ _ _, Lib.hid (by rw [List.drop_zero]; exact HE.out), Lib.hid (fun i hi => by simp at hi), Lib.hid ⟨rfl, fun i hi => by simp at hi⟩⟩
  case round =>
    obtain ⟨j, st, vs, rfl, hj, hsl, hu, hown, HX2, HB, HRBS⟩ := hrel
    by_cases hlt : j < n
    · obtain rfl := HA.out (by omega)
      have hjl : j < l.length := by rw [← HN.out]; exact hlt
      have hdrop : l.drop j = l.getD j (0, 0) :: l.drop (j + 1) := by rw [List.drop_eq_getElem_cons hjl]; simp [List.getD, hjl]
      have hcx := HX.out j hjl
      obtain ⟨x, hxe⟩ : ∃ x, x = l.getD j (0, 0) := ⟨_, rfl⟩
      rw [← hxe] at hdrop hcx
      have hex := HX2.out
      rw [hdrop] at hex
      obtain ⟨k, hk1, hk2, hk3, hnext⟩ := exec_step hex
      obtain ⟨x1, x2⟩ := x
      simp only at hcx
      have e0 := hu.cell hcx.1
      have e1 := hu.cell hcx.2
      obtain ⟨m, hm⟩ : ∃ m, m = st.length := ⟨_, rfl⟩
      have HP := fun W => Lib.hid (parts_any x1 x2 W)
      rw [hk1] at HP
      rw [← hm] at hown hk2 hsl hnext
      have p1 : decide ((k : Int) < 0) = false := by simp
      have p2 : decide ((m : Int) < (k : Int)) = false := by simp; omega
      obtain ⟨a, ha⟩ : ∃ a, m = a + k := ⟨m - k, by omega⟩
      subst ha
      have hat : a + k - k = a := by omega
      rw [hat] at hnext
      obtain ⟨y, hy⟩ : ∃ y, y = Dt.hereP s (x1, x2) (st.drop a) := ⟨_, rfl⟩
      rw [← hy] at hnext
      have hk1' := hk1
      have HNX : Hid (Dt.exec (Dt.hereP s) (l.drop (j + 1)) (st.take a ++ [y]) = some [d]) := Lib.hid hnext
      have hyl : y.length = s.n.toNat := by rw [hy, hereP_len]
      have HB2 : Hid (∀ i, i < (st.take a ++ [y]).length → ((st.take a ++ [y]).getD i []).length = s.n.toNat) := Lib.hid (fun i hi => by
        have e2 : (st.take a).length = a := by rw [List.length_take]; omega
        rw [List.length_append, e2, List.length_singleton] at hi
        by_cases hia : i < a
        · have f2 : (st.take a ++ [y]).getD i [] = st.getD i [] := by
            simp only [List.getD]
            rw [List.getElem?_append_left (by omega), List.getElem?_take]
            simp [hia]
          rw [f2]; exact HB.out i (by omega)
        · obtain rfl : i = a := by omega
          have f2 : (st.take i ++ [y]).getD i [] = y := by
            simp only [List.getD]
            rw [List.getElem?_append_right (by omega), e2]; simp
          rw [f2]; exact hyl)
      have hdl : (st.drop a).length = k := by rw [List.length_drop]; omega
      have HC : Hid (∀ v2 W, Up w W → ArgB W v2 (st.drop a) → Calls Tryz.prog 159 #[.agg #[.int .i64 x1, .int .i64 x2], v2, .pointer (some ⟨gp, 0, none⟩)] W fun r w' => ∃ g, r = .returned (.slice (some ⟨g, 0, none⟩) N N) ∧ RB w' (.slice (some ⟨g, 0, none⟩) N N) y ∧ Up W w') := Lib.hid (fun v2 W hW hL => by
        refine (HH1.out W x1 x2 v2 (st.drop a) hW hL (by rw [hdl]; exact hk1') (fun i hi => ?_)).mono ?_
        · rw [hdl] at hi
          have e2 : (st.drop a).getD i [] = st.getD (a + i) [] := by simp [List.getD]
          rw [e2]; exact HB.out (a + i) (by omega)
        · rintro r w' ⟨g9, rfl, -, hrow, hu9⟩
          rw [HNS.out]
          exact ⟨g9, rfl, ⟨g9, by rw [hyl], by rw [hy]; rw [← hereP_len s (x1, x2) (st.drop a)] at hrow; exact hrow⟩, hu9⟩)
      have HLN : Hid ((st.take a ++ [y]).length = a + 1) := Lib.hid (by rw [List.length_append, List.length_take, List.length_singleton]; omega)
      have hbx := heap_alloc_new wr (.cells #[.int .i64 x1, .int .i64 x2] 71)
      have hux := (Up.refl wr).alloc (.cells #[.int .i64 x1, .int .i64 x2] 71)
      have HBX := Lib.hid hbx
      have HUX := Lib.hid hux
      have HUW := Lib.hid hu
      have HM := Lib.hid hm
      have hws : w.heap.size ≤ wr.heap.size := hu.size
      have hal : a ≤ 5000 := by omega
      rcases owns_cases hown with ⟨hsv, hm0, hst⟩ | ⟨g7, cp, hsv, hrow, hmc, hcc, -⟩
      · obtain rfl : a = 0 := by omega
        obtain rfl : k = 0 := by omega
        obtain rfl : st = [] := List.eq_nil_of_length_eq_zero (by omega)
        subst hsv
        rw [List.drop_nil] at HC
        rw [List.take_nil, List.nil_append] at HNX HB2
        obtain rfl : vs = [] := List.eq_nil_of_length_eq_zero (by rw [HRBS.out.1]; rfl)
        clear hown hnext hex hdrop hcx hxe hjl hy hk1 hk1' hat HB HX2 hyl hdl hbx hux hu hm
        go_upto_region 12 with (go_at_call 185; (with_reducible refine (HP _).out.mono ?_); rintro r w2 ⟨rfl, hu2⟩)
        have hbx2 := (hu2.block _ (lt_of_block' HBX.out)).trans HBX.out
        obtain ⟨b0, b1⟩ := two_cells hbx2
        have hU2 : Up wr w2 := HUX.out.trans hu2
        have HNE : Hid ((Value.slice none 0 0).ownBlock ≠ some wr.heap.size) := Lib.hid (fun e => by simp [Value.ownBlock] at e)
        have hS0 := And.intro b0 b1
        refine wp_region_ord 11 [(0, true), (1, true), (2, true), (3, true), (4, true), (5, true), (6, true), (7, true), (8, false), (9, false), (10, false)] (fun w' => w'.cell? ⟨wr.heap.size, 0, none⟩ = some (.int .i64 x1) ∧ w'.cell? ⟨wr.heap.size, 1, none⟩ = some (.int .i64 x2)) (by kernel_rfl) (by kernel_rfl) (fun _ _ _ _ _ h => h) hS0 ?_
        have hU3 : Up wr w2.drew := hU2.drew
        have hS3 : w2.drew.cell? ⟨wr.heap.size, 0, none⟩ = some (.int .i64 x1) ∧ w2.drew.cell? ⟨wr.heap.size, 1, none⟩ = some (.int .i64 x2) := hS0
        generalize w2.drew = W3 at hU3 hS3 ⊢
        iterate 8
          refine WO.still rfl rfl (fun K hK => ?_)
          apply Exists.intro
          refine ⟨?_, hK _ ?_⟩
          · rintro w' ⟨s1, s2⟩
            go_simp
            first | done | rfl | exact ⟨rfl, rfl⟩
          clear hK K
        refine WO.act rfl rfl (fun K hK => ?_)
        go_simp
        refine (HC.out _ W3 (HUW.out.trans hU3) argB_none).mono ?_
        rintro r w5 ⟨gy, rfl, hry, hu5⟩
        have hS5 := And.intro (hu5.cell hS3.1) (hu5.cell hS3.2)
        refine hK _ _ hS5 ?_
        clear hK K
        refine WO.act rfl rfl (fun K hK => ?_)
        go_simp
        have hu6 := (Up.refl w5).alloc (.cells #[.slice (some ⟨gy, 0, none⟩) N N] 150)
        refine hK _ _ ?_ ?_
        · exact ⟨hu6.cell hS5.1, hu6.cell hS5.2⟩
        clear hK K
        refine WO.act rfl rfl (fun K hK => ?_)
        have hU5 : Up wr w5 := hU3.trans hu5
        refine wp_append_own (.tmp 39) (.tmp 46) 51 rfl w.heap.size 150 i0 (.slice none 0 0) 1 24 Tryz.underlying51 hi hz0 hz1 hz2 rfl (by decide) (.slice none 0 0) 0 [] rfl (World.ownsRow_nil _ _ _ _) _ 1 1 [.slice (some ⟨gy, 0, none⟩) N N] rfl rfl (one_new _ _ _) (slice_one _ _ _) (by unfold maxLen; omega) (by omega) (by have := hU5.size; simp only [World.size_alloc]; omega) ?_
        intro v9 x9 hown9 hgrow9 hat9
        have hg9 : (w5.alloc (.cells #[.slice (some ⟨gy, 0, none⟩) N N] 150)).grownBy x9 (Value.slice none 0 0).ownBlock := hgrow9
        refine hK _ _ ⟨grown_cell hg9 (hu6.cell hS5.1) HNE.out, grown_cell hg9 (hu6.cell hS5.2) HNE.out⟩ ?_
        clear hK K
        have HU9 : Hid (Up w x9) := Lib.hid (((HUW.out.trans hU5).alloc _).grown hg9 (fun b hb => by simp [Value.ownBlock] at hb))
        have HO9 : Hid (x9.ownsRow w.heap.size 150 1 v9 ([y]).length [.slice (some ⟨gy, 0, none⟩) N N]) := Lib.hid (by
          exact hown9)
        have HRB9 : Hid (RBs x9 [.slice (some ⟨gy, 0, none⟩) N N] [y]) := Lib.hid ⟨rfl, fun i hi => by
          obtain rfl : i = 0 := by simpa using hi
          exact hry.grown (sv := .slice none 0 0) (World.ownsRow_nil _ 0 _ _) hg9⟩
        clear hown9 hgrow9 hat9 hg9 hry hu6 hu5 hS5 hS3 hS0 b0 b1 hbx2 hu2 hU2 hU3 hU5
        refine WO.last rfl rfl (fun K hK => ?_)
        go_simp
        refine hK _ _ ?_
        clear hK K
        go_wp2_with fail
        go_roundw
        case rel => exact ⟨j + 1, [y], _, by go_num, by omega, by simp, HU9.out, HO9.out, HNX, HB2, HRB9⟩
        case measure => simp [intOf]; omega
      · have HROW : Hid (∀ W, Up wr W → ∀ i, i < st.length → W.cell? ⟨g7, i, none⟩ = some (vs.getD i undef)) := Lib.hid (fun W hW i hi => hW.cell (hrow.cell (by have := HRBS.out.1; simp [List.getD, show i < vs.length by omega])))
        rw [hsv] at hown
        have HOA := Lib.hid (owns_take (a := a) (by omega) hown)
        have hglt := (hown.lt g7 rfl).2
        subst hsv
        clear hrow hown hnext hex hdrop hcx hxe hjl hy hk1 hk1' hat HB HX2 hyl hdl hbx hux hu hm
        go_upto_region 12 with (go_at_call 185; (with_reducible refine (HP _).out.mono ?_); rintro r w2 ⟨rfl, hu2⟩)
        have hbx2 := (hu2.block _ (lt_of_block' HBX.out)).trans HBX.out
        obtain ⟨b0, b1⟩ := two_cells hbx2
        have hU2 : Up wr w2 := HUX.out.trans hu2
        have HNE : Hid ((Value.slice (some ⟨g7, 0, none⟩) a cp).ownBlock ≠ some wr.heap.size) := Lib.hid (fun e => by
          simp only [Value.ownBlock, Option.some.injEq] at e
          omega)
        have hS0 := And.intro b0 b1
        have hacp : a ≤ cp := by omega
        have haak : (a : Int) ≤ (a : Int) + (k : Int) := by omega
        have hakc : a + k ≤ cp := by omega
        refine wp_region_ord 11 [(0, true), (1, true), (2, true), (3, true), (4, true), (5, true), (6, true), (7, true), (8, false), (9, false), (10, false)] (fun w' => w'.cell? ⟨wr.heap.size, 0, none⟩ = some (.int .i64 x1) ∧ w'.cell? ⟨wr.heap.size, 1, none⟩ = some (.int .i64 x2)) (by kernel_rfl) (by kernel_rfl) (fun _ _ _ _ _ h => h) hS0 ?_
        have hU3 : Up wr w2.drew := hU2.drew
        have hS3 : w2.drew.cell? ⟨wr.heap.size, 0, none⟩ = some (.int .i64 x1) ∧ w2.drew.cell? ⟨wr.heap.size, 1, none⟩ = some (.int .i64 x2) := hS0
        generalize w2.drew = W3 at hU3 hS3 ⊢
        iterate 8
          refine WO.still rfl rfl (fun K hK => ?_)
          apply Exists.intro
          refine ⟨?_, hK _ ?_⟩
          · rintro w' ⟨s1, s2⟩
            go_simp
            first | done | rfl | exact ⟨rfl, rfl⟩ | rw [if_pos hacp] | rw [if_pos haak] | rw [if_pos hakc]
          clear hK K
        refine WO.act rfl rfl (fun K hK => ?_)
        go_simp
        refine (HC.out _ W3 (HUW.out.trans hU3) (argB_arg (HRBS.out.up hU3) (HROW.out W3 hU3) HM.out hakc)).mono ?_
        rintro r w5 ⟨gy, rfl, hry, hu5⟩
        have hS5 := And.intro (hu5.cell hS3.1) (hu5.cell hS3.2)
        refine hK _ _ hS5 ?_
        clear hK K
        refine WO.act rfl rfl (fun K hK => ?_)
        go_simp
        have hu6 := (Up.refl w5).alloc (.cells #[.slice (some ⟨gy, 0, none⟩) N N] 150)
        refine hK _ _ ?_ ?_
        · exact ⟨hu6.cell hS5.1, hu6.cell hS5.2⟩
        clear hK K
        refine WO.act rfl rfl (fun K hK => ?_)
        have hU5 : Up wr w5 := hU3.trans hu5
        refine wp_append_own (.tmp 39) (.tmp 46) 51 rfl w.heap.size 150 i0 (.slice none 0 0) 1 24 Tryz.underlying51 hi hz0 hz1 hz2 rfl (by decide) (.slice (some ⟨g7, 0, none⟩) a cp) a _ rfl ((hU5.owns HOA.out).alloc _) _ 1 1 [.slice (some ⟨gy, 0, none⟩) N N] rfl rfl (one_new _ _ _) (slice_one _ _ _) (by unfold maxLen; omega) (by omega) (by have := hU5.size; simp only [World.size_alloc]; omega) ?_
        intro v9 x9 hown9 hgrow9 hat9
        have hg9 : (w5.alloc (.cells #[.slice (some ⟨gy, 0, none⟩) N N] 150)).grownBy x9 (Value.slice (some ⟨g7, 0, none⟩) a cp).ownBlock := hgrow9
        refine hK _ _ ⟨grown_cell hg9 (hu6.cell hS5.1) HNE.out, grown_cell hg9 (hu6.cell hS5.2) HNE.out⟩ ?_
        clear hK K
        have hsz9 : w.heap.size ≤ g7 := by
          have := (HOA.out.lt g7 rfl).1
          exact this
        have HU9 : Hid (Up w x9) := Lib.hid (((HUW.out.trans hU5).alloc _).grown hg9 (fun b hb => by
          simp only [Value.ownBlock, Option.some.injEq] at hb
          rw [← hb]; exact hsz9))
        have HO9 : Hid (x9.ownsRow w.heap.size 150 1 v9 (st.take a ++ [y]).length (vs.take a ++ [.slice (some ⟨gy, 0, none⟩) N N])) := Lib.hid (by
          rw [HLN.out]
          rw [Nat.mul_one] at hown9
          exact hown9)
        have HRB9 : Hid (RBs x9 (vs.take a ++ [.slice (some ⟨gy, 0, none⟩) N N]) (st.take a ++ [y])) := Lib.hid (by
          have hOw := hU5.owns HOA.out
          exact RBs.push (w := x9) (fun i hi => ((HRBS.out.2 i hi).up hU5).grown hOw hg9) HRBS.out.1 (by have := HM.out; omega) (hry.grown hOw hg9))
        clear hown9 hgrow9 hat9 hg9 hry hu6 hu5 hS5 hS3 hS0 b0 b1 hbx2 hu2 hU2 hU3 hU5
        refine WO.last rfl rfl (fun K hK => ?_)
        go_simp
        refine hK _ _ ?_
        clear hK K
        go_wp2_with fail
        go_roundw
        case rel => exact ⟨j + 1, st.take a ++ [y], _, by go_num, by omega, by rw [HLN.out]; omega, HU9.out, HO9.out, HNX, HB2, HRB9⟩
        case measure => simp [intOf]; omega
    · obtain rfl : j = n := by omega
      have hex := HX2.out
      rw [List.drop_eq_nil_of_le (by rw [HN.out]; exact Nat.le_refl _), Dt.exec, Option.some.injEq] at hex
      subst hex
      rcases owns_cases hown with ⟨_, h0, _⟩ | ⟨g7, cp, hsv, hrow, hmc, hcc, -⟩
      · simp at h0
      · obtain ⟨g8, hv8, hr8⟩ := HRBS.out.2 0 (by simp)
        have c0 := hrow.cell (i := 0) (u := vs.getD 0 undef) (by have h := HRBS.out.1; simp at h; simp [List.getD, show 0 < vs.length by omega])
        rw [hv8] at c0
        subst hsv
        have HU := Lib.hid hu
        have HD := Lib.hid hr8
        simp only [List.getD_cons_zero] at c0 HD
        clear hrow hown HX2 HB hu hv8 hr8
        go_wp2_with fail
        go_ret2
        exact ⟨⟨_, rfl, g8, rfl, HD.out⟩, HU.out⟩

set_option maxHeartbeats 1000000 in
theorem valid_any {w : World} {v : Value} {l : List Dt.Nd} (h : Ls2 w v l) (hl : l.length ≤ 5000) {d : Int} (he : Dt.exec Dt.deep l [] = some [d]) :
    Calls Tryz.prog 157 #[v] w fun r w' => r = .returned (.bool true) ∧ Up w w' := by
  have HW := Lib.hid (depth_any h hl he)
  clear h hl he
  go_enter Tryz.func157, Tryz.ntmps157
  go_wp2_with (go_at_call 98; refine HW.out.mono ?_; rintro r w1 ⟨rfl, hu1⟩)
  go_ret
  exact ⟨rfl, hu1⟩

/-- What a formula is worth to At: as deep as this, holds at these. -/
structure Worth (s : Sy.Lts) (l : List Dt.Nd) (d : List Bool) : Prop where
  len : l.length ≤ 5000
  deep : ∃ k : Int, Dt.exec Dt.deep l [] = some [k]
  here : Dt.exec (Dt.hereP s) l [] = some [d]

set_option maxHeartbeats 4000000 in
set_option maxRecDepth 100000 in
theorem holds_any {s : Sy.Lts} {ao : Option Addr} {cap : Nat} {v : Value} {l : List Dt.Nd} {d : List Bool} {a : Addr} {w : World} (hr : Sy.right s = true) (hs : Ls3 w (.slice ao s.es.length cap) s.es) (hE : w.cell? ⟨2, 0, none⟩ = some (.iface 354 (.pointer (some a)))) (hml : s.es.length ≤ maxLen) (hv : Ls2 w v l) (hw : Worth s l d) :
    Calls Tryz.prog 104 #[.agg #[.int .i64 s.n, .int .i64 s.m, .int .i64 s.start, .slice ao s.es.length cap], v] w fun r w' => (∃ dv, r = .returned (.tuple #[dv, .nilIface]) ∧ RB w' dv d) ∧ Up w w' := by
  obtain ⟨k, hk⟩ := hw.deep
  have hR := (Sy.right_iff s).1 hr
  have HN := Lib.hid (fun W (hW : Up w W) => new_for hr (hs.up hW) (hW.cell hE) hml)
  have HV := Lib.hid (fun W (hW : Up w W) => valid_any (hv.up hW) hw.len hk)
  have HWK := Lib.hid (fun W (hW : Up w W) B gp (hg : GraphAt W B s) (hgp : W.cell? ⟨gp, 0, none⟩ = some (.pointer (some ⟨B, 0, none⟩))) => work_bools (hv.up hW) hw.len hg hgp hR hw.here)
  obtain ⟨L, hL⟩ : ∃ L, L = s.es.length := ⟨_, rfl⟩
  rw [← hL] at HN ⊢
  have HU0 : Hid (∀ A, Up w (w.alloc A)) := Lib.hid (fun A => (Up.refl w).alloc A)
  clear hr hs hE hml hw hk hR hL
  obtain ⟨vo, vn, vc, hve⟩ : ∃ vo vn vc, v = .slice vo vn vc := by
    obtain ⟨x1, x2, _, _, e, _⟩ := hv
    exact ⟨_, _, _, e⟩
  subst hve
  clear hv
  go_enter Tryz.func104, Tryz.ntmps104
  go_wp2_with (first
    | (go_at_call 13; refine (HN.out _ (HU0.out _)).mono ?_; rintro r w2 ⟨hu2, B, rfl, hgr⟩; (have hx2 := (one_cell (heap_alloc_new w2 (.cells #[.pointer (some ⟨B, 0, none⟩)] 29))).1); (have HG2 := Lib.hid (hgr.up ((Up.refl w2).alloc (.cells #[.pointer (some ⟨B, 0, none⟩)] 29)))); (have HU2 := Lib.hid (((HU0.out _).trans hu2).alloc (.cells #[.pointer (some ⟨B, 0, none⟩)] 29))); clear hu2 hgr)
    | (go_at_call 157; refine (HV.out _ HU2.out).mono ?_; rintro r w3 ⟨rfl, hu3⟩; (have HU3 := Lib.hid hu3); (have hx3 := hu3.cell hx2); clear hu3)
    | (go_at_call 158; refine (HWK.out _ (HU2.out.trans HU3.out) B _ (HG2.out.up HU3.out) hx3).mono ?_; rintro r w4 ⟨⟨dv, rfl, hd⟩, hu4⟩; (have HD := Lib.hid hd); clear hd))
  go_ret2
  exact ⟨⟨dv, rfl, HD.out⟩, (HU2.out.trans HU3.out).trans hu4⟩

set_option maxHeartbeats 4000000 in
set_option maxRecDepth 100000 in
theorem at_in {s : Sy.Lts} {ao : Option Addr} {cap p : Nat} {v : Value} {l : List Dt.Nd} {d : List Bool} {a : Addr} {w : World} (hr : Sy.right s = true) (hs : Ls3 w (.slice ao s.es.length cap) s.es) (hE : w.cell? ⟨2, 0, none⟩ = some (.iface 354 (.pointer (some a)))) (hml : s.es.length ≤ maxLen) (hv : Ls2 w v l) (hw : Worth s l d) (hp : p < d.length) (hdl : d.length ≤ 1000) :
    Calls Tryz.prog 30 #[.agg #[.int .i64 s.n, .int .i64 s.m, .int .i64 s.start, .slice ao s.es.length cap], v, .int .i64 (p : Nat)] w fun r w' => r = .returned (.tuple #[.bool (d.getD p false), .nilIface]) ∧ Up w w' := by
  have HH := Lib.hid (fun W (hW : Up w W) => holds_any hr (hs.up hW) (hW.cell hE) hml (hv.up hW) hw)
  obtain ⟨L, hL⟩ : ∃ L, L = s.es.length := ⟨_, rfl⟩
  rw [← hL] at HH ⊢
  have HU0 : Hid (∀ A, Up w (w.alloc A)) := Lib.hid (fun A => (Up.refl w).alloc A)
  obtain ⟨vo, vn, vc, hve⟩ : ∃ vo vn vc, v = .slice vo vn vc := by
    obtain ⟨x1, x2, _, _, e, _⟩ := hv
    exact ⟨_, _, _, e⟩
  subst hve
  obtain ⟨bb, hbb⟩ : ∃ bb, bb = d.getD p false := ⟨_, rfl⟩
  obtain ⟨K, hK⟩ : ∃ K, K = d.length := ⟨_, rfl⟩
  have HB := Lib.hid hbb
  have HKK := Lib.hid hK
  rw [← hbb]
  rw [← hK] at hp hdl
  clear hr hs hE hml hw hL hv hbb hK
  go_enter Tryz.func30, Tryz.ntmps30
  go_wp2_with (go_at_call 104; refine (HH.out _ (HU0.out _)).mono ?_; rintro r w2 ⟨⟨dv, rfl, g, rfl, hrow⟩, hu2⟩; (have c0 := hrow.cell (i := p) (u := .bool (d.getD p false)) (by have h := HKK.out; rw [bools, List.getElem?_map, List.getElem?_eq_getElem (show p < d.length by omega)]; simp [List.getD, show p < d.length by omega])); (rw [← HB.out] at c0); (rw [← HKK.out]); (have HU2 := Lib.hid ((HU0.out _).trans hu2)); clear hrow hu2)
  go_ret2
  exact ⟨rfl, HU2.out⟩

end Go.Proofs.YtkcdkfkgjjpaaaaGreatDoor
