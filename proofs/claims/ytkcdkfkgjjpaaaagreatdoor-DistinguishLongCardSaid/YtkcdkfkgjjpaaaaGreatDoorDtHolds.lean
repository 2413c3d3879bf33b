/- The plain side of formulas worked off by a stack: how deep they stand and where they hold; the formula of two states is as deep as their rank, holds at the first and not at the second. No function of the program is named. The plain side of a ladder of n steps beside one with a step less: its ranks, and the formula of the two first states. No function of the program is named. -/
import Derived.Test.YtkcdkfkgjjpaaaaGreatDoorDtPlain

namespace Go.Proofs.YtkcdkfkgjjpaaaaGreatDoor.Dt
open Go.Proofs.YtkcdkfkgjjpaaaaGreatDoor.Sy Go.Proofs.YtkcdkfkgjjpaaaaGreatDoor.Rd
set_option linter.unusedVariables false
set_option linter.unusedSimpArgs false

/-- How many parts a node has, below 0: it is none. -/
def arity (x : Nd) : Int := if x.1 = 3 then (if x.2 = 0 then 2 else -1) else if x.1 = 2 then (if x.2 = 0 then 1 else -1) else if x.1 = 1 then (if x.2 = 0 then 0 else -1)
  else if x.1 = 4 then (if 0 ≤ x.2 ∧ x.2 < 201 then 1 else -1) else -1

/-- A formula worked off by a stack whose top stands last. -/
def exec {β : Type} (f : Nd → List β → β) : List Nd → List β → Option (List β)
  | [], st => some st
  | x :: r, st => if arity x < 0 ∨ (st.length : Int) < arity x then none
    else exec f r (st.take (st.length - (arity x).toNat) ++ [f x (st.drop (st.length - (arity x).toNat))])

/-- A list of nodes that puts one value. -/
def Ev {β : Type} (f : Nd → List β → β) (l : List Nd) (v : β) : Prop := ∀ st r, exec f (l ++ r) st = exec f r (st ++ [v])

theorem Ev.run {β : Type} {f : Nd → List β → β} {l : List Nd} {v : β} (h : Ev f l v) : exec f l [] = some [v] := by
  have := h [] []
  simpa [exec] using this

theorem ev_nil {β : Type} (f : Nd → List β → β) : Ev f [((1 : Int), (0 : Int))] (f (1, 0) []) := fun st r => by
  show exec f ((1, 0) :: r) st = _
  have ha : arity ((1 : Int), (0 : Int)) = 0 := by decide
  rw [exec, ha, if_neg (by simp)]
  simp

theorem Ev.one {β : Type} {f : Nd → List β → β} {l : List Nd} {v : β} (h : Ev f l v) {x : Nd} (hx : arity x = 1) : Ev f (l ++ [x]) (f x [v]) := fun st r => by
  rw [List.append_assoc, h, List.singleton_append, exec, hx, if_neg (by simp; omega)]
  simp

theorem Ev.two {β : Type} {f : Nd → List β → β} {l m : List Nd} {v w : β} (h : Ev f l v) (k : Ev f m w) {x : Nd} (hx : arity x = 2) : Ev f (l ++ m ++ [x]) (f x [v, w]) := fun st r => by
  rw [List.append_assoc, List.append_assoc, h, k, List.singleton_append, exec, hx, if_neg (by simp; omega)]
  simp

/-! ### Depth -/

/-- A node's depth, by its parts'. -/
def deep (x : Nd) (l : List Int) : Int := l.foldl max 0 + (if x.1 = 4 then 1 else 0)

theorem conj_ev {β : Type} {f : Nd → List β → β} (P : List (List Nd) → β → Prop) (h0 : P [] (f (1, 0) [])) (h1 : ∀ g v, Ev f g v → P [g] v)
    (h2 : ∀ l v g w, l ≠ [] → P l v → Ev f g w → P (l ++ [g]) (f (3, 0) [v, w])) : ∀ l : List (List Nd), (∀ g ∈ l, ∃ v, Ev f g v) → ∃ v, Ev f (conj l) v ∧ P l v
  | [], _ => ⟨_, ev_nil f, h0⟩
  | g :: r, h => by
    revert h
    refine snoc_ind (p := fun r => (∀ k ∈ g :: r, ∃ v, Ev f k v) → ∃ v, Ev f (conj (g :: r)) v ∧ P (g :: r) v) (fun h => ?_) (fun r k ih h => ?_) r
    · obtain ⟨v, hv⟩ := h g (by simp)
      exact ⟨v, hv, h1 g v hv⟩
    · obtain ⟨v, hv, hp⟩ := ih (fun x hx => h x (by rcases List.mem_cons.1 hx with e | e; exact e ▸ List.mem_cons_self; exact List.mem_cons_of_mem _ (List.mem_append_left _ e)))
      obtain ⟨w, hw⟩ := h k (by simp)
      rw [conj_snoc]
      exact ⟨_, hv.two hw (by decide), h2 (g :: r) v k w (by simp) hp hw⟩

theorem Ev.same {β : Type} {f : Nd → List β → β} {l : List Nd} {v w : β} (h : Ev f l v) (k : Ev f l w) : v = w := by
  have := h.run.symm.trans k.run
  simpa using this

/-- A list of formulas with their depths: all of them are as deep as the deepest one. -/
theorem conj_deep (l : List (List Nd)) (d : List Nd → Int) (h : ∀ g ∈ l, Ev deep g (d g) ∧ 0 ≤ d g) : ∃ v, Ev deep (conj l) v ∧ 0 ≤ v ∧ (∀ g ∈ l, d g ≤ v) ∧ (v = 0 ∨ ∃ g ∈ l, v = d g) := by
  obtain ⟨v, hv, hp⟩ := conj_ev (f := deep) (fun m v => (∀ g ∈ m, g ∈ l) → 0 ≤ v ∧ (∀ g ∈ m, d g ≤ v) ∧ (v = 0 ∨ ∃ g ∈ m, v = d g))
    (fun _ => ⟨by simp [deep], fun g hg => by simp at hg, .inl (by simp [deep])⟩)
    (fun g v hv hm => by
      have hg := h g (hm g (by simp))
      have e := hv.same hg.1
      subst e
      exact ⟨hg.2, fun k hk => by rw [List.mem_singleton] at hk; rw [hk]; exact Int.le_refl _, .inr ⟨g, by simp, rfl⟩⟩)
    (fun m v g w _ hp hw hm => by
      have hg := h g (hm g (by simp))
      have e := hw.same hg.1
      obtain ⟨h1, h2, h3⟩ := hp (fun k hk => hm k (List.mem_append_left _ hk))
      have hd : deep (3, 0) [v, w] = max (max 0 v) w := by simp [deep]
      rw [hd]
      refine ⟨by omega, fun k hk => ?_, ?_⟩
      · rcases List.mem_append.1 hk with hk | hk
        · have := h2 k hk; omega
        · rw [List.mem_singleton] at hk; rw [hk]; omega
      · by_cases hvw : v ≤ w
        · exact .inr ⟨g, by simp, by omega⟩
        · rcases h3 with h3 | ⟨k, hk, h3⟩
          · omega
          · exact .inr ⟨k, List.mem_append_left _ hk, by omega⟩)
    l (fun g hg => ⟨_, (h g hg).1⟩)
  exact ⟨v, hv, hp (fun g hg => hg)⟩

/-- Parted in a round: the rank is no greater. -/
theorem rank_le {s : Lts} {p q j : Nat} (hj : j ≤ last s) (h : (R s j).getD p 0 ≠ (R s j).getD q 0) : 0 ≤ rank s p q ∧ rank s p q ≤ j := by
  rcases rank_cases s p q with ⟨_, hall⟩ | ⟨k, hk, hkl, hne, hall⟩
  · exact absurd (hall j (by omega)) h
  · refine ⟨by omega, ?_⟩
    rcases Nat.lt_or_ge j k with hjk | hjk
    · exact absurd (hall j hjk) h
    · omega

/-- What is parted stays parted. -/
theorem stay_parted {s : Lts} {p q : Nat} (hp : p < s.n.toNat) (hq : q < s.n.toNat) {i j : Nat} (hij : i ≤ j) (h : (R s i).getD p 0 ≠ (R s i).getD q 0) : (R s j).getD p 0 ≠ (R s j).getD q 0 := by
  induction hij with
  | refl => exact h
  | step _ ih => exact fun e => ih ((next_eq_iff s _ (by rw [R_len]; exact hp) (by rw [R_len]; exact hq)).1 e).1

/-- No rank: together in the last round. -/
theorem rank_last {s : Lts} {p q : Nat} (hp : p < s.n.toNat) (hq : q < s.n.toNat) : rank s p q < 0 ↔ (R s (last s)).getD p 0 = (R s (last s)).getD q 0 := by
  rcases rank_cases s p q with ⟨e, hall⟩ | ⟨k, hk, hkl, hne, _⟩
  · exact ⟨fun _ => hall (last s) (by omega), fun _ => by omega⟩
  · exact ⟨fun h => by omega, fun h => absurd h (stay_parted hp hq (by omega) hne)⟩

/-- A step that tells is met in no earlier round: the greatest rank of what meets it is one less than the states' own. -/
theorem telling_rank {s : Lts} (hR : Right s) {p q : Nat} (hp : p < s.n.toNat) (hq : q < s.n.toNat) {x : Int × Int} (h0 : 0 ≤ rank s p q) (ht : telling s p q = some x) {j : Nat} (hj : ∀ t ∈ meetsL s q x.1, rank s x.2.toNat t ≤ j) : rank s p q ≤ j + 1 := by
  obtain ⟨hx, hall⟩ := telling_spec ht
  rcases rank_cases s p q with ⟨e, _⟩ | ⟨k, hk, hkl, hne, hsame⟩
  · omega
  · apply Classical.byContradiction
    intro hbig
    have hjk : j + 1 < k := by omega
    have e := hsame (j + 1) hjk
    have hm := ((next_eq_iff s (R s j) (by rw [R_len]; exact hp) (by rw [R_len]; exact hq)).1 e).2.1
    simp only [meets, List.all_eq_true, List.any_eq_true, Bool.and_eq_true, beq_iff_eq] at hm
    obtain ⟨y, hy, hy1, hy2⟩ := hm x hx
    have hmem : y.2.toNat ∈ meetsL s q x.1 := by
      simp only [meetsL, List.mem_map, List.mem_filter, beq_iff_eq]
      exact ⟨y, ⟨hy, hy1⟩, rfl⟩
    have ha := hall _ hmem
    have hb := hj _ hmem
    rcases rank_cases s x.2.toNat y.2.toNat with ⟨e', _⟩ | ⟨i, hi, hil, hine, _⟩
    · omega
    · exact stay_parted (step_lt hR hx) (step_lt hR hy) (by omega) hine hy2.symm

open Classical in
/-- The formula of two states is as deep as their rank. -/
theorem F_deep {s : Lts} (hR : Right s) (hm : s.m ≤ 201) : ∀ p q, p < s.n.toNat → q < s.n.toNat → 0 ≤ rank s p q → Ev deep (F s p q) (rank s p q) := by
  refine F_ind hR _ (fun p q x hp hq h0 ht hall => ?_) (fun p q hp hq h0 ht h => ?_)
  · obtain ⟨hx, hsp⟩ := telling_spec ht
    have hok := hR.ok _ ((mem_steps s p x).1 hx)
    simp only at hok
    rw [F_some hR hp hq h0 ht]
    have hex : ∀ g ∈ Rd.seen ((meetsL s q x.1).map fun t => F s x.2.toNat t), ∃ t ∈ meetsL s q x.1, g = F s x.2.toNat t := fun g hg => by
      rw [mem_seen, List.mem_map] at hg
      obtain ⟨t, ht', rfl⟩ := hg
      exact ⟨t, ht', rfl⟩
    have hd : ∀ g ∈ Rd.seen ((meetsL s q x.1).map fun t => F s x.2.toNat t), ∃ v, Ev deep g v := fun g hg => by
      obtain ⟨t, ht', rfl⟩ := hex g hg
      exact ⟨_, hall t ht'⟩
    obtain ⟨v, hv, hv0, hle, hor⟩ := conj_deep (Rd.seen ((meetsL s q x.1).map fun t => F s x.2.toNat t))
      (fun g => if h : ∃ v, Ev deep g v then h.choose else 0) (fun g hg => by
        have hx := hd g hg
        simp only [dif_pos hx]
        refine ⟨hx.choose_spec, ?_⟩
        obtain ⟨t, ht', e⟩ := hex g hg
        have h1 := hall t ht'
        rw [← e] at h1
        rw [hx.choose_spec.same h1]
        exact (hsp t ht').1)
    have hval : ∀ t ∈ meetsL s q x.1, (if h : ∃ v, Ev deep (F s x.2.toNat t) v then h.choose else 0) = rank s x.2.toNat t := fun t ht' => by
      have hx : ∃ v, Ev deep (F s x.2.toNat t) v := ⟨_, hall t ht'⟩
      rw [dif_pos hx]
      exact hx.choose_spec.same (hall t ht')
    have har : arity ((4 : Int), x.1) = 1 := by
      unfold arity
      simp
      omega
    have hone := hv.one har
    have hdp : deep (4, x.1) [v] = v + 1 := by simp [deep]; omega
    rw [hdp] at hone
    have hup : ∀ t ∈ meetsL s q x.1, rank s x.2.toNat t ≤ v := fun t ht' => by
      have := hle (F s x.2.toNat t) (by rw [mem_seen, List.mem_map]; exact ⟨t, ht', rfl⟩)
      rw [hval t ht'] at this; exact this
    have h1 := telling_rank hR hp hq h0 ht (j := v.toNat) (fun t ht' => by have := hup t ht'; omega)
    have h00 := rank_ne_zero s p q
    have h2 : v + 1 ≤ rank s p q := by
      rcases hor with e | ⟨g, hg, e⟩
      · omega
      · obtain ⟨t, ht', rfl⟩ := hex g hg
        simp only [hval t ht'] at e
        have := (hsp t ht').2
        omega
    have : rank s p q = v + 1 := by omega
    rw [this]; exact hone
  · rw [F_none hR hp hq h0 ht]
    have h1 := h.one (x := ((2 : Int), (0 : Int))) (by decide)
    rw [rank_comm s q p] at h1
    have : deep (2, 0) [rank s p q] = rank s p q := by simp [deep]; omega
    rw [this] at h1; exact h1

/-! ### Where a formula holds -/

/-- A node, at each state, by its parts. -/
def hereP (s : Lts) (x : Nd) (l : List (List Bool)) : List Bool := (List.range s.n.toNat).map fun p =>
  if x.1 = 4 then (steps s p).any fun y => y.1 == x.2 && (l.getD 0 []).getD y.2.toNat false
  else if x.1 = 2 then !(l.getD 0 []).getD p false
  else if x.1 = 3 then (l.getD 0 []).getD p false && (l.getD 1 []).getD p false
  else x.1 == 1

theorem here_at (s : Lts) (x : Nd) (l : List (List Bool)) {p : Nat} (hp : p < s.n.toNat) : (hereP s x l).getD p false =
    (if x.1 = 4 then (steps s p).any fun y => y.1 == x.2 && (l.getD 0 []).getD y.2.toNat false
  else if x.1 = 2 then !(l.getD 0 []).getD p false
  else if x.1 = 3 then (l.getD 0 []).getD p false && (l.getD 1 []).getD p false
  else x.1 == 1) := by
  simp [hereP, List.getD, hp]

theorem conj_holds (s : Lts) (l : List (List Nd)) (h : ∀ g ∈ l, ∃ v, Ev (hereP s) g v) : ∃ v, Ev (hereP s) (conj l) v ∧
    ∀ p, p < s.n.toNat → (v.getD p false = true ↔ ∀ g ∈ l, ∀ w, Ev (hereP s) g w → w.getD p false = true) := by
  refine conj_ev (f := hereP s) (fun m v => ∀ p, p < s.n.toNat → (v.getD p false = true ↔ ∀ g ∈ m, ∀ w, Ev (hereP s) g w → w.getD p false = true))
    (fun p hp => ?_) (fun g v hv p hp => ?_) (fun m v g w _ hp hw p hpp => ?_) l h
  · rw [here_at s _ _ hp]; simp
  · simp only [List.mem_singleton, forall_eq]
    exact ⟨fun h w hw => by rw [← hv.same hw]; exact h, fun h => h v hv⟩
  · rw [here_at s _ _ hpp]
    have h34 : ¬ ((3 : Int) = 4) := by decide
    have h32 : ¬ ((3 : Int) = 2) := by decide
    simp only [h34, h32, if_false, if_true, Bool.and_eq_true, List.mem_append, List.mem_singleton]
    show v.getD p false = true ∧ w.getD p false = true ↔ _
    rw [hp p hpp]
    constructor
    · rintro ⟨h1, h2⟩ k (hk | rfl) u hu
      · exact h1 k hk u hu
      · rw [← hw.same hu]; exact h2
    · exact fun h1 => ⟨fun k hk u hu => h1 k (.inl hk) u hu, h1 g (.inr rfl) w hw⟩

/-- The formula of two states holds at the first one and not at the second one. -/
theorem F_holds {s : Lts} (hR : Right s) (hm : s.m ≤ 201) : ∀ p q, p < s.n.toNat → q < s.n.toNat → 0 ≤ rank s p q →
    ∃ v, Ev (hereP s) (F s p q) v ∧ v.getD p false = true ∧ v.getD q false = false := by
  refine F_ind hR _ (fun p q x hp hq h0 ht hall => ?_) (fun p q hp hq h0 ht h => ?_)
  · obtain ⟨hx, hsp⟩ := telling_spec ht
    have hok := hR.ok _ ((mem_steps s p x).1 hx)
    simp only at hok
    rw [F_some hR hp hq h0 ht]
    have hex : ∀ g ∈ Rd.seen ((meetsL s q x.1).map fun t => F s x.2.toNat t), ∃ t ∈ meetsL s q x.1, g = F s x.2.toNat t := fun g hg => by
      rw [mem_seen, List.mem_map] at hg
      obtain ⟨t, ht', rfl⟩ := hg
      exact ⟨t, ht', rfl⟩
    obtain ⟨v, hv, hat⟩ := conj_holds s (Rd.seen ((meetsL s q x.1).map fun t => F s x.2.toNat t)) (fun g hg => by
      obtain ⟨t, ht', rfl⟩ := hex g hg
      obtain ⟨w, hw, _⟩ := hall t ht'
      exact ⟨w, hw⟩)
    have har : arity ((4 : Int), x.1) = 1 := by
      unfold arity
      simp
      omega
    refine ⟨_, hv.one har, ?_, ?_⟩
    · rw [here_at s _ _ hp]
      simp only [if_true, List.any_eq_true, Bool.and_eq_true, beq_iff_eq]
      refine ⟨x, hx, rfl, ?_⟩
      show v.getD x.2.toNat false = true
      refine (hat _ (step_lt hR hx)).2 (fun g hg w hw => ?_)
      obtain ⟨t, ht', rfl⟩ := hex g hg
      obtain ⟨u, hu, h1, _⟩ := hall t ht'
      rw [hw.same hu]; exact h1
    · rw [here_at s _ _ hq]
      simp only [if_true]
      apply Bool.eq_false_iff.2
      intro hany
      simp only [List.any_eq_true, Bool.and_eq_true, beq_iff_eq] at hany
      obtain ⟨y, hy, hy1, hy2⟩ := hany
      have hmem : y.2.toNat ∈ meetsL s q x.1 := by
        simp only [meetsL, List.mem_map, List.mem_filter, beq_iff_eq]
        exact ⟨y, ⟨hy, hy1⟩, rfl⟩
      obtain ⟨u, hu, _, h2⟩ := hall _ hmem
      have := (hat _ (step_lt hR hy)).1 hy2 (F s x.2.toNat y.2.toNat) (by rw [mem_seen, List.mem_map]; exact ⟨_, hmem, rfl⟩) u hu
      rw [h2] at this
      exact Bool.noConfusion this
  · rw [F_none hR hp hq h0 ht]
    obtain ⟨v, hv, h1, h2⟩ := h
    refine ⟨_, hv.one (x := ((2 : Int), (0 : Int))) (by decide), ?_, ?_⟩
    · rw [here_at s _ _ hp]
      simp [h2]
      simpa [List.getD] using h2
    · rw [here_at s _ _ hq]
      simp
      simpa [List.getD] using h1

end Go.Proofs.YtkcdkfkgjjpaaaaGreatDoor.Dt

namespace Go.Proofs.YtkcdkfkgjjpaaaaGreatDoor.Dt
open Go.Proofs.YtkcdkfkgjjpaaaaGreatDoor.Sy Go.Proofs.YtkcdkfkgjjpaaaaGreatDoor.Rd
set_option linter.unusedVariables false
set_option linter.unusedSimpArgs false

/-- What a round of the ladder's making puts. -/
def rung (n i : Nat) : List Sy.Edge := ((i : Int), (1 : Int), (i : Int) + 1) :: (if i + 1 < n then [((n : Int) + 1 + i, (1 : Int), (n : Int) + 2 + i)] else [])
def rungs (n k : Nat) : List Sy.Edge := (List.range k).flatMap (rung n)
theorem rungs_succ (n k : Nat) : rungs n (k + 1) = rungs n k ++ rung n k := by simp [rungs, List.range_succ]
theorem rungs_zero (n : Nat) : rungs n 0 = [] := by simp [rungs]

/-- The ladder. -/
def lad (n : Nat) : Lts := ⟨2 * n + 1, 3, 0, rungs n n⟩

theorem mem_rungs {n k : Nat} {e : Sy.Edge} : e ∈ rungs n k ↔ ∃ i, i < k ∧ (e = ((i : Int), (1 : Int), (i : Int) + 1) ∨ i + 1 < n ∧ e = ((n : Int) + 1 + i, (1 : Int), (n : Int) + 2 + i)) := by
  simp only [rungs, List.mem_flatMap, List.mem_range, rung, List.mem_cons]
  constructor
  · rintro ⟨i, hi, h | h⟩
    · exact ⟨i, hi, .inl h⟩
    · split at h
      · rename_i h1
        exact ⟨i, hi, .inr ⟨h1, by simpa using h⟩⟩
      · simp at h
  · rintro ⟨i, hi, h | ⟨h1, h⟩⟩
    · exact ⟨i, hi, .inl h⟩
    · exact ⟨i, hi, .inr (by rw [if_pos h1]; simpa using h)⟩

/-- How many steps a state's way has. -/
def hgt (n p : Nat) : Nat := if p ≤ n then n - p else 2 * n - p

theorem rungs_len (n : Nat) : ∀ k, (rungs n k).length ≤ 2 * k
  | 0 => by simp [rungs]
  | k + 1 => by
    rw [rungs_succ, List.length_append]
    have := rungs_len n k
    have : (rung n k).length ≤ 2 := by unfold rung; split <;> simp
    omega

theorem lad_right {n : Nat} (h1 : 1 ≤ n) (h2 : n ≤ 40) : Right (lad n) where
  n0 := by show (0 : Int) ≤ 2 * n + 1; omega
  n1 := by show (2 * n + 1 : Int) ≤ 1000; omega
  m1 := by show (1 : Int) ≤ 3; decide
  m2 := by show (3 : Int) ≤ 201; decide
  st0 := by show (0 : Int) ≤ 0; decide
  st1 := fun h => absurd (show (0 : Int) < 0 from h) (by decide)
  len := by have := rungs_len n n; show (rungs n n).length ≤ 10000; omega
  ok := fun e he => by
    obtain ⟨i, hi, rfl | ⟨h, rfl⟩⟩ := mem_rungs.1 (show e ∈ rungs n n from he)
    · refine ⟨?_, ?_, ?_, ?_, ?_, ?_⟩ <;> simp only [lad] <;> omega
    · refine ⟨?_, ?_, ?_, ?_, ?_, ?_⟩ <;> simp only [lad] <;> omega

theorem lad_n (n : Nat) : (lad n).n.toNat = 2 * n + 1 := by simp only [lad]; omega

theorem mem_lad {n : Nat} (h1 : 1 ≤ n) {p : Nat} (hp : p < 2 * n + 1) (x : Int × Int) : x ∈ steps (lad n) p ↔ 0 < hgt n p ∧ x = (1, (p : Int) + 1) := by
  rw [mem_steps]
  show ((p : Int), x.1, x.2) ∈ rungs n n ↔ _
  rw [mem_rungs]
  obtain ⟨a, b⟩ := x
  simp only [Prod.mk.injEq]
  unfold hgt
  constructor
  · rintro ⟨i, hi, ⟨e1, e2, e3⟩ | ⟨h, e1, e2, e3⟩⟩
    · rw [if_pos (by omega)]
      exact ⟨by omega, e2, by omega⟩
    · rw [if_neg (by omega)]
      exact ⟨by omega, e2, by omega⟩
  · rintro ⟨h, e1, e2⟩
    split at h
    · exact ⟨p, by omega, .inl ⟨rfl, e1, e2⟩⟩
    · exact ⟨p - n - 1, by omega, .inr ⟨by omega, by omega, e1, by omega⟩⟩

theorem hgt_succ {n p : Nat} (hp : p < 2 * n + 1) (h : 0 < hgt n p) : p + 1 < 2 * n + 1 ∧ hgt n (p + 1) + 1 = hgt n p := by
  unfold hgt at h ⊢
  split at h
  · split <;> omega
  · rw [if_neg (by omega), if_neg (by omega)]
    omega

theorem steps_lad {n : Nat} (h1 : 1 ≤ n) {p : Nat} (hp : p < 2 * n + 1) : steps (lad n) p = if 0 < hgt n p then [(1, (p : Int) + 1)] else [] := by
  have hm := mem_lad h1 hp
  have hw := steps_pairwise (lad n) p
  revert hm hw
  generalize steps (lad n) p = l
  intro hm hw
  split
  · rename_i h
    cases l with
    | nil => exact absurd ((hm (1, (p : Int) + 1)).2 ⟨h, rfl⟩) (by simp)
    | cons x l =>
      have hx := ((hm x).1 (by simp)).2
      cases l with
      | nil => rw [hx]
      | cons y l =>
        have hy := ((hm y).1 (by simp)).2
        have := List.rel_of_pairwise_cons hw (show y ∈ y :: l by simp)
        rw [hx, hy] at this
        simp [lt2] at this
  · rename_i h
    exact List.eq_nil_iff_forall_not_mem.2 (fun x hx => h ((hm x).1 hx).1)

/-- Two states are together in a round by the steps that they have, up to the round's number. -/
theorem R_lad {n : Nat} (h1 : 1 ≤ n) : ∀ k p q, p < 2 * n + 1 → q < 2 * n + 1 → ((R (lad n) k).getD p 0 = (R (lad n) k).getD q 0 ↔ min (hgt n p) k = min (hgt n q) k) := by
  intro k
  induction k with
  | zero => intro p q hp hq; rw [R_zero, R_zero]; simp
  | succ k ih =>
    intro p q hp hq
    have hl := next_eq_iff (lad n) (R (lad n) k) (p := p) (q := q) (by rw [R_len, lad_n]; exact hp) (by rw [R_len, lad_n]; exact hq)
    have hm : ∀ p q, p < 2 * n + 1 → q < 2 * n + 1 → (meets (lad n) (R (lad n) k) p q = true ↔ (0 < hgt n p → 0 < hgt n q ∧ min (hgt n p - 1) k = min (hgt n q - 1) k)) := by
      intro p q hp hq
      unfold meets
      rw [steps_lad h1 hp, steps_lad h1 hq]
      by_cases a : 0 < hgt n p
      · obtain ⟨a1, a2⟩ := hgt_succ hp a
        by_cases b : 0 < hgt n q
        · obtain ⟨b1, b2⟩ := hgt_succ hq b
          rw [if_pos a, if_pos b]
          have := ih (p + 1) (q + 1) a1 b1
          have e1 : ((p : Int) + 1).toNat = p + 1 := by omega
          have e2 : ((q : Int) + 1).toNat = q + 1 := by omega
          simp only [List.all_cons, List.all_nil, List.any_cons, List.any_nil, Bool.and_true, Bool.or_false, Bool.and_eq_true, beq_iff_eq, e1, e2]
          simp only [true_and]
          rw [show hgt n p - 1 = hgt n (p + 1) by omega, show hgt n q - 1 = hgt n (q + 1) by omega]
          constructor
          · intro h _; exact ⟨b, by first | exact this.1 h | exact this.1 h.symm⟩
          · intro h; first | exact this.2 (h a).2 | exact (this.2 (h a).2).symm
        · rw [if_pos a, if_neg b]
          simp
          omega
      · rw [if_neg a]
        simp
        omega
    show (next (lad n) (R (lad n) k)).getD p 0 = (next (lad n) (R (lad n) k)).getD q 0 ↔ _
    rw [hl, ih p q hp hq, hm p q hp hq, hm q p hq hp]
    omega

theorem R_stay (s : Lts) : ∀ j, R s (last s + j) = R s (last s)
  | 0 => rfl
  | j + 1 => by
    show next s (R s (last s + j)) = _
    rw [R_stay s j]
    exact last_end s

/-- The first round in which two states are parted is their rank. -/
theorem rank_first {s : Lts} {p q k : Nat} (h : (R s k).getD p 0 ≠ (R s k).getD q 0) (h0 : ∀ j, j < k → (R s j).getD p 0 = (R s j).getD q 0) : rank s p q = (k : Int) := by
  have hk : k < last s + 1 := by
    apply Classical.byContradiction
    intro hn
    apply h
    obtain ⟨j, rfl⟩ : ∃ j, k = last s + j := ⟨k - last s, by omega⟩
    rw [R_stay]
    exact h0 (last s) (by omega)
  rcases rank_cases s p q with ⟨_, hall⟩ | ⟨i, hi, _, hne, hall⟩
  · exact absurd (hall k hk) h
  · rcases Nat.lt_trichotomy i k with hik | rfl | hik
    · exact absurd (h0 i hik) hne
    · exact hi
    · exact absurd (hall k hik) h

theorem rank_lad {n i : Nat} (h1 : 1 ≤ n) (hi : i < n) : rank (lad n) i (n + 1 + i) = ((n - i : Nat) : Int) := by
  have a : hgt n i = n - i := by unfold hgt; rw [if_pos (by omega)]
  have b : hgt n (n + 1 + i) = n - i - 1 := by unfold hgt; rw [if_neg (by omega)]; omega
  refine rank_first (fun h => ?_) (fun j hj => ?_)
  · have := (R_lad h1 _ _ _ (by omega) (by omega)).1 h
    rw [a, b] at this
    omega
  · refine (R_lad h1 _ _ _ (by omega) (by omega)).2 ?_
    rw [a, b]
    omega

theorem F_lad {n : Nat} (h1 : 1 ≤ n) (h2 : n ≤ 40) : ∀ j i, i + j = n → 1 ≤ j → F (lad n) i (n + 1 + i) = ((1 : Int), (0 : Int)) :: List.replicate j ((4 : Int), (1 : Int)) := by
  have hR := lad_right h1 h2
  intro j
  induction j with
  | zero => intro i _ h; omega
  | succ j ih =>
    intro i hi _
    have hp : i < (lad n).n.toNat := by rw [lad_n]; omega
    have hq : n + 1 + i < (lad n).n.toNat := by rw [lad_n]; omega
    have hr := rank_lad h1 (show i < n by omega)
    have hsp : steps (lad n) i = [(1, (i : Int) + 1)] := by
      rw [steps_lad h1 (by omega), if_pos]
      unfold hgt; rw [if_pos (by omega)]; omega
    have hsq : steps (lad n) (n + 1 + i) = if 1 ≤ j then [(1, ((n + 1 + i : Nat) : Int) + 1)] else [] := by
      rw [steps_lad h1 (by omega)]
      have : hgt n (n + 1 + i) = j := by unfold hgt; rw [if_neg (by omega)]; omega
      rw [this]; rfl
    have hmeet : meetsL (lad n) (n + 1 + i) 1 = if 1 ≤ j then [n + 1 + (i + 1)] else [] := by
      unfold meetsL
      rw [hsq]
      split
      · simp; omega
      · rfl
    have ht : telling (lad n) i (n + 1 + i) = some (1, (i : Int) + 1) := by
      unfold telling
      rw [hsp, List.find?_cons_of_pos]
      unfold tells
      rw [hmeet]
      split
      · rename_i hj
        have hr' := rank_lad h1 (show i + 1 < n by omega)
        have e : ((i : Int) + 1).toNat = i + 1 := by omega
        simp only [List.all_cons, List.all_nil, Bool.and_true, Bool.and_eq_true, decide_eq_true_eq, e, hr, hr']
        omega
      · rfl
    rw [F_some hR hp hq (by rw [hr]; omega) ht]
    simp only [hmeet]
    by_cases hj : 1 ≤ j
    · rw [if_pos hj]
      have e : ((i : Int) + 1).toNat = i + 1 := by omega
      simp only [List.map_cons, List.map_nil, e]
      rw [ih (i + 1) (by omega) hj]
      simp [Rd.seen, addSeen, conj, List.replicate_succ']
    · rw [if_neg hj]
      have : j = 0 := by omega
      subst this
      simp [Rd.seen, conj]

/-- The formula of the two first states of the two ways. -/
theorem F_long {n : Nat} (h1 : 1 ≤ n) (h2 : n ≤ 40) : F (lad n) 0 (n + 1) = ((1 : Int), (0 : Int)) :: List.replicate n ((4 : Int), (1 : Int)) := F_lad h1 h2 n 0 (by omega) h1

theorem rank_long {n : Nat} (h1 : 1 ≤ n) : rank (lad n) 0 (n + 1) = (n : Int) := by
  have := rank_lad h1 (show 0 < n by omega)
  simpa using this

end Go.Proofs.YtkcdkfkgjjpaaaaGreatDoor.Dt
