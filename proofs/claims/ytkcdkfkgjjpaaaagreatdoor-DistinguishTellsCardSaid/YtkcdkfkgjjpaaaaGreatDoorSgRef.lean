/- The plain side of strong's play: heaps of blocks, split by the steps into a heap; what is left is the last round. No function of the program is named. Walks: Classes and Marked of a partition of any size. -/
import Derived.Test.YtkcdkfkgjjpaaaaGreatDoorRdLaws
import Derived.Test.YtkcdkfkgjjpaaaaGreatDoorLst
import Derived.Test.YtkcdkfkgjjpaaaaGreatDoorCanonW
import Derived.Test.YtkcdkfkgjjpaaaaGreatDoorRefPl
import Derived.Test.YtkcdkfkgjjpaaaaGreatDoorRefW17

namespace Go.Proofs.YtkcdkfkgjjpaaaaGreatDoor.Sg
open Go.Proofs.YtkcdkfkgjjpaaaaGreatDoor.Sy Go.Proofs.YtkcdkfkgjjpaaaaGreatDoor.Rd
set_option linter.unusedVariables false
set_option linter.unusedSimpArgs false

/-- A step of a system. -/
def Step (s : Lts) (x : Nat) (l : Int) (y : Nat) : Prop := ((x : Int), l, (y : Int)) ∈ s.es
/-- Together in the last round. -/
def E (s : Lts) (x y : Nat) : Prop := (R s (last s)).getD x 0 = (R s (last s)).getD y 0

theorem step_to {s : Lts} (hR : Right s) {x : Nat} {l t : Int} (h : ((x : Int), l, t) ∈ s.es) : ∃ y : Nat, t = (y : Int) ∧ y < s.n.toNat ∧ Step s x l y := by
  have := hR.ok _ h
  refine ⟨t.toNat, by simp at this; omega, by simp at this; omega, ?_⟩
  unfold Step
  rwa [Int.toNat_of_nonneg (by simp at this; omega)]

theorem Step.lt {s : Lts} (hR : Right s) {x y : Nat} {l : Int} (h : Step s x l y) : x < s.n.toNat ∧ y < s.n.toNat ∧ 0 ≤ l ∧ l < s.m := by
  have := hR.ok _ h
  simp at this
  omega

theorem meets_step {s : Lts} (hR : Right s) {c : List Nat} {p q : Nat} (h : meets s c p q = true) {l : Int} {z : Nat} (hz : Step s p l z) : ∃ z', Step s q l z' ∧ c.getD z 0 = c.getD z' 0 := by
  simp only [meets, List.all_eq_true, List.any_eq_true, Bool.and_eq_true, beq_iff_eq] at h
  obtain ⟨y, hy, h1, h2⟩ := h (l, (z : Int)) ((mem_steps s p _).2 hz)
  have hy' := (mem_steps s q y).1 hy
  obtain ⟨z', e, -, hs⟩ := step_to hR hy'
  simp only at h1 h2
  rw [h1] at hs
  refine ⟨z', hs, ?_⟩
  rw [e] at h2
  simpa using h2.symm

theorem meets_of {s : Lts} (hR : Right s) {c : List Nat} {p q : Nat} (h : ∀ l z, Step s p l z → ∃ z', Step s q l z' ∧ c.getD z 0 = c.getD z' 0) : meets s c p q = true := by
  simp only [meets, List.all_eq_true, List.any_eq_true, Bool.and_eq_true, beq_iff_eq]
  rintro ⟨l, t⟩ hx
  obtain ⟨z, e, -, hs⟩ := step_to hR ((mem_steps s p (l, t)).1 hx)
  obtain ⟨z', hz', hc⟩ := h l z hs
  refine ⟨(l, (z' : Int)), (mem_steps s q _).2 hz', rfl, ?_⟩
  simp only at e
  subst e
  simpa using hc.symm

theorem E_iff {s : Lts} {x y : Nat} (hx : x < s.n.toNat) (hy : y < s.n.toNat) : E s x y ↔ E s x y ∧ meets s (R s (last s)) x y = true ∧ meets s (R s (last s)) y x = true := by
  have h := next_eq_iff s (R s (last s)) (p := x) (q := y) (by rw [R_len]; exact hx) (by rw [R_len]; exact hy)
  have e : next s (R s (last s)) = R s (last s) := last_end s
  rw [e] at h
  exact h

/-- The last round is a bisimulation. -/
theorem E_meets {s : Lts} (hR : Right s) {x y z : Nat} {l : Int} (hx : x < s.n.toNat) (hy : y < s.n.toNat) (h : E s x y) (hz : Step s x l z) : ∃ z', Step s y l z' ∧ E s z z' :=
  meets_step hR ((E_iff hx hy).1 h).2.1 hz

theorem E_symm {s : Lts} {x y : Nat} (h : E s x y) : E s y x := Eq.symm h

/-- A bisimulation lies in each round. -/
theorem round_of {s : Lts} (hR : Right s) {P : Nat → Nat → Prop} (hs : ∀ x y, P x y → P y x)
    (hP : ∀ x y, x < s.n.toNat → y < s.n.toNat → P x y → ∀ l z, Step s x l z → ∃ z', Step s y l z' ∧ P z z') :
    ∀ k x y, x < s.n.toNat → y < s.n.toNat → P x y → (R s k).getD x 0 = (R s k).getD y 0 := by
  intro k
  induction k with
  | zero => intro x y _ _ _; rw [R_zero, R_zero]
  | succ k ih =>
    intro x y hx hy hxy
    have h := next_eq_iff s (R s k) (p := x) (q := y) (by rw [R_len]; exact hx) (by rw [R_len]; exact hy)
    refine h.2 ⟨ih x y hx hy hxy, meets_of hR (fun l z hz => ?_), meets_of hR (fun l z hz => ?_)⟩
    · obtain ⟨z', h1, h2⟩ := hP x y hx hy hxy l z hz
      exact ⟨z', h1, ih z z' (hz.lt hR).2.1 (h1.lt hR).2.1 h2⟩
    · obtain ⟨z', h1, h2⟩ := hP y x hy hx (hs _ _ hxy) l z hz
      exact ⟨z', h1, ih z z' (hz.lt hR).2.1 (h1.lt hR).2.1 h2⟩

/-- Has a state a step with a label into some states? -/
def Into (s : Lts) (C : Nat → Prop) (x : Nat) (l : Int) : Prop := ∃ z, C z ∧ Step s x l z

/-- Blocks split by the steps into some states. -/
def SplitBy (s : Lts) (C : Nat → Prop) (I I' : Nat → Nat) : Prop :=
  ∀ x y, x < s.n.toNat → y < s.n.toNat → (I' x = I' y ↔ I x = I y ∧ ∀ l, Into s C x l ↔ Into s C y l)

/-- Blocks I in heaps H: each heap is of whole blocks; each block is alike in its steps into each heap; what is together in the last round is together. -/
structure Fit (s : Lts) (I H : Nat → Nat) : Prop where
  fine : ∀ x y, x < s.n.toNat → y < s.n.toNat → I x = I y → H x = H y
  stable : ∀ x y, x < s.n.toNat → y < s.n.toNat → I x = I y → ∀ l h, Into s (fun z => H z = h) x l ↔ Into s (fun z => H z = h) y l
  coarse : ∀ x y, x < s.n.toNat → y < s.n.toNat → E s x y → I x = I y

theorem into_E {s : Lts} (hR : Right s) {C : Nat → Prop} (hC : ∀ z z', z < s.n.toNat → z' < s.n.toNat → E s z z' → C z → C z') {x y : Nat} (hx : x < s.n.toNat) (hy : y < s.n.toNat) (h : E s x y) (l : Int) :
    Into s C x l ↔ Into s C y l := by
  have key : ∀ x y, x < s.n.toNat → y < s.n.toNat → E s x y → Into s C x l → Into s C y l := by
    rintro x y hx hy h ⟨z, hz, hst⟩
    obtain ⟨z', h1, h2⟩ := E_meets hR hx hy h hst
    exact ⟨z', hC z z' (hst.lt hR).2.1 (h1.lt hR).2.1 h2 hz, h1⟩
  exact ⟨key x y hx hy h, key y x hy hx (E_symm h)⟩

theorem split_coarse {s : Lts} (hR : Right s) {C : Nat → Prop} {I I' : Nat → Nat} (hI : ∀ x y, x < s.n.toNat → y < s.n.toNat → E s x y → I x = I y)
    (hC : ∀ z z', z < s.n.toNat → z' < s.n.toNat → E s z z' → C z → C z') (h : SplitBy s C I I') : ∀ x y, x < s.n.toNat → y < s.n.toNat → E s x y → I' x = I' y :=
  fun x y hx hy he => (h x y hx hy).2 ⟨hI x y hx hy he, fun l => into_E hR hC hx hy he l⟩

theorem into_congr {s : Lts} (hR : Right s) {C D : Nat → Prop} (h : ∀ z, z < s.n.toNat → (C z ↔ D z)) (x : Nat) (l : Int) : Into s C x l ↔ Into s D x l :=
  ⟨fun ⟨z, hz, hs⟩ => ⟨z, (h z (hs.lt hR).2.1).1 hz, hs⟩, fun ⟨z, hz, hs⟩ => ⟨z, (h z (hs.lt hR).2.1).2 hz, hs⟩⟩

theorem SplitBy.congr {s : Lts} (hR : Right s) {C D : Nat → Prop} {I I' : Nat → Nat} (h : ∀ z, z < s.n.toNat → (C z ↔ D z)) (hs : SplitBy s C I I') : SplitBy s D I I' := fun x y hx hy => by
  rw [hs x y hx hy]
  constructor
  · rintro ⟨h1, h2⟩; exact ⟨h1, fun l => by rw [← into_congr hR h, ← into_congr hR h]; exact h2 l⟩
  · rintro ⟨h1, h2⟩; exact ⟨h1, fun l => by rw [into_congr hR h, into_congr hR h]; exact h2 l⟩

/-- The first taking. -/
theorem Fit.begin {s : Lts} (hR : Right s) {I : Nat → Nat} (h : SplitBy s (fun _ => True) (fun _ => 0) I) : Fit s I (fun _ => 0) where
  fine := fun _ _ _ _ _ => rfl
  stable := fun x y hx hy he l c => by
    have h1 := ((h x y hx hy).1 he).2 l
    by_cases hc : 0 = c
    · rw [into_congr hR (D := fun _ => True) (fun z _ => by simp [hc]) x l, into_congr hR (D := fun _ => True) (fun z _ => by simp [hc]) y l]; exact h1
    · rw [into_congr hR (D := fun _ => False) (fun z _ => by simp [hc]) x l, into_congr hR (D := fun _ => False) (fun z _ => by simp [hc]) y l]
      exact ⟨fun ⟨_, h, _⟩ => h.elim, fun ⟨_, h, _⟩ => h.elim⟩
  coarse := split_coarse hR (fun _ _ _ _ _ => rfl) (fun _ _ _ _ _ _ => trivial) h

/-- One taking more: the block b of the heap h gets the new heap k. -/
theorem Fit.take {s : Lts} (hR : Right s) {I H I1 I2 : Nat → Nat} {b h k : Nat} (hF : Fit s I H) (hb : ∀ x, x < s.n.toNat → I x = b → H x = h) (hk : ∀ x, x < s.n.toNat → H x ≠ k) (hhk : h ≠ k)
    (h1 : SplitBy s (fun z => I z = b) I I1) (h2 : SplitBy s (fun z => H z = h ∧ I z ≠ b) I1 I2) : Fit s I2 (fun x => if I x = b then k else H x) where
  fine := fun x y hx hy he => by
    have e1 := ((h2 x y hx hy).1 he).1
    have e0 := ((h1 x y hx hy).1 e1).1
    show (if I x = b then k else H x) = (if I y = b then k else H y)
    rw [e0, hF.fine x y hx hy e0]
  stable := fun x y hx hy he l c => by
    have e1 := (h2 x y hx hy).1 he
    have e0 := (h1 x y hx hy).1 e1.1
    by_cases hck : c = k
    · subst hck
      have hz : ∀ z, z < s.n.toNat → (((if I z = b then c else H z) = c) ↔ I z = b) := fun z hz => by
        constructor
        · intro hh
          by_cases hi : I z = b
          · exact hi
          · rw [if_neg hi] at hh; exact absurd hh (hk z hz)
        · intro hi; rw [if_pos hi]
      rw [into_congr hR hz, into_congr hR hz]; exact e0.2 l
    · by_cases hch : c = h
      · subst hch
        have hz : ∀ z, z < s.n.toNat → (((if I z = b then k else H z) = c) ↔ (H z = c ∧ I z ≠ b)) := fun z hz => by
          by_cases hi : I z = b
          · rw [if_pos hi]; exact ⟨fun hh => absurd hh.symm hck, fun hh => absurd hi hh.2⟩
          · rw [if_neg hi]; exact ⟨fun hh => ⟨hh, hi⟩, fun hh => hh.1⟩
        rw [into_congr hR hz, into_congr hR hz]; exact e1.2 l
      · have hz : ∀ z, z < s.n.toNat → (((if I z = b then k else H z) = c) ↔ H z = c) := fun z hz => by
          by_cases hi : I z = b
          · rw [if_pos hi]
            have := hb z hz hi
            constructor
            · intro hh; exact absurd hh.symm hck
            · intro hh; exact absurd (hh.symm.trans this) hch
          · rw [if_neg hi]
        rw [into_congr hR hz, into_congr hR hz]; exact hF.stable x y hx hy e0.1 l c
  coarse := by
    have c1 := split_coarse hR hF.coarse (fun z z' hz hz' he hi => (hF.coarse z z' hz hz' he).symm.trans hi) h1
    refine split_coarse hR c1 (fun z z' hz hz' he hi => ?_) h2
    have e0 := hF.coarse z z' hz hz' he
    exact ⟨(hF.fine z z' hz hz' e0).symm.trans hi.1, fun hh => hi.2 (e0.trans hh)⟩

theorem Fit.congr {s : Lts} (hR : Right s) {I H H' : Nat → Nat} (hF : Fit s I H) (h : ∀ z, z < s.n.toNat → H z = H' z) : Fit s I H' where
  fine := fun x y hx hy he => by rw [← h x hx, ← h y hy]; exact hF.fine x y hx hy he
  stable := fun x y hx hy he l c => by
    rw [← into_congr hR (C := fun z => H z = c) (fun z hz => by rw [h z hz]) x l, ← into_congr hR (C := fun z => H z = c) (fun z hz => by rw [h z hz]) y l]
    exact hF.stable x y hx hy he l c
  coarse := hF.coarse

/-- Heaps that all have a state are no more than the states. -/
theorem heaps_le {n nh : Nat} {H : Nat → Nat} (h : ∀ k, k < nh → ∃ x, x < n ∧ H x = k) : nh ≤ n := by
  have hf : ∀ k, ∃ x, k < nh → x < n ∧ H x = k := fun k => by
    by_cases hk : k < nh
    · obtain ⟨x, hx⟩ := h k hk; exact ⟨x, fun _ => hx⟩
    · exact ⟨0, fun e => absurd e hk⟩
  have hch := Classical.axiomOfChoice hf
  obtain ⟨f, hf⟩ := hch
  have hnd : ((List.range nh).map f).Nodup := by
    rw [List.nodup_iff_pairwise_ne, List.pairwise_map]
    refine (List.nodup_range (n := nh)).imp_of_mem ?_
    intro a c ha hc hne e
    apply hne
    rw [← (hf a (List.mem_range.1 ha)).2, ← (hf c (List.mem_range.1 hc)).2, e]
  have := hnd.length_le_of_subset (l₂ := List.range n) (by
    intro x hx
    obtain ⟨b, hb, rfl⟩ := List.mem_map.1 hx
    exact List.mem_range.2 (hf b (List.mem_range.1 hb)).1)
  simpa using this

/-- Where each heap is one block, the blocks are the last round's classes. -/
theorem Fit.last {s : Lts} (hR : Right s) {I H : Nat → Nat} (hF : Fit s I H) (h1 : ∀ x y, x < s.n.toNat → y < s.n.toNat → H x = H y → I x = I y) {x y : Nat} (hx : x < s.n.toNat) (hy : y < s.n.toNat) : I x = I y ↔ E s x y := by
  refine ⟨fun h => ?_, hF.coarse x y hx hy⟩
  have := round_of hR (P := fun x y => x < s.n.toNat ∧ y < s.n.toNat ∧ I x = I y) (fun x y h => ⟨h.2.1, h.1, h.2.2.symm⟩) (fun x y hx hy h l z hz => by
    obtain ⟨z', hz', hs⟩ := (hF.stable x y hx hy h.2.2 l (H z)).1 ⟨z, rfl, hz⟩
    exact ⟨z', hs, (hz.lt hR).2.1, (hs.lt hR).2.1, (h1 z z' (hz.lt hR).2.1 (hs.lt hR).2.1 hz'.symm)⟩) (Rd.last s) x y hx hy ⟨hx, hy, h⟩
  exact this

/-- Then the one form of the blocks' numbers is the last round. -/
theorem canon_last {s : Lts} {c : List Int} (hl : c.length = s.n.toNat) (h : ∀ x y, x < s.n.toNat → y < s.n.toNat → (c.getD x 0 = c.getD y 0 ↔ E s x y)) : canon c = R s (last s) := by
  rw [← R_canon s (last s)]
  refine canon_congr c (R s (last s)) (by rw [hl, R_len]) (fun i j hi hj => ?_)
  have := h i j (by omega) (by omega)
  unfold E at this
  have l1 : i < (R s (Rd.last s)).length := by rw [R_len]; omega
  have l2 : j < (R s (Rd.last s)).length := by rw [R_len]; omega
  simpa [List.getD, hi, hj, l1, l2] using this

end Go.Proofs.YtkcdkfkgjjpaaaaGreatDoor.Sg

namespace Go.Proofs.YtkcdkfkgjjpaaaaGreatDoor
open Go.RowKit
set_option linter.unusedVariables false
set_option linter.unusedSimpArgs false

theorem owns_seen {w : World} {n : Nat} {e base : Nat} {v : Value} {xs : List Value} (h : w.ownsRow base e 1 v n xs) :
    ∃ ao cap g, v = .slice ao n cap ∧ (0 < n → ao = some ⟨g, 0, none⟩ ∧ v.ownBlock = some g ∧ Row w g e cap xs) := by
  rcases owns_cases h with ⟨rfl, h0, _⟩ | ⟨g, cap, rfl, hr, _⟩
  · exact ⟨none, 0, 0, by rw [h0], fun hn => by omega⟩
  · rw [Nat.mul_one] at hr
    exact ⟨_, cap, g, rfl, fun _ => ⟨rfl, rfl, hr⟩⟩

def LstDone (w : World) (xs : List Int) (r : Ending) (w' : World) : Prop :=
  ∃ v, r = .returned v ∧ w'.ownsRow w.heap.size 3 1 v xs.length (xs.map (Value.int .i64)) ∧ Up w w'

/-- What Classes leaves. -/
def ClassesAt (w : World) (l : List Nat) (n : Nat) (r : Ending) (w' : World) : Prop :=
  ∃ g, r = .returned (.slice (some ⟨g, 0, none⟩) n n) ∧ Row w' g 3 n (ints l) ∧ w.heap.size ≤ g ∧ Up w w'

set_option maxHeartbeats 1000000 in
set_option maxRecDepth 100000 in
theorem classes_all {w : World} {B n : Nat} {ve vp vi vb : Value} {s : Rf.St} (h : PartAt w B ve vp vi vb s) (hI : Rf.Inv s n) (hn : n ≤ 1000) :
    Calls Tryz.prog 152 #[.pointer (some ⟨B, 0, none⟩)] w (ClassesAt w (Cn.canon (s.inn.map Int.ofNat)) n) := by
  have ri := h.ri
  rw [hI.li] at ri
  have hbox := h.box
  obtain ⟨ao, ci, gi, rfl, hao⟩ := owns_seen ri
  have c2 : w.cell? ⟨B, 2, none⟩ = some (.slice ao n ci) := by simp [World.cell?, hbox]
  have hli : (s.inn.map Int.ofNat).length = n := by rw [List.length_map, hI.li]
  have hb : ∀ k, k < n → (s.inn.map Int.ofNat).getD k 0 = (s.inn.getD k 0 : Nat) := by
    intro k hk
    simp [List.getD, show k < s.inn.length by rw [hI.li]; exact hk]
  have HC := Lib.hid (canon_any' gi 0 n ci ao (fun h0 => (hao h0).1) (s.inn.map Int.ofNat) w hli (by omega) (by
    intro k hk
    rw [hb k hk]
    have := (hI.in1 k hk).1
    have h2 := Rf.blocks_le hI
    have h3 : s.inn.getD k 0 = s.I k := rfl
    exact WalkArith.wf_i64 (by omega)) (by
    intro k hk
    rw [hb k hk, Nat.zero_add]
    exact (hao (by omega)).2.2.cell (ints_get (by rw [hI.li]; exact hk))))
  clear h hI hli hb hbox hao ri
  go_enter Tryz.func152, Tryz.ntmps152
  go_wp2_with (first
    | (go_at_call 195; refine (own_some _ _).mono ?_; rintro e w' ⟨rfl, rfl⟩)
    | (go_at_call 194; refine HC.out.mono ?_; rintro e w1 ⟨rfl, hrow, hbel⟩))
  go_ret
  exact ⟨_, rfl, hrow, by omega, hbel⟩

set_option maxHeartbeats 1000000 in
set_option maxRecDepth 100000 in
theorem marked_all {w : World} {B n : Nat} {ve vp vi vb : Value} {s : Rf.St} (h : PartAt w B ve vp vi vb s) (hI : Rf.Inv s n) (hn : n ≤ 1000) :
    Calls Tryz.prog 223 #[.pointer (some ⟨B, 0, none⟩)] w (LstDone w (s.hot s.blocks.length)) := by
  obtain ⟨i0, hi, hz0, hz1, hz2⟩ := info_parts Tryz.intInfo
  have hbn := Rf.blocks_le hI
  have rb := h.rb
  have hbox := h.box
  obtain ⟨nb, hnb⟩ : ∃ nb, nb = s.blocks.length := ⟨_, rfl⟩
  rw [← hnb] at hbn rb ⊢
  have hk : ∃ ao cap g, vb = .slice ao nb cap ∧ (0 < nb → ao = some ⟨g, 0, none⟩ ∧ Row w g 320 (cap * 3) (cellsB s.blocks)) := by
    rcases owns_cases rb with ⟨rfl, h0, _⟩ | ⟨g, cap, rfl, hr, _⟩
    · exact ⟨none, 0, 0, by rw [h0], fun h => by omega⟩
    · exact ⟨_, cap, g, rfl, fun _ => ⟨rfl, hr⟩⟩
  obtain ⟨ao, cap, gb, rfl, hao⟩ := hk
  have c3 : w.cell? ⟨B, 3, none⟩ = some (.slice ao nb cap) := by simp [World.cell?, hbox]
  have HB : Hid (∀ k, k < nb → ao = some ⟨gb, 0, none⟩ ∧ w.cell? ⟨gb, k * 3, none⟩ = some (.int .i64 (s.F k : Nat)) ∧ w.cell? ⟨gb, k * 3 + 1, none⟩ = some (.int .i64 (s.T k : Nat)) ∧ w.cell? ⟨gb, k * 3 + 2, none⟩ = some (.int .i64 (s.M k : Nat))) := by
    intro k hk
    obtain ⟨h1, h2⟩ := hao (by omega)
    rw [hnb] at hk
    exact ⟨h1, h2.cell (cellsB_get0 _ _ hk), h2.cell (cellsB_get1 _ _ hk), h2.cell (cellsB_get2 _ _ hk)⟩
  have HLE : Hid (∀ k, (s.hot k).length ≤ k) := fun k => Rf.hot_len s k
  clear hao rb hbox h hI hnb
  go_enter Tryz.func223, Tryz.ntmps223
  go_wp2_with (go_at_call 195; refine (own_some _ _).mono ?_; rintro e w' ⟨rfl, rfl⟩)
  go_loopw [3, 12] (fun lv i wr => ∃ k : Nat, k ≤ nb ∧ i = .int .i64 k ∧ wr.ownsRow w.heap.size 3 1 lv (s.hot k).length ((s.hot k).map (Value.int .i64)) ∧ Up w wr) (fun _ i _ => nb - (intOf i).toNat)
  case atStart => exact ⟨0, Nat.zero_le _, rfl, World.ownsRow_nil _ _ _ _, Up.refl w⟩
  case round =>
    obtain ⟨k, hk, rfl, hown, hup⟩ := hrel
    by_cases hlt : k < nb
    · obtain ⟨rfl, x0, x1, x2⟩ := HB.out k hlt
      have y0 := hup.cell x0
      have y1 := hup.cell x1
      have y2 := hup.cell x2
      have hsz := hup.size
      have hle := HLE.out k
      have HN : Hid (s.hot (k + 1) = if 0 < s.M k then s.hot k ++ [(k : Int)] else s.hot k) := rfl
      obtain ⟨x, hx⟩ : ∃ x, x = s.M k := ⟨_, rfl⟩
      obtain ⟨l, hl⟩ : ∃ l, l = s.hot k := ⟨_, rfl⟩
      rw [← hx] at y2 HN
      rw [← hl] at hown hle HN
      obtain ⟨so, sc, rfl⟩ := owns_shape' hown
      obtain ⟨m, hm⟩ : ∃ m, m = l.length := ⟨_, rfl⟩
      rw [← hm] at hown hle ⊢
      have HML := Lib.hid hm
      clear hx hl hm x0 x1 x2
      by_cases hx0 : 0 < x
      · have qx : decide ((0 : Int) < (x : Int)) = true := by simp; omega
        have e := HN.out
        rw [if_pos hx0] at e
        have HE := Lib.hid e
        have HEL : Hid ((s.hot (k + 1)).length = m + 1) := by rw [e, List.length_append, ← HML.out]; rfl
        clear e HN
        go_wp2_with (at_builtin; (refine wpList_append_own _ rfl _ _ 35 rfl w.heap.size 3 i0 (.int .i64 0) 1 8 Tryz.underlying35 hi hz0 hz1 hz2 rfl (by decide) _ m _ rfl ((hown.alloc _).alloc _) ⟨wr.heap.size + 1, 0, none⟩ 1 1 [.int .i64 (k : Nat)] rfl rfl (by simpa using cell_one_new (wr.alloc _) _ _) (ints_oneCell .i64 [(k : Int)]) (by unfold maxLen; omega) (by omega) (by simp; omega) ?_); intro v' w2 hown' hgrow' hnil'; clear hnil')
        go_roundw
        case rel => exact ⟨k + 1, by omega, by go_num, by rw [HEL.out, HE.out, List.map_append]; exact hown', ((hup.alloc _).alloc _).grown hgrow' (fun g hg => (hown.lt g hg).1)⟩
        case measure => simp [intOf]; omega
      · obtain rfl : x = 0 := by omega
        have e := HN.out
        rw [if_neg hx0] at e
        have HE := Lib.hid e
        clear e HN
        go_wp2_with fail
        go_roundw
        case rel => exact ⟨k + 1, by omega, by go_num, by rw [HE.out, ← HML.out]; exact hown.alloc _, hup.alloc _⟩
        case measure => simp [intOf]; omega
    · obtain rfl : k = nb := by omega
      go_wp2_with fail
      go_ret
      exact ⟨_, rfl, hown, hup⟩


end Go.Proofs.YtkcdkfkgjjpaaaaGreatDoor
