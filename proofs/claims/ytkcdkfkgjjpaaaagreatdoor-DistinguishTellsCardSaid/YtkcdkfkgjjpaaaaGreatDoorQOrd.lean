/- A region that draws its order, walked once: its loads and its pure operations are each taken first, in an order that is given; calls and builtins come up alone where they stand in it; the last operation comes last. What the loads read need not hold behind the last operation. No function of the program is named. -/
import Derived.Test.YtkcdkfkgjjpaaaaGreatDoorMem
import Derived.OrdersHeld
import Derived.StillTail
import Derived.Maps.AppendAt
namespace Go.Proofs.YtkcdkfkgjjpaaaaGreatDoor
set_option linter.unusedVariables false

section
variable {P : Program} {ops : Array Oper} {md : Region.Mode} {Q : Exit → Act → World → Prop} {S : World → Prop}

/-- Whatever order is picked from here on; all but the last operation leave S. -/
def wpAnyE (P : Program) (md : Region.Mode) (ops : Array Oper) (Q : Exit → Act → World → Prop) (S : World → Prop) (n : Nat) : Nat → Array Bool → Act → World → Prop
  | 0, listed, a, w => wpAny P md ops Q 1 listed a w ∧ ∀ j ∈ Region.ready md ops listed, n ≤ j
  | f + 1, listed, a, w => Region.ready md ops listed ≠ [] ∧ ∀ i ∈ Region.ready md ops listed, i < n ∧ wpOp P ops Q i (fun a' w' => S w' ∧ wpAnyE P md ops Q S n f (listed.setIfInBounds i true) a' w') a w

theorem wpAny_of_end {n : Nat} : ∀ (f : Nat) (listed : Array Bool) (a : Act) (w : World), wpAnyE P md ops Q S n f listed a w → wpAny P md ops Q (f + 1) listed a w
  | 0, _, _, _, h => h.1
  | f + 1, _, _, _, h => ⟨fun h0 => absurd h0 h.1, fun i hi => wpOp_mono (fun a' w' h' => wpAny_of_end f _ a' w' h'.2) (h.2 i hi).2⟩

theorem wpAnyE_first {n i : Nat} {oi : Oper} {v : Value} (hi : ops[i]? = some oi) (hsel : ∀ (j : Nat) (o : Oper) cs b, ops[j]? = some o → o.op ≠ .select cs b)
    (hQ : ∀ c a w, Q (.panic c) (a.put oi.dst v) w → Q (.panic c) a w) (hs : Region.sinkB md ops n = true) (hc : Region.chainB md ops n = true) (hn : n < ops.size) (hin : i < n) :
    ∀ (f : Nat) (listed : Array Bool) (a : Act) (w : World), HeadInv md ops n listed →
      (∀ j oj, ops[j]? = some oj → j ≠ i → listed.getD j true = false → (∀ e ∈ oj.after, Region.binds md e = true → e.on ≠ i) → oi.apart ops oj = true) →
      i ∈ Region.ready md ops listed → YieldsIf P ops S oi v a → S w →
      wpAnyE P md ops Q S n f (listed.setIfInBounds i true) (a.put oi.dst v) w → wpAnyE P md ops Q S n (f + 1) listed a w := by
  intro f
  induction f with
  | zero =>
    intro listed a w inv _ hr hy hS H
    have hun := (mem_ready.1 hr).1
    refine ⟨fun h => (by rw [h] at hr; cases hr), fun j hj => ?_⟩
    have hjn : j < n := by
      rcases Nat.lt_or_ge j n with h | h
      · exact h
      · exact absurd hj (tail_waits hs hc hn inv _ i rfl hin hun j h)
    refine ⟨hjn, ?_⟩
    by_cases hji : j = i
    · subst hji; exact hy.wpOp hi hS ⟨hS, H⟩
    · have := H.2 j (ready_mono hj hji)
      omega
  | succ f ih =>
    intro listed a w inv hfree hr hy hS H
    have hun := (mem_ready.1 hr).1
    refine ⟨fun h => (by rw [h] at hr; cases hr), fun j hj => ?_⟩
    have hjn : j < n := by
      rcases Nat.lt_or_ge j n with h | h
      · exact h
      · exact absurd hj (tail_waits hs hc hn inv _ i rfl hin hun j h)
    refine ⟨hjn, ?_⟩
    by_cases hji : j = i
    · subst hji; exact hy.wpOp hi hS ⟨hS, H⟩
    · have h1 := (H.2 j (ready_mono hj hji)).2
      obtain ⟨hjun, oj, hoj, hall⟩ := mem_ready.1 hj
      have hnot : ∀ e ∈ oj.after, Region.binds md e = true → e.on ≠ i := fun e he hb heq => by
        have h1 := hall e he hb
        rw [heq, getD_both hun] at h1
        cases h1
      have h2 := wpOp_putIf hoj (hfree j oj hoj hji hjun hnot) (fun cs b => hsel i oi cs b hi) (fun cs b => hsel j oj cs b hoj) hQ hy h1
      have hfree' : ∀ k ok, ops[k]? = some ok → k ≠ i → (listed.setIfInBounds j true).getD k true = false →
          (∀ e ∈ ok.after, Region.binds md e = true → e.on ≠ i) → oi.apart ops ok = true := fun k ok hk hki hun hno => by
        refine hfree k ok hk hki ?_ hno
        by_cases hjk : j = k
        · subst hjk; exact hjun
        · rw [getD_set_ne true hjk] at hun; exact hun
      refine wpOp_mono (fun a' w' h3 => ⟨h3.2.1, ih (listed.setIfInBounds j true) a' w' (inv.set hj hjn) hfree' (ready_mono hr (Ne.symm hji)) h3.1 h3.2.1 ?_⟩) h2
      rw [Array.setIfInBounds_comm _ _ hji]
      exact h3.2.2

/-- Does a region go in a given order? Marked true: may be taken first; false: comes up alone. -/
def ordB (md : Region.Mode) (ops : Array Oper) (n : Nat) : List (Nat × Bool) → Array Bool → Bool
  | [], listed => decide (Region.ready md ops listed = [n]) && decide (Region.ready md ops (listed.setIfInBounds n true) = [])
  | (k, true) :: r, listed => (Region.ready md ops listed).contains k && decide (k < n) && Region.free md ops listed k && ordB md ops n r (listed.setIfInBounds k true)
  | (k, false) :: r, listed => decide (Region.ready md ops listed = [k]) && decide (k < n) && ordB md ops n r (listed.setIfInBounds k true)

def orderB (md : Region.Mode) (ops : Array Oper) (n : Nat) (ord : List (Nat × Bool)) : Bool :=
  Region.noSelect ops && decide (n + 1 = ops.size) && decide (ord.length = n) && Region.sinkB md ops n && Region.chainB md ops n && ordB md ops n ord (Array.replicate ops.size false)

/-- The walk in that order. -/
def wpOrd (P : Program) (ops : Array Oper) (Q : Exit → Act → World → Prop) (S : World → Prop) (n : Nat) : List (Nat × Bool) → Act → World → Prop
  | [], a, w => wpOp P ops Q n (fun a' w' => Q .normal a' w') a w
  | (k, true) :: r, a, w => ∃ o v, ops[k]? = some o ∧ YieldsIf P ops S o v a ∧ wpOrd P ops Q S n r (a.put o.dst v) w
  | (k, false) :: r, a, w => wpOp P ops Q k (fun a' w' => S w' ∧ wpOrd P ops Q S n r a' w') a w

theorem wpAnyE_of_ord {n : Nat} (hsel : Region.noSelect ops = true) (hQ : ∀ c a (d : Tmp) v w, Q (.panic c) (a.put (some d) v) w → Q (.panic c) a w) (hs : Region.sinkB md ops n = true) (hc : Region.chainB md ops n = true) (hn : n < ops.size) :
    ∀ (ord : List (Nat × Bool)) (listed : Array Bool) (a : Act) (w : World), HeadInv md ops n listed → ordB md ops n ord listed = true → S w → wpOrd P ops Q S n ord a w → wpAnyE P md ops Q S n ord.length listed a w
  | [], listed, a, w, inv, hB, hS, h => by
    simp only [ordB, Bool.and_eq_true, decide_eq_true_eq] at hB
    refine ⟨⟨fun h0 => (by rw [hB.1] at h0; cases h0), fun i hi => ?_⟩, fun j hj => ?_⟩
    · rw [hB.1] at hi
      obtain rfl : i = n := by simpa using hi
      exact wpOp_mono (fun a' w' h' => ⟨hB.2, h'⟩) h
    · rw [hB.1] at hj
      exact Nat.le_of_eq (by simpa using hj : j = n).symm
  | (k, true) :: r, listed, a, w, inv, hB, hS, h => by
    simp only [ordB, Bool.and_eq_true, decide_eq_true_eq] at hB
    obtain ⟨⟨⟨h1, h2⟩, h3⟩, h4⟩ := hB
    obtain ⟨o, v, ho, hy, hr⟩ := h
    have h1' : k ∈ Region.ready md ops listed := by simpa using h1
    exact wpAnyE_first ho (Region.noSelect_spec hsel) (fun c a w => by
      cases o.dst with
      | none => exact fun h => h
      | some d => exact hQ c a d v w) hs hc hn h2 r.length listed a w inv (Region.free_spec ho h3) h1' hy hS
      (wpAnyE_of_ord hsel hQ hs hc hn r _ _ w (inv.set h1' h2) h4 hS hr)
  | (k, false) :: r, listed, a, w, inv, hB, hS, h => by
    simp only [ordB, Bool.and_eq_true, decide_eq_true_eq] at hB
    obtain ⟨⟨h1, h2⟩, h3⟩ := hB
    refine ⟨fun h0 => (by rw [h1] at h0; cases h0), fun i hi => ?_⟩
    have hi' := hi
    rw [h1] at hi
    obtain rfl : i = k := by simpa using hi
    exact ⟨h2, wpOp_mono (fun a' w' h' => ⟨h'.1, wpAnyE_of_ord hsel hQ hs hc hn r _ a' w' (inv.set hi' h2) h3 h'.1 h'.2⟩) h⟩

/-- The walk, shut. -/
structure WO (P : Program) (ops : Array Oper) (Q : Exit → Act → World → Prop) (S : World → Prop) (n : Nat) (ord : List (Nat × Bool)) (a : Act) (w : World) : Prop where
  out : wpOrd P ops Q S n ord a w

/-- **A region that draws its order, walked in one order.** -/
theorem wp_region_ord {id : Nat} {a : Act} {w : World} {l : List Oper} (n : Nat) (ord : List (Nat × Bool)) (S : World → Prop) (hm : P.follows .mixedOrders = true) (hB : orderB .any l.toArray n ord = true)
    (hQ : ∀ c a (d : Tmp) v w, Q (.panic c) (a.put (some d) v) w → Q (.panic c) a w) (hS : S w.drew) (h : WO P l.toArray Q S n ord a w.drew) : (Code.region id l.toArray true).wp P Q a w := by
  simp only [orderB, Bool.and_eq_true, decide_eq_true_eq] at hB
  obtain ⟨⟨⟨⟨⟨h1, h2⟩, h3⟩, h4⟩, h5⟩, h6⟩ := hB
  have inv0 : HeadInv .any l.toArray n (Array.replicate l.toArray.size false) :=
    ⟨by simp, fun j oj _ hl => (by rw [getD_replicate_false] at hl; cases hl), fun t _ ht => getD_in (by simpa using ht) (getD_replicate_false _ _)⟩
  have H := wpAnyE_of_ord (md := .any) h1 hQ h4 h5 (by omega) ord _ a w.drew inv0 h6 hS h.out
  refine wp_region_any hm ?_
  have := wpAny_of_end _ _ _ _ H
  rw [h3, h2] at this
  exact this

variable {n k : Nat} {o : Oper} {r : List (Nat × Bool)} {a : Act} {w : World}

theorem WO.still (hk : ops[k]? = some o) (hw : Region.wanted o (yielded ops a.tmps) = true)
    (h : ∀ K : Act → Prop, (∀ a, WO P ops Q S n r a w → K a) → ∃ v, (∀ w, S w → (execOp a.eval o).run P w = .ok (.value v) w) ∧ K (a.put o.dst v)) : WO P ops Q S n ((k, true) :: r) a w := by
  obtain ⟨v, h1, h2⟩ := h (fun a => WO P ops Q S n r a w) (fun _ h => h)
  exact ⟨o, v, hk, .inl ⟨hw, h1⟩, h2.out⟩

theorem WO.skip (hk : ops[k]? = some o) (hw : Region.wanted o (yielded ops a.tmps) = false) (h : WO P ops Q S n r (a.put o.dst undef) w) : WO P ops Q S n ((k, true) :: r) a w :=
  ⟨o, undef, hk, .inr ⟨hw, rfl⟩, h.out⟩

theorem WO.act (hk : ops[k]? = some o) (hw : Region.wanted o (yielded ops a.tmps) = true)
    (h : ∀ K : Act → World → Prop, (∀ a w, S w → WO P ops Q S n r a w → K a w) → o.wp P a w K Q) : WO P ops Q S n ((k, false) :: r) a w := by
  refine ⟨?_⟩
  unfold wpOrd wpOp
  simp only [hk]
  rw [if_pos hw]
  exact .inl (h _ (fun a w h1 h2 => ⟨h1, h2.out⟩))

theorem WO.last (hk : ops[n]? = some o) (hw : Region.wanted o (yielded ops a.tmps) = true) (h : ∀ K : Act → World → Prop, (∀ a w, Q .normal a w → K a w) → o.wp P a w K Q) : WO P ops Q S n [] a w := by
  refine ⟨?_⟩
  unfold wpOrd wpOp
  simp only [hk]
  rw [if_pos hw]
  exact .inl (h _ (fun a w h1 => h1))

/-- append ONTO A SLICE THAT THE CALL OWNS, one operation. -/
theorem wp_append_own {K : Act → World → Prop} (s x : Operand) (t : TypeId) (hop : o.op = Op.call { callee := Callee.builtin Builtin.append, args := #[s, x], argTypes := #[t, t] })
    (base : Nat) (e : TypeId) (i : TypeInfo) (z : Value) (size bytes : Nat) (ht : P.underlying t = some (.slice e)) (hi : P.info? e = some i) (hz : i.zero = some z)
    (hsize : i.size = size) (hby : i.bytes = bytes) (hzs : z.cells.size = size) (hsz : 0 < size)
    (v : Value) (n : Nat) (xs : List Value) (hs : a.eval s = v) (hown : w.ownsRow base e size v n xs)
    (ad : Addr) (m c : Nat) (news : List Value) (hx : a.eval x = .slice (some ad) m c) (hl : news.length = m * size) (hnews : ∀ j u, news[j]? = some u → w.cell? (ad.add j) = some u) (h1 : ∀ u ∈ news, u.oneCell' = true)
    (h63 : n + m ≤ maxLen) (hbytes : (n + m) * bytes ≤ 140737488355328) (hbase : base ≤ w.heap.size)
    (hK : ∀ v' w', w'.ownsRow base e size v' (n + m) (xs ++ news) → w.grownBy w' v.ownBlock → (v'.ownBlock = v.ownBlock ∨ v'.ownBlock = some w.heap.size) → K (a.put o.dst v') w') :
    o.wp P a w K Q := by
  obtain ⟨v', w', hr, h2, h3, h4, h5⟩ := run_append_own_at (P := P) w base t o.type e i z size bytes ht hi hz hsize hby hzs hsz v n xs hown ad m c news hl hnews h1 h63 hbytes hbase
  unfold Oper.wp execOp
  simp only [hop, resolve, invoke, builtin, Sem.run_bind, Sem.run_pure, Result.andThen_ok, List.map_toArray, List.map_cons, List.map_nil, hs, hx, hr]
  exact hK v' w' h2 h3 h5
end
end Go.Proofs.YtkcdkfkgjjpaaaaGreatDoor
