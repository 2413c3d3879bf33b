/- Memory behind the document's own Put of a term that is new: the terms' slice grown, a row grown, the whole. -/
import Derived.Test.YtiiieailimphnaaGreatDoorTmR7
import Derived.Test.YtiiieailimphnaaGreatDoorTmW9
namespace Go.Proofs.YtiiieailimphnaaGreatDoor
open Go.RowKit Go.Maps
set_option linter.unusedVariables false
set_option linter.unusedSimpArgs false

theorem cells_new1 (w : World) (a : Value) (t : TypeId) : ∀ j u, ([a] : List Value)[j]? = some u → (w.alloc (.cells #[a] t)).cell? ((⟨w.heap.size, 0, none⟩ : Addr).add j) = some u := by
  intro j u hj
  match j, hj with
  | 0, hj => simp at hj; subst hj; simp [Addr.add]
  | j + 1, hj => simp at hj

theorem six_set4 {w : World} {g : Nat} {t : TypeId} {a b c d e f : Value} (h : w.heap[g]? = some (.cells #[a, b, c, d, e, f] t (0, 0))) (e' : Value) : (w.setCell ⟨g, 4, none⟩ e').heap[g]? = some (.cells #[a, b, c, d, e', f] t (0, 0)) := by
  simp [World.setCell, Array.getElem?_modify, h]
theorem six_set5 {w : World} {g : Nat} {t : TypeId} {a b c d e f : Value} (h : w.heap[g]? = some (.cells #[a, b, c, d, e, f] t (0, 0))) (f' : Value) : (w.setCell ⟨g, 5, none⟩ f').heap[g]? = some (.cells #[a, b, c, d, e, f'] t (0, 0)) := by
  simp [World.setCell, Array.getElem?_modify, h]

/-- Behind the first append: the terms' slice with one more. -/
def Mid8 (w6 : World) (R : Nat) (cs : Array Value) (vl : Value) (n : Nat) (xs : List Value) (w' : World) : Prop :=
  ∃ ao c, w'.heap[R]? = some (.cells (cs.setIfInBounds 0 (.slice ao (n + 1) c)) 32 (0, 0)) ∧ w'.ownsRow 0 35 6 (.slice ao (n + 1) c) (n + 1) xs ∧
    Turned (fun k => k = R ∨ vl.ownBlock = some k) w6 w' ∧ ∀ k, (Value.slice ao (n + 1) c).ownBlock = some k → vl.ownBlock = some k ∨ w6.heap.size ≤ k

theorem mid8_of {w6 w7 : World} {R n c : Nat} {cs : Array Value} {vl : Value} {ao : Option Addr} {xs : List Value} {o : Obj} (hR : R < w6.heap.size) (hnR : vl.ownBlock ≠ some R) (hbx7 : w7.heap[R]? = some (.cells cs 32 (0, 0)))
    (hown : w7.ownsRow 0 35 6 (.slice ao (n + 1) c) (n + 1) xs) (hgrow : (w6.drew.alloc o).grownBy w7 vl.ownBlock) (hat : (Value.slice ao (n + 1) c).ownBlock = vl.ownBlock ∨ (Value.slice ao (n + 1) c).ownBlock = some (w6.drew.alloc o).heap.size) :
    Mid8 w6 R cs vl n xs (w7.setCell ⟨R, 0, none⟩ (.slice ao (n + 1) c)) := by
  have hs : (w6.drew.alloc o).heap.size = w6.heap.size + 1 := by rw [World.size_alloc]; rfl
  rw [hs] at hat
  refine ⟨ao, c, by simp [World.setCell, Array.getElem?_modify, hbx7], owns_keep hown (fun g hg => Below.heap_setCell w7 ⟨R, 0, none⟩ _ g ?_), (((Turned.refl _ w6).drew.alloc o).grown hgrow (fun k hk => .inl (.inr hk))).setCell (.inl (.inl rfl)) _, fun k hk => ?_⟩
  · simp only
    rintro rfl
    rcases hat with e | e
    · rw [hg] at e; exact hnR e.symm
    · rw [hg] at e; simp only [Option.some.injEq] at e; omega
  · rcases hat with e | e
    · rw [hk] at e; exact .inl e.symm
    · rw [hk] at e; simp only [Option.some.injEq] at e; exact .inr (by omega)

/-- Behind the second append: a row with one more. -/
def Mid9 (w7 : World) (R : Nat) (cs : Array Value) (vl' : Value) (zn : Nat) (rz : Value) (m : Nat) (xs : List Value) (w' : World) : Prop :=
  ∃ v, w'.heap[R]? = some (.cells ((cs.setIfInBounds 0 vl').setIfInBounds (1 + zn) v) 32 (0, 0)) ∧ w'.ownsRow 0 3 1 v (m + 1) xs ∧
    Turned (fun k => k = R ∨ rz.ownBlock = some k) w7 w' ∧ ∀ k, v.ownBlock = some k → rz.ownBlock = some k ∨ w7.heap.size ≤ k

theorem mid9_of {w7 w8 w9 : World} {R zn m : Nat} {cs : Array Value} {vl' rz v : Value} {xs : List Value} (hR : R < w7.heap.size) (hnR : rz.ownBlock ≠ some R) (hU : Up w7 w8) (hbx9 : w9.heap[R]? = some (.cells (cs.setIfInBounds 0 vl') 32 (0, 0)))
    (hown : w9.ownsRow 0 3 1 v (m + 1) xs) (hgrow : w8.grownBy w9 rz.ownBlock) (hat : v.ownBlock = rz.ownBlock ∨ v.ownBlock = some w8.heap.size) :
    Mid9 w7 R cs vl' zn rz m xs (w9.setCell ⟨R, 1 + zn, none⟩ v) := by
  have hs : w7.heap.size ≤ w8.heap.size := hU.size
  refine ⟨v, by simp [World.setCell, Array.getElem?_modify, hbx9], owns_keep hown (fun g hg => Below.heap_setCell w9 ⟨R, 1 + zn, none⟩ _ g ?_), (((Turned.refl _ w7).trans (upTurned hU) (fun i _ hi => hi)).grown hgrow (fun k hk => .inl (.inr hk))).setCell (.inl (.inl rfl)) _, fun k hk => ?_⟩
  · simp only
    rintro rfl
    rcases hat with e | e
    · rw [hg] at e; exact hnR e.symm
    · rw [hg] at e; simp only [Option.some.injEq] at e; omega
  · rcases hat with e | e
    · rw [hk] at e; exact .inl e.symm
    · rw [hk] at e; simp only [Option.some.injEq] at e; exact .inr (by omega)

theorem owns_apart {w : World} {g : Nat} {e e' : TypeId} {base size n base' size' n' : Nat} {v v' : Value} {xs xs' : List Value} (h : w.ownsRow base e size v n xs) (h' : w.ownsRow base' e' size' v' n' xs') (he : e ≠ e') (hg : v.ownBlock = some g) : v'.ownBlock ≠ some g := fun hg' => by
  obtain ⟨c, h1⟩ := owns_type h hg
  obtain ⟨c', h2⟩ := owns_type h' hg'
  rw [h1] at h2
  simp only [Option.some.injEq, Obj.cells.injEq] at h2
  exact he h2.2.1

theorem RefPut.up {F : Nat → Prop} {w w1 w2 : World} {R : Nat} {s : List Tm.T} {t : Tm.T} {r : Ending} (h : RefPut F w R s t r w1) (hu : Up w1 w2) : RefPut F w R s t r w2 :=
  ⟨h.1, h.2.1.up hu, h.2.2.trans (upTurned hu) (fun i hi hf => hf)⟩

/-- The whole: what Put leaves of a term that is new. -/
theorem refput_end {F : Nat → Prop} {w w6 w7 w9 : World} {R n zn : Nat} {s : List Tm.T} {t : Tm.T} {vl vl' v1 v2 : Value} {rows : Nat → Value} {ts : List TRow} {cs : Array Value}
    (hA : RefAt w6 R vl rows ts) (hlt : ∀ k, RFoot R vl rows ts k → k < w.heap.size) (hU6 : Up w w6) (hts : ts.map (·.1) = s) (hF : ∀ k, RFoot R vl rows ts k → F k)
    (hcs : cs.size = 513 ∧ cs[0]? = some vl ∧ ∀ j, j < 512 → cs[1 + j]? = some (rows j)) (hn : n = ts.length) (hm : t.may s.length = true) (hin : t ∉ s) (hz : zn < 512) (hzn : Tm.refSum t = (zn : Int))
    (h1 : w6.ownsRow (w.heap.size + 1) 3 1 v1 t.names.length (vals t.names)) (h2 : w6.ownsRow (w.heap.size + 1) 75 2 v2 t.pairs.length (cellsP t.pairs))
    (hrow7 : w7.ownsRow 0 35 6 vl' (n + 1) (cellsT ts ++ tcells t v1 v2)) (hT7 : Turned (fun k => k = R ∨ vl.ownBlock = some k) w6 w7) (hat7 : ∀ k, vl'.ownBlock = some k → vl.ownBlock = some k ∨ w6.heap.size ≤ k)
    (h9 : Mid9 w7 R cs vl' zn (rows zn) (Tm.rowOf s zn).length (ints (Tm.rowOf s zn) ++ [.int .i64 (n : Nat)]) w9) :
    RefPut F w R s t (.returned (.int .i64 (n : Nat))) w9 := by
  obtain ⟨v, hbx9, hown9, hT9, hat9⟩ := h9
  obtain ⟨cs0, hb0, -⟩ := hA.box
  have hsl : s.length = n := by rw [← hts, List.length_map, hn]
  have hput : Tm.put s t = (some n, s ++ [t]) := by rw [Tm.put, if_pos hm, if_neg hin, hsl]
  have hw6 := hU6.size
  have hw7 := hT7.size
  have hRlt := hlt R (.inl rfl)
  -- a block of the store, that is neither the box nor the terms' nor the row's
  have keep : ∀ k, k < w6.heap.size → k ≠ R → vl.ownBlock ≠ some k → (rows zn).ownBlock ≠ some k → w9.heap[k]? = w6.heap[k]? := fun k hk a b c =>
    (hT9.block k (by omega) (fun e => e.elim a c)).trans (hT7.block k hk (fun e => e.elim a b))
  have notR : ∀ {e : TypeId} {base size m : Nat} {u : Value} {xs : List Value}, w6.ownsRow base e size u m xs → e ≠ 32 → ∀ k, u.ownBlock = some k → k ≠ R := fun h he k hk => by
    rintro rfl
    obtain ⟨c, hc⟩ := owns_type h hk
    rw [hb0] at hc
    simp only [Option.some.injEq, Obj.cells.injEq] at hc
    exact he hc.2.1.symm
  have hrz := hA.rws zn hz
  have own6 : ∀ x ∈ ts, TOwn w9 x.1 x.2.1 x.2.2 := fun x hx => by
    have ho := hA.own x hx
    refine ho.keep (fun k hk => keep k (hk.elim (owns_lt ho.n) (owns_lt ho.p)) ?_ ?_ ?_)
    · exact hk.elim (notR ho.n (by decide) k) (notR ho.p (by decide) k)
    · exact hk.elim (owns_apart ho.n hA.row (by decide)) (owns_apart ho.p hA.row (by decide))
    · rcases hk with hk | hk
      · exact fun e => hA.apartT zn k hz e x hx hk
      · exact owns_apart ho.p hrz (by decide) hk
  have hrows : ∀ j k, j < 512 → (rows j).ownBlock = some k → k < w.heap.size := fun j k hj hk => hlt k (.inr (.inr (.inl ⟨j, hj, hk⟩)))
  have ownNew : TOwn w9 t v1 v2 := ⟨owns_base (owns_keep h1 (fun k hk => keep k (owns_lt h1 hk) (notR h1 (by decide) k hk) (owns_apart h1 hA.row (by decide) hk) (fun e => by have := (h1.lt k hk).1; have := hrows zn k hz e; omega))) (Nat.zero_le _),
    owns_base (owns_keep h2 (fun k hk => keep k (owns_lt h2 hk) (notR h2 (by decide) k hk) (owns_apart h2 hA.row (by decide) hk) (owns_apart h2 hrz (by decide) hk))) (Nat.zero_le _)⟩
  refine ⟨by rw [hput], ?_, ?_⟩
  · rw [hput]
    refine ⟨vl', fun j => if j = zn then v else rows j, ts ++ [(t, v1, v2)], by simp [hts], ⟨⟨_, hbx9, by simp [hcs.1], ?_, fun j hj => ?_⟩, ?_, fun j hj => ?_, ?_, ?_, ?_, ?_⟩, ?_⟩
    · have := hcs.1
      rw [Array.getElem?_setIfInBounds_ne (by omega), Array.getElem?_setIfInBounds_self_of_lt (by omega)]
    · by_cases e : j = zn
      · subst e
        rw [if_pos rfl, Array.getElem?_setIfInBounds_self_of_lt (by simp [hcs.1]; omega)]
      · rw [if_neg e, Array.getElem?_setIfInBounds_ne (by omega), Array.getElem?_setIfInBounds_ne (by omega)]
        exact hcs.2.2 j hj
    · simp only [List.length_append, List.length_singleton, ← hn, cellsT_append]
      have e : cellsT [(t, v1, v2)] = tcells t v1 v2 := by simp [cellsT]
      rw [e]
      refine owns_keep hrow7 (fun k hk => hT9.block k (owns_lt hrow7 hk) ?_)
      rintro (rfl | hr)
      · rcases hat7 k hk with h | h
        · exact notR hA.row (by decide) k h rfl
        · omega
      · rcases hat7 k hk with h | h
        · exact owns_apart hA.row hrz (by decide) h hr
        · have := hrows zn k hz hr; omega
    · simp only [List.map_append, List.map_cons, List.map_nil, hts, Tm.rowOf_snoc]
      by_cases e : j = zn
      · subst e
        rw [if_pos hzn, if_pos rfl, List.length_append, List.length_singleton, ints_append, hsl]
        exact hown9
      · rw [if_neg (show ¬ Tm.refSum t = (j : Int) by rw [hzn]; omega), if_neg e]
        have hj' := hA.rws j hj
        rw [hts] at hj'
        exact owns_keep hj' (fun k hk => keep k (owns_lt hj' hk) (notR hj' (by decide) k hk) (owns_apart hj' hA.row (by decide) hk) (fun e2 => e (hA.apart j zn k hj hz hk e2)))
    · intro x hx
      rw [List.mem_append, List.mem_singleton] at hx
      rcases hx with hx | rfl
      · exact own6 x hx
      · exact ownNew
    · intro i j k hi hj hki hkj
      by_cases ei : i = zn
      · by_cases ej : j = zn
        · omega
        · rw [if_pos ei] at hki
          rw [if_neg ej] at hkj
          rcases hat9 k hki with h | h
          · exact ei.trans (hA.apart zn j k hz hj h hkj)
          · have := hrows j k hj hkj; omega
      · rw [if_neg ei] at hki
        by_cases ej : j = zn
        · rw [if_pos ej] at hkj
          rcases hat9 k hkj with h | h
          · exact (hA.apart i zn k hi hz hki h).trans ej.symm
          · have := hrows i k hi hki; omega
        · rw [if_neg ej] at hkj
          exact hA.apart i j k hi hj hki hkj
    · intro j k hj hk x hx
      rw [List.mem_append, List.mem_singleton] at hx
      by_cases e : j = zn
      · rw [if_pos e] at hk
        rcases hat9 k hk with h | h
        · rcases hx with hx | rfl
          · exact hA.apartT zn k hz h x hx
          · intro e2; have := (h1.lt k e2).1; have := hrows zn k hz h; omega
        · rcases hx with hx | rfl
          · intro e2; have := hlt k (.inr (.inr (.inr ⟨x, hx, .inl e2⟩))); omega
          · intro e2; have := owns_lt h1 e2; omega
      · rw [if_neg e] at hk
        rcases hx with hx | rfl
        · exact hA.apartT j k hj hk x hx
        · intro e2; have := (h1.lt k e2).1; have := hrows j k hj hk; omega
    · have := Tm.put_inv (t := t) hA.inv
      rw [hts, hput] at this
      simpa [hts] using this
    · rintro k (rfl | hk | ⟨j, hj, hk⟩ | ⟨x, hx, hk⟩)
      · exact .inl (hF k (.inl rfl))
      · rcases hat7 k hk with h | h
        · exact .inl (hF k (.inr (.inl h)))
        · exact .inr (by omega)
      · have hk : (if j = zn then v else rows j).ownBlock = some k := hk
        by_cases e : j = zn
        · rw [if_pos e] at hk
          rcases hat9 k hk with h | h
          · exact .inl (hF k (.inr (.inr (.inl ⟨zn, hz, h⟩))))
          · exact .inr (by omega)
        · rw [if_neg e] at hk
          exact .inl (hF k (.inr (.inr (.inl ⟨j, hj, hk⟩))))
      · rw [List.mem_append, List.mem_singleton] at hx
        rcases hx with hx | rfl
        · exact .inl (hF k (.inr (.inr (.inr ⟨x, hx, hk⟩))))
        · exact .inr (by rcases hk with hk | hk; have := (h1.lt k hk).1; omega; have := (h2.lt k hk).1; omega)
  · refine ((upTurned hU6).trans hT7 (fun k hk hs => ?_)).trans hT9 (fun k hk hs => ?_)
    · rcases hs with rfl | hs
      · exact hF k (.inl rfl)
      · exact hF k (.inr (.inl hs))
    · rcases hs with rfl | hs
      · exact hF k (.inl rfl)
      · exact hF k (.inr (.inr (.inl ⟨zn, hz, hs⟩)))

end Go.Proofs.YtiiieailimphnaaGreatDoor
