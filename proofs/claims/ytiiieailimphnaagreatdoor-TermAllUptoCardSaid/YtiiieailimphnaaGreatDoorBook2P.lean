/- The book of lists of integers and of pairs: Ints. Begun from the text of the book of integers alone (BookInts). The book of lists of integers and of pairs: Pairs. Begun from the text of the book of integers alone (BookInts). -/
import Derived.Test.YtiiieailimphnaaGreatDoorLst
import Derived.Deep.RegionLaw
import Derived.BigRegion
import Derived.Deep.DeepCutAuto
import Derived.Maps.AppendAt
import Derived.Deep.AppendLies
import Derived.Test.YtiiieailimphnaaGreatDoorBookMarkP

namespace Go.Proofs.YtiiieailimphnaaGreatDoor.B2
open Go.RowKit
set_option linter.unusedVariables false
set_option linter.unusedSimpArgs false

/-- A list that the book keeps: the list, the copy that was made at once, what both hold. -/
structure Ent where
  v : Value
  u : Value
  xs : List Int

/-- A slice's own block, as a list. -/
def blk (v : Value) : List Nat := v.ownBlock.toList

def entBlocks (es : List Ent) : List Nat := es.flatMap fun e => blk e.v ++ blk e.u

theorem mem_blk {v : Value} {g : Nat} : g ∈ blk v ↔ v.ownBlock = some g := by simp [blk]

theorem entBlocks_snoc (es : List Ent) (e : Ent) : entBlocks (es ++ [e]) = entBlocks es ++ (blk e.v ++ blk e.u) := by simp [entBlocks]

theorem mem_entBlocks {es : List Ent} {g : Nat} : g ∈ entBlocks es ↔ ∃ e ∈ es, e.v.ownBlock = some g ∨ e.u.ownBlock = some g := by
  simp only [entBlocks, List.mem_flatMap, List.mem_append, mem_blk]

/-- A book that keeps lists of integers alone. -/
structure BookAt (w : World) (bk : Nat) (vi vw vp vq : Value) (es : List Ent) : Prop where
  box : w.heap[bk]? = some (.cells #[vi, vw, .slice none 0 0, .slice none 0 0, .slice none 0 0, .slice none 0 0, .slice none 0 0, .slice none 0 0, .slice none 0 0, .slice none 0 0, .slice none 0 0, .slice none 0 0, .slice none 0 0, .slice none 0 0, vp, vq, .slice none 0 0, .slice none 0 0, .slice none 0 0, .slice none 0 0, .slice none 0 0, .slice none 0 0] 49 (0, 0))
  ri : w.ownsRow 0 29 1 vi es.length (es.map (·.v))
  rw : w.ownsRow 0 29 1 vw es.length (es.map (·.u))
  ap : ∀ g, vi.ownBlock = some g → vw.ownBlock ≠ some g
  ent : ∀ e ∈ es, w.ownsRow 0 3 1 e.v e.xs.length (e.xs.map (Value.int .i64)) ∧ w.ownsRow 0 3 1 e.u e.xs.length (e.xs.map (Value.int .i64))
  nd : (entBlocks es).Nodup
  sz : ∀ e ∈ es, e.xs.length ≤ 900000

/-- The book's blocks; and those of them that Ints writes. -/
def BkFoot (bk : Nat) (vi vw : Value) (es : List Ent) (k : Nat) : Prop := k = bk ∨ vi.ownBlock = some k ∨ vw.ownBlock = some k ∨ k ∈ entBlocks es
def BkOwn (bk : Nat) (vi vw : Value) (k : Nat) : Prop := k = bk ∨ vi.ownBlock = some k ∨ vw.ownBlock = some k

theorem BookAt.keep {w w' : World} {bk : Nat} {vi vw vp vq : Value} {es : List Ent} (h : BookAt w bk vi vw vp vq es) (hk : ∀ k, BkFoot bk vi vw es k → w'.heap[k]? = w.heap[k]?) : BookAt w' bk vi vw vp vq es :=
  ⟨(hk bk (.inl rfl)).trans h.box, owns_keep h.ri (fun g hg => hk g (.inr (.inl hg))), owns_keep h.rw (fun g hg => hk g (.inr (.inr (.inl hg)))), h.ap,
    fun e he => ⟨owns_keep (h.ent e he).1 (fun g hg => hk g (.inr (.inr (.inr (mem_entBlocks.2 ⟨e, he, .inl hg⟩))))), owns_keep (h.ent e he).2 (fun g hg => hk g (.inr (.inr (.inr (mem_entBlocks.2 ⟨e, he, .inr hg⟩)))))⟩, h.nd, h.sz⟩

theorem BookAt.foot_lt {w : World} {bk k : Nat} {vi vw vp vq : Value} {es : List Ent} (h : BookAt w bk vi vw vp vq es) (hk : BkFoot bk vi vw es k) : k < w.heap.size := by
  rcases hk with rfl | hk | hk | hk
  · exact (Array.getElem?_eq_some_iff.1 h.box).1
  · exact owns_lt h.ri hk
  · exact owns_lt h.rw hk
  · obtain ⟨e, he, hk | hk⟩ := mem_entBlocks.1 hk
    · exact owns_lt (h.ent e he).1 hk
    · exact owns_lt (h.ent e he).2 hk

theorem BookAt.up {w w' : World} {bk : Nat} {vi vw vp vq : Value} {es : List Ent} (h : BookAt w bk vi vw vp vq es) (hu : Up w w') : BookAt w' bk vi vw vp vq es :=
  h.keep (fun k hk => hu.block k (h.foot_lt hk))

/-- What Ints leaves. -/
def IntsDone (w : World) (bk : Nat) (vi vw vp vq : Value) (es : List Ent) (v : Value) (xs : List Int) (r : Ending) (w' : World) : Prop :=
  r = .returned (.tuple #[]) ∧ ∃ vi' vw' es', BookAt w' bk vi' vw' vp vq es' ∧ es'.length ≤ 400 ∧ (es' = es ∨ ∃ u, es' = es ++ [⟨v, u, xs⟩] ∧ ∀ g, u.ownBlock = some g → w.heap.size ≤ g) ∧
    (∀ k, BkFoot bk vi' vw' es' k → BkFoot bk vi vw es k ∨ v.ownBlock = some k ∨ w.heap.size ≤ k) ∧ Turned (BkOwn bk vi vw) w w'

/-- append ONTO A SLICE THAT THE CALL OWNS, as one step of a region that draws its order. -/
theorem step_append_book {P : Program} {ops : Array Oper} {o : Oper} {a : Act} {w : World} {K : Act → World → Prop} {Q : Exit → Act → World → Prop} {E : Prop}
    (hg : o.guard = none) (s x : Operand) (t : TypeId) (hop : o.op = Op.call { callee := Callee.builtin Builtin.append, args := #[s, x], argTypes := #[t, t] })
    (base : Nat) (e : TypeId) (i : TypeInfo) (z : Value) (size bytes : Nat) (ht : P.underlying t = some (.slice e)) (hi : P.info? e = some i) (hz : i.zero = some z)
    (hsize : i.size = size) (hby : i.bytes = bytes) (hzs : z.cells.size = size) (hsz : 0 < size)
    (v : Value) (n : Nat) (xs : List Value) (hs : a.eval s = v) (hown : w.ownsRow base e size v n xs)
    (ad : Addr) (m c : Nat) (news : List Value) (hx : a.eval x = .slice (some ad) m c) (hl : news.length = m * size) (hnews : ∀ j u, news[j]? = some u → w.cell? (ad.add j) = some u) (h1 : ∀ u ∈ news, u.oneCell' = true)
    (h63 : n + m ≤ maxLen) (hbytes : (n + m) * bytes ≤ 140737488355328) (hbase : base ≤ w.heap.size)
    (hK : ∀ v' w', w'.ownsRow base e size v' (n + m) (xs ++ news) → w.grownBy w' v.ownBlock → (v'.ownBlock = v.ownBlock ∨ v'.ownBlock = some w.heap.size) → K (a.put o.dst v') w') :
    if Region.wanted o (yielded ops a.tmps) = true then Oper.wp P o a w K Q else E := by
  have hw : Region.wanted o (yielded ops a.tmps) = true := by simp [Region.wanted, hg]
  rw [if_pos hw]
  obtain ⟨v', w', hr, h2, h3, h4, h5⟩ := run_append_own_at (P := P) w base t o.type e i z size bytes ht hi hz hsize hby hzs hsz v n xs hown ad m c news hl hnews h1 h63 hbytes hbase
  unfold Oper.wp execOp
  simp only [hop, resolve, invoke, builtin, Sem.run_bind, Sem.run_pure, Result.andThen_ok, List.map_toArray, List.map_cons, List.map_nil, hs, hx, hr]
  exact hK v' w' h2 h3 h5

theorem Tryz.sliceInfo : (Tryz.prog.info? 29).map (fun i => (i.zero, i.size, i.bytes)) = some (some (.slice none 0 0), 1, 24) := by kernel_rfl
theorem Tryz.intInfoB : (Tryz.prog.info? 3).map (fun i => (i.zero, i.size, i.bytes)) = some (some (.int .i64 0), 1, 8) := by kernel_rfl

theorem one_cell_slice (a : Option Addr) (n c : Nat) : ∀ u ∈ [Value.slice a n c], u.oneCell' = true := by
  intro u hu
  simp only [List.mem_singleton] at hu
  subst hu; rfl

end Go.Proofs.YtiiieailimphnaaGreatDoor.B2

namespace Go.Proofs.YtiiieailimphnaaGreatDoor.B2
open Go.RowKit
set_option linter.unusedVariables false
set_option linter.unusedSimpArgs false

theorem step_append_nil {P : Program} {ops : Array Oper} {o : Oper} {a : Act} {w : World} {K : Act → World → Prop} {Q : Exit → Act → World → Prop} {E : Prop}
    (hg : o.guard = none) (s x : Operand) (t : TypeId) (hop : o.op = Op.call { callee := Callee.builtin Builtin.append, args := #[s, x], argTypes := #[t, t] })
    (e : TypeId) (i : TypeInfo) (ht : P.underlying t = some (.slice e)) (hi : P.info? e = some i) (hs : a.eval s = .slice none 0 0) (hx : a.eval x = .slice none 0 0)
    (hK : K (a.put o.dst (.slice none 0 0)) w) : if Region.wanted o (yielded ops a.tmps) = true then Oper.wp P o a w K Q else E := by
  have hw : Region.wanted o (yielded ops a.tmps) = true := by simp [Region.wanted, hg]
  rw [if_pos hw]
  have hr : (Builtin.append_ #[t, t] o.type #[.slice none 0 0, .slice none 0 0]).run P w = .ok (.slice none 0 0) w := by
    simp [Builtin.append_, run_underlying ht, sizeOf, typeInfo, hi, Builtin.lenOf, Builtin.firstCells]
  unfold Oper.wp execOp
  simp only [hop, resolve, invoke, builtin, Sem.run_bind, Sem.run_pure, Result.andThen_ok, List.map_toArray, List.map_cons, List.map_nil, hs, hx, hr]
  exact hK

theorem own_slice (ao : Option Addr) (m c m' c' : Nat) : (Value.slice ao m c).ownBlock = (Value.slice ao m' c').ownBlock := by cases ao <;> rfl

theorem own_not_bk {w : World} {bk g : Nat} {e : TypeId} {base size n : Nat} {v : Value} {xs cs : List Value} (h : w.ownsRow base e size v n xs) (hb : w.heap[bk]? = some (.cells cs.toArray 49 (0, 0))) (he : e ≠ 49) (hg : v.ownBlock = some g) : g ≠ bk := by
  rintro rfl
  obtain ⟨cur, hh⟩ := owns_type h hg
  rw [hb] at hh
  simp only [Option.some.injEq, Obj.cells.injEq] at hh
  exact he hh.2.1.symm

theorem owns_type_ne {w : World} {g : Nat} {e e' : TypeId} {base size n base' size' n' : Nat} {v v' : Value} {xs xs' : List Value} (h : w.ownsRow base e size v n xs) (h' : w.ownsRow base' e' size' v' n' xs') (he : e ≠ e') (hg : v.ownBlock = some g) : v'.ownBlock ≠ some g := by
  intro hg'
  obtain ⟨cur, hh⟩ := owns_type h hg
  obtain ⟨cur2, hh2⟩ := owns_type h' hg'
  rw [hh] at hh2
  simp only [Option.some.injEq, Obj.cells.injEq] at hh2
  exact he hh2.2.1

theorem ints_end {w w3 w6 w7 : World} {bk m n : Nat} {vi vw vp vq vi' vw' v u : Value} {es : List Ent} {xs : List Int} {o : Obj} (H : BookAt w bk vi vw vp vq es) (hm : m = es.length) (hlt : m < 400) (hn : n = xs.length)
    (hv : w.ownsRow 0 3 1 v xs.length (xs.map (Value.int .i64))) (hN : ∀ g, v.ownBlock = some g → g ∉ entBlocks es) (T3 : Turned (BkOwn bk vi vw) w w3)
    (hb7 : w7.heap[bk]? = some (.cells #[vi', vw, .slice none 0 0, .slice none 0 0, .slice none 0 0, .slice none 0 0, .slice none 0 0, .slice none 0 0, .slice none 0 0, .slice none 0 0, .slice none 0 0, .slice none 0 0, .slice none 0 0, .slice none 0 0, vp, vq, .slice none 0 0, .slice none 0 0, .slice none 0 0, .slice none 0 0, .slice none 0 0, .slice none 0 0] 49 (0, 0)))
    (own3 : w3.ownsRow 0 29 1 vi' (m + 1) (es.map (·.v) ++ [v])) (hai : ∀ g, vi'.ownBlock = some g → vw.ownBlock ≠ some g) (hia : ∀ g, vi'.ownBlock = some g → vi.ownBlock = some g ∨ w.heap.size ≤ g)
    (own6 : w6.ownsRow w.heap.size 3 1 u n (xs.map (Value.int .i64))) (gr6 : w3.drew.grownBy w6 none) (own7 : w7.ownsRow 0 29 1 vw' (m + 1) (es.map (·.u) ++ [u]))
    (gr7 : (w6.alloc o).grownBy w7 vw.ownBlock) (at7 : vw'.ownBlock = vw.ownBlock ∨ vw'.ownBlock = some (w6.alloc o).heap.size) (hxl : n ≤ 900000) :
    IntsDone w bk vi vw vp vq es v xs (.returned (.tuple #[])) (w7.setCell ⟨bk, 1, none⟩ vw') := by
  subst hm hn
  have hs3 := T3.size
  have hs6 : w3.heap.size ≤ w6.heap.size := gr6.size
  have hbw : bk < w.heap.size := (Array.getElem?_eq_some_iff.1 H.box).1
  have hvil : ∀ g, vi.ownBlock = some g → g < w.heap.size := fun g hg => owns_lt H.ri hg
  have hvwl : ∀ g, vw.ownBlock = some g → g < w.heap.size := fun g hg => owns_lt H.rw hg
  -- what stands from w3 on, and from w6 on
  have from6 : ∀ k, k < w6.heap.size → k ≠ bk → vw.ownBlock ≠ some k → (w7.setCell ⟨bk, 1, none⟩ vw').heap[k]? = w6.heap[k]? := by
    intro k hk h1 h2
    rw [Below.heap_setCell _ _ _ _ h1]
    exact (gr7.block k (by simp; omega) (fun e => h2 e.symm)).trans (Below.heap_alloc _ _ _ hk)
  have from3 : ∀ k, k < w3.heap.size → k ≠ bk → vw.ownBlock ≠ some k → (w7.setCell ⟨bk, 1, none⟩ vw').heap[k]? = w3.heap[k]? := by
    intro k hk h1 h2
    exact (from6 k (by omega) h1 h2).trans (gr6.block k hk (by simp))
  have from0 : ∀ k, k < w.heap.size → k ≠ bk → vi.ownBlock ≠ some k → vw.ownBlock ≠ some k → (w7.setCell ⟨bk, 1, none⟩ vw').heap[k]? = w.heap[k]? := by
    intro k hk h1 h2 h3
    refine (from3 k (by omega) h1 h3).trans (T3.block k hk ?_)
    rintro (h | h | h)
    · exact h1 h
    · exact h2 h
    · exact h3 h
  have keepI : ∀ {v0 : Value} {n0 : Nat} {ys : List Value}, w.ownsRow 0 3 1 v0 n0 ys → (w7.setCell ⟨bk, 1, none⟩ vw').ownsRow 0 3 1 v0 n0 ys := by
    intro v0 n0 ys h
    refine owns_keep h (fun g hg => from0 g (owns_lt h hg) ?_ (owns_type_ne h H.ri (by decide) hg) (owns_type_ne h H.rw (by decide) hg))
    rintro rfl
    obtain ⟨cur, hh⟩ := owns_type h hg
    have := H.box; rw [hh] at this; simp at this
  have hu0 : ∀ g, u.ownBlock = some g → w.heap.size ≤ g ∧ g < w6.heap.size := fun g hg => own6.lt g hg
  have own6' : (w7.setCell ⟨bk, 1, none⟩ vw').ownsRow 0 3 1 u xs.length (xs.map (Value.int .i64)) := by
    refine owns_keep (owns_base own6 (Nat.zero_le _)) (fun g hg => from6 g (hu0 g hg).2 ?_ ?_)
    · have := (hu0 g hg).1; omega
    · intro hc; have := (hu0 g hg).1; have := hvwl g hc; omega
  have hvib : ∀ g, vi'.ownBlock = some g → g ≠ bk := by
    intro g hg
    rcases hia g hg with h | h
    · rintro rfl
      obtain ⟨cur, hh⟩ := owns_type H.ri h
      have := H.box; rw [hh] at this; simp at this
    · omega
  have hvwb : ∀ g, vw'.ownBlock = some g → g ≠ bk := by
    rintro g hg rfl
    obtain ⟨cur, hh⟩ := owns_type own7 hg
    rw [hb7] at hh; simp at hh
  refine ⟨rfl, vi', vw', es ++ [⟨v, u, xs⟩], ⟨?_, ?_, ?_, ?_, ?_, ?_, ?_⟩, by simp; omega, .inr ⟨u, rfl, fun g hg => (hu0 g hg).1⟩, ?_, ?_⟩
  · simp [World.setCell, Array.getElem?_modify, hb7]
  · have : (w7.setCell ⟨bk, 1, none⟩ vw').ownsRow 0 29 1 vi' (es.length + 1) (es.map (·.v) ++ [v]) := owns_keep own3 (fun g hg => from3 g (owns_lt own3 hg) (hvib g hg) (hai g hg))
    simpa using this
  · have : (w7.setCell ⟨bk, 1, none⟩ vw').ownsRow 0 29 1 vw' (es.length + 1) (es.map (·.u) ++ [u]) := owns_keep own7 (fun g hg => Below.heap_setCell _ _ _ _ (hvwb g hg))
    simpa using this
  · intro g hg hc
    rcases at7 with e | e
    · rw [e] at hc; exact hai g hg hc
    · rw [e] at hc
      have := owns_lt own3 hg
      simp at hc; omega
  · intro e he
    rcases List.mem_append.1 he with he | he
    · exact ⟨keepI (H.ent e he).1, keepI (H.ent e he).2⟩
    · obtain rfl := List.mem_singleton.1 he
      exact ⟨keepI hv, own6'⟩
  · rw [entBlocks_snoc]
    refine List.nodup_append.2 ⟨H.nd, ?_, ?_⟩
    · refine List.nodup_append.2 ⟨?_, ?_, ?_⟩
      · cases h : v.ownBlock <;> simp [blk, h]
      · cases h : u.ownBlock <;> simp [blk, h]
      · intro a ha b hb e
        subst e
        have h1 := owns_lt hv (mem_blk.1 ha)
        have h2 := (hu0 a (mem_blk.1 hb)).1
        omega
    · intro a ha b hb e
      subst e
      rcases List.mem_append.1 hb with hb | hb
      · exact hN a (mem_blk.1 hb) ha
      · have h1 := H.foot_lt (.inr (.inr (.inr ha)))
        have h2 := (hu0 a (mem_blk.1 hb)).1
        omega
  · intro e he
    rcases List.mem_append.1 he with he | he
    · exact H.sz e he
    · obtain rfl := List.mem_singleton.1 he
      exact hxl
  · intro k hk
    rcases hk with rfl | hk | hk | hk
    · exact .inl (.inl rfl)
    · rcases hia k hk with h | h
      · exact .inl (.inr (.inl h))
      · exact .inr (.inr h)
    · rcases at7 with e | e
      · rw [e] at hk; exact .inl (.inr (.inr (.inl hk)))
      · rw [e] at hk; simp at hk; right; right; omega
    · rw [entBlocks_snoc] at hk
      rcases List.mem_append.1 hk with hk | hk
      · exact .inl (.inr (.inr (.inr hk)))
      · rcases List.mem_append.1 hk with hk | hk
        · exact .inr (.inl (mem_blk.1 hk))
        · exact .inr (.inr (hu0 k (mem_blk.1 hk)).1)
  · have t6 : Turned (BkOwn bk vi vw) w w6 := T3.drew.grown gr6 (fun k hk => by cases hk)
    exact ((t6.alloc o).grown gr7 (fun k hk => .inl (.inr (.inr hk)))).setCell (p := ⟨bk, 1, none⟩) (.inl (.inl rfl)) _

set_option maxHeartbeats 4000000 in
set_option maxRecDepth 100000 in
theorem bookInts {w : World} {bk : Nat} {vi vw vp vq v : Value} {es : List Ent} {xs : List Int} (h : BookAt w bk vi vw vp vq es) (hl : es.length ≤ 400) (hv : w.ownsRow 0 3 1 v xs.length (xs.map (Value.int .i64))) (hx : xs.length ≤ 900000)
    (hn : ∀ g, v.ownBlock = some g → g ∉ entBlocks es) : Calls Tryz.prog 11 #[.pointer (some ⟨bk, 0, none⟩), v] w (IntsDone w bk vi vw vp vq es v xs) := by
  obtain ⟨i0, hi, hz0, hz1, hz2⟩ := info_parts Tryz.sliceInfo
  obtain ⟨j0, hj, hy0, hy1, hy2⟩ := info_parts Tryz.intInfoB
  obtain ⟨ao, ci, rfl⟩ := owns_shape' h.ri
  obtain ⟨bo, cw, rfl⟩ := owns_shape' h.rw
  have c0 : w.cell? ⟨bk, 0, none⟩ = some (.slice ao es.length ci) := by simp [World.cell?, h.box]
  have f0 : w.frozen? ⟨bk, 0, none⟩ = false := by simp [World.frozen?, h.box]
  have hbl : bk < w.heap.size := (Array.getElem?_eq_some_iff.1 h.box).1
  by_cases hfull : es.length = 400
  · have H := Lib.hid h
    obtain ⟨m, hm⟩ : ∃ m, m = es.length := ⟨_, rfl⟩
    have hm4 : m = 400 := by omega
    rw [← hm] at c0
    subst hm4
    have H4 := Lib.hid hm
    obtain ⟨vo, vc, rfl⟩ := owns_shape' hv
    clear h hl hv hn hfull hm f0
    go_enter Tryz.func11, Tryz.ntmps11
    go_wp2_with fail
    go_end0
    exact ⟨rfl, _, _, es, H.out, by rw [← H4.out]; exact Nat.le_refl _, .inl rfl, fun k hk => .inl hk, Turned.refl _ _⟩
  · have hlt : es.length < 400 := by omega
    have hri := h.ri
    have hrw := h.rw
    obtain ⟨m, hm⟩ : ∃ m, m = es.length := ⟨_, rfl⟩
    rw [← hm] at c0 hlt hri hrw
    have HM := Lib.hid hm
    have H := Lib.hid h
    have HV := Lib.hid hv
    have HN := Lib.hid hn
    have hap := h.ap
    obtain ⟨vo, vc, rfl⟩ := owns_shape' hv
    obtain ⟨n, hnx⟩ : ∃ n, n = xs.length := ⟨_, rfl⟩
    rw [← hnx] at hx ⊢
    have HX := Lib.hid hnx
    have hne : ∀ c, (Value.slice ao m c).ownBlock ≠ some bk := by
      intro c hc
      have hr := h.ri
      have : (Value.slice ao es.length ci).ownBlock = some bk := by rw [own_slice ao es.length ci m c]; exact hc
      obtain ⟨cur, hh⟩ := owns_type hr this
      have := h.box; rw [hh] at this; simp at this
    have hnw : (Value.slice bo es.length cw).ownBlock ≠ some bk := by
      intro hc
      obtain ⟨cur, hh⟩ := owns_type h.rw hc
      have := h.box; rw [hh] at this; simp at this
    rw [← hm] at hnw
    clear h hl hv hn hfull hm hnx
    go_enter Tryz.func11, Tryz.ntmps11
    go_upto_region 2 with (at_builtin; (refine wpList_append_own_at _ rfl _ _ 37 rfl 0 29 i0 (.slice none 0 0) 1 24 Tryz.underlying37 hi hz0 hz1 hz2 rfl (by decide) _ m _ rfl (hri.alloc _) ⟨w.heap.size, 0, none⟩ 1 1 [.slice vo n vc] rfl rfl (cell_one_new _ _ _) (one_cell_slice _ _ _) (by unfold maxLen; omega) (by omega) (Nat.zero_le _) ?_); intro vi' w2 hown' hgrow' hnil' hat'; clear hnil'; (obtain ⟨ai, ci', rfl⟩ := owns_shape' hown'); (have hb2 := (hgrow'.block bk (by simp; omega) (fun e => hne ci e.symm)).trans ((Below.heap_alloc _ _ _ hbl).trans H.out.box)); (have c02 : w2.cell? ⟨bk, 0, none⟩ = some (.slice ao es.length ci) := by simp [World.cell?, hb2]); (have f02 : w2.frozen? ⟨bk, 0, none⟩ = false := by simp [World.frozen?, hb2]))
    obtain ⟨w3, hw3⟩ : ∃ w3, w2.setCell ⟨bk, 0, none⟩ (.slice ai (m + 1) ci') = w3 := ⟨_, rfl⟩
    have hgr : (w.alloc (.cells #[.slice vo n vc] 29)).grownBy w2 (Value.slice ao m ci).ownBlock := hgrow'
    have hat2 : (Value.slice ai (m + 1) ci').ownBlock = (Value.slice ao m ci).ownBlock ∨ (Value.slice ai (m + 1) ci').ownBlock = some (w.alloc (.cells #[.slice vo n vc] 29)).heap.size := hat'
    have hT2 : Turned (BkOwn bk (.slice ao m ci) (.slice bo m cw)) w w2 := ((Turned.refl _ _).alloc _).grown hgr (fun k hk => .inl (.inr (.inl hk)))
    have hT3 : Turned (BkOwn bk (.slice ao m ci) (.slice bo m cw)) w w3 := by rw [← hw3]; exact hT2.setCell (p := ⟨bk, 0, none⟩) (.inl (.inl rfl)) _
    have hin : (Value.slice ai (m + 1) ci').ownBlock = some bk → False := by
      intro hc
      obtain ⟨cur, hh⟩ := owns_type hown' hc
      rw [hb2] at hh; simp at hh
    have hown3 : w3.ownsRow 0 29 1 (.slice ai (m + 1) ci') (m + 1) (es.map (·.v) ++ [.slice vo n vc]) := by rw [← hw3]; exact owns_keep hown' (fun g hg => Below.heap_setCell _ _ _ _ (by rintro rfl; exact hin hg))
    have hfar : ∀ k, k < w.heap.size → k ≠ bk → (Value.slice ao m ci).ownBlock ≠ some k → w3.heap[k]? = w.heap[k]? := by
      intro k hk h1 h2
      rw [← hw3, Below.heap_setCell _ _ _ _ h1]
      exact (hgr.block k (by simp; omega) (fun e => h2 e.symm)).trans (Below.heap_alloc _ _ _ hk)
    have hrw3 : w3.ownsRow 0 29 1 (.slice bo m cw) m (es.map (·.u)) := owns_keep hrw (fun g hg => hfar g (owns_lt hrw hg) (by rintro rfl; exact hnw hg) (by
      intro hc
      refine hap g ?_ ?_
      · rw [own_slice ao es.length ci m ci]; exact hc
      · rw [own_slice bo es.length cw m cw]; exact hg))
    have hvt : ∀ g, (Value.slice vo n vc).ownBlock = some g → g < w.heap.size ∧ g ≠ bk ∧ (Value.slice ao m ci).ownBlock ≠ some g ∧ (Value.slice bo m cw).ownBlock ≠ some g := by
      intro g hg
      rw [own_slice vo n vc xs.length vc] at hg
      obtain ⟨cur, hh⟩ := owns_type HV.out hg
      refine ⟨owns_lt HV.out hg, ?_, ?_, ?_⟩
      · rintro rfl; have := H.out.box; rw [hh] at this; simp at this
      · intro hc; obtain ⟨cur2, hh2⟩ := owns_type hri hc; rw [hh] at hh2; simp at hh2
      · intro hc; obtain ⟨cur2, hh2⟩ := owns_type hrw hc; rw [hh] at hh2; simp at hh2
    have hv3 : w3.ownsRow 0 3 1 (.slice vo n vc) n (xs.map (Value.int .i64)) := by
      have hv0 := HV.out
      rw [← HX.out] at hv0
      exact owns_keep hv0 (fun g hg => hfar g (hvt g hg).1 (hvt g hg).2.1 (hvt g hg).2.2.1)
    have hb3 : w3.heap[bk]? = some (.cells #[.slice ai (m + 1) ci', .slice bo m cw, .slice none 0 0, .slice none 0 0, .slice none 0 0, .slice none 0 0, .slice none 0 0, .slice none 0 0, .slice none 0 0, .slice none 0 0, .slice none 0 0, .slice none 0 0, .slice none 0 0, .slice none 0 0, vp, vq, .slice none 0 0, .slice none 0 0, .slice none 0 0, .slice none 0 0, .slice none 0 0, .slice none 0 0] 49 (0, 0)) := by
      rw [← hw3]
      simp [World.setCell, Array.getElem?_modify, hb2, ← HM.out]
    have hs3 : w.heap.size ≤ w3.heap.size := hT3.size
    have hai : ∀ g, (Value.slice ai (m + 1) ci').ownBlock = some g → (Value.slice bo m cw).ownBlock ≠ some g := by
      intro g hg hc
      rcases hat2 with e | e
      · rw [e] at hg
        refine hap g ?_ ?_
        · rw [own_slice ao es.length ci m ci]; exact hg
        · rw [own_slice bo es.length cw m cw]; exact hc
      · rw [e] at hg
        have := owns_lt hrw hc
        simp at hg; omega
    have hia : ∀ g, (Value.slice ai (m + 1) ci').ownBlock = some g → (Value.slice ao m ci).ownBlock = some g ∨ w.heap.size ≤ g := by
      intro g hg
      rcases hat2 with e | e
      · rw [e] at hg; exact .inl hg
      · rw [e] at hg; simp at hg; right; omega
    rw [hw3]
    clear hat' hat2 hgr hw3 hgrow' hown' hb2 c02 f02 hfar hT2
    have hb31 : w3.cell? ⟨bk, 1, none⟩ = some (.slice bo m cw) := by simp [World.cell?, hb3]
    have hf31 : w3.frozen? ⟨bk, 1, none⟩ = false := by simp [World.frozen?, hb3]
    have hbl3 : bk < w3.heap.size := (Array.getElem?_eq_some_iff.1 hb3).1
    rcases owns_cases hv3 with ⟨h0, hn0, hx0⟩ | ⟨gv, cv, h0, hrv, hcv, hcm, _⟩
    · simp only [Value.slice.injEq] at h0
      obtain ⟨rfl, hn00, rfl⟩ := h0
      have hxs : xs = [] := List.eq_nil_of_length_eq_zero (by rw [← HX.out]; exact hn00)
      have hown6 : w3.ownsRow w.heap.size 3 1 (.slice none 0 0) n (xs.map (Value.int .i64)) := by
        rw [hxs, hn00]; exact World.ownsRow_nil _ _ _ _
      have hrw3a : (w3.alloc (.cells #[.slice none 0 0] 29)).drew.ownsRow 0 29 1 (.slice bo m cw) m (es.map (·.u)) := by
        have := hrw3.alloc (.cells #[.slice none 0 0] 29)
        exact this
      have hgr6 : w3.drew.grownBy w3 none := ⟨rfl, rfl, rfl, Nat.le_refl _, fun _ _ _ => rfl⟩
      have HX0 := Lib.hid hn00
      rw [hn00]
      go_region_law (first
        | (refine step_append_nil rfl (.const (.slice none 0 0)) (.tmp 25) 29 rfl 3 j0 Tryz.underlying29 hj rfl rfl ?_)
        | (refine step_append_book rfl (.tmp 24) (.tmp 27) 37 rfl 0 29 i0 (.slice none 0 0) 1 24 Tryz.underlying37 hi hz0 hz1 hz2 rfl (by decide) (.slice bo m cw) m (es.map (·.u)) rfl hrw3a ⟨w3.heap.size, 0, none⟩ 1 1 [.slice none 0 0] rfl rfl (cell_one_new _ _ _) (one_cell_slice _ _ _) (by unfold maxLen; omega) (by omega) (Nat.zero_le _) ?_; intro vw' w7 hown7 hgrow7 hat7; (obtain ⟨aw, cw7, rfl⟩ := owns_shape' hown7); (have hgr7 : (w3.alloc (.cells #[.slice none 0 0] 29)).grownBy w7 (Value.slice bo m cw).ownBlock := ⟨hgrow7.os, hgrow7.tape, hgrow7.output, hgrow7.size, hgrow7.block⟩); (have hb7 := (hgr7.block bk (by simp; omega) (fun e => hnw e.symm)).trans ((Below.heap_alloc w3 _ _ hbl3).trans hb3)); (have c17 : w7.cell? ⟨bk, 1, none⟩ = some (.slice bo m cw) := by simp [World.cell?, hb7]); (have f17 : w7.frozen? ⟨bk, 1, none⟩ = false := by simp [World.frozen?, hb7])))
      all_goals go_wp2_with fail
      all_goals go_end0
      all_goals
        have hE := HX.out
        have hM := HM.out
        subst hM
        subst hE
        subst hxs
        exact ints_end H.out rfl hlt rfl HV.out HN.out hT3 hb7 hown3 hai hia hown6 hgr6 hown7 hgr7 hat7 (by first | exact hx | simp)
    · simp only [Value.slice.injEq, true_and] at h0
      obtain ⟨rfl, rfl⟩ := h0
      have hcells : ∀ j u, (xs.map (Value.int .i64))[j]? = some u → w3.drew.cell? ((⟨gv, 0, none⟩ : Addr).add j) = some u := by
        intro j u hu
        show w3.cell? _ = _
        have : (⟨gv, 0, none⟩ : Addr).add j = ⟨gv, j, none⟩ := by
          unfold Addr.add; split
          · rename_i h; subst h; rfl
          · simp
        rw [this]
        exact hrv.cell hu
      have hmx : (xs.map (Value.int .i64)).length = n * 1 := by rw [List.length_map, Nat.mul_one]; exact HX.out.symm
      go_region_law (first
        | (refine step_append_book rfl (.const (.slice none 0 0)) (.tmp 25) 29 rfl w.heap.size 3 j0 (.int .i64 0) 1 8 Tryz.underlying29 hj hy0 hy1 hy2 rfl (by decide) (.slice none 0 0) 0 [] rfl (World.ownsRow_nil _ _ _ _) ⟨gv, 0, none⟩ n vc (xs.map (Value.int .i64)) rfl hmx hcells (ints_oneCell .i64 xs) (by unfold maxLen; omega) (by omega) (by simpa using hs3) ?_; intro u w6 hown6 hgrow6 hat6; (simp only [Nat.zero_add, List.nil_append] at hown6); (obtain ⟨ua, uc, rfl⟩ := owns_shape' hown6); (have hgr6 : w3.drew.grownBy w6 none := hgrow6); (have hb6 := (hgr6.block bk (by simpa using hbl3) (by simp)).trans hb3); (have hrw6 : w6.ownsRow 0 29 1 (.slice bo m cw) m (es.map (·.u)) := owns_keep hrw3 (fun g hg => hgr6.block g (by have := owns_lt hrw3 hg; simpa using this) (by simp))); (have c16 : w6.cell? ⟨bk, 1, none⟩ = some (.slice bo m cw) := by simp [World.cell?, hb6]); (have hbl6 : bk < w6.heap.size := (Array.getElem?_eq_some_iff.1 hb6).1))
        | (refine step_append_book rfl (.tmp 24) (.tmp 27) 37 rfl 0 29 i0 (.slice none 0 0) 1 24 Tryz.underlying37 hi hz0 hz1 hz2 rfl (by decide) (.slice bo m cw) m (es.map (·.u)) rfl (hrw6.alloc _) ⟨w6.heap.size, 0, none⟩ 1 1 [.slice ua n uc] rfl rfl (cell_one_new _ _ _) (one_cell_slice _ _ _) (by unfold maxLen; omega) (by omega) (Nat.zero_le _) ?_; intro vw' w7 hown7 hgrow7 hat7; (obtain ⟨aw, cw7, rfl⟩ := owns_shape' hown7); (have hgr7 : (w6.alloc (.cells #[.slice ua n uc] 29)).grownBy w7 (Value.slice bo m cw).ownBlock := hgrow7); (have hb7 := (hgr7.block bk (by simp; omega) (fun e => hnw e.symm)).trans ((Below.heap_alloc _ _ _ hbl6).trans hb6)); (have c17 : w7.cell? ⟨bk, 1, none⟩ = some (.slice bo m cw) := by simp [World.cell?, hb7]); (have f17 : w7.frozen? ⟨bk, 1, none⟩ = false := by simp [World.frozen?, hb7])))
      all_goals go_wp2_with fail
      all_goals go_end0
      all_goals
        have hE := HX.out
        subst hE
        have hM := HM.out
        subst hM
        exact ints_end H.out rfl hlt rfl HV.out HN.out hT3 hb7 hown3 hai hia hown6 hgr6 hown7 hgr7 hat7 (by first | exact hx | simp)

end Go.Proofs.YtiiieailimphnaaGreatDoor.B2

namespace Go.Proofs.YtiiieailimphnaaGreatDoor.Pr
open Go.RowKit
set_option linter.unusedVariables false
set_option linter.unusedSimpArgs false

/-- A list that the book keeps: the list, the copy that was made at once, what both hold. -/
structure Ent where
  v : Value
  u : Value
  xs : List (Int × Int)

/-- A slice's own block, as a list. -/
def blk (v : Value) : List Nat := v.ownBlock.toList

def entBlocks (es : List Ent) : List Nat := es.flatMap fun e => blk e.v ++ blk e.u

theorem mem_blk {v : Value} {g : Nat} : g ∈ blk v ↔ v.ownBlock = some g := by simp [blk]

theorem entBlocks_snoc (es : List Ent) (e : Ent) : entBlocks (es ++ [e]) = entBlocks es ++ (blk e.v ++ blk e.u) := by simp [entBlocks]

theorem mem_entBlocks {es : List Ent} {g : Nat} : g ∈ entBlocks es ↔ ∃ e ∈ es, e.v.ownBlock = some g ∨ e.u.ownBlock = some g := by
  simp only [entBlocks, List.mem_flatMap, List.mem_append, mem_blk]

/-- A book that keeps lists of integers alone. -/
structure BookAt (w : World) (bk : Nat) (vi vw vp vq : Value) (es : List Ent) : Prop where
  box : w.heap[bk]? = some (.cells #[vp, vq, .slice none 0 0, .slice none 0 0, .slice none 0 0, .slice none 0 0, .slice none 0 0, .slice none 0 0, .slice none 0 0, .slice none 0 0, .slice none 0 0, .slice none 0 0, .slice none 0 0, .slice none 0 0, vi, vw, .slice none 0 0, .slice none 0 0, .slice none 0 0, .slice none 0 0, .slice none 0 0, .slice none 0 0] 49 (0, 0))
  ri : w.ownsRow 0 33 1 vi es.length (es.map (·.v))
  rw : w.ownsRow 0 33 1 vw es.length (es.map (·.u))
  ap : ∀ g, vi.ownBlock = some g → vw.ownBlock ≠ some g
  ent : ∀ e ∈ es, w.ownsRow 0 75 2 e.v e.xs.length (cellsP e.xs) ∧ w.ownsRow 0 75 2 e.u e.xs.length (cellsP e.xs)
  nd : (entBlocks es).Nodup
  sz : ∀ e ∈ es, e.xs.length ≤ 900000

/-- The book's blocks; and those of them that Pairs writes. -/
def BkFoot (bk : Nat) (vi vw : Value) (es : List Ent) (k : Nat) : Prop := k = bk ∨ vi.ownBlock = some k ∨ vw.ownBlock = some k ∨ k ∈ entBlocks es
def BkOwn (bk : Nat) (vi vw : Value) (k : Nat) : Prop := k = bk ∨ vi.ownBlock = some k ∨ vw.ownBlock = some k

theorem BookAt.keep {w w' : World} {bk : Nat} {vi vw vp vq : Value} {es : List Ent} (h : BookAt w bk vi vw vp vq es) (hk : ∀ k, BkFoot bk vi vw es k → w'.heap[k]? = w.heap[k]?) : BookAt w' bk vi vw vp vq es :=
  ⟨(hk bk (.inl rfl)).trans h.box, owns_keep h.ri (fun g hg => hk g (.inr (.inl hg))), owns_keep h.rw (fun g hg => hk g (.inr (.inr (.inl hg)))), h.ap,
    fun e he => ⟨owns_keep (h.ent e he).1 (fun g hg => hk g (.inr (.inr (.inr (mem_entBlocks.2 ⟨e, he, .inl hg⟩))))), owns_keep (h.ent e he).2 (fun g hg => hk g (.inr (.inr (.inr (mem_entBlocks.2 ⟨e, he, .inr hg⟩)))))⟩, h.nd, h.sz⟩

theorem BookAt.foot_lt {w : World} {bk k : Nat} {vi vw vp vq : Value} {es : List Ent} (h : BookAt w bk vi vw vp vq es) (hk : BkFoot bk vi vw es k) : k < w.heap.size := by
  rcases hk with rfl | hk | hk | hk
  · exact (Array.getElem?_eq_some_iff.1 h.box).1
  · exact owns_lt h.ri hk
  · exact owns_lt h.rw hk
  · obtain ⟨e, he, hk | hk⟩ := mem_entBlocks.1 hk
    · exact owns_lt (h.ent e he).1 hk
    · exact owns_lt (h.ent e he).2 hk

theorem BookAt.up {w w' : World} {bk : Nat} {vi vw vp vq : Value} {es : List Ent} (h : BookAt w bk vi vw vp vq es) (hu : Up w w') : BookAt w' bk vi vw vp vq es :=
  h.keep (fun k hk => hu.block k (h.foot_lt hk))

/-- What Pairs leaves. -/
def PairsDone (w : World) (bk : Nat) (vi vw vp vq : Value) (es : List Ent) (v : Value) (xs : List (Int × Int)) (r : Ending) (w' : World) : Prop :=
  r = .returned (.tuple #[]) ∧ ∃ vi' vw' es', BookAt w' bk vi' vw' vp vq es' ∧ es'.length ≤ 400 ∧ (es' = es ∨ ∃ u, es' = es ++ [⟨v, u, xs⟩] ∧ ∀ g, u.ownBlock = some g → w.heap.size ≤ g) ∧
    (∀ k, BkFoot bk vi' vw' es' k → BkFoot bk vi vw es k ∨ v.ownBlock = some k ∨ w.heap.size ≤ k) ∧ Turned (BkOwn bk vi vw) w w'

/-- append ONTO A SLICE THAT THE CALL OWNS, as one step of a region that draws its order. -/
theorem step_append_book {P : Program} {ops : Array Oper} {o : Oper} {a : Act} {w : World} {K : Act → World → Prop} {Q : Exit → Act → World → Prop} {E : Prop}
    (hg : o.guard = none) (s x : Operand) (t : TypeId) (hop : o.op = Op.call { callee := Callee.builtin Builtin.append, args := #[s, x], argTypes := #[t, t] })
    (base : Nat) (e : TypeId) (i : TypeInfo) (z : Value) (size bytes : Nat) (ht : P.underlying t = some (.slice e)) (hi : P.info? e = some i) (hz : i.zero = some z)
    (hsize : i.size = size) (hby : i.bytes = bytes) (hzs : z.cells.size = size) (hsz : 0 < size)
    (v : Value) (n : Nat) (xs : List Value) (hs : a.eval s = v) (hown : w.ownsRow base e size v n xs)
    (ad : Addr) (m c : Nat) (news : List Value) (hx : a.eval x = .slice (some ad) m c) (hl : news.length = m * size) (hnews : ∀ j u, news[j]? = some u → w.cell? (ad.add j) = some u) (h1 : ∀ u ∈ news, u.oneCell' = true)
    (h63 : n + m ≤ maxLen) (hbytes : (n + m) * bytes ≤ 140737488355328) (hbase : base ≤ w.heap.size)
    (hK : ∀ v' w', w'.ownsRow base e size v' (n + m) (xs ++ news) → w.grownBy w' v.ownBlock → (v'.ownBlock = v.ownBlock ∨ v'.ownBlock = some w.heap.size) → K (a.put o.dst v') w') :
    if Region.wanted o (yielded ops a.tmps) = true then Oper.wp P o a w K Q else E := by
  have hw : Region.wanted o (yielded ops a.tmps) = true := by simp [Region.wanted, hg]
  rw [if_pos hw]
  obtain ⟨v', w', hr, h2, h3, h4, h5⟩ := run_append_own_at (P := P) w base t o.type e i z size bytes ht hi hz hsize hby hzs hsz v n xs hown ad m c news hl hnews h1 h63 hbytes hbase
  unfold Oper.wp execOp
  simp only [hop, resolve, invoke, builtin, Sem.run_bind, Sem.run_pure, Result.andThen_ok, List.map_toArray, List.map_cons, List.map_nil, hs, hx, hr]
  exact hK v' w' h2 h3 h5

theorem Tryz.sliceInfoP : (Tryz.prog.info? 33).map (fun i => (i.zero, i.size, i.bytes)) = some (some (.slice none 0 0), 1, 24) := by kernel_rfl

theorem one_cell_slice (a : Option Addr) (n c : Nat) : ∀ u ∈ [Value.slice a n c], u.oneCell' = true := by
  intro u hu
  simp only [List.mem_singleton] at hu
  subst hu; rfl

end Go.Proofs.YtiiieailimphnaaGreatDoor.Pr

namespace Go.Proofs.YtiiieailimphnaaGreatDoor.Pr
open Go.RowKit
set_option linter.unusedVariables false
set_option linter.unusedSimpArgs false

theorem step_append_nil {P : Program} {ops : Array Oper} {o : Oper} {a : Act} {w : World} {K : Act → World → Prop} {Q : Exit → Act → World → Prop} {E : Prop}
    (hg : o.guard = none) (s x : Operand) (t : TypeId) (hop : o.op = Op.call { callee := Callee.builtin Builtin.append, args := #[s, x], argTypes := #[t, t] })
    (e : TypeId) (i : TypeInfo) (ht : P.underlying t = some (.slice e)) (hi : P.info? e = some i) (hs : a.eval s = .slice none 0 0) (hx : a.eval x = .slice none 0 0)
    (hK : K (a.put o.dst (.slice none 0 0)) w) : if Region.wanted o (yielded ops a.tmps) = true then Oper.wp P o a w K Q else E := by
  have hw : Region.wanted o (yielded ops a.tmps) = true := by simp [Region.wanted, hg]
  rw [if_pos hw]
  have hr : (Builtin.append_ #[t, t] o.type #[.slice none 0 0, .slice none 0 0]).run P w = .ok (.slice none 0 0) w := by
    simp [Builtin.append_, run_underlying ht, sizeOf, typeInfo, hi, Builtin.lenOf, Builtin.firstCells]
  unfold Oper.wp execOp
  simp only [hop, resolve, invoke, builtin, Sem.run_bind, Sem.run_pure, Result.andThen_ok, List.map_toArray, List.map_cons, List.map_nil, hs, hx, hr]
  exact hK

theorem own_slice (ao : Option Addr) (m c m' c' : Nat) : (Value.slice ao m c).ownBlock = (Value.slice ao m' c').ownBlock := by cases ao <;> rfl

theorem own_not_bk {w : World} {bk g : Nat} {e : TypeId} {base size n : Nat} {v : Value} {xs cs : List Value} (h : w.ownsRow base e size v n xs) (hb : w.heap[bk]? = some (.cells cs.toArray 49 (0, 0))) (he : e ≠ 49) (hg : v.ownBlock = some g) : g ≠ bk := by
  rintro rfl
  obtain ⟨cur, hh⟩ := owns_type h hg
  rw [hb] at hh
  simp only [Option.some.injEq, Obj.cells.injEq] at hh
  exact he hh.2.1.symm

theorem owns_type_ne {w : World} {g : Nat} {e e' : TypeId} {base size n base' size' n' : Nat} {v v' : Value} {xs xs' : List Value} (h : w.ownsRow base e size v n xs) (h' : w.ownsRow base' e' size' v' n' xs') (he : e ≠ e') (hg : v.ownBlock = some g) : v'.ownBlock ≠ some g := by
  intro hg'
  obtain ⟨cur, hh⟩ := owns_type h hg
  obtain ⟨cur2, hh2⟩ := owns_type h' hg'
  rw [hh] at hh2
  simp only [Option.some.injEq, Obj.cells.injEq] at hh2
  exact he hh2.2.1

theorem ints_end {w w3 w6 w7 : World} {bk m n : Nat} {vi vw vp vq vi' vw' v u : Value} {es : List Ent} {xs : List (Int × Int)} {o : Obj} (H : BookAt w bk vi vw vp vq es) (hm : m = es.length) (hlt : m < 400) (hn : n = xs.length)
    (hv : w.ownsRow 0 75 2 v xs.length (cellsP xs)) (hN : ∀ g, v.ownBlock = some g → g ∉ entBlocks es) (T3 : Turned (BkOwn bk vi vw) w w3)
    (hb7 : w7.heap[bk]? = some (.cells #[vp, vq, .slice none 0 0, .slice none 0 0, .slice none 0 0, .slice none 0 0, .slice none 0 0, .slice none 0 0, .slice none 0 0, .slice none 0 0, .slice none 0 0, .slice none 0 0, .slice none 0 0, .slice none 0 0, vi', vw, .slice none 0 0, .slice none 0 0, .slice none 0 0, .slice none 0 0, .slice none 0 0, .slice none 0 0] 49 (0, 0)))
    (own3 : w3.ownsRow 0 33 1 vi' (m + 1) (es.map (·.v) ++ [v])) (hai : ∀ g, vi'.ownBlock = some g → vw.ownBlock ≠ some g) (hia : ∀ g, vi'.ownBlock = some g → vi.ownBlock = some g ∨ w.heap.size ≤ g)
    (own6 : w6.ownsRow w.heap.size 75 2 u n (cellsP xs)) (gr6 : w3.drew.grownBy w6 none) (own7 : w7.ownsRow 0 33 1 vw' (m + 1) (es.map (·.u) ++ [u]))
    (gr7 : (w6.alloc o).grownBy w7 vw.ownBlock) (at7 : vw'.ownBlock = vw.ownBlock ∨ vw'.ownBlock = some (w6.alloc o).heap.size) (hxl : n ≤ 900000) :
    PairsDone w bk vi vw vp vq es v xs (.returned (.tuple #[])) (w7.setCell ⟨bk, 15, none⟩ vw') := by
  subst hm hn
  have hs3 := T3.size
  have hs6 : w3.heap.size ≤ w6.heap.size := gr6.size
  have hbw : bk < w.heap.size := (Array.getElem?_eq_some_iff.1 H.box).1
  have hvil : ∀ g, vi.ownBlock = some g → g < w.heap.size := fun g hg => owns_lt H.ri hg
  have hvwl : ∀ g, vw.ownBlock = some g → g < w.heap.size := fun g hg => owns_lt H.rw hg
  -- what stands from w3 on, and from w6 on
  have from6 : ∀ k, k < w6.heap.size → k ≠ bk → vw.ownBlock ≠ some k → (w7.setCell ⟨bk, 15, none⟩ vw').heap[k]? = w6.heap[k]? := by
    intro k hk h1 h2
    rw [Below.heap_setCell _ _ _ _ h1]
    exact (gr7.block k (by simp; omega) (fun e => h2 e.symm)).trans (Below.heap_alloc _ _ _ hk)
  have from3 : ∀ k, k < w3.heap.size → k ≠ bk → vw.ownBlock ≠ some k → (w7.setCell ⟨bk, 15, none⟩ vw').heap[k]? = w3.heap[k]? := by
    intro k hk h1 h2
    exact (from6 k (by omega) h1 h2).trans (gr6.block k hk (by simp))
  have from0 : ∀ k, k < w.heap.size → k ≠ bk → vi.ownBlock ≠ some k → vw.ownBlock ≠ some k → (w7.setCell ⟨bk, 15, none⟩ vw').heap[k]? = w.heap[k]? := by
    intro k hk h1 h2 h3
    refine (from3 k (by omega) h1 h3).trans (T3.block k hk ?_)
    rintro (h | h | h)
    · exact h1 h
    · exact h2 h
    · exact h3 h
  have keepI : ∀ {v0 : Value} {n0 : Nat} {ys : List Value}, w.ownsRow 0 75 2 v0 n0 ys → (w7.setCell ⟨bk, 15, none⟩ vw').ownsRow 0 75 2 v0 n0 ys := by
    intro v0 n0 ys h
    refine owns_keep h (fun g hg => from0 g (owns_lt h hg) ?_ (owns_type_ne h H.ri (by decide) hg) (owns_type_ne h H.rw (by decide) hg))
    rintro rfl
    obtain ⟨cur, hh⟩ := owns_type h hg
    have := H.box; rw [hh] at this; simp at this
  have hu0 : ∀ g, u.ownBlock = some g → w.heap.size ≤ g ∧ g < w6.heap.size := fun g hg => own6.lt g hg
  have own6' : (w7.setCell ⟨bk, 15, none⟩ vw').ownsRow 0 75 2 u xs.length (cellsP xs) := by
    refine owns_keep (owns_base own6 (Nat.zero_le _)) (fun g hg => from6 g (hu0 g hg).2 ?_ ?_)
    · have := (hu0 g hg).1; omega
    · intro hc; have := (hu0 g hg).1; have := hvwl g hc; omega
  have hvib : ∀ g, vi'.ownBlock = some g → g ≠ bk := by
    intro g hg
    rcases hia g hg with h | h
    · rintro rfl
      obtain ⟨cur, hh⟩ := owns_type H.ri h
      have := H.box; rw [hh] at this; simp at this
    · omega
  have hvwb : ∀ g, vw'.ownBlock = some g → g ≠ bk := by
    rintro g hg rfl
    obtain ⟨cur, hh⟩ := owns_type own7 hg
    rw [hb7] at hh; simp at hh
  refine ⟨rfl, vi', vw', es ++ [⟨v, u, xs⟩], ⟨?_, ?_, ?_, ?_, ?_, ?_, ?_⟩, by simp; omega, .inr ⟨u, rfl, fun g hg => (hu0 g hg).1⟩, ?_, ?_⟩
  · simp [World.setCell, Array.getElem?_modify, hb7]
  · have : (w7.setCell ⟨bk, 15, none⟩ vw').ownsRow 0 33 1 vi' (es.length + 1) (es.map (·.v) ++ [v]) := owns_keep own3 (fun g hg => from3 g (owns_lt own3 hg) (hvib g hg) (hai g hg))
    simpa using this
  · have : (w7.setCell ⟨bk, 15, none⟩ vw').ownsRow 0 33 1 vw' (es.length + 1) (es.map (·.u) ++ [u]) := owns_keep own7 (fun g hg => Below.heap_setCell _ _ _ _ (hvwb g hg))
    simpa using this
  · intro g hg hc
    rcases at7 with e | e
    · rw [e] at hc; exact hai g hg hc
    · rw [e] at hc
      have := owns_lt own3 hg
      simp at hc; omega
  · intro e he
    rcases List.mem_append.1 he with he | he
    · exact ⟨keepI (H.ent e he).1, keepI (H.ent e he).2⟩
    · obtain rfl := List.mem_singleton.1 he
      exact ⟨keepI hv, own6'⟩
  · rw [entBlocks_snoc]
    refine List.nodup_append.2 ⟨H.nd, ?_, ?_⟩
    · refine List.nodup_append.2 ⟨?_, ?_, ?_⟩
      · cases h : v.ownBlock <;> simp [blk, h]
      · cases h : u.ownBlock <;> simp [blk, h]
      · intro a ha b hb e
        subst e
        have h1 := owns_lt hv (mem_blk.1 ha)
        have h2 := (hu0 a (mem_blk.1 hb)).1
        omega
    · intro a ha b hb e
      subst e
      rcases List.mem_append.1 hb with hb | hb
      · exact hN a (mem_blk.1 hb) ha
      · have h1 := H.foot_lt (.inr (.inr (.inr ha)))
        have h2 := (hu0 a (mem_blk.1 hb)).1
        omega
  · intro e he
    rcases List.mem_append.1 he with he | he
    · exact H.sz e he
    · obtain rfl := List.mem_singleton.1 he
      exact hxl
  · intro k hk
    rcases hk with rfl | hk | hk | hk
    · exact .inl (.inl rfl)
    · rcases hia k hk with h | h
      · exact .inl (.inr (.inl h))
      · exact .inr (.inr h)
    · rcases at7 with e | e
      · rw [e] at hk; exact .inl (.inr (.inr (.inl hk)))
      · rw [e] at hk; simp at hk; right; right; omega
    · rw [entBlocks_snoc] at hk
      rcases List.mem_append.1 hk with hk | hk
      · exact .inl (.inr (.inr (.inr hk)))
      · rcases List.mem_append.1 hk with hk | hk
        · exact .inr (.inl (mem_blk.1 hk))
        · exact .inr (.inr (hu0 k (mem_blk.1 hk)).1)
  · have t6 : Turned (BkOwn bk vi vw) w w6 := T3.drew.grown gr6 (fun k hk => by cases hk)
    exact ((t6.alloc o).grown gr7 (fun k hk => .inl (.inr (.inr hk)))).setCell (p := ⟨bk, 15, none⟩) (.inl (.inl rfl)) _

set_option maxHeartbeats 4000000 in
set_option maxRecDepth 100000 in
theorem bookPairs {w : World} {bk : Nat} {vi vw vp vq v : Value} {es : List Ent} {xs : List (Int × Int)} (h : BookAt w bk vi vw vp vq es) (hl : es.length ≤ 400) (hv : w.ownsRow 0 75 2 v xs.length (cellsP xs)) (hx : xs.length ≤ 900000)
    (hn : ∀ g, v.ownBlock = some g → g ∉ entBlocks es) : Calls Tryz.prog 18 #[.pointer (some ⟨bk, 0, none⟩), v] w (PairsDone w bk vi vw vp vq es v xs) := by
  obtain ⟨i0, hi, hz0, hz1, hz2⟩ := info_parts Tryz.sliceInfoP
  obtain ⟨j0, hj, hy0, hy1, hy2⟩ := info_parts Tryz.pairInfo
  obtain ⟨ao, ci, rfl⟩ := owns_shape' h.ri
  obtain ⟨bo, cw, rfl⟩ := owns_shape' h.rw
  have c0 : w.cell? ⟨bk, 14, none⟩ = some (.slice ao es.length ci) := by simp [World.cell?, h.box]
  have f0 : w.frozen? ⟨bk, 14, none⟩ = false := by simp [World.frozen?, h.box]
  have hbl : bk < w.heap.size := (Array.getElem?_eq_some_iff.1 h.box).1
  by_cases hfull : es.length = 400
  · have H := Lib.hid h
    obtain ⟨m, hm⟩ : ∃ m, m = es.length := ⟨_, rfl⟩
    have hm4 : m = 400 := by omega
    rw [← hm] at c0
    subst hm4
    have H4 := Lib.hid hm
    obtain ⟨vo, vc, rfl⟩ := owns_shape' hv
    clear h hl hv hn hfull hm f0
    go_enter Tryz.func18, Tryz.ntmps18
    go_wp2_with fail
    go_end0
    exact ⟨rfl, _, _, es, H.out, by rw [← H4.out]; exact Nat.le_refl _, .inl rfl, fun k hk => .inl hk, Turned.refl _ _⟩
  · have hlt : es.length < 400 := by omega
    have hri := h.ri
    have hrw := h.rw
    obtain ⟨m, hm⟩ : ∃ m, m = es.length := ⟨_, rfl⟩
    rw [← hm] at c0 hlt hri hrw
    have HM := Lib.hid hm
    have H := Lib.hid h
    have HV := Lib.hid hv
    have HN := Lib.hid hn
    have hap := h.ap
    obtain ⟨vo, vc, rfl⟩ := owns_shape' hv
    obtain ⟨n, hnx⟩ : ∃ n, n = xs.length := ⟨_, rfl⟩
    rw [← hnx] at hx ⊢
    have HX := Lib.hid hnx
    have hne : ∀ c, (Value.slice ao m c).ownBlock ≠ some bk := by
      intro c hc
      have hr := h.ri
      have : (Value.slice ao es.length ci).ownBlock = some bk := by rw [own_slice ao es.length ci m c]; exact hc
      obtain ⟨cur, hh⟩ := owns_type hr this
      have := h.box; rw [hh] at this; simp at this
    have hnw : (Value.slice bo es.length cw).ownBlock ≠ some bk := by
      intro hc
      obtain ⟨cur, hh⟩ := owns_type h.rw hc
      have := h.box; rw [hh] at this; simp at this
    rw [← hm] at hnw
    clear h hl hv hn hfull hm hnx
    go_enter Tryz.func18, Tryz.ntmps18
    go_upto_region 2 with (at_builtin; (refine wpList_append_own_at _ rfl _ _ 44 rfl 0 33 i0 (.slice none 0 0) 1 24 Tryz.underlying44 hi hz0 hz1 hz2 rfl (by decide) _ m _ rfl (hri.alloc _) ⟨w.heap.size, 0, none⟩ 1 1 [.slice vo n vc] rfl rfl (cell_one_new _ _ _) (one_cell_slice _ _ _) (by unfold maxLen; omega) (by omega) (Nat.zero_le _) ?_); intro vi' w2 hown' hgrow' hnil' hat'; clear hnil'; (obtain ⟨ai, ci', rfl⟩ := owns_shape' hown'); (have hb2 := (hgrow'.block bk (by simp; omega) (fun e => hne ci e.symm)).trans ((Below.heap_alloc _ _ _ hbl).trans H.out.box)); (have c02 : w2.cell? ⟨bk, 14, none⟩ = some (.slice ao es.length ci) := by simp [World.cell?, hb2]); (have f02 : w2.frozen? ⟨bk, 14, none⟩ = false := by simp [World.frozen?, hb2]))
    obtain ⟨w3, hw3⟩ : ∃ w3, w2.setCell ⟨bk, 14, none⟩ (.slice ai (m + 1) ci') = w3 := ⟨_, rfl⟩
    have hgr : (w.alloc (.cells #[.slice vo n vc] 33)).grownBy w2 (Value.slice ao m ci).ownBlock := hgrow'
    have hat2 : (Value.slice ai (m + 1) ci').ownBlock = (Value.slice ao m ci).ownBlock ∨ (Value.slice ai (m + 1) ci').ownBlock = some (w.alloc (.cells #[.slice vo n vc] 33)).heap.size := hat'
    have hT2 : Turned (BkOwn bk (.slice ao m ci) (.slice bo m cw)) w w2 := ((Turned.refl _ _).alloc _).grown hgr (fun k hk => .inl (.inr (.inl hk)))
    have hT3 : Turned (BkOwn bk (.slice ao m ci) (.slice bo m cw)) w w3 := by rw [← hw3]; exact hT2.setCell (p := ⟨bk, 14, none⟩) (.inl (.inl rfl)) _
    have hin : (Value.slice ai (m + 1) ci').ownBlock = some bk → False := by
      intro hc
      obtain ⟨cur, hh⟩ := owns_type hown' hc
      rw [hb2] at hh; simp at hh
    have hown3 : w3.ownsRow 0 33 1 (.slice ai (m + 1) ci') (m + 1) (es.map (·.v) ++ [.slice vo n vc]) := by rw [← hw3]; exact owns_keep hown' (fun g hg => Below.heap_setCell _ _ _ _ (by rintro rfl; exact hin hg))
    have hfar : ∀ k, k < w.heap.size → k ≠ bk → (Value.slice ao m ci).ownBlock ≠ some k → w3.heap[k]? = w.heap[k]? := by
      intro k hk h1 h2
      rw [← hw3, Below.heap_setCell _ _ _ _ h1]
      exact (hgr.block k (by simp; omega) (fun e => h2 e.symm)).trans (Below.heap_alloc _ _ _ hk)
    have hrw3 : w3.ownsRow 0 33 1 (.slice bo m cw) m (es.map (·.u)) := owns_keep hrw (fun g hg => hfar g (owns_lt hrw hg) (by rintro rfl; exact hnw hg) (by
      intro hc
      refine hap g ?_ ?_
      · rw [own_slice ao es.length ci m ci]; exact hc
      · rw [own_slice bo es.length cw m cw]; exact hg))
    have hvt : ∀ g, (Value.slice vo n vc).ownBlock = some g → g < w.heap.size ∧ g ≠ bk ∧ (Value.slice ao m ci).ownBlock ≠ some g ∧ (Value.slice bo m cw).ownBlock ≠ some g := by
      intro g hg
      rw [own_slice vo n vc xs.length vc] at hg
      obtain ⟨cur, hh⟩ := owns_type HV.out hg
      refine ⟨owns_lt HV.out hg, ?_, ?_, ?_⟩
      · rintro rfl; have := H.out.box; rw [hh] at this; simp at this
      · intro hc; obtain ⟨cur2, hh2⟩ := owns_type hri hc; rw [hh] at hh2; simp at hh2
      · intro hc; obtain ⟨cur2, hh2⟩ := owns_type hrw hc; rw [hh] at hh2; simp at hh2
    have hv3 : w3.ownsRow 0 75 2 (.slice vo n vc) n (cellsP xs) := by
      have hv0 := HV.out
      rw [← HX.out] at hv0
      exact owns_keep hv0 (fun g hg => hfar g (hvt g hg).1 (hvt g hg).2.1 (hvt g hg).2.2.1)
    have hb3 : w3.heap[bk]? = some (.cells #[vp, vq, .slice none 0 0, .slice none 0 0, .slice none 0 0, .slice none 0 0, .slice none 0 0, .slice none 0 0, .slice none 0 0, .slice none 0 0, .slice none 0 0, .slice none 0 0, .slice none 0 0, .slice none 0 0, .slice ai (m + 1) ci', .slice bo m cw, .slice none 0 0, .slice none 0 0, .slice none 0 0, .slice none 0 0, .slice none 0 0, .slice none 0 0] 49 (0, 0)) := by
      rw [← hw3]
      simp [World.setCell, Array.getElem?_modify, hb2, ← HM.out]
    have hs3 : w.heap.size ≤ w3.heap.size := hT3.size
    have hai : ∀ g, (Value.slice ai (m + 1) ci').ownBlock = some g → (Value.slice bo m cw).ownBlock ≠ some g := by
      intro g hg hc
      rcases hat2 with e | e
      · rw [e] at hg
        refine hap g ?_ ?_
        · rw [own_slice ao es.length ci m ci]; exact hg
        · rw [own_slice bo es.length cw m cw]; exact hc
      · rw [e] at hg
        have := owns_lt hrw hc
        simp at hg; omega
    have hia : ∀ g, (Value.slice ai (m + 1) ci').ownBlock = some g → (Value.slice ao m ci).ownBlock = some g ∨ w.heap.size ≤ g := by
      intro g hg
      rcases hat2 with e | e
      · rw [e] at hg; exact .inl hg
      · rw [e] at hg; simp at hg; right; omega
    rw [hw3]
    clear hat' hat2 hgr hw3 hgrow' hown' hb2 c02 f02 hfar hT2
    have hb31 : w3.cell? ⟨bk, 15, none⟩ = some (.slice bo m cw) := by simp [World.cell?, hb3]
    have hf31 : w3.frozen? ⟨bk, 15, none⟩ = false := by simp [World.frozen?, hb3]
    have hbl3 : bk < w3.heap.size := (Array.getElem?_eq_some_iff.1 hb3).1
    rcases owns_cases hv3 with ⟨h0, hn0, hx0⟩ | ⟨gv, cv, h0, hrv, hcv, hcm, _⟩
    · simp only [Value.slice.injEq] at h0
      obtain ⟨rfl, hn00, rfl⟩ := h0
      have hxs : xs = [] := List.eq_nil_of_length_eq_zero (by rw [← HX.out]; exact hn00)
      have hown6 : w3.ownsRow w.heap.size 75 2 (.slice none 0 0) n (cellsP xs) := by
        rw [hxs, hn00]; exact World.ownsRow_nil _ _ _ _
      have hrw3a : (w3.alloc (.cells #[.slice none 0 0] 33)).drew.ownsRow 0 33 1 (.slice bo m cw) m (es.map (·.u)) := by
        have := hrw3.alloc (.cells #[.slice none 0 0] 33)
        exact this
      have hgr6 : w3.drew.grownBy w3 none := ⟨rfl, rfl, rfl, Nat.le_refl _, fun _ _ _ => rfl⟩
      have HX0 := Lib.hid hn00
      rw [hn00]
      go_region_law (first
        | (refine step_append_nil rfl (.const (.slice none 0 0)) (.tmp 25) 33 rfl 75 j0 Tryz.underlying33 hj rfl rfl ?_)
        | (refine step_append_book rfl (.tmp 24) (.tmp 27) 44 rfl 0 33 i0 (.slice none 0 0) 1 24 Tryz.underlying44 hi hz0 hz1 hz2 rfl (by decide) (.slice bo m cw) m (es.map (·.u)) rfl hrw3a ⟨w3.heap.size, 0, none⟩ 1 1 [.slice none 0 0] rfl rfl (cell_one_new _ _ _) (one_cell_slice _ _ _) (by unfold maxLen; omega) (by omega) (Nat.zero_le _) ?_; intro vw' w7 hown7 hgrow7 hat7; (obtain ⟨aw, cw7, rfl⟩ := owns_shape' hown7); (have hgr7 : (w3.alloc (.cells #[.slice none 0 0] 33)).grownBy w7 (Value.slice bo m cw).ownBlock := ⟨hgrow7.os, hgrow7.tape, hgrow7.output, hgrow7.size, hgrow7.block⟩); (have hb7 := (hgr7.block bk (by simp; omega) (fun e => hnw e.symm)).trans ((Below.heap_alloc w3 _ _ hbl3).trans hb3)); (have c17 : w7.cell? ⟨bk, 15, none⟩ = some (.slice bo m cw) := by simp [World.cell?, hb7]); (have f17 : w7.frozen? ⟨bk, 15, none⟩ = false := by simp [World.frozen?, hb7])))
      all_goals go_wp2_with fail
      all_goals go_end0
      all_goals
        have hE := HX.out
        have hM := HM.out
        subst hM
        subst hE
        subst hxs
        exact ints_end H.out rfl hlt rfl HV.out HN.out hT3 hb7 hown3 hai hia hown6 hgr6 hown7 hgr7 hat7 (by first | exact hx | simp)
    · simp only [Value.slice.injEq, true_and] at h0
      obtain ⟨rfl, rfl⟩ := h0
      have hcells : ∀ j u, (cellsP xs)[j]? = some u → w3.drew.cell? ((⟨gv, 0, none⟩ : Addr).add j) = some u := by
        intro j u hu
        show w3.cell? _ = _
        have : (⟨gv, 0, none⟩ : Addr).add j = ⟨gv, j, none⟩ := by
          unfold Addr.add; split
          · rename_i h; subst h; rfl
          · simp
        rw [this]
        exact hrv.cell hu
      have hmx : (cellsP xs).length = n * 2 := by rw [cellsP_length, ← HX.out]
      go_region_law (first
        | (refine step_append_book rfl (.const (.slice none 0 0)) (.tmp 25) 33 rfl w.heap.size 75 j0 (.agg #[.int .i64 0, .int .i64 0]) 2 16 Tryz.underlying33 hj hy0 hy1 hy2 rfl (by decide) (.slice none 0 0) 0 [] rfl (World.ownsRow_nil _ _ _ _) ⟨gv, 0, none⟩ n vc (cellsP xs) rfl hmx hcells (cellsP_oneCell xs) (by unfold maxLen; omega) (by omega) (by simpa using hs3) ?_; intro u w6 hown6 hgrow6 hat6; (simp only [Nat.zero_add, List.nil_append] at hown6); (obtain ⟨ua, uc, rfl⟩ := owns_shape' hown6); (have hgr6 : w3.drew.grownBy w6 none := hgrow6); (have hb6 := (hgr6.block bk (by simpa using hbl3) (by simp)).trans hb3); (have hrw6 : w6.ownsRow 0 33 1 (.slice bo m cw) m (es.map (·.u)) := owns_keep hrw3 (fun g hg => hgr6.block g (by have := owns_lt hrw3 hg; simpa using this) (by simp))); (have c16 : w6.cell? ⟨bk, 15, none⟩ = some (.slice bo m cw) := by simp [World.cell?, hb6]); (have hbl6 : bk < w6.heap.size := (Array.getElem?_eq_some_iff.1 hb6).1))
        | (refine step_append_book rfl (.tmp 24) (.tmp 27) 44 rfl 0 33 i0 (.slice none 0 0) 1 24 Tryz.underlying44 hi hz0 hz1 hz2 rfl (by decide) (.slice bo m cw) m (es.map (·.u)) rfl (hrw6.alloc _) ⟨w6.heap.size, 0, none⟩ 1 1 [.slice ua n uc] rfl rfl (cell_one_new _ _ _) (one_cell_slice _ _ _) (by unfold maxLen; omega) (by omega) (Nat.zero_le _) ?_; intro vw' w7 hown7 hgrow7 hat7; (obtain ⟨aw, cw7, rfl⟩ := owns_shape' hown7); (have hgr7 : (w6.alloc (.cells #[.slice ua n uc] 33)).grownBy w7 (Value.slice bo m cw).ownBlock := hgrow7); (have hb7 := (hgr7.block bk (by simp; omega) (fun e => hnw e.symm)).trans ((Below.heap_alloc _ _ _ hbl6).trans hb6)); (have c17 : w7.cell? ⟨bk, 15, none⟩ = some (.slice bo m cw) := by simp [World.cell?, hb7]); (have f17 : w7.frozen? ⟨bk, 15, none⟩ = false := by simp [World.frozen?, hb7])))
      all_goals go_wp2_with fail
      all_goals go_end0
      all_goals
        have hE := HX.out
        subst hE
        have hM := HM.out
        subst hM
        exact ints_end H.out rfl hlt rfl HV.out HN.out hT3 hb7 hown3 hai hia hown6 hgr6 hown7 hgr7 hat7 (by first | exact hx | simp)

end Go.Proofs.YtiiieailimphnaaGreatDoor.Pr
