/- The book of lists of integers and of lists of lists: Ints, Rows. Printed by mkbook3.py from the text of the book of integers and pairs (Book2P). Walks: what the book does with the kinds of lists of which it keeps none; the book, asked whether its lists lie apart: lists of integers and lists of lists. Printed by mkapart3.py. -/
import Derived.Test.YtpmdjicaefmbnaaGreatDoorLst
import Derived.Deep.RegionLaw
import Derived.BigRegion
import Derived.Deep.DeepCutAuto
import Derived.Maps.AppendAt
import Derived.Deep.AppendLies
import Derived.Test.YtpmdjicaefmbnaaGreatDoorRwGrow
import Derived.Test.YtpmdjicaefmbnaaGreatDoorSyW2

namespace Go.Proofs.YtpmdjicaefmbnaaGreatDoor.B3
open Go.RowKit
set_option linter.unusedVariables false
set_option linter.unusedSimpArgs false

/-- A list that the book keeps: the list, the copy that was made at once, what both hold. -/
structure Ent where
  v : Value
  u : Value
  xs : List Int

/-- A slice's own block, as a list. -/
def blk (v : Value) : List Nat := v.ownBlock.toList

def entBlocks (es : List Ent) : List Nat := es.flatMap fun e => blk e.v ++ blk e.u

theorem mem_blk {v : Value} {g : Nat} : g ∈ blk v ↔ v.ownBlock = some g := by simp [blk]

theorem entBlocks_snoc (es : List Ent) (e : Ent) : entBlocks (es ++ [e]) = entBlocks es ++ (blk e.v ++ blk e.u) := by simp [entBlocks]

theorem mem_entBlocks {es : List Ent} {g : Nat} : g ∈ entBlocks es ↔ ∃ e ∈ es, e.v.ownBlock = some g ∨ e.u.ownBlock = some g := by
  simp only [entBlocks, List.mem_flatMap, List.mem_append, mem_blk]

/-- A book that keeps lists of integers alone. -/
structure BookAt (w : World) (bk : Nat) (vi vw vp vq : Value) (es : List Ent) : Prop where
  box : w.heap[bk]? = some (.cells #[vi, vw, .slice none 0 0, .slice none 0 0, .slice none 0 0, .slice none 0 0, .slice none 0 0, .slice none 0 0, .slice none 0 0, .slice none 0 0, .slice none 0 0, .slice none 0 0, .slice none 0 0, .slice none 0 0, .slice none 0 0, .slice none 0 0, vp, vq, .slice none 0 0, .slice none 0 0, .slice none 0 0, .slice none 0 0] 50 (0, 0))
  ri : w.ownsRow 0 34 1 vi es.length (es.map (·.v))
  rw : w.ownsRow 0 34 1 vw es.length (es.map (·.u))
  ap : ∀ g, vi.ownBlock = some g → vw.ownBlock ≠ some g
  ent : ∀ e ∈ es, w.ownsRow 0 3 1 e.v e.xs.length (e.xs.map (Value.int .i64)) ∧ w.ownsRow 0 3 1 e.u e.xs.length (e.xs.map (Value.int .i64))
  nd : (entBlocks es).Nodup
  sz : ∀ e ∈ es, e.xs.length ≤ 900000

/-- The book's blocks; and those of them that Ints writes. -/
def BkFoot (bk : Nat) (vi vw : Value) (es : List Ent) (k : Nat) : Prop := k = bk ∨ vi.ownBlock = some k ∨ vw.ownBlock = some k ∨ k ∈ entBlocks es
def BkOwn (bk : Nat) (vi vw : Value) (k : Nat) : Prop := k = bk ∨ vi.ownBlock = some k ∨ vw.ownBlock = some k

theorem BookAt.keep {w w' : World} {bk : Nat} {vi vw vp vq : Value} {es : List Ent} (h : BookAt w bk vi vw vp vq es) (hk : ∀ k, BkFoot bk vi vw es k → w'.heap[k]? = w.heap[k]?) : BookAt w' bk vi vw vp vq es :=
  ⟨(hk bk (.inl rfl)).trans h.box, owns_keep h.ri (fun g hg => hk g (.inr (.inl hg))), owns_keep h.rw (fun g hg => hk g (.inr (.inr (.inl hg)))), h.ap,
    fun e he => ⟨owns_keep (h.ent e he).1 (fun g hg => hk g (.inr (.inr (.inr (mem_entBlocks.2 ⟨e, he, .inl hg⟩))))), owns_keep (h.ent e he).2 (fun g hg => hk g (.inr (.inr (.inr (mem_entBlocks.2 ⟨e, he, .inr hg⟩)))))⟩, h.nd, h.sz⟩

theorem BookAt.foot_lt {w : World} {bk k : Nat} {vi vw vp vq : Value} {es : List Ent} (h : BookAt w bk vi vw vp vq es) (hk : BkFoot bk vi vw es k) : k < w.heap.size := by
  rcases hk with rfl | hk | hk | hk
  · exact (Array.getElem?_eq_some_iff.1 h.box).1
  · exact owns_lt h.ri hk
  · exact owns_lt h.rw hk
  · obtain ⟨e, he, hk | hk⟩ := mem_entBlocks.1 hk
    · exact owns_lt (h.ent e he).1 hk
    · exact owns_lt (h.ent e he).2 hk

theorem BookAt.up {w w' : World} {bk : Nat} {vi vw vp vq : Value} {es : List Ent} (h : BookAt w bk vi vw vp vq es) (hu : Up w w') : BookAt w' bk vi vw vp vq es :=
  h.keep (fun k hk => hu.block k (h.foot_lt hk))

/-- What Ints leaves. -/
def IntsDone (w : World) (bk : Nat) (vi vw vp vq : Value) (es : List Ent) (v : Value) (xs : List Int) (r : Ending) (w' : World) : Prop :=
  r = .returned (.tuple #[]) ∧ ∃ vi' vw' es', BookAt w' bk vi' vw' vp vq es' ∧ es'.length ≤ 400 ∧ (es' = es ∨ ∃ u, es' = es ++ [⟨v, u, xs⟩] ∧ ∀ g, u.ownBlock = some g → w.heap.size ≤ g) ∧
    (∀ k, BkFoot bk vi' vw' es' k → BkFoot bk vi vw es k ∨ v.ownBlock = some k ∨ w.heap.size ≤ k) ∧ Turned (BkOwn bk vi vw) w w' ∧
    (∀ g, vi'.ownBlock = some g → vi.ownBlock = some g ∨ w.heap.size ≤ g) ∧ ∀ g, vw'.ownBlock = some g → vw.ownBlock = some g ∨ w.heap.size ≤ g

/-- append ONTO A SLICE THAT THE CALL OWNS, as one step of a region that draws its order. -/
theorem step_append_book {P : Program} {ops : Array Oper} {o : Oper} {a : Act} {w : World} {K : Act → World → Prop} {Q : Exit → Act → World → Prop} {E : Prop}
    (hg : o.guard = none) (s x : Operand) (t : TypeId) (hop : o.op = Op.call { callee := Callee.builtin Builtin.append, args := #[s, x], argTypes := #[t, t] })
    (base : Nat) (e : TypeId) (i : TypeInfo) (z : Value) (size bytes : Nat) (ht : P.underlying t = some (.slice e)) (hi : P.info? e = some i) (hz : i.zero = some z)
    (hsize : i.size = size) (hby : i.bytes = bytes) (hzs : z.cells.size = size) (hsz : 0 < size)
    (v : Value) (n : Nat) (xs : List Value) (hs : a.eval s = v) (hown : w.ownsRow base e size v n xs)
    (ad : Addr) (m c : Nat) (news : List Value) (hx : a.eval x = .slice (some ad) m c) (hl : news.length = m * size) (hnews : ∀ j u, news[j]? = some u → w.cell? (ad.add j) = some u) (h1 : ∀ u ∈ news, u.oneCell' = true)
    (h63 : n + m ≤ maxLen) (hbytes : (n + m) * bytes ≤ 140737488355328) (hbase : base ≤ w.heap.size)
    (hK : ∀ v' w', w'.ownsRow base e size v' (n + m) (xs ++ news) → w.grownBy w' v.ownBlock → (v'.ownBlock = v.ownBlock ∨ v'.ownBlock = some w.heap.size) → K (a.put o.dst v') w') :
    if Region.wanted o (yielded ops a.tmps) = true then Oper.wp P o a w K Q else E := by
  have hw : Region.wanted o (yielded ops a.tmps) = true := by simp [Region.wanted, hg]
  rw [if_pos hw]
  obtain ⟨v', w', hr, h2, h3, h4, h5⟩ := run_append_own_at (P := P) w base t o.type e i z size bytes ht hi hz hsize hby hzs hsz v n xs hown ad m c news hl hnews h1 h63 hbytes hbase
  unfold Oper.wp execOp
  simp only [hop, resolve, invoke, builtin, Sem.run_bind, Sem.run_pure, Result.andThen_ok, List.map_toArray, List.map_cons, List.map_nil, hs, hx, hr]
  exact hK v' w' h2 h3 h5

theorem Tryz.sliceInfo : (Tryz.prog.info? 34).map (fun i => (i.zero, i.size, i.bytes)) = some (some (.slice none 0 0), 1, 24) := by kernel_rfl
theorem Tryz.intInfoB : (Tryz.prog.info? 3).map (fun i => (i.zero, i.size, i.bytes)) = some (some (.int .i64 0), 1, 8) := by kernel_rfl

theorem one_cell_slice (a : Option Addr) (n c : Nat) : ∀ u ∈ [Value.slice a n c], u.oneCell' = true := by
  intro u hu
  simp only [List.mem_singleton] at hu
  subst hu; rfl

end Go.Proofs.YtpmdjicaefmbnaaGreatDoor.B3

namespace Go.Proofs.YtpmdjicaefmbnaaGreatDoor.B3
open Go.RowKit
set_option linter.unusedVariables false
set_option linter.unusedSimpArgs false

theorem step_append_nil {P : Program} {ops : Array Oper} {o : Oper} {a : Act} {w : World} {K : Act → World → Prop} {Q : Exit → Act → World → Prop} {E : Prop}
    (hg : o.guard = none) (s x : Operand) (t : TypeId) (hop : o.op = Op.call { callee := Callee.builtin Builtin.append, args := #[s, x], argTypes := #[t, t] })
    (e : TypeId) (i : TypeInfo) (ht : P.underlying t = some (.slice e)) (hi : P.info? e = some i) (hs : a.eval s = .slice none 0 0) (hx : a.eval x = .slice none 0 0)
    (hK : K (a.put o.dst (.slice none 0 0)) w) : if Region.wanted o (yielded ops a.tmps) = true then Oper.wp P o a w K Q else E := by
  have hw : Region.wanted o (yielded ops a.tmps) = true := by simp [Region.wanted, hg]
  rw [if_pos hw]
  have hr : (Builtin.append_ #[t, t] o.type #[.slice none 0 0, .slice none 0 0]).run P w = .ok (.slice none 0 0) w := by
    simp [Builtin.append_, run_underlying ht, sizeOf, typeInfo, hi, Builtin.lenOf, Builtin.firstCells]
  unfold Oper.wp execOp
  simp only [hop, resolve, invoke, builtin, Sem.run_bind, Sem.run_pure, Result.andThen_ok, List.map_toArray, List.map_cons, List.map_nil, hs, hx, hr]
  exact hK

theorem own_slice (ao : Option Addr) (m c m' c' : Nat) : (Value.slice ao m c).ownBlock = (Value.slice ao m' c').ownBlock := by cases ao <;> rfl

theorem own_not_bk {w : World} {bk g : Nat} {e : TypeId} {base size n : Nat} {v : Value} {xs cs : List Value} (h : w.ownsRow base e size v n xs) (hb : w.heap[bk]? = some (.cells cs.toArray 50 (0, 0))) (he : e ≠ 50) (hg : v.ownBlock = some g) : g ≠ bk := by
  rintro rfl
  obtain ⟨cur, hh⟩ := owns_type h hg
  rw [hb] at hh
  simp only [Option.some.injEq, Obj.cells.injEq] at hh
  exact he hh.2.1.symm

theorem owns_type_ne {w : World} {g : Nat} {e e' : TypeId} {base size n base' size' n' : Nat} {v v' : Value} {xs xs' : List Value} (h : w.ownsRow base e size v n xs) (h' : w.ownsRow base' e' size' v' n' xs') (he : e ≠ e') (hg : v.ownBlock = some g) : v'.ownBlock ≠ some g := by
  intro hg'
  obtain ⟨cur, hh⟩ := owns_type h hg
  obtain ⟨cur2, hh2⟩ := owns_type h' hg'
  rw [hh] at hh2
  simp only [Option.some.injEq, Obj.cells.injEq] at hh2
  exact he hh2.2.1

theorem ints_end {w w3 w6 w7 : World} {bk m n : Nat} {vi vw vp vq vi' vw' v u : Value} {es : List Ent} {xs : List Int} {o : Obj} (H : BookAt w bk vi vw vp vq es) (hm : m = es.length) (hlt : m < 400) (hn : n = xs.length)
    (hv : w.ownsRow 0 3 1 v xs.length (xs.map (Value.int .i64))) (hN : ∀ g, v.ownBlock = some g → g ∉ entBlocks es) (T3 : Turned (BkOwn bk vi vw) w w3)
    (hb7 : w7.heap[bk]? = some (.cells #[vi', vw, .slice none 0 0, .slice none 0 0, .slice none 0 0, .slice none 0 0, .slice none 0 0, .slice none 0 0, .slice none 0 0, .slice none 0 0, .slice none 0 0, .slice none 0 0, .slice none 0 0, .slice none 0 0, .slice none 0 0, .slice none 0 0, vp, vq, .slice none 0 0, .slice none 0 0, .slice none 0 0, .slice none 0 0] 50 (0, 0)))
    (own3 : w3.ownsRow 0 34 1 vi' (m + 1) (es.map (·.v) ++ [v])) (hai : ∀ g, vi'.ownBlock = some g → vw.ownBlock ≠ some g) (hia : ∀ g, vi'.ownBlock = some g → vi.ownBlock = some g ∨ w.heap.size ≤ g)
    (own6 : w6.ownsRow w.heap.size 3 1 u n (xs.map (Value.int .i64))) (gr6 : w3.drew.grownBy w6 none) (own7 : w7.ownsRow 0 34 1 vw' (m + 1) (es.map (·.u) ++ [u]))
    (gr7 : (w6.alloc o).grownBy w7 vw.ownBlock) (at7 : vw'.ownBlock = vw.ownBlock ∨ vw'.ownBlock = some (w6.alloc o).heap.size) (hxl : n ≤ 900000) :
    IntsDone w bk vi vw vp vq es v xs (.returned (.tuple #[])) (w7.setCell ⟨bk, 1, none⟩ vw') := by
  subst hm hn
  have hs3 := T3.size
  have hs6 : w3.heap.size ≤ w6.heap.size := gr6.size
  have hbw : bk < w.heap.size := (Array.getElem?_eq_some_iff.1 H.box).1
  have hvil : ∀ g, vi.ownBlock = some g → g < w.heap.size := fun g hg => owns_lt H.ri hg
  have hvwl : ∀ g, vw.ownBlock = some g → g < w.heap.size := fun g hg => owns_lt H.rw hg
  -- what stands from w3 on, and from w6 on
  have from6 : ∀ k, k < w6.heap.size → k ≠ bk → vw.ownBlock ≠ some k → (w7.setCell ⟨bk, 1, none⟩ vw').heap[k]? = w6.heap[k]? := by
    intro k hk h1 h2
    rw [Below.heap_setCell _ _ _ _ h1]
    exact (gr7.block k (by simp; omega) (fun e => h2 e.symm)).trans (Below.heap_alloc _ _ _ hk)
  have from3 : ∀ k, k < w3.heap.size → k ≠ bk → vw.ownBlock ≠ some k → (w7.setCell ⟨bk, 1, none⟩ vw').heap[k]? = w3.heap[k]? := by
    intro k hk h1 h2
    exact (from6 k (by omega) h1 h2).trans (gr6.block k hk (by simp))
  have from0 : ∀ k, k < w.heap.size → k ≠ bk → vi.ownBlock ≠ some k → vw.ownBlock ≠ some k → (w7.setCell ⟨bk, 1, none⟩ vw').heap[k]? = w.heap[k]? := by
    intro k hk h1 h2 h3
    refine (from3 k (by omega) h1 h3).trans (T3.block k hk ?_)
    rintro (h | h | h)
    · exact h1 h
    · exact h2 h
    · exact h3 h
  have keepI : ∀ {v0 : Value} {n0 : Nat} {ys : List Value}, w.ownsRow 0 3 1 v0 n0 ys → (w7.setCell ⟨bk, 1, none⟩ vw').ownsRow 0 3 1 v0 n0 ys := by
    intro v0 n0 ys h
    refine owns_keep h (fun g hg => from0 g (owns_lt h hg) ?_ (owns_type_ne h H.ri (by decide) hg) (owns_type_ne h H.rw (by decide) hg))
    rintro rfl
    obtain ⟨cur, hh⟩ := owns_type h hg
    have := H.box; rw [hh] at this; simp at this
  have hu0 : ∀ g, u.ownBlock = some g → w.heap.size ≤ g ∧ g < w6.heap.size := fun g hg => own6.lt g hg
  have own6' : (w7.setCell ⟨bk, 1, none⟩ vw').ownsRow 0 3 1 u xs.length (xs.map (Value.int .i64)) := by
    refine owns_keep (owns_base own6 (Nat.zero_le _)) (fun g hg => from6 g (hu0 g hg).2 ?_ ?_)
    · have := (hu0 g hg).1; omega
    · intro hc; have := (hu0 g hg).1; have := hvwl g hc; omega
  have hvib : ∀ g, vi'.ownBlock = some g → g ≠ bk := by
    intro g hg
    rcases hia g hg with h | h
    · rintro rfl
      obtain ⟨cur, hh⟩ := owns_type H.ri h
      have := H.box; rw [hh] at this; simp at this
    · omega
  have hvwb : ∀ g, vw'.ownBlock = some g → g ≠ bk := by
    rintro g hg rfl
    obtain ⟨cur, hh⟩ := owns_type own7 hg
    rw [hb7] at hh; simp at hh
  refine ⟨rfl, vi', vw', es ++ [⟨v, u, xs⟩], ⟨?_, ?_, ?_, ?_, ?_, ?_, ?_⟩, by simp; omega, .inr ⟨u, rfl, fun g hg => (hu0 g hg).1⟩, ?_, ?_, hia, fun g hg => ?_⟩
  · simp [World.setCell, Array.getElem?_modify, hb7]
  · have : (w7.setCell ⟨bk, 1, none⟩ vw').ownsRow 0 34 1 vi' (es.length + 1) (es.map (·.v) ++ [v]) := owns_keep own3 (fun g hg => from3 g (owns_lt own3 hg) (hvib g hg) (hai g hg))
    simpa using this
  · have : (w7.setCell ⟨bk, 1, none⟩ vw').ownsRow 0 34 1 vw' (es.length + 1) (es.map (·.u) ++ [u]) := owns_keep own7 (fun g hg => Below.heap_setCell _ _ _ _ (hvwb g hg))
    simpa using this
  · intro g hg hc
    rcases at7 with e | e
    · rw [e] at hc; exact hai g hg hc
    · rw [e] at hc
      have := owns_lt own3 hg
      simp at hc; omega
  · intro e he
    rcases List.mem_append.1 he with he | he
    · exact ⟨keepI (H.ent e he).1, keepI (H.ent e he).2⟩
    · obtain rfl := List.mem_singleton.1 he
      exact ⟨keepI hv, own6'⟩
  · rw [entBlocks_snoc]
    refine List.nodup_append.2 ⟨H.nd, ?_, ?_⟩
    · refine List.nodup_append.2 ⟨?_, ?_, ?_⟩
      · cases h : v.ownBlock <;> simp [blk, h]
      · cases h : u.ownBlock <;> simp [blk, h]
      · intro a ha b hb e
        subst e
        have h1 := owns_lt hv (mem_blk.1 ha)
        have h2 := (hu0 a (mem_blk.1 hb)).1
        omega
    · intro a ha b hb e
      subst e
      rcases List.mem_append.1 hb with hb | hb
      · exact hN a (mem_blk.1 hb) ha
      · have h1 := H.foot_lt (.inr (.inr (.inr ha)))
        have h2 := (hu0 a (mem_blk.1 hb)).1
        omega
  · intro e he
    rcases List.mem_append.1 he with he | he
    · exact H.sz e he
    · obtain rfl := List.mem_singleton.1 he
      exact hxl
  · intro k hk
    rcases hk with rfl | hk | hk | hk
    · exact .inl (.inl rfl)
    · rcases hia k hk with h | h
      · exact .inl (.inr (.inl h))
      · exact .inr (.inr h)
    · rcases at7 with e | e
      · rw [e] at hk; exact .inl (.inr (.inr (.inl hk)))
      · rw [e] at hk; simp at hk; right; right; omega
    · rw [entBlocks_snoc] at hk
      rcases List.mem_append.1 hk with hk | hk
      · exact .inl (.inr (.inr (.inr hk)))
      · rcases List.mem_append.1 hk with hk | hk
        · exact .inr (.inl (mem_blk.1 hk))
        · exact .inr (.inr (hu0 k (mem_blk.1 hk)).1)
  · have t6 : Turned (BkOwn bk vi vw) w w6 := T3.drew.grown gr6 (fun k hk => by cases hk)
    exact ((t6.alloc o).grown gr7 (fun k hk => .inl (.inr (.inr hk)))).setCell (p := ⟨bk, 1, none⟩) (.inl (.inl rfl)) _
  · rcases at7 with e | e
    · rw [e] at hg; exact .inl hg
    · rw [e] at hg; simp at hg; right; omega

set_option maxHeartbeats 4000000 in
set_option maxRecDepth 100000 in
theorem bookInts {w : World} {bk : Nat} {vi vw vp vq v : Value} {es : List Ent} {xs : List Int} (h : BookAt w bk vi vw vp vq es) (hl : es.length ≤ 400) (hv : w.ownsRow 0 3 1 v xs.length (xs.map (Value.int .i64))) (hx : xs.length ≤ 900000)
    (hn : ∀ g, v.ownBlock = some g → g ∉ entBlocks es) : Calls Tryz.prog 59 #[.pointer (some ⟨bk, 0, none⟩), v] w (IntsDone w bk vi vw vp vq es v xs) := by
  obtain ⟨i0, hi, hz0, hz1, hz2⟩ := info_parts Tryz.sliceInfo
  obtain ⟨j0, hj, hy0, hy1, hy2⟩ := info_parts Tryz.intInfoB
  obtain ⟨ao, ci, rfl⟩ := owns_shape' h.ri
  obtain ⟨bo, cw, rfl⟩ := owns_shape' h.rw
  have c0 : w.cell? ⟨bk, 0, none⟩ = some (.slice ao es.length ci) := by simp [World.cell?, h.box]
  have f0 : w.frozen? ⟨bk, 0, none⟩ = false := by simp [World.frozen?, h.box]
  have hbl : bk < w.heap.size := (Array.getElem?_eq_some_iff.1 h.box).1
  by_cases hfull : es.length = 400
  · have H := Lib.hid h
    obtain ⟨m, hm⟩ : ∃ m, m = es.length := ⟨_, rfl⟩
    have hm4 : m = 400 := by omega
    rw [← hm] at c0
    subst hm4
    have H4 := Lib.hid hm
    obtain ⟨vo, vc, rfl⟩ := owns_shape' hv
    clear h hl hv hn hfull hm f0
    go_enter Tryz.func59, Tryz.ntmps59
    go_wp2_with fail
    go_end0
    exact ⟨rfl, _, _, es, H.out, by rw [← H4.out]; exact Nat.le_refl _, .inl rfl, fun k hk => .inl hk, Turned.refl _ _, fun g hg => .inl hg, fun g hg => .inl hg⟩
  · have hlt : es.length < 400 := by omega
    have hri := h.ri
    have hrw := h.rw
    obtain ⟨m, hm⟩ : ∃ m, m = es.length := ⟨_, rfl⟩
    rw [← hm] at c0 hlt hri hrw
    have HM := Lib.hid hm
    have H := Lib.hid h
    have HV := Lib.hid hv
    have HN := Lib.hid hn
    have hap := h.ap
    obtain ⟨vo, vc, rfl⟩ := owns_shape' hv
    obtain ⟨n, hnx⟩ : ∃ n, n = xs.length := ⟨_, rfl⟩
    rw [← hnx] at hx ⊢
    have HX := Lib.hid hnx
    have hne : ∀ c, (Value.slice ao m c).ownBlock ≠ some bk := by
      intro c hc
      have hr := h.ri
      have : (Value.slice ao es.length ci).ownBlock = some bk := by rw [own_slice ao es.length ci m c]; exact hc
      obtain ⟨cur, hh⟩ := owns_type hr this
      have := h.box; rw [hh] at this; simp at this
    have hnw : (Value.slice bo es.length cw).ownBlock ≠ some bk := by
      intro hc
      obtain ⟨cur, hh⟩ := owns_type h.rw hc
      have := h.box; rw [hh] at this; simp at this
    rw [← hm] at hnw
    clear h hl hv hn hfull hm hnx
    go_enter Tryz.func59, Tryz.ntmps59
    go_upto_region 2 with (at_builtin; (refine wpList_append_own_at _ rfl _ _ 26 rfl 0 34 i0 (.slice none 0 0) 1 24 Tryz.underlying26 hi hz0 hz1 hz2 rfl (by decide) _ m _ rfl (hri.alloc _) ⟨w.heap.size, 0, none⟩ 1 1 [.slice vo n vc] rfl rfl (cell_one_new _ _ _) (one_cell_slice _ _ _) (by unfold maxLen; omega) (by omega) (Nat.zero_le _) ?_); intro vi' w2 hown' hgrow' hnil' hat'; clear hnil'; (obtain ⟨ai, ci', rfl⟩ := owns_shape' hown'); (have hb2 := (hgrow'.block bk (by simp; omega) (fun e => hne ci e.symm)).trans ((Below.heap_alloc _ _ _ hbl).trans H.out.box)); (have c02 : w2.cell? ⟨bk, 0, none⟩ = some (.slice ao es.length ci) := by simp [World.cell?, hb2]); (have f02 : w2.frozen? ⟨bk, 0, none⟩ = false := by simp [World.frozen?, hb2]))
    obtain ⟨w3, hw3⟩ : ∃ w3, w2.setCell ⟨bk, 0, none⟩ (.slice ai (m + 1) ci') = w3 := ⟨_, rfl⟩
    have hgr : (w.alloc (.cells #[.slice vo n vc] 34)).grownBy w2 (Value.slice ao m ci).ownBlock := hgrow'
    have hat2 : (Value.slice ai (m + 1) ci').ownBlock = (Value.slice ao m ci).ownBlock ∨ (Value.slice ai (m + 1) ci').ownBlock = some (w.alloc (.cells #[.slice vo n vc] 34)).heap.size := hat'
    have hT2 : Turned (BkOwn bk (.slice ao m ci) (.slice bo m cw)) w w2 := ((Turned.refl _ _).alloc _).grown hgr (fun k hk => .inl (.inr (.inl hk)))
    have hT3 : Turned (BkOwn bk (.slice ao m ci) (.slice bo m cw)) w w3 := by rw [← hw3]; exact hT2.setCell (p := ⟨bk, 0, none⟩) (.inl (.inl rfl)) _
    have hin : (Value.slice ai (m + 1) ci').ownBlock = some bk → False := by
      intro hc
      obtain ⟨cur, hh⟩ := owns_type hown' hc
      rw [hb2] at hh; simp at hh
    have hown3 : w3.ownsRow 0 34 1 (.slice ai (m + 1) ci') (m + 1) (es.map (·.v) ++ [.slice vo n vc]) := by rw [← hw3]; exact owns_keep hown' (fun g hg => Below.heap_setCell _ _ _ _ (by rintro rfl; exact hin hg))
    have hfar : ∀ k, k < w.heap.size → k ≠ bk → (Value.slice ao m ci).ownBlock ≠ some k → w3.heap[k]? = w.heap[k]? := by
      intro k hk h1 h2
      rw [← hw3, Below.heap_setCell _ _ _ _ h1]
      exact (hgr.block k (by simp; omega) (fun e => h2 e.symm)).trans (Below.heap_alloc _ _ _ hk)
    have hrw3 : w3.ownsRow 0 34 1 (.slice bo m cw) m (es.map (·.u)) := owns_keep hrw (fun g hg => hfar g (owns_lt hrw hg) (by rintro rfl; exact hnw hg) (by
      intro hc
      refine hap g ?_ ?_
      · rw [own_slice ao es.length ci m ci]; exact hc
      · rw [own_slice bo es.length cw m cw]; exact hg))
    have hvt : ∀ g, (Value.slice vo n vc).ownBlock = some g → g < w.heap.size ∧ g ≠ bk ∧ (Value.slice ao m ci).ownBlock ≠ some g ∧ (Value.slice bo m cw).ownBlock ≠ some g := by
      intro g hg
      rw [own_slice vo n vc xs.length vc] at hg
      obtain ⟨cur, hh⟩ := owns_type HV.out hg
      refine ⟨owns_lt HV.out hg, ?_, ?_, ?_⟩
      · rintro rfl; have := H.out.box; rw [hh] at this; simp at this
      · intro hc; obtain ⟨cur2, hh2⟩ := owns_type hri hc; rw [hh] at hh2; simp at hh2
      · intro hc; obtain ⟨cur2, hh2⟩ := owns_type hrw hc; rw [hh] at hh2; simp at hh2
    have hv3 : w3.ownsRow 0 3 1 (.slice vo n vc) n (xs.map (Value.int .i64)) := by
      have hv0 := HV.out
      rw [← HX.out] at hv0
      exact owns_keep hv0 (fun g hg => hfar g (hvt g hg).1 (hvt g hg).2.1 (hvt g hg).2.2.1)
    have hb3 : w3.heap[bk]? = some (.cells #[.slice ai (m + 1) ci', .slice bo m cw, .slice none 0 0, .slice none 0 0, .slice none 0 0, .slice none 0 0, .slice none 0 0, .slice none 0 0, .slice none 0 0, .slice none 0 0, .slice none 0 0, .slice none 0 0, .slice none 0 0, .slice none 0 0, .slice none 0 0, .slice none 0 0, vp, vq, .slice none 0 0, .slice none 0 0, .slice none 0 0, .slice none 0 0] 50 (0, 0)) := by
      rw [← hw3]
      simp [World.setCell, Array.getElem?_modify, hb2, ← HM.out]
    have hs3 : w.heap.size ≤ w3.heap.size := hT3.size
    have hai : ∀ g, (Value.slice ai (m + 1) ci').ownBlock = some g → (Value.slice bo m cw).ownBlock ≠ some g := by
      intro g hg hc
      rcases hat2 with e | e
      · rw [e] at hg
        refine hap g ?_ ?_
        · rw [own_slice ao es.length ci m ci]; exact hg
        · rw [own_slice bo es.length cw m cw]; exact hc
      · rw [e] at hg
        have := owns_lt hrw hc
        simp at hg; omega
    have hia : ∀ g, (Value.slice ai (m + 1) ci').ownBlock = some g → (Value.slice ao m ci).ownBlock = some g ∨ w.heap.size ≤ g := by
      intro g hg
      rcases hat2 with e | e
      · rw [e] at hg; exact .inl hg
      · rw [e] at hg; simp at hg; right; omega
    rw [hw3]
    clear hat' hat2 hgr hw3 hgrow' hown' hb2 c02 f02 hfar hT2
    have hb31 : w3.cell? ⟨bk, 1, none⟩ = some (.slice bo m cw) := by simp [World.cell?, hb3]
    have hf31 : w3.frozen? ⟨bk, 1, none⟩ = false := by simp [World.frozen?, hb3]
    have hbl3 : bk < w3.heap.size := (Array.getElem?_eq_some_iff.1 hb3).1
    rcases owns_cases hv3 with ⟨h0, hn0, hx0⟩ | ⟨gv, cv, h0, hrv, hcv, hcm, _⟩
    · simp only [Value.slice.injEq] at h0
      obtain ⟨rfl, hn00, rfl⟩ := h0
      have hxs : xs = [] := List.eq_nil_of_length_eq_zero (by rw [← HX.out]; exact hn00)
      have hown6 : w3.ownsRow w.heap.size 3 1 (.slice none 0 0) n (xs.map (Value.int .i64)) := by
        rw [hxs, hn00]; exact World.ownsRow_nil _ _ _ _
      have hrw3a : (w3.alloc (.cells #[.slice none 0 0] 34)).drew.ownsRow 0 34 1 (.slice bo m cw) m (es.map (·.u)) := by
        have := hrw3.alloc (.cells #[.slice none 0 0] 34)
        exact this
      have hgr6 : w3.drew.grownBy w3 none := ⟨rfl, rfl, rfl, Nat.le_refl _, fun _ _ _ => rfl⟩
      have HX0 := Lib.hid hn00
      rw [hn00]
      go_region_law (first
        | (refine step_append_nil rfl (.const (.slice none 0 0)) (.tmp 25) 34 rfl 3 j0 Tryz.underlying34 hj rfl rfl ?_)
        | (refine step_append_book rfl (.tmp 24) (.tmp 27) 26 rfl 0 34 i0 (.slice none 0 0) 1 24 Tryz.underlying26 hi hz0 hz1 hz2 rfl (by decide) (.slice bo m cw) m (es.map (·.u)) rfl hrw3a ⟨w3.heap.size, 0, none⟩ 1 1 [.slice none 0 0] rfl rfl (cell_one_new _ _ _) (one_cell_slice _ _ _) (by unfold maxLen; omega) (by omega) (Nat.zero_le _) ?_; intro vw' w7 hown7 hgrow7 hat7; (obtain ⟨aw, cw7, rfl⟩ := owns_shape' hown7); (have hgr7 : (w3.alloc (.cells #[.slice none 0 0] 34)).grownBy w7 (Value.slice bo m cw).ownBlock := ⟨hgrow7.os, hgrow7.tape, hgrow7.output, hgrow7.size, hgrow7.block⟩); (have hb7 := (hgr7.block bk (by simp; omega) (fun e => hnw e.symm)).trans ((Below.heap_alloc w3 _ _ hbl3).trans hb3)); (have c17 : w7.cell? ⟨bk, 1, none⟩ = some (.slice bo m cw) := by simp [World.cell?, hb7]); (have f17 : w7.frozen? ⟨bk, 1, none⟩ = false := by simp [World.frozen?, hb7])))
      all_goals go_wp2_with fail
      all_goals go_end0
      all_goals
        have hE := HX.out
        have hM := HM.out
        subst hM
        subst hE
        subst hxs
        exact ints_end H.out rfl hlt rfl HV.out HN.out hT3 hb7 hown3 hai hia hown6 hgr6 hown7 hgr7 hat7 (by first | exact hx | simp)
    · simp only [Value.slice.injEq, true_and] at h0
      obtain ⟨rfl, rfl⟩ := h0
      have hcells : ∀ j u, (xs.map (Value.int .i64))[j]? = some u → w3.drew.cell? ((⟨gv, 0, none⟩ : Addr).add j) = some u := by
        intro j u hu
        show w3.cell? _ = _
        have : (⟨gv, 0, none⟩ : Addr).add j = ⟨gv, j, none⟩ := by
          unfold Addr.add; split
          · rename_i h; subst h; rfl
          · simp
        rw [this]
        exact hrv.cell hu
      have hmx : (xs.map (Value.int .i64)).length = n * 1 := by rw [List.length_map, Nat.mul_one]; exact HX.out.symm
      go_region_law (first
        | (refine step_append_book rfl (.const (.slice none 0 0)) (.tmp 25) 34 rfl w.heap.size 3 j0 (.int .i64 0) 1 8 Tryz.underlying34 hj hy0 hy1 hy2 rfl (by decide) (.slice none 0 0) 0 [] rfl (World.ownsRow_nil _ _ _ _) ⟨gv, 0, none⟩ n vc (xs.map (Value.int .i64)) rfl hmx hcells (ints_oneCell .i64 xs) (by unfold maxLen; omega) (by omega) (by simpa using hs3) ?_; intro u w6 hown6 hgrow6 hat6; (simp only [Nat.zero_add, List.nil_append] at hown6); (obtain ⟨ua, uc, rfl⟩ := owns_shape' hown6); (have hgr6 : w3.drew.grownBy w6 none := hgrow6); (have hb6 := (hgr6.block bk (by simpa using hbl3) (by simp)).trans hb3); (have hrw6 : w6.ownsRow 0 34 1 (.slice bo m cw) m (es.map (·.u)) := owns_keep hrw3 (fun g hg => hgr6.block g (by have := owns_lt hrw3 hg; simpa using this) (by simp))); (have c16 : w6.cell? ⟨bk, 1, none⟩ = some (.slice bo m cw) := by simp [World.cell?, hb6]); (have hbl6 : bk < w6.heap.size := (Array.getElem?_eq_some_iff.1 hb6).1))
        | (refine step_append_book rfl (.tmp 24) (.tmp 27) 26 rfl 0 34 i0 (.slice none 0 0) 1 24 Tryz.underlying26 hi hz0 hz1 hz2 rfl (by decide) (.slice bo m cw) m (es.map (·.u)) rfl (hrw6.alloc _) ⟨w6.heap.size, 0, none⟩ 1 1 [.slice ua n uc] rfl rfl (cell_one_new _ _ _) (one_cell_slice _ _ _) (by unfold maxLen; omega) (by omega) (Nat.zero_le _) ?_; intro vw' w7 hown7 hgrow7 hat7; (obtain ⟨aw, cw7, rfl⟩ := owns_shape' hown7); (have hgr7 : (w6.alloc (.cells #[.slice ua n uc] 34)).grownBy w7 (Value.slice bo m cw).ownBlock := hgrow7); (have hb7 := (hgr7.block bk (by simp; omega) (fun e => hnw e.symm)).trans ((Below.heap_alloc _ _ _ hbl6).trans hb6)); (have c17 : w7.cell? ⟨bk, 1, none⟩ = some (.slice bo m cw) := by simp [World.cell?, hb7]); (have f17 : w7.frozen? ⟨bk, 1, none⟩ = false := by simp [World.frozen?, hb7])))
      all_goals go_wp2_with fail
      all_goals go_end0
      all_goals
        have hE := HX.out
        subst hE
        have hM := HM.out
        subst hM
        exact ints_end H.out rfl hlt rfl HV.out HN.out hT3 hb7 hown3 hai hia hown6 hgr6 hown7 hgr7 hat7 (by first | exact hx | simp)

end Go.Proofs.YtpmdjicaefmbnaaGreatDoor.B3

namespace Go.Proofs.YtpmdjicaefmbnaaGreatDoor.Rw
open Go.RowKit
set_option linter.unusedVariables false
set_option linter.unusedSimpArgs false

/-- A list that the book keeps: the list, the copy that was made at once, what both hold. -/
structure Ent where
  v : Value
  u : Value
  xs : List Value

/-- A slice's own block, as a list. -/
def blk (v : Value) : List Nat := v.ownBlock.toList

def entBlocks (es : List Ent) : List Nat := es.flatMap fun e => blk e.v ++ blk e.u

theorem mem_blk {v : Value} {g : Nat} : g ∈ blk v ↔ v.ownBlock = some g := by simp [blk]

theorem entBlocks_snoc (es : List Ent) (e : Ent) : entBlocks (es ++ [e]) = entBlocks es ++ (blk e.v ++ blk e.u) := by simp [entBlocks]

theorem mem_entBlocks {es : List Ent} {g : Nat} : g ∈ entBlocks es ↔ ∃ e ∈ es, e.v.ownBlock = some g ∨ e.u.ownBlock = some g := by
  simp only [entBlocks, List.mem_flatMap, List.mem_append, mem_blk]

/-- A book that keeps lists of integers alone. -/
structure BookAt (w : World) (bk : Nat) (vi vw vp vq : Value) (es : List Ent) : Prop where
  box : w.heap[bk]? = some (.cells #[vp, vq, .slice none 0 0, .slice none 0 0, .slice none 0 0, .slice none 0 0, .slice none 0 0, .slice none 0 0, .slice none 0 0, .slice none 0 0, .slice none 0 0, .slice none 0 0, .slice none 0 0, .slice none 0 0, .slice none 0 0, .slice none 0 0, vi, vw, .slice none 0 0, .slice none 0 0, .slice none 0 0, .slice none 0 0] 50 (0, 0))
  ri : w.ownsRow 0 26 1 vi es.length (es.map (·.v))
  rw : w.ownsRow 0 26 1 vw es.length (es.map (·.u))
  ap : ∀ g, vi.ownBlock = some g → vw.ownBlock ≠ some g
  ent : ∀ e ∈ es, w.ownsRow 0 34 1 e.v e.xs.length e.xs ∧ w.ownsRow 0 34 1 e.u e.xs.length e.xs
  nd : (entBlocks es).Nodup
  sz : ∀ e ∈ es, e.xs.length ≤ 900000

/-- The book's blocks; and those of them that Rows writes. -/
def BkFoot (bk : Nat) (vi vw : Value) (es : List Ent) (k : Nat) : Prop := k = bk ∨ vi.ownBlock = some k ∨ vw.ownBlock = some k ∨ k ∈ entBlocks es
def BkOwn (bk : Nat) (vi vw : Value) (k : Nat) : Prop := k = bk ∨ vi.ownBlock = some k ∨ vw.ownBlock = some k

theorem BookAt.keep {w w' : World} {bk : Nat} {vi vw vp vq : Value} {es : List Ent} (h : BookAt w bk vi vw vp vq es) (hk : ∀ k, BkFoot bk vi vw es k → w'.heap[k]? = w.heap[k]?) : BookAt w' bk vi vw vp vq es :=
  ⟨(hk bk (.inl rfl)).trans h.box, owns_keep h.ri (fun g hg => hk g (.inr (.inl hg))), owns_keep h.rw (fun g hg => hk g (.inr (.inr (.inl hg)))), h.ap,
    fun e he => ⟨owns_keep (h.ent e he).1 (fun g hg => hk g (.inr (.inr (.inr (mem_entBlocks.2 ⟨e, he, .inl hg⟩))))), owns_keep (h.ent e he).2 (fun g hg => hk g (.inr (.inr (.inr (mem_entBlocks.2 ⟨e, he, .inr hg⟩)))))⟩, h.nd, h.sz⟩

theorem BookAt.foot_lt {w : World} {bk k : Nat} {vi vw vp vq : Value} {es : List Ent} (h : BookAt w bk vi vw vp vq es) (hk : BkFoot bk vi vw es k) : k < w.heap.size := by
  rcases hk with rfl | hk | hk | hk
  · exact (Array.getElem?_eq_some_iff.1 h.box).1
  · exact owns_lt h.ri hk
  · exact owns_lt h.rw hk
  · obtain ⟨e, he, hk | hk⟩ := mem_entBlocks.1 hk
    · exact owns_lt (h.ent e he).1 hk
    · exact owns_lt (h.ent e he).2 hk

theorem BookAt.up {w w' : World} {bk : Nat} {vi vw vp vq : Value} {es : List Ent} (h : BookAt w bk vi vw vp vq es) (hu : Up w w') : BookAt w' bk vi vw vp vq es :=
  h.keep (fun k hk => hu.block k (h.foot_lt hk))

/-- What Rows leaves. -/
def RowsDone (w : World) (bk : Nat) (vi vw vp vq : Value) (es : List Ent) (v : Value) (xs : List Value) (r : Ending) (w' : World) : Prop :=
  r = .returned (.tuple #[]) ∧ ∃ vi' vw' es', BookAt w' bk vi' vw' vp vq es' ∧ es'.length ≤ 400 ∧ (es' = es ∨ ∃ u, es' = es ++ [⟨v, u, xs⟩] ∧ ∀ g, u.ownBlock = some g → w.heap.size ≤ g) ∧
    (∀ k, BkFoot bk vi' vw' es' k → BkFoot bk vi vw es k ∨ v.ownBlock = some k ∨ w.heap.size ≤ k) ∧ Turned (BkOwn bk vi vw) w w' ∧
    (∀ g, vi'.ownBlock = some g → vi.ownBlock = some g ∨ w.heap.size ≤ g) ∧ ∀ g, vw'.ownBlock = some g → vw.ownBlock = some g ∨ w.heap.size ≤ g

/-- append ONTO A SLICE THAT THE CALL OWNS, as one step of a region that draws its order. -/
theorem step_append_book {P : Program} {ops : Array Oper} {o : Oper} {a : Act} {w : World} {K : Act → World → Prop} {Q : Exit → Act → World → Prop} {E : Prop}
    (hg : o.guard = none) (s x : Operand) (t : TypeId) (hop : o.op = Op.call { callee := Callee.builtin Builtin.append, args := #[s, x], argTypes := #[t, t] })
    (base : Nat) (e : TypeId) (i : TypeInfo) (z : Value) (size bytes : Nat) (ht : P.underlying t = some (.slice e)) (hi : P.info? e = some i) (hz : i.zero = some z)
    (hsize : i.size = size) (hby : i.bytes = bytes) (hzs : z.cells.size = size) (hsz : 0 < size)
    (v : Value) (n : Nat) (xs : List Value) (hs : a.eval s = v) (hown : w.ownsRow base e size v n xs)
    (ad : Addr) (m c : Nat) (news : List Value) (hx : a.eval x = .slice (some ad) m c) (hl : news.length = m * size) (hnews : ∀ j u, news[j]? = some u → w.cell? (ad.add j) = some u) (h1 : ∀ u ∈ news, u.oneCell' = true)
    (h63 : n + m ≤ maxLen) (hbytes : (n + m) * bytes ≤ 140737488355328) (hbase : base ≤ w.heap.size)
    (hK : ∀ v' w', w'.ownsRow base e size v' (n + m) (xs ++ news) → w.grownBy w' v.ownBlock → (v'.ownBlock = v.ownBlock ∨ v'.ownBlock = some w.heap.size) → K (a.put o.dst v') w') :
    if Region.wanted o (yielded ops a.tmps) = true then Oper.wp P o a w K Q else E := by
  have hw : Region.wanted o (yielded ops a.tmps) = true := by simp [Region.wanted, hg]
  rw [if_pos hw]
  obtain ⟨v', w', hr, h2, h3, h4, h5⟩ := run_append_own_at (P := P) w base t o.type e i z size bytes ht hi hz hsize hby hzs hsz v n xs hown ad m c news hl hnews h1 h63 hbytes hbase
  unfold Oper.wp execOp
  simp only [hop, resolve, invoke, builtin, Sem.run_bind, Sem.run_pure, Result.andThen_ok, List.map_toArray, List.map_cons, List.map_nil, hs, hx, hr]
  exact hK v' w' h2 h3 h5


theorem one_cell_slice (a : Option Addr) (n c : Nat) : ∀ u ∈ [Value.slice a n c], u.oneCell' = true := by
  intro u hu
  simp only [List.mem_singleton] at hu
  subst hu; rfl

end Go.Proofs.YtpmdjicaefmbnaaGreatDoor.Rw

namespace Go.Proofs.YtpmdjicaefmbnaaGreatDoor.Rw
open Go.RowKit
set_option linter.unusedVariables false
set_option linter.unusedSimpArgs false

theorem step_append_nil {P : Program} {ops : Array Oper} {o : Oper} {a : Act} {w : World} {K : Act → World → Prop} {Q : Exit → Act → World → Prop} {E : Prop}
    (hg : o.guard = none) (s x : Operand) (t : TypeId) (hop : o.op = Op.call { callee := Callee.builtin Builtin.append, args := #[s, x], argTypes := #[t, t] })
    (e : TypeId) (i : TypeInfo) (ht : P.underlying t = some (.slice e)) (hi : P.info? e = some i) (hs : a.eval s = .slice none 0 0) (hx : a.eval x = .slice none 0 0)
    (hK : K (a.put o.dst (.slice none 0 0)) w) : if Region.wanted o (yielded ops a.tmps) = true then Oper.wp P o a w K Q else E := by
  have hw : Region.wanted o (yielded ops a.tmps) = true := by simp [Region.wanted, hg]
  rw [if_pos hw]
  have hr : (Builtin.append_ #[t, t] o.type #[.slice none 0 0, .slice none 0 0]).run P w = .ok (.slice none 0 0) w := by
    simp [Builtin.append_, run_underlying ht, sizeOf, typeInfo, hi, Builtin.lenOf, Builtin.firstCells]
  unfold Oper.wp execOp
  simp only [hop, resolve, invoke, builtin, Sem.run_bind, Sem.run_pure, Result.andThen_ok, List.map_toArray, List.map_cons, List.map_nil, hs, hx, hr]
  exact hK

theorem own_slice (ao : Option Addr) (m c m' c' : Nat) : (Value.slice ao m c).ownBlock = (Value.slice ao m' c').ownBlock := by cases ao <;> rfl

theorem own_not_bk {w : World} {bk g : Nat} {e : TypeId} {base size n : Nat} {v : Value} {xs cs : List Value} (h : w.ownsRow base e size v n xs) (hb : w.heap[bk]? = some (.cells cs.toArray 50 (0, 0))) (he : e ≠ 50) (hg : v.ownBlock = some g) : g ≠ bk := by
  rintro rfl
  obtain ⟨cur, hh⟩ := owns_type h hg
  rw [hb] at hh
  simp only [Option.some.injEq, Obj.cells.injEq] at hh
  exact he hh.2.1.symm

theorem rows_end {w w3 w6 w7 : World} {bk m n : Nat} {vi vw vp vq vi' vw' v u : Value} {es : List Ent} {xs : List Value} {o : Obj} (H : BookAt w bk vi vw vp vq es) (hm : m = es.length) (hlt : m < 400) (hn : n = xs.length)
    (hv : w.ownsRow 0 34 1 v xs.length xs) (hN : ∀ g, v.ownBlock = some g → g ∉ entBlocks es) (T3 : Turned (BkOwn bk vi vw) w w3)
    (hb7 : w7.heap[bk]? = some (.cells #[vp, vq, .slice none 0 0, .slice none 0 0, .slice none 0 0, .slice none 0 0, .slice none 0 0, .slice none 0 0, .slice none 0 0, .slice none 0 0, .slice none 0 0, .slice none 0 0, .slice none 0 0, .slice none 0 0, .slice none 0 0, .slice none 0 0, vi', vw, .slice none 0 0, .slice none 0 0, .slice none 0 0, .slice none 0 0] 50 (0, 0)))
    (own3 : w3.ownsRow 0 26 1 vi' (m + 1) (es.map (·.v) ++ [v])) (hai : ∀ g, vi'.ownBlock = some g → vw.ownBlock ≠ some g) (hia : ∀ g, vi'.ownBlock = some g → vi.ownBlock = some g ∨ w.heap.size ≤ g)
    (own6 : w6.ownsRow w.heap.size 34 1 u n xs) (gr6 : w3.drew.grownBy w6 none) (own7 : w7.ownsRow 0 26 1 vw' (m + 1) (es.map (·.u) ++ [u]))
    (gr7 : (w6.alloc o).grownBy w7 vw.ownBlock) (at7 : vw'.ownBlock = vw.ownBlock ∨ vw'.ownBlock = some (w6.alloc o).heap.size) (hxl : n ≤ 900000) :
    RowsDone w bk vi vw vp vq es v xs (.returned (.tuple #[])) (w7.setCell ⟨bk, 17, none⟩ vw') := by
  subst hm hn
  have hs3 := T3.size
  have hs6 : w3.heap.size ≤ w6.heap.size := gr6.size
  have hbw : bk < w.heap.size := (Array.getElem?_eq_some_iff.1 H.box).1
  have hvil : ∀ g, vi.ownBlock = some g → g < w.heap.size := fun g hg => owns_lt H.ri hg
  have hvwl : ∀ g, vw.ownBlock = some g → g < w.heap.size := fun g hg => owns_lt H.rw hg
  -- what stands from w3 on, and from w6 on
  have from6 : ∀ k, k < w6.heap.size → k ≠ bk → vw.ownBlock ≠ some k → (w7.setCell ⟨bk, 17, none⟩ vw').heap[k]? = w6.heap[k]? := by
    intro k hk h1 h2
    rw [Below.heap_setCell _ _ _ _ h1]
    exact (gr7.block k (by simp; omega) (fun e => h2 e.symm)).trans (Below.heap_alloc _ _ _ hk)
  have from3 : ∀ k, k < w3.heap.size → k ≠ bk → vw.ownBlock ≠ some k → (w7.setCell ⟨bk, 17, none⟩ vw').heap[k]? = w3.heap[k]? := by
    intro k hk h1 h2
    exact (from6 k (by omega) h1 h2).trans (gr6.block k hk (by simp))
  have from0 : ∀ k, k < w.heap.size → k ≠ bk → vi.ownBlock ≠ some k → vw.ownBlock ≠ some k → (w7.setCell ⟨bk, 17, none⟩ vw').heap[k]? = w.heap[k]? := by
    intro k hk h1 h2 h3
    refine (from3 k (by omega) h1 h3).trans (T3.block k hk ?_)
    rintro (h | h | h)
    · exact h1 h
    · exact h2 h
    · exact h3 h
  have keepI : ∀ {v0 : Value} {n0 : Nat} {ys : List Value}, w.ownsRow 0 34 1 v0 n0 ys → (w7.setCell ⟨bk, 17, none⟩ vw').ownsRow 0 34 1 v0 n0 ys := by
    intro v0 n0 ys h
    refine owns_keep h (fun g hg => from0 g (owns_lt h hg) ?_ (owns_type_ne h H.ri (by decide) hg) (owns_type_ne h H.rw (by decide) hg))
    rintro rfl
    obtain ⟨cur, hh⟩ := owns_type h hg
    have := H.box; rw [hh] at this; simp at this
  have hu0 : ∀ g, u.ownBlock = some g → w.heap.size ≤ g ∧ g < w6.heap.size := fun g hg => own6.lt g hg
  have own6' : (w7.setCell ⟨bk, 17, none⟩ vw').ownsRow 0 34 1 u xs.length xs := by
    refine owns_keep (owns_base own6 (Nat.zero_le _)) (fun g hg => from6 g (hu0 g hg).2 ?_ ?_)
    · have := (hu0 g hg).1; omega
    · intro hc; have := (hu0 g hg).1; have := hvwl g hc; omega
  have hvib : ∀ g, vi'.ownBlock = some g → g ≠ bk := by
    intro g hg
    rcases hia g hg with h | h
    · rintro rfl
      obtain ⟨cur, hh⟩ := owns_type H.ri h
      have := H.box; rw [hh] at this; simp at this
    · omega
  have hvwb : ∀ g, vw'.ownBlock = some g → g ≠ bk := by
    rintro g hg rfl
    obtain ⟨cur, hh⟩ := owns_type own7 hg
    rw [hb7] at hh; simp at hh
  refine ⟨rfl, vi', vw', es ++ [⟨v, u, xs⟩], ⟨?_, ?_, ?_, ?_, ?_, ?_, ?_⟩, by simp; omega, .inr ⟨u, rfl, fun g hg => (hu0 g hg).1⟩, ?_, ?_, hia, fun g hg => ?_⟩
  · simp [World.setCell, Array.getElem?_modify, hb7]
  · have : (w7.setCell ⟨bk, 17, none⟩ vw').ownsRow 0 26 1 vi' (es.length + 1) (es.map (·.v) ++ [v]) := owns_keep own3 (fun g hg => from3 g (owns_lt own3 hg) (hvib g hg) (hai g hg))
    simpa using this
  · have : (w7.setCell ⟨bk, 17, none⟩ vw').ownsRow 0 26 1 vw' (es.length + 1) (es.map (·.u) ++ [u]) := owns_keep own7 (fun g hg => Below.heap_setCell _ _ _ _ (hvwb g hg))
    simpa using this
  · intro g hg hc
    rcases at7 with e | e
    · rw [e] at hc; exact hai g hg hc
    · rw [e] at hc
      have := owns_lt own3 hg
      simp at hc; omega
  · intro e he
    rcases List.mem_append.1 he with he | he
    · exact ⟨keepI (H.ent e he).1, keepI (H.ent e he).2⟩
    · obtain rfl := List.mem_singleton.1 he
      exact ⟨keepI hv, own6'⟩
  · rw [entBlocks_snoc]
    refine List.nodup_append.2 ⟨H.nd, ?_, ?_⟩
    · refine List.nodup_append.2 ⟨?_, ?_, ?_⟩
      · cases h : v.ownBlock <;> simp [blk, h]
      · cases h : u.ownBlock <;> simp [blk, h]
      · intro a ha b hb e
        subst e
        have h1 := owns_lt hv (mem_blk.1 ha)
        have h2 := (hu0 a (mem_blk.1 hb)).1
        omega
    · intro a ha b hb e
      subst e
      rcases List.mem_append.1 hb with hb | hb
      · exact hN a (mem_blk.1 hb) ha
      · have h1 := H.foot_lt (.inr (.inr (.inr ha)))
        have h2 := (hu0 a (mem_blk.1 hb)).1
        omega
  · intro e he
    rcases List.mem_append.1 he with he | he
    · exact H.sz e he
    · obtain rfl := List.mem_singleton.1 he
      exact hxl
  · intro k hk
    rcases hk with rfl | hk | hk | hk
    · exact .inl (.inl rfl)
    · rcases hia k hk with h | h
      · exact .inl (.inr (.inl h))
      · exact .inr (.inr h)
    · rcases at7 with e | e
      · rw [e] at hk; exact .inl (.inr (.inr (.inl hk)))
      · rw [e] at hk; simp at hk; right; right; omega
    · rw [entBlocks_snoc] at hk
      rcases List.mem_append.1 hk with hk | hk
      · exact .inl (.inr (.inr (.inr hk)))
      · rcases List.mem_append.1 hk with hk | hk
        · exact .inr (.inl (mem_blk.1 hk))
        · exact .inr (.inr (hu0 k (mem_blk.1 hk)).1)
  · have t6 : Turned (BkOwn bk vi vw) w w6 := T3.drew.grown gr6 (fun k hk => by cases hk)
    exact ((t6.alloc o).grown gr7 (fun k hk => .inl (.inr (.inr hk)))).setCell (p := ⟨bk, 17, none⟩) (.inl (.inl rfl)) _
  · rcases at7 with e | e
    · rw [e] at hg; exact .inl hg
    · rw [e] at hg; simp at hg; right; omega

set_option maxHeartbeats 4000000 in
set_option maxRecDepth 100000 in
theorem bookRows {w : World} {bk : Nat} {vi vw vp vq v : Value} {es : List Ent} {xs : List Value} (h : BookAt w bk vi vw vp vq es) (hl : es.length ≤ 400) (hv : w.ownsRow 0 34 1 v xs.length xs) (hx : xs.length ≤ 900000) (h1s : ∀ u ∈ xs, u.oneCell' = true)
    (hn : ∀ g, v.ownBlock = some g → g ∉ entBlocks es) : Calls Tryz.prog 60 #[.pointer (some ⟨bk, 0, none⟩), v] w (RowsDone w bk vi vw vp vq es v xs) := by
  obtain ⟨i0, hi, hz0, hz1, hz2⟩ := info_parts Tryz.sliceInfoR
  obtain ⟨j0, hj, hy0, hy1, hy2⟩ := info_parts Tryz.sliceInfoW
  obtain ⟨ao, ci, rfl⟩ := owns_shape' h.ri
  obtain ⟨bo, cw, rfl⟩ := owns_shape' h.rw
  have c0 : w.cell? ⟨bk, 16, none⟩ = some (.slice ao es.length ci) := by simp [World.cell?, h.box]
  have f0 : w.frozen? ⟨bk, 16, none⟩ = false := by simp [World.frozen?, h.box]
  have hbl : bk < w.heap.size := (Array.getElem?_eq_some_iff.1 h.box).1
  by_cases hfull : es.length = 400
  · have H := Lib.hid h
    obtain ⟨m, hm⟩ : ∃ m, m = es.length := ⟨_, rfl⟩
    have hm4 : m = 400 := by omega
    rw [← hm] at c0
    subst hm4
    have H4 := Lib.hid hm
    obtain ⟨vo, vc, rfl⟩ := owns_shape' hv
    clear h hl hv hn hfull hm f0
    go_enter Tryz.func60, Tryz.ntmps60
    go_wp2_with fail
    go_end0
    exact ⟨rfl, _, _, es, H.out, by rw [← H4.out]; exact Nat.le_refl _, .inl rfl, fun k hk => .inl hk, Turned.refl _ _, fun g hg => .inl hg, fun g hg => .inl hg⟩
  · have hlt : es.length < 400 := by omega
    have hri := h.ri
    have hrw := h.rw
    obtain ⟨m, hm⟩ : ∃ m, m = es.length := ⟨_, rfl⟩
    rw [← hm] at c0 hlt hri hrw
    have HM := Lib.hid hm
    have H := Lib.hid h
    have HV := Lib.hid hv
    have HN := Lib.hid hn
    have hap := h.ap
    obtain ⟨vo, vc, rfl⟩ := owns_shape' hv
    obtain ⟨n, hnx⟩ : ∃ n, n = xs.length := ⟨_, rfl⟩
    rw [← hnx] at hx ⊢
    have HX := Lib.hid hnx
    have hne : ∀ c, (Value.slice ao m c).ownBlock ≠ some bk := by
      intro c hc
      have hr := h.ri
      have : (Value.slice ao es.length ci).ownBlock = some bk := by rw [own_slice ao es.length ci m c]; exact hc
      obtain ⟨cur, hh⟩ := owns_type hr this
      have := h.box; rw [hh] at this; simp at this
    have hnw : (Value.slice bo es.length cw).ownBlock ≠ some bk := by
      intro hc
      obtain ⟨cur, hh⟩ := owns_type h.rw hc
      have := h.box; rw [hh] at this; simp at this
    rw [← hm] at hnw
    clear h hl hv hn hfull hm hnx
    go_enter Tryz.func60, Tryz.ntmps60
    go_upto_region 2 with (at_builtin; (refine wpList_append_own_at _ rfl _ _ 46 rfl 0 26 i0 (.slice none 0 0) 1 24 Tryz.underlying46 hi hz0 hz1 hz2 rfl (by decide) _ m _ rfl (hri.alloc _) ⟨w.heap.size, 0, none⟩ 1 1 [.slice vo n vc] rfl rfl (cell_one_new _ _ _) (one_cell_slice _ _ _) (by unfold maxLen; omega) (by omega) (Nat.zero_le _) ?_); intro vi' w2 hown' hgrow' hnil' hat'; clear hnil'; (obtain ⟨ai, ci', rfl⟩ := owns_shape' hown'); (have hb2 := (hgrow'.block bk (by simp; omega) (fun e => hne ci e.symm)).trans ((Below.heap_alloc _ _ _ hbl).trans H.out.box)); (have c02 : w2.cell? ⟨bk, 16, none⟩ = some (.slice ao es.length ci) := by simp [World.cell?, hb2]); (have f02 : w2.frozen? ⟨bk, 16, none⟩ = false := by simp [World.frozen?, hb2]))
    obtain ⟨w3, hw3⟩ : ∃ w3, w2.setCell ⟨bk, 16, none⟩ (.slice ai (m + 1) ci') = w3 := ⟨_, rfl⟩
    have hgr : (w.alloc (.cells #[.slice vo n vc] 26)).grownBy w2 (Value.slice ao m ci).ownBlock := hgrow'
    have hat2 : (Value.slice ai (m + 1) ci').ownBlock = (Value.slice ao m ci).ownBlock ∨ (Value.slice ai (m + 1) ci').ownBlock = some (w.alloc (.cells #[.slice vo n vc] 26)).heap.size := hat'
    have hT2 : Turned (BkOwn bk (.slice ao m ci) (.slice bo m cw)) w w2 := ((Turned.refl _ _).alloc _).grown hgr (fun k hk => .inl (.inr (.inl hk)))
    have hT3 : Turned (BkOwn bk (.slice ao m ci) (.slice bo m cw)) w w3 := by rw [← hw3]; exact hT2.setCell (p := ⟨bk, 16, none⟩) (.inl (.inl rfl)) _
    have hin : (Value.slice ai (m + 1) ci').ownBlock = some bk → False := by
      intro hc
      obtain ⟨cur, hh⟩ := owns_type hown' hc
      rw [hb2] at hh; simp at hh
    have hown3 : w3.ownsRow 0 26 1 (.slice ai (m + 1) ci') (m + 1) (es.map (·.v) ++ [.slice vo n vc]) := by rw [← hw3]; exact owns_keep hown' (fun g hg => Below.heap_setCell _ _ _ _ (by rintro rfl; exact hin hg))
    have hfar : ∀ k, k < w.heap.size → k ≠ bk → (Value.slice ao m ci).ownBlock ≠ some k → w3.heap[k]? = w.heap[k]? := by
      intro k hk h1 h2
      rw [← hw3, Below.heap_setCell _ _ _ _ h1]
      exact (hgr.block k (by simp; omega) (fun e => h2 e.symm)).trans (Below.heap_alloc _ _ _ hk)
    have hrw3 : w3.ownsRow 0 26 1 (.slice bo m cw) m (es.map (·.u)) := owns_keep hrw (fun g hg => hfar g (owns_lt hrw hg) (by rintro rfl; exact hnw hg) (by
      intro hc
      refine hap g ?_ ?_
      · rw [own_slice ao es.length ci m ci]; exact hc
      · rw [own_slice bo es.length cw m cw]; exact hg))
    have hvt : ∀ g, (Value.slice vo n vc).ownBlock = some g → g < w.heap.size ∧ g ≠ bk ∧ (Value.slice ao m ci).ownBlock ≠ some g ∧ (Value.slice bo m cw).ownBlock ≠ some g := by
      intro g hg
      rw [own_slice vo n vc xs.length vc] at hg
      obtain ⟨cur, hh⟩ := owns_type HV.out hg
      refine ⟨owns_lt HV.out hg, ?_, ?_, ?_⟩
      · rintro rfl; have := H.out.box; rw [hh] at this; simp at this
      · intro hc; obtain ⟨cur2, hh2⟩ := owns_type hri hc; rw [hh] at hh2; simp at hh2
      · intro hc; obtain ⟨cur2, hh2⟩ := owns_type hrw hc; rw [hh] at hh2; simp at hh2
    have hv3 : w3.ownsRow 0 34 1 (.slice vo n vc) n xs := by
      have hv0 := HV.out
      rw [← HX.out] at hv0
      exact owns_keep hv0 (fun g hg => hfar g (hvt g hg).1 (hvt g hg).2.1 (hvt g hg).2.2.1)
    have hb3 : w3.heap[bk]? = some (.cells #[vp, vq, .slice none 0 0, .slice none 0 0, .slice none 0 0, .slice none 0 0, .slice none 0 0, .slice none 0 0, .slice none 0 0, .slice none 0 0, .slice none 0 0, .slice none 0 0, .slice none 0 0, .slice none 0 0, .slice none 0 0, .slice none 0 0, .slice ai (m + 1) ci', .slice bo m cw, .slice none 0 0, .slice none 0 0, .slice none 0 0, .slice none 0 0] 50 (0, 0)) := by
      rw [← hw3]
      simp [World.setCell, Array.getElem?_modify, hb2, ← HM.out]
    have hs3 : w.heap.size ≤ w3.heap.size := hT3.size
    have hai : ∀ g, (Value.slice ai (m + 1) ci').ownBlock = some g → (Value.slice bo m cw).ownBlock ≠ some g := by
      intro g hg hc
      rcases hat2 with e | e
      · rw [e] at hg
        refine hap g ?_ ?_
        · rw [own_slice ao es.length ci m ci]; exact hg
        · rw [own_slice bo es.length cw m cw]; exact hc
      · rw [e] at hg
        have := owns_lt hrw hc
        simp at hg; omega
    have hia : ∀ g, (Value.slice ai (m + 1) ci').ownBlock = some g → (Value.slice ao m ci).ownBlock = some g ∨ w.heap.size ≤ g := by
      intro g hg
      rcases hat2 with e | e
      · rw [e] at hg; exact .inl hg
      · rw [e] at hg; simp at hg; right; omega
    rw [hw3]
    clear hat' hat2 hgr hw3 hgrow' hown' hb2 c02 f02 hfar hT2
    have hb31 : w3.cell? ⟨bk, 17, none⟩ = some (.slice bo m cw) := by simp [World.cell?, hb3]
    have hf31 : w3.frozen? ⟨bk, 17, none⟩ = false := by simp [World.frozen?, hb3]
    have hbl3 : bk < w3.heap.size := (Array.getElem?_eq_some_iff.1 hb3).1
    rcases owns_cases hv3 with ⟨h0, hn0, hx0⟩ | ⟨gv, cv, h0, hrv, hcv, hcm, _⟩
    · simp only [Value.slice.injEq] at h0
      obtain ⟨rfl, hn00, rfl⟩ := h0
      have hxs : xs = [] := List.eq_nil_of_length_eq_zero (by rw [← HX.out]; exact hn00)
      have hown6 : w3.ownsRow w.heap.size 34 1 (.slice none 0 0) n xs := by
        rw [hxs, hn00]; exact World.ownsRow_nil _ _ _ _
      have hrw3a : (w3.alloc (.cells #[.slice none 0 0] 26)).drew.ownsRow 0 26 1 (.slice bo m cw) m (es.map (·.u)) := by
        have := hrw3.alloc (.cells #[.slice none 0 0] 26)
        exact this
      have hgr6 : w3.drew.grownBy w3 none := ⟨rfl, rfl, rfl, Nat.le_refl _, fun _ _ _ => rfl⟩
      have HX0 := Lib.hid hn00
      rw [hn00]
      go_region_law (first
        | (refine step_append_nil rfl (.const (.slice none 0 0)) (.tmp 25) 26 rfl 34 j0 Tryz.underlying26 hj rfl rfl ?_)
        | (refine step_append_book rfl (.tmp 24) (.tmp 27) 46 rfl 0 26 i0 (.slice none 0 0) 1 24 Tryz.underlying46 hi hz0 hz1 hz2 rfl (by decide) (.slice bo m cw) m (es.map (·.u)) rfl hrw3a ⟨w3.heap.size, 0, none⟩ 1 1 [.slice none 0 0] rfl rfl (cell_one_new _ _ _) (one_cell_slice _ _ _) (by unfold maxLen; omega) (by omega) (Nat.zero_le _) ?_; intro vw' w7 hown7 hgrow7 hat7; (obtain ⟨aw, cw7, rfl⟩ := owns_shape' hown7); (have hgr7 : (w3.alloc (.cells #[.slice none 0 0] 26)).grownBy w7 (Value.slice bo m cw).ownBlock := ⟨hgrow7.os, hgrow7.tape, hgrow7.output, hgrow7.size, hgrow7.block⟩); (have hb7 := (hgr7.block bk (by simp; omega) (fun e => hnw e.symm)).trans ((Below.heap_alloc w3 _ _ hbl3).trans hb3)); (have c17 : w7.cell? ⟨bk, 17, none⟩ = some (.slice bo m cw) := by simp [World.cell?, hb7]); (have f17 : w7.frozen? ⟨bk, 17, none⟩ = false := by simp [World.frozen?, hb7])))
      all_goals go_wp2_with fail
      all_goals go_end0
      all_goals
        have hE := HX.out
        have hM := HM.out
        subst hM
        subst hE
        subst hxs
        exact rows_end H.out rfl hlt rfl HV.out HN.out hT3 hb7 hown3 hai hia hown6 hgr6 hown7 hgr7 hat7 (by first | exact hx | simp)
    · simp only [Value.slice.injEq, true_and] at h0
      obtain ⟨rfl, rfl⟩ := h0
      have hcells : ∀ j u, xs[j]? = some u → w3.drew.cell? ((⟨gv, 0, none⟩ : Addr).add j) = some u := by
        intro j u hu
        show w3.cell? _ = _
        have : (⟨gv, 0, none⟩ : Addr).add j = ⟨gv, j, none⟩ := by
          unfold Addr.add; split
          · rename_i h; subst h; rfl
          · simp
        rw [this]
        exact hrv.cell hu
      have hmx : xs.length = n * 1 := by rw [Nat.mul_one]; exact HX.out.symm
      go_region_law (first
        | (refine step_append_book rfl (.const (.slice none 0 0)) (.tmp 25) 26 rfl w.heap.size 34 j0 (.slice none 0 0) 1 24 Tryz.underlying26 hj hy0 hy1 hy2 rfl (by decide) (.slice none 0 0) 0 [] rfl (World.ownsRow_nil _ _ _ _) ⟨gv, 0, none⟩ n vc xs rfl hmx hcells (h1s) (by unfold maxLen; omega) (by omega) (by simpa using hs3) ?_; intro u w6 hown6 hgrow6 hat6; (simp only [Nat.zero_add, List.nil_append] at hown6); (obtain ⟨ua, uc, rfl⟩ := owns_shape' hown6); (have hgr6 : w3.drew.grownBy w6 none := hgrow6); (have hb6 := (hgr6.block bk (by simpa using hbl3) (by simp)).trans hb3); (have hrw6 : w6.ownsRow 0 26 1 (.slice bo m cw) m (es.map (·.u)) := owns_keep hrw3 (fun g hg => hgr6.block g (by have := owns_lt hrw3 hg; simpa using this) (by simp))); (have c16 : w6.cell? ⟨bk, 17, none⟩ = some (.slice bo m cw) := by simp [World.cell?, hb6]); (have hbl6 : bk < w6.heap.size := (Array.getElem?_eq_some_iff.1 hb6).1))
        | (refine step_append_book rfl (.tmp 24) (.tmp 27) 46 rfl 0 26 i0 (.slice none 0 0) 1 24 Tryz.underlying46 hi hz0 hz1 hz2 rfl (by decide) (.slice bo m cw) m (es.map (·.u)) rfl (hrw6.alloc _) ⟨w6.heap.size, 0, none⟩ 1 1 [.slice ua n uc] rfl rfl (cell_one_new _ _ _) (one_cell_slice _ _ _) (by unfold maxLen; omega) (by omega) (Nat.zero_le _) ?_; intro vw' w7 hown7 hgrow7 hat7; (obtain ⟨aw, cw7, rfl⟩ := owns_shape' hown7); (have hgr7 : (w6.alloc (.cells #[.slice ua n uc] 26)).grownBy w7 (Value.slice bo m cw).ownBlock := hgrow7); (have hb7 := (hgr7.block bk (by simp; omega) (fun e => hnw e.symm)).trans ((Below.heap_alloc _ _ _ hbl6).trans hb6)); (have c17 : w7.cell? ⟨bk, 17, none⟩ = some (.slice bo m cw) := by simp [World.cell?, hb7]); (have f17 : w7.frozen? ⟨bk, 17, none⟩ = false := by simp [World.frozen?, hb7])))
      all_goals go_wp2_with fail
      all_goals go_end0
      all_goals
        have hE := HX.out
        subst hE
        have hM := HM.out
        subst hM
        exact rows_end H.out rfl hlt rfl HV.out HN.out hT3 hb7 hown3 hai hia hown6 hgr6 hown7 hgr7 hat7 (by first | exact hx | simp)

end Go.Proofs.YtpmdjicaefmbnaaGreatDoor.Rw

namespace Go.Proofs.YtpmdjicaefmbnaaGreatDoor
open Go.RowKit
set_option linter.unusedVariables false
set_option linter.unusedSimpArgs false

theorem stillTokens_nil {w : World} {bk : Nat} (h : w.cell? ⟨bk, 2, none⟩ = some (.slice none 0 0)) :
    Calls Tryz.prog 62 #[.pointer (some ⟨bk, 0, none⟩)] w fun r w' => r = .returned (.bool true) ∧ w = w' := by
  go_enter Tryz.func62, Tryz.ntmps62
  go_wp2_with fail
  refine wp_loop_rounds 1 ?_
  rw [rounds_succ]
  go_wp2_with fail
  go_ret
  exact ⟨rfl, rfl⟩

theorem putTokens_nil {w : World} {bk : Nat} (h : w.cell? ⟨bk, 2, none⟩ = some (.slice none 0 0)) :
    Calls Tryz.prog 73 #[.pointer (some ⟨bk, 0, none⟩)] w fun r w' => r = .returned (.tuple #[]) ∧ w = w' := by
  go_enter Tryz.func73, Tryz.ntmps73
  go_wp2_with fail
  refine wp_loop_rounds 1 ?_
  rw [rounds_succ]
  go_wp2_with fail
  go_end0
  exact ⟨rfl, rfl⟩

theorem growTokens_nil {w : World} {bk : Nat} (h : w.cell? ⟨bk, 2, none⟩ = some (.slice none 0 0)) :
    Calls Tryz.prog 84 #[.pointer (some ⟨bk, 0, none⟩)] w fun r w' => r = .returned (.slice none 0 0) ∧ w = w' := by
  go_enter Tryz.func84, Tryz.ntmps84
  go_wp2_with fail
  refine wp_loop_rounds 1 ?_
  rw [rounds_succ]
  go_wp2_with fail
  go_ret
  exact ⟨rfl, rfl⟩

theorem markedTokens_nil (w : World) :
    Calls Tryz.prog 95 #[.slice none 0 0] w fun r w' => r = .returned (.bool true) ∧ w = w' := by
  go_enter Tryz.func95, Tryz.ntmps95
  go_wp2_with fail
  refine wp_loop_rounds 1 ?_
  rw [rounds_succ]
  go_wp2_with fail
  go_ret
  exact ⟨rfl, rfl⟩

theorem stillTexts_nil {w : World} {bk : Nat} (h : w.cell? ⟨bk, 4, none⟩ = some (.slice none 0 0)) :
    Calls Tryz.prog 63 #[.pointer (some ⟨bk, 0, none⟩)] w fun r w' => r = .returned (.bool true) ∧ w = w' := by
  go_enter Tryz.func63, Tryz.ntmps63
  go_wp2_with fail
  refine wp_loop_rounds 1 ?_
  rw [rounds_succ]
  go_wp2_with fail
  go_ret
  exact ⟨rfl, rfl⟩

theorem putTexts_nil {w : World} {bk : Nat} (h : w.cell? ⟨bk, 4, none⟩ = some (.slice none 0 0)) :
    Calls Tryz.prog 74 #[.pointer (some ⟨bk, 0, none⟩)] w fun r w' => r = .returned (.tuple #[]) ∧ w = w' := by
  go_enter Tryz.func74, Tryz.ntmps74
  go_wp2_with fail
  refine wp_loop_rounds 1 ?_
  rw [rounds_succ]
  go_wp2_with fail
  go_end0
  exact ⟨rfl, rfl⟩

theorem growTexts_nil {w : World} {bk : Nat} (h : w.cell? ⟨bk, 4, none⟩ = some (.slice none 0 0)) :
    Calls Tryz.prog 85 #[.pointer (some ⟨bk, 0, none⟩)] w fun r w' => r = .returned (.slice none 0 0) ∧ w = w' := by
  go_enter Tryz.func85, Tryz.ntmps85
  go_wp2_with fail
  refine wp_loop_rounds 1 ?_
  rw [rounds_succ]
  go_wp2_with fail
  go_ret
  exact ⟨rfl, rfl⟩

theorem markedTexts_nil (w : World) :
    Calls Tryz.prog 96 #[.slice none 0 0] w fun r w' => r = .returned (.bool true) ∧ w = w' := by
  go_enter Tryz.func96, Tryz.ntmps96
  go_wp2_with fail
  refine wp_loop_rounds 1 ?_
  rw [rounds_succ]
  go_wp2_with fail
  go_ret
  exact ⟨rfl, rfl⟩

theorem stillBools_nil {w : World} {bk : Nat} (h : w.cell? ⟨bk, 6, none⟩ = some (.slice none 0 0)) :
    Calls Tryz.prog 64 #[.pointer (some ⟨bk, 0, none⟩)] w fun r w' => r = .returned (.bool true) ∧ w = w' := by
  go_enter Tryz.func64, Tryz.ntmps64
  go_wp2_with fail
  refine wp_loop_rounds 1 ?_
  rw [rounds_succ]
  go_wp2_with fail
  go_ret
  exact ⟨rfl, rfl⟩

theorem putBools_nil {w : World} {bk : Nat} (h : w.cell? ⟨bk, 6, none⟩ = some (.slice none 0 0)) :
    Calls Tryz.prog 75 #[.pointer (some ⟨bk, 0, none⟩)] w fun r w' => r = .returned (.tuple #[]) ∧ w = w' := by
  go_enter Tryz.func75, Tryz.ntmps75
  go_wp2_with fail
  refine wp_loop_rounds 1 ?_
  rw [rounds_succ]
  go_wp2_with fail
  go_end0
  exact ⟨rfl, rfl⟩

theorem growBools_nil {w : World} {bk : Nat} (h : w.cell? ⟨bk, 6, none⟩ = some (.slice none 0 0)) :
    Calls Tryz.prog 86 #[.pointer (some ⟨bk, 0, none⟩)] w fun r w' => r = .returned (.slice none 0 0) ∧ w = w' := by
  go_enter Tryz.func86, Tryz.ntmps86
  go_wp2_with fail
  refine wp_loop_rounds 1 ?_
  rw [rounds_succ]
  go_wp2_with fail
  go_ret
  exact ⟨rfl, rfl⟩

theorem markedBools_nil (w : World) :
    Calls Tryz.prog 97 #[.slice none 0 0] w fun r w' => r = .returned (.bool true) ∧ w = w' := by
  go_enter Tryz.func97, Tryz.ntmps97
  go_wp2_with fail
  refine wp_loop_rounds 1 ?_
  rw [rounds_succ]
  go_wp2_with fail
  go_ret
  exact ⟨rfl, rfl⟩

theorem stillSteps_nil {w : World} {bk : Nat} (h : w.cell? ⟨bk, 8, none⟩ = some (.slice none 0 0)) :
    Calls Tryz.prog 65 #[.pointer (some ⟨bk, 0, none⟩)] w fun r w' => r = .returned (.bool true) ∧ w = w' := by
  go_enter Tryz.func65, Tryz.ntmps65
  go_wp2_with fail
  refine wp_loop_rounds 1 ?_
  rw [rounds_succ]
  go_wp2_with fail
  go_ret
  exact ⟨rfl, rfl⟩

theorem putSteps_nil {w : World} {bk : Nat} (h : w.cell? ⟨bk, 8, none⟩ = some (.slice none 0 0)) :
    Calls Tryz.prog 76 #[.pointer (some ⟨bk, 0, none⟩)] w fun r w' => r = .returned (.tuple #[]) ∧ w = w' := by
  go_enter Tryz.func76, Tryz.ntmps76
  go_wp2_with fail
  refine wp_loop_rounds 1 ?_
  rw [rounds_succ]
  go_wp2_with fail
  go_end0
  exact ⟨rfl, rfl⟩

theorem growSteps_nil {w : World} {bk : Nat} (h : w.cell? ⟨bk, 8, none⟩ = some (.slice none 0 0)) :
    Calls Tryz.prog 87 #[.pointer (some ⟨bk, 0, none⟩)] w fun r w' => r = .returned (.slice none 0 0) ∧ w = w' := by
  go_enter Tryz.func87, Tryz.ntmps87
  go_wp2_with fail
  refine wp_loop_rounds 1 ?_
  rw [rounds_succ]
  go_wp2_with fail
  go_ret
  exact ⟨rfl, rfl⟩

theorem markedSteps_nil (w : World) :
    Calls Tryz.prog 98 #[.slice none 0 0] w fun r w' => r = .returned (.bool true) ∧ w = w' := by
  go_enter Tryz.func98, Tryz.ntmps98
  go_wp2_with fail
  refine wp_loop_rounds 1 ?_
  rw [rounds_succ]
  go_wp2_with fail
  go_ret
  exact ⟨rfl, rfl⟩

theorem stillEdges_nil {w : World} {bk : Nat} (h : w.cell? ⟨bk, 10, none⟩ = some (.slice none 0 0)) :
    Calls Tryz.prog 66 #[.pointer (some ⟨bk, 0, none⟩)] w fun r w' => r = .returned (.bool true) ∧ w = w' := by
  go_enter Tryz.func66, Tryz.ntmps66
  go_wp2_with fail
  refine wp_loop_rounds 1 ?_
  rw [rounds_succ]
  go_wp2_with fail
  go_ret
  exact ⟨rfl, rfl⟩

theorem putEdges_nil {w : World} {bk : Nat} (h : w.cell? ⟨bk, 10, none⟩ = some (.slice none 0 0)) :
    Calls Tryz.prog 77 #[.pointer (some ⟨bk, 0, none⟩)] w fun r w' => r = .returned (.tuple #[]) ∧ w = w' := by
  go_enter Tryz.func77, Tryz.ntmps77
  go_wp2_with fail
  refine wp_loop_rounds 1 ?_
  rw [rounds_succ]
  go_wp2_with fail
  go_end0
  exact ⟨rfl, rfl⟩

theorem growEdges_nil {w : World} {bk : Nat} (h : w.cell? ⟨bk, 10, none⟩ = some (.slice none 0 0)) :
    Calls Tryz.prog 88 #[.pointer (some ⟨bk, 0, none⟩)] w fun r w' => r = .returned (.slice none 0 0) ∧ w = w' := by
  go_enter Tryz.func88, Tryz.ntmps88
  go_wp2_with fail
  refine wp_loop_rounds 1 ?_
  rw [rounds_succ]
  go_wp2_with fail
  go_ret
  exact ⟨rfl, rfl⟩

theorem markedEdges_nil (w : World) :
    Calls Tryz.prog 99 #[.slice none 0 0] w fun r w' => r = .returned (.bool true) ∧ w = w' := by
  go_enter Tryz.func99, Tryz.ntmps99
  go_wp2_with fail
  refine wp_loop_rounds 1 ?_
  rw [rounds_succ]
  go_wp2_with fail
  go_ret
  exact ⟨rfl, rfl⟩

theorem stillNodes_nil {w : World} {bk : Nat} (h : w.cell? ⟨bk, 12, none⟩ = some (.slice none 0 0)) :
    Calls Tryz.prog 67 #[.pointer (some ⟨bk, 0, none⟩)] w fun r w' => r = .returned (.bool true) ∧ w = w' := by
  go_enter Tryz.func67, Tryz.ntmps67
  go_wp2_with fail
  refine wp_loop_rounds 1 ?_
  rw [rounds_succ]
  go_wp2_with fail
  go_ret
  exact ⟨rfl, rfl⟩

theorem putNodes_nil {w : World} {bk : Nat} (h : w.cell? ⟨bk, 12, none⟩ = some (.slice none 0 0)) :
    Calls Tryz.prog 78 #[.pointer (some ⟨bk, 0, none⟩)] w fun r w' => r = .returned (.tuple #[]) ∧ w = w' := by
  go_enter Tryz.func78, Tryz.ntmps78
  go_wp2_with fail
  refine wp_loop_rounds 1 ?_
  rw [rounds_succ]
  go_wp2_with fail
  go_end0
  exact ⟨rfl, rfl⟩

theorem growNodes_nil {w : World} {bk : Nat} (h : w.cell? ⟨bk, 12, none⟩ = some (.slice none 0 0)) :
    Calls Tryz.prog 89 #[.pointer (some ⟨bk, 0, none⟩)] w fun r w' => r = .returned (.slice none 0 0) ∧ w = w' := by
  go_enter Tryz.func89, Tryz.ntmps89
  go_wp2_with fail
  refine wp_loop_rounds 1 ?_
  rw [rounds_succ]
  go_wp2_with fail
  go_ret
  exact ⟨rfl, rfl⟩

theorem markedNodes_nil (w : World) :
    Calls Tryz.prog 100 #[.slice none 0 0] w fun r w' => r = .returned (.bool true) ∧ w = w' := by
  go_enter Tryz.func100, Tryz.ntmps100
  go_wp2_with fail
  refine wp_loop_rounds 1 ?_
  rw [rounds_succ]
  go_wp2_with fail
  go_ret
  exact ⟨rfl, rfl⟩

theorem stillPairs_nil {w : World} {bk : Nat} (h : w.cell? ⟨bk, 14, none⟩ = some (.slice none 0 0)) :
    Calls Tryz.prog 68 #[.pointer (some ⟨bk, 0, none⟩)] w fun r w' => r = .returned (.bool true) ∧ w = w' := by
  go_enter Tryz.func68, Tryz.ntmps68
  go_wp2_with fail
  refine wp_loop_rounds 1 ?_
  rw [rounds_succ]
  go_wp2_with fail
  go_ret
  exact ⟨rfl, rfl⟩

theorem putPairs_nil {w : World} {bk : Nat} (h : w.cell? ⟨bk, 14, none⟩ = some (.slice none 0 0)) :
    Calls Tryz.prog 79 #[.pointer (some ⟨bk, 0, none⟩)] w fun r w' => r = .returned (.tuple #[]) ∧ w = w' := by
  go_enter Tryz.func79, Tryz.ntmps79
  go_wp2_with fail
  refine wp_loop_rounds 1 ?_
  rw [rounds_succ]
  go_wp2_with fail
  go_end0
  exact ⟨rfl, rfl⟩

theorem growPairs_nil {w : World} {bk : Nat} (h : w.cell? ⟨bk, 14, none⟩ = some (.slice none 0 0)) :
    Calls Tryz.prog 90 #[.pointer (some ⟨bk, 0, none⟩)] w fun r w' => r = .returned (.slice none 0 0) ∧ w = w' := by
  go_enter Tryz.func90, Tryz.ntmps90
  go_wp2_with fail
  refine wp_loop_rounds 1 ?_
  rw [rounds_succ]
  go_wp2_with fail
  go_ret
  exact ⟨rfl, rfl⟩

theorem markedPairs_nil (w : World) :
    Calls Tryz.prog 101 #[.slice none 0 0] w fun r w' => r = .returned (.bool true) ∧ w = w' := by
  go_enter Tryz.func101, Tryz.ntmps101
  go_wp2_with fail
  refine wp_loop_rounds 1 ?_
  rw [rounds_succ]
  go_wp2_with fail
  go_ret
  exact ⟨rfl, rfl⟩

theorem stillLines_nil {w : World} {bk : Nat} (h : w.cell? ⟨bk, 18, none⟩ = some (.slice none 0 0)) :
    Calls Tryz.prog 70 #[.pointer (some ⟨bk, 0, none⟩)] w fun r w' => r = .returned (.bool true) ∧ w = w' := by
  go_enter Tryz.func70, Tryz.ntmps70
  go_wp2_with fail
  refine wp_loop_rounds 1 ?_
  rw [rounds_succ]
  go_wp2_with fail
  go_ret
  exact ⟨rfl, rfl⟩

theorem putLines_nil {w : World} {bk : Nat} (h : w.cell? ⟨bk, 18, none⟩ = some (.slice none 0 0)) :
    Calls Tryz.prog 81 #[.pointer (some ⟨bk, 0, none⟩)] w fun r w' => r = .returned (.tuple #[]) ∧ w = w' := by
  go_enter Tryz.func81, Tryz.ntmps81
  go_wp2_with fail
  refine wp_loop_rounds 1 ?_
  rw [rounds_succ]
  go_wp2_with fail
  go_end0
  exact ⟨rfl, rfl⟩

theorem growLines_nil {w : World} {bk : Nat} (h : w.cell? ⟨bk, 18, none⟩ = some (.slice none 0 0)) :
    Calls Tryz.prog 92 #[.pointer (some ⟨bk, 0, none⟩)] w fun r w' => r = .returned (.slice none 0 0) ∧ w = w' := by
  go_enter Tryz.func92, Tryz.ntmps92
  go_wp2_with fail
  refine wp_loop_rounds 1 ?_
  rw [rounds_succ]
  go_wp2_with fail
  go_ret
  exact ⟨rfl, rfl⟩

theorem markedLines_nil (w : World) :
    Calls Tryz.prog 103 #[.slice none 0 0] w fun r w' => r = .returned (.bool true) ∧ w = w' := by
  go_enter Tryz.func103, Tryz.ntmps103
  go_wp2_with fail
  refine wp_loop_rounds 1 ?_
  rw [rounds_succ]
  go_wp2_with fail
  go_ret
  exact ⟨rfl, rfl⟩

theorem stillWalks_nil {w : World} {bk : Nat} (h : w.cell? ⟨bk, 20, none⟩ = some (.slice none 0 0)) :
    Calls Tryz.prog 71 #[.pointer (some ⟨bk, 0, none⟩)] w fun r w' => r = .returned (.bool true) ∧ w = w' := by
  go_enter Tryz.func71, Tryz.ntmps71
  go_wp2_with fail
  refine wp_loop_rounds 1 ?_
  rw [rounds_succ]
  go_wp2_with fail
  go_ret
  exact ⟨rfl, rfl⟩

theorem putWalks_nil {w : World} {bk : Nat} (h : w.cell? ⟨bk, 20, none⟩ = some (.slice none 0 0)) :
    Calls Tryz.prog 82 #[.pointer (some ⟨bk, 0, none⟩)] w fun r w' => r = .returned (.tuple #[]) ∧ w = w' := by
  go_enter Tryz.func82, Tryz.ntmps82
  go_wp2_with fail
  refine wp_loop_rounds 1 ?_
  rw [rounds_succ]
  go_wp2_with fail
  go_end0
  exact ⟨rfl, rfl⟩

theorem growWalks_nil {w : World} {bk : Nat} (h : w.cell? ⟨bk, 20, none⟩ = some (.slice none 0 0)) :
    Calls Tryz.prog 93 #[.pointer (some ⟨bk, 0, none⟩)] w fun r w' => r = .returned (.slice none 0 0) ∧ w = w' := by
  go_enter Tryz.func93, Tryz.ntmps93
  go_wp2_with fail
  refine wp_loop_rounds 1 ?_
  rw [rounds_succ]
  go_wp2_with fail
  go_ret
  exact ⟨rfl, rfl⟩

theorem markedWalks_nil (w : World) :
    Calls Tryz.prog 104 #[.slice none 0 0] w fun r w' => r = .returned (.bool true) ∧ w = w' := by
  go_enter Tryz.func104, Tryz.ntmps104
  go_wp2_with fail
  refine wp_loop_rounds 1 ?_
  rw [rounds_succ]
  go_wp2_with fail
  go_ret
  exact ⟨rfl, rfl⟩

end Go.Proofs.YtpmdjicaefmbnaaGreatDoor

namespace Go.Proofs.YtpmdjicaefmbnaaGreatDoor.B3
open Go.RowKit
set_option linter.unusedVariables false
set_option linter.unusedSimpArgs false

def entC (es : List Ent) (i : Nat) : List Int := (es.map (·.xs)).getD i []
def entV (es : List Ent) : List Value := es.map (·.v)
def entU (es : List Ent) : List Value := es.map (·.u)

theorem ent_at {es : List Ent} {i : Nat} (h : i < es.length) : nth (entV es) i = es[i].v ∧ nth (entU es) i = es[i].u ∧ entC es i = es[i].xs := by
  simp [nth, entV, entU, entC, List.getD, h]

theorem BookAt.els {w : World} {bk : Nat} {vi vw vp vq : Value} {es : List Ent} (h : BookAt w bk vi vw vp vq es) : Els w (entV es) (entC es) ∧ Els w (entU es) (entC es) := by
  refine ⟨fun i hi => ?_, fun i hi => ?_⟩
  · have hi' : i < es.length := by simpa [entV] using hi
    obtain ⟨e1, e2, e3⟩ := ent_at hi'
    rw [e1, e3]; exact (h.ent _ (List.getElem_mem hi')).1
  · have hi' : i < es.length := by simpa [entU] using hi
    obtain ⟨e1, e2, e3⟩ := ent_at hi'
    rw [e2, e3]; exact (h.ent _ (List.getElem_mem hi')).2

theorem BookAt.apt {w : World} {bk : Nat} {vi vw vp vq : Value} {es : List Ent} (h : BookAt w bk vi vw vp vq es) : Apt (entV es) := by
  have hnd : List.Pairwise (fun e1 e2 : Ent => ∀ x ∈ blk e1.v ++ blk e1.u, ∀ y ∈ blk e2.v ++ blk e2.u, x ≠ y) es := (List.pairwise_flatMap.1 h.nd).2
  have hp := List.pairwise_iff_getElem.1 hnd
  have key : ∀ i j g, (hi : i < es.length) → (hj : j < es.length) → i < j → es[i].v.ownBlock = some g → es[j].v.ownBlock ≠ some g := by
    intro i j g hi hj hij h1 h2
    exact hp i j hi hj hij g (List.mem_append_left _ (mem_blk.2 h1)) g (List.mem_append_left _ (mem_blk.2 h2)) rfl
  intro i j g hi hj hne h1 h2
  have hi' : i < es.length := by simpa [entV] using hi
  have hj' : j < es.length := by simpa [entV] using hj
  rw [(ent_at hi').1] at h1
  rw [(ent_at hj').1] at h2
  rcases Nat.lt_or_gt_of_ne hne with hlt | hlt
  · exact key i j g hi' hj' hlt h1 h2
  · exact key j i g hj' hi' hlt h2 h1

theorem BookAt.inV {w : World} {bk : Nat} {vi vw vp vq : Value} {es : List Ent} (h : BookAt w bk vi vw vp vq es) {k : Nat} (hk : InV (entV es) k) : BkFoot bk vi vw es k := by
  obtain ⟨i, hi, hg⟩ := hk
  have hi' : i < es.length := by simpa [entV] using hi
  rw [(ent_at hi').1] at hg
  exact .inr (.inr (.inr (mem_entBlocks.2 ⟨_, List.getElem_mem hi', .inl hg⟩)))

end Go.Proofs.YtpmdjicaefmbnaaGreatDoor.B3

namespace Go.Proofs.YtpmdjicaefmbnaaGreatDoor.Rw
open Go.RowKit
set_option linter.unusedVariables false
set_option linter.unusedSimpArgs false

def entC (es : List Ent) (i : Nat) : List Value := (es.map (·.xs)).getD i []
def entV (es : List Ent) : List Value := es.map (·.v)
def entU (es : List Ent) : List Value := es.map (·.u)

theorem ent_at {es : List Ent} {i : Nat} (h : i < es.length) : nth (entV es) i = es[i].v ∧ nth (entU es) i = es[i].u ∧ entC es i = es[i].xs := by
  simp [nth, entV, entU, entC, List.getD, h]

theorem BookAt.els {w : World} {bk : Nat} {vi vw vp vq : Value} {es : List Ent} (h : BookAt w bk vi vw vp vq es) : Els w (entV es) (entC es) ∧ Els w (entU es) (entC es) := by
  refine ⟨fun i hi => ?_, fun i hi => ?_⟩
  · have hi' : i < es.length := by simpa [entV] using hi
    obtain ⟨e1, e2, e3⟩ := ent_at hi'
    rw [e1, e3]; exact (h.ent _ (List.getElem_mem hi')).1
  · have hi' : i < es.length := by simpa [entU] using hi
    obtain ⟨e1, e2, e3⟩ := ent_at hi'
    rw [e2, e3]; exact (h.ent _ (List.getElem_mem hi')).2

theorem BookAt.apt {w : World} {bk : Nat} {vi vw vp vq : Value} {es : List Ent} (h : BookAt w bk vi vw vp vq es) : Apt (entV es) := by
  have hnd : List.Pairwise (fun e1 e2 : Ent => ∀ x ∈ blk e1.v ++ blk e1.u, ∀ y ∈ blk e2.v ++ blk e2.u, x ≠ y) es := (List.pairwise_flatMap.1 h.nd).2
  have hp := List.pairwise_iff_getElem.1 hnd
  have key : ∀ i j g, (hi : i < es.length) → (hj : j < es.length) → i < j → es[i].v.ownBlock = some g → es[j].v.ownBlock ≠ some g := by
    intro i j g hi hj hij h1 h2
    exact hp i j hi hj hij g (List.mem_append_left _ (mem_blk.2 h1)) g (List.mem_append_left _ (mem_blk.2 h2)) rfl
  intro i j g hi hj hne h1 h2
  have hi' : i < es.length := by simpa [entV] using hi
  have hj' : j < es.length := by simpa [entV] using hj
  rw [(ent_at hi').1] at h1
  rw [(ent_at hj').1] at h2
  rcases Nat.lt_or_gt_of_ne hne with hlt | hlt
  · exact key i j g hi' hj' hlt h1 h2
  · exact key j i g hj' hi' hlt h2 h1

theorem BookAt.inV {w : World} {bk : Nat} {vi vw vp vq : Value} {es : List Ent} (h : BookAt w bk vi vw vp vq es) {k : Nat} (hk : InV (entV es) k) : BkFoot bk vi vw es k := by
  obtain ⟨i, hi, hg⟩ := hk
  have hi' : i < es.length := by simpa [entV] using hi
  rw [(ent_at hi').1] at hg
  exact .inr (.inr (.inr (mem_entBlocks.2 ⟨_, List.getElem_mem hi', .inl hg⟩)))

theorem MEls.keep {b : Nat} {w w' : World} {vs : List Value} {L : Nat → Nat} (h : MEls b w vs L) (hk : ∀ j g, j < vs.length → (nth vs j).ownBlock = some g → w'.heap[g]? = w.heap[g]?) (hm : ∀ g, b ≤ g → g < w.heap.size → w'.heap[g]? = w.heap[g]?) : MEls b w' vs L := fun i hi => by
  obtain ⟨xs, h1, h2⟩ := h i hi
  exact ⟨xs, owns_keep h1 (fun g hg => hk i g hi hg), h2.keep (fun j g hj hg => hm g ((h2.2 j hj).lt g hg).1 ((h2.2 j hj).lt g hg).2)⟩

theorem Rds.up {w w' : World} {vs us : List Value} (h : Rds w vs us) (hu : Up w w') : Rds w' vs us := fun i hi => by
  obtain ⟨rows, h1, h2, h3, h4⟩ := h i hi
  exact ⟨rows, h1, h2, h3.up hu, h4.up hu⟩

theorem put_marks {b : Nat} {w w' : World} {vs : List Value} {D X : Nat → List Value} (h : PutSt w w' vs X) (hm : MkTo b w' D X vs.length) : MEls b w' vs (fun j => (D j).length) := fun j hj => by
  have h1 := h.el j hj
  rw [(hm j hj).1] at h1
  exact ⟨X j, h1, hm j hj⟩

end Go.Proofs.YtpmdjicaefmbnaaGreatDoor.Rw

namespace Go.Proofs.YtpmdjicaefmbnaaGreatDoor
open Go.RowKit
set_option linter.unusedVariables false
set_option linter.unusedSimpArgs false

theorem upTurnedA {F : Nat → Prop} {w w' : World} (h : Up w w') : Turned F w w' := ⟨h.os, h.tape, h.output, h.size, fun k hk _ => h.block k hk⟩

set_option maxHeartbeats 16000000 in
set_option maxRecDepth 100000 in
theorem apart3_any {w : World} {bk : Nat} {vi vw vp vq : Value} {es : List B3.Ent} {qs : List Rw.Ent} (h : B3.BookAt w bk vi vw vp vq es) (hp : Rw.BookAt w bk vp vq vi vw qs) (hl : es.length ≤ 400) (hl2 : qs.length ≤ 400)
    (hrd : Rw.Rds w (Rw.entV qs) (Rw.entU qs)) (hdis : ∀ g, vi.ownBlock = some g → ¬ InV (Rw.entV qs) g) :
    Calls Tryz.prog 22 #[.pointer (some ⟨bk, 0, none⟩)] w fun r w' => r = .returned (.bool true) ∧ Turned (fun k => InV (B3.entV es) k ∨ InV (Rw.entV qs) k) w w' := by
  have hvl : (B3.entV es).length = es.length := by simp [B3.entV]
  have hul : (B3.entU es).length = es.length := by simp [B3.entU]
  have pvl : (Rw.entV qs).length = qs.length := by simp [Rw.entV]
  have pul : (Rw.entU qs).length = qs.length := by simp [Rw.entU]
  have hsz : ∀ i, i < (B3.entV es).length → (B3.entC es i).length ≤ 900000 := fun i hi => by
    rw [hvl] at hi
    rw [(B3.ent_at hi).2.2]; exact h.sz _ (List.getElem_mem hi)
  have psz : ∀ i, i < (Rw.entV qs).length → (Rw.entC qs i).length ≤ 900000 := fun i hi => by
    rw [pvl] at hi
    rw [(Rw.ent_at hi).2.2]; exact hp.sz _ (List.getElem_mem hi)
  have hri : w.ownsRow 0 34 1 vi (B3.entV es).length (B3.entV es) := by rw [hvl]; exact h.ri
  have hrw : w.ownsRow 0 34 1 vw (B3.entV es).length (B3.entU es) := by rw [hvl]; exact h.rw
  have pri : w.ownsRow 0 26 1 vp (Rw.entV qs).length (Rw.entV qs) := by rw [pvl]; exact hp.ri
  have prw : w.ownsRow 0 26 1 vq (Rw.entV qs).length (Rw.entU qs) := by rw [pvl]; exact hp.rw
  have hbox := h.box
  have a0 : w.cell? ⟨bk, 0, none⟩ = some vi := by simp [World.cell?, hbox]
  have a1 : w.cell? ⟨bk, 1, none⟩ = some vw := by simp [World.cell?, hbox]
  have a16 : w.cell? ⟨bk, 16, none⟩ = some vp := by simp [World.cell?, hbox]
  have a17 : w.cell? ⟨bk, 17, none⟩ = some vq := by simp [World.cell?, hbox]
  have hel := h.els.1
  have pel := hp.els.1
  have HS := Lib.hid (stillInts_any a0 a1 hri hrw (by rw [hul, hvl]) h.els.1 h.els.2 (by rw [hvl]; exact hl) (fun i hi => by have := hsz i hi; omega))
  have HSP : Hid (∀ W, Up w W → Calls Tryz.prog 69 #[.pointer (some ⟨bk, 0, none⟩)] W fun r w' => r = .returned (.bool true) ∧ Up W w') := Lib.hid (fun W hW =>
    Rw.stillRows_any (hW.cell a16) (hW.cell a17) (hW.owns pri) (hW.owns prw) (by rw [pul, pvl]) (hrd.up hW) (by rw [pvl]; exact hl2))
  have HAP := Lib.hid h.apt
  have PAP := Lib.hid hp.apt
  have HVL : Hid ((B3.entV es).length ≤ 400) := Lib.hid (by rw [hvl]; exact hl)
  have PVL : Hid ((Rw.entV qs).length ≤ 400) := Lib.hid (by rw [pvl]; exact hl2)
  have hnb : ¬ InV (B3.entV es) bk := hel.ne_box hbox (by decide)
  have pnb : ¬ InV (Rw.entV qs) bk := pel.ne_box hbox (by decide)
  obtain ⟨vs, hvs⟩ : ∃ vs, vs = B3.entV es := ⟨_, rfl⟩
  obtain ⟨C, hC⟩ : ∃ C, C = B3.entC es := ⟨_, rfl⟩
  obtain ⟨us, hus⟩ : ∃ vs, vs = Rw.entV qs := ⟨_, rfl⟩
  obtain ⟨D, hD⟩ : ∃ C, C = Rw.entC qs := ⟨_, rfl⟩
  rw [← hvs] at HAP hel hsz hri HVL hnb
  rw [← hC] at hel hsz
  rw [← hus] at PAP pel psz pri PVL pnb hdis
  rw [← hD] at pel psz
  have HVS := Lib.hid (⟨hvs, hus⟩ : vs = B3.entV es ∧ us = Rw.entV qs)
  obtain ⟨io, ic, rfl⟩ := owns_shape' hri
  obtain ⟨po, pc, rfl⟩ := owns_shape' pri
  have HEL := Lib.hid hel
  have PEL := Lib.hid pel
  have HSZ := Lib.hid hsz
  have PSZ := Lib.hid psz
  have HRI := Lib.hid hri
  have PRI := Lib.hid pri
  have HBX := Lib.hid hbox
  have HNB := Lib.hid hnb
  have PNB := Lib.hid pnb
  have HDI := Lib.hid hdis
  clear h hp hvl hul pvl pul hsz psz hri hrw pri prw hbox a0 a1 a16 a17 hvs hC hus hD hl hl2 hel pel hnb pnb hrd hdis
  go_enter Tryz.func22, Tryz.ntmps22
  go_upto_region 3 with (go_at_call 61; refine HS.out.mono ?_; rintro r w1 ⟨rfl, hu1⟩)
  have HU1 := Lib.hid hu1
  have hb1 := (hu1.block bk (lt_of_block' HBX.out)).trans HBX.out
  have c2 : w1.cell? ⟨bk, 2, none⟩ = some (.slice none 0 0) := by simp [World.cell?, hb1]
  have c4 : w1.cell? ⟨bk, 4, none⟩ = some (.slice none 0 0) := by simp [World.cell?, hb1]
  have c6 : w1.cell? ⟨bk, 6, none⟩ = some (.slice none 0 0) := by simp [World.cell?, hb1]
  have c8 : w1.cell? ⟨bk, 8, none⟩ = some (.slice none 0 0) := by simp [World.cell?, hb1]
  have c10 : w1.cell? ⟨bk, 10, none⟩ = some (.slice none 0 0) := by simp [World.cell?, hb1]
  have c12 : w1.cell? ⟨bk, 12, none⟩ = some (.slice none 0 0) := by simp [World.cell?, hb1]
  have c14 : w1.cell? ⟨bk, 14, none⟩ = some (.slice none 0 0) := by simp [World.cell?, hb1]
  clear hb1 hu1 HS
  go_upto_region 17 with (first
    | (go_at_call 62; refine (stillTokens_nil (by assumption)).mono ?_; rintro r y ⟨rfl, rfl⟩)
    | (go_at_call 63; refine (stillTexts_nil (by assumption)).mono ?_; rintro r y ⟨rfl, rfl⟩)
    | (go_at_call 64; refine (stillBools_nil (by assumption)).mono ?_; rintro r y ⟨rfl, rfl⟩)
    | (go_at_call 65; refine (stillSteps_nil (by assumption)).mono ?_; rintro r y ⟨rfl, rfl⟩)
    | (go_at_call 66; refine (stillEdges_nil (by assumption)).mono ?_; rintro r y ⟨rfl, rfl⟩)
    | (go_at_call 67; refine (stillNodes_nil (by assumption)).mono ?_; rintro r y ⟨rfl, rfl⟩)
    | (go_at_call 68; refine (stillPairs_nil (by assumption)).mono ?_; rintro r y ⟨rfl, rfl⟩))
  clear c2 c4 c6 c8 c10 c12 c14
  go_upto_region 19 with (go_at_call 69; refine (HSP.out _ HU1.out).mono ?_; rintro r w2 ⟨rfl, hu2⟩)
  have hU2 := HU1.out.trans hu2
  have hb2 := (hU2.block bk (lt_of_block' HBX.out)).trans HBX.out
  have c18 : w2.cell? ⟨bk, 18, none⟩ = some (.slice none 0 0) := by simp [World.cell?, hb2]
  have c20 : w2.cell? ⟨bk, 20, none⟩ = some (.slice none 0 0) := by simp [World.cell?, hb2]
  have p0 : w2.cell? ⟨bk, 0, none⟩ = some (.slice io vs.length ic) := by simp [World.cell?, hb2]
  have hri2 := hU2.owns HRI.out
  have hel2 := HEL.out.up hU2
  have HP := Lib.hid (putInts_any ⟨p0, hri2⟩ hel2 HAP.out hb2 HVL.out (fun i hi => by have := HSZ.out i hi; omega))
  have HRI2 := Lib.hid hri2
  have HEL2 := Lib.hid hel2
  have PRI2 := Lib.hid (hU2.owns PRI.out)
  have PEL2 := Lib.hid (PEL.out.up hU2)
  have HB2 := Lib.hid hb2
  have HU2 := Lib.hid hU2
  clear hb2 p0 hu2 hU2 hri2 hel2 HSP HU1 HRI HEL PRI PEL
  go_upto_region 23 with (first
    | (go_at_call 70; refine (stillLines_nil (by assumption)).mono ?_; rintro r y ⟨rfl, rfl⟩)
    | (go_at_call 71; refine (stillWalks_nil (by assumption)).mono ?_; rintro r y ⟨rfl, rfl⟩))
  clear c18 c20
  go_upto_region 24 with (go_at_call 72; refine HP.out.mono ?_; rintro r w3 ⟨rfl, hP3⟩)
  have hb3 := (hP3.tur.block bk (lt_of_block' HB2.out) HNB.out).trans HB2.out
  have d2 : w3.cell? ⟨bk, 2, none⟩ = some (.slice none 0 0) := by simp [World.cell?, hb3]
  have d4 : w3.cell? ⟨bk, 4, none⟩ = some (.slice none 0 0) := by simp [World.cell?, hb3]
  have d6 : w3.cell? ⟨bk, 6, none⟩ = some (.slice none 0 0) := by simp [World.cell?, hb3]
  have d8 : w3.cell? ⟨bk, 8, none⟩ = some (.slice none 0 0) := by simp [World.cell?, hb3]
  have d10 : w3.cell? ⟨bk, 10, none⟩ = some (.slice none 0 0) := by simp [World.cell?, hb3]
  have d12 : w3.cell? ⟨bk, 12, none⟩ = some (.slice none 0 0) := by simp [World.cell?, hb3]
  have d14 : w3.cell? ⟨bk, 14, none⟩ = some (.slice none 0 0) := by simp [World.cell?, hb3]
  have p16 : w3.cell? ⟨bk, 16, none⟩ = some (.slice po us.length pc) := by simp [World.cell?, hb3]
  have hri3 : w3.ownsRow 0 34 1 (.slice io vs.length ic) vs.length vs := owns_keep HRI2.out (fun g hg => hP3.tur.block g (owns_lt HRI2.out hg) (HEL2.out.ne HRI2.out (by decide) hg))
  have hel3 : Els w3 vs (fun j => marks j 0 (C j).length) := by
    intro j hj
    have := hP3.el j hj
    rw [show putC C vs.length j = marks j 0 (C j).length by simp [putC, hj]] at this
    exact this
  have pri3 : w3.ownsRow 0 26 1 (.slice po us.length pc) us.length us := owns_keep PRI2.out (fun g hg => hP3.tur.block g (owns_lt PRI2.out hg) (HEL2.out.ne PRI2.out (by decide) hg))
  have pel3 : Rw.Els w3 us D := fun i hi => owns_keep (PEL2.out i hi) (fun g hg => hP3.tur.block g (owns_lt (PEL2.out i hi) hg) (HEL2.out.ne (PEL2.out i hi) (by decide) hg))
  have PP := Lib.hid (Rw.putRows_any ⟨p16, pri3⟩ pel3 PAP.out hb3 PVL.out (fun i hi => by have := PSZ.out i hi; omega))
  have HT3 : Hid (Turned (fun k => InV vs k ∨ InV us k) w w3) := Lib.hid ((upTurnedA HU2.out).trans hP3.tur (fun _ _ h => .inl h))
  obtain ⟨b, hb⟩ : ∃ b, b = w3.heap.size := ⟨_, rfl⟩
  have HBB := Lib.hid hb
  have HIB : Hid (∀ g, InV vs g → g < b) := Lib.hid (fun g hg => by rw [hb]; exact Els.lt hel3 hg)
  have HRI3 := Lib.hid hri3
  have HEL3 := Lib.hid hel3
  have PRI3 := Lib.hid pri3
  have PEL3 := Lib.hid pel3
  have HB3 := Lib.hid hb3
  rw [← hb] at PP
  clear hb3 p16 hri3 hel3 pri3 pel3 hP3 HP HRI2 HEL2 PRI2 PEL2 HB2 HU2 hb
  go_upto_region 31 with (first
    | (go_at_call 73; refine (putTokens_nil (by assumption)).mono ?_; rintro r y ⟨rfl, rfl⟩)
    | (go_at_call 74; refine (putTexts_nil (by assumption)).mono ?_; rintro r y ⟨rfl, rfl⟩)
    | (go_at_call 75; refine (putBools_nil (by assumption)).mono ?_; rintro r y ⟨rfl, rfl⟩)
    | (go_at_call 76; refine (putSteps_nil (by assumption)).mono ?_; rintro r y ⟨rfl, rfl⟩)
    | (go_at_call 77; refine (putEdges_nil (by assumption)).mono ?_; rintro r y ⟨rfl, rfl⟩)
    | (go_at_call 78; refine (putNodes_nil (by assumption)).mono ?_; rintro r y ⟨rfl, rfl⟩)
    | (go_at_call 79; refine (putPairs_nil (by assumption)).mono ?_; rintro r y ⟨rfl, rfl⟩))
  clear d2 d4 d6 d8 d10 d12 d14
  go_upto_region 32 with (go_at_call 80; refine PP.out.mono ?_; rintro r w4 ⟨rfl, X4, hP4, hM4⟩)
  have hb4 := (hP4.tur.block bk (lt_of_block' HB3.out) PNB.out).trans HB3.out
  have d18 : w4.cell? ⟨bk, 18, none⟩ = some (.slice none 0 0) := by simp [World.cell?, hb4]
  have d20 : w4.cell? ⟨bk, 20, none⟩ = some (.slice none 0 0) := by simp [World.cell?, hb4]
  have p0 : w4.cell? ⟨bk, 0, none⟩ = some (.slice io vs.length ic) := by simp [World.cell?, hb4]
  have hri4 : w4.ownsRow 0 34 1 (.slice io vs.length ic) vs.length vs := owns_keep HRI3.out (fun g hg => hP4.tur.block g (owns_lt HRI3.out hg) (HDI.out g hg))
  have hel4 : Els w4 vs (fun j => marks j 0 (C j).length) := fun i hi => owns_keep (HEL3.out i hi) (fun g hg => hP4.tur.block g (owns_lt (HEL3.out i hi) hg) (PEL3.out.ne (HEL3.out i hi) (by decide) hg))
  have pri4 : w4.ownsRow 0 26 1 (.slice po us.length pc) us.length us := owns_keep PRI3.out (fun g hg => hP4.tur.block g (owns_lt PRI3.out hg) (PEL3.out.ne PRI3.out (by decide) hg))
  have pel4 : Rw.MEls b w4 us (fun j => (D j).length) := Rw.put_marks hP4 hM4
  have HG := Lib.hid (growInts_any (L := fun j => (C j).length) ⟨p0, hri4⟩ hel4 HAP.out hb4 HVL.out HSZ.out)
  have HT4 : Hid (Turned (fun k => InV vs k ∨ InV us k) w w4) := Lib.hid (HT3.out.trans hP4.tur (fun _ _ h => .inr h))
  have HBL : Hid (b ≤ w4.heap.size) := Lib.hid (by rw [HBB.out]; exact hP4.tur.size)
  have HRI4 := Lib.hid hri4
  have HEL4 := Lib.hid hel4
  have PRI4 := Lib.hid pri4
  have PEL4 := Lib.hid pel4
  have HB4 := Lib.hid hb4
  clear hb4 p0 hri4 hel4 pri4 pel4 hP4 hM4 PP HRI3 HEL3 PRI3 PEL3 HB3 HT3 HBB
  go_upto_region 34 with (first
    | (go_at_call 81; refine (putLines_nil (by assumption)).mono ?_; rintro r y ⟨rfl, rfl⟩)
    | (go_at_call 82; refine (putWalks_nil (by assumption)).mono ?_; rintro r y ⟨rfl, rfl⟩))
  clear d18 d20
  go_upto_region 35 with (go_at_call 83; refine HG.out.mono ?_; rintro r w5 ⟨vo, outs, rfl, hol, hvo, hG5⟩)
  have hb5 := (hG5.tur.block bk (lt_of_block' HB4.out) HNB.out).trans HB4.out
  have e2 : w5.cell? ⟨bk, 2, none⟩ = some (.slice none 0 0) := by simp [World.cell?, hb5]
  have e4 : w5.cell? ⟨bk, 4, none⟩ = some (.slice none 0 0) := by simp [World.cell?, hb5]
  have e6 : w5.cell? ⟨bk, 6, none⟩ = some (.slice none 0 0) := by simp [World.cell?, hb5]
  have e8 : w5.cell? ⟨bk, 8, none⟩ = some (.slice none 0 0) := by simp [World.cell?, hb5]
  have e10 : w5.cell? ⟨bk, 10, none⟩ = some (.slice none 0 0) := by simp [World.cell?, hb5]
  have e12 : w5.cell? ⟨bk, 12, none⟩ = some (.slice none 0 0) := by simp [World.cell?, hb5]
  have e14 : w5.cell? ⟨bk, 14, none⟩ = some (.slice none 0 0) := by simp [World.cell?, hb5]
  have p16 : w5.cell? ⟨bk, 16, none⟩ = some (.slice po us.length pc) := by simp [World.cell?, hb5]
  have hri5 : w5.ownsRow 0 34 1 (.slice io vs.length ic) vs.length vs := owns_keep HRI4.out (fun g hg => hG5.tur.block g (owns_lt HRI4.out hg) (HEL4.out.ne HRI4.out (by decide) hg))
  have pri5 : w5.ownsRow 0 26 1 (.slice po us.length pc) us.length us := owns_keep PRI4.out (fun g hg => hG5.tur.block g (owns_lt PRI4.out hg) (HEL4.out.ne PRI4.out (by decide) hg))
  have pel5 : Rw.MEls b w5 us (fun j => (D j).length) := PEL4.out.keep (fun j g hj hg => hG5.tur.block g (PEL4.out.lt hj hg) (by
    obtain ⟨zs, hz, -⟩ := PEL4.out j hj
    exact HEL4.out.ne hz (by decide) hg)) (fun g hg hg2 => hG5.tur.block g hg2 (fun e => by have := HIB.out g e; omega))
  have hbl5 : b ≤ w5.heap.size := by have := hG5.tur.size; have := HBL.out; omega
  have PG := Lib.hid (Rw.growRows_any (L := fun j => (D j).length) ⟨p16, pri5⟩ pel5 PAP.out hb5 PVL.out PSZ.out hbl5)
  have HT5 : Hid (Turned (fun k => InV vs k ∨ InV us k) w w5) := Lib.hid (HT4.out.trans hG5.tur (fun _ _ h => .inl h))
  obtain ⟨oo, oc, rfl⟩ := owns_shape' hvo
  have HVO := Lib.hid hvo
  have HOL := Lib.hid hol
  have HGE := Lib.hid hG5.el
  have HGO := Lib.hid hG5.oel
  have HRI5 := Lib.hid hri5
  have PRI5 := Lib.hid pri5
  have PEL5 := Lib.hid pel5
  have HB5 := Lib.hid hb5
  have HIV : Hid (∀ g, InV us g → g < w4.heap.size) := Lib.hid (fun g hg => by
    obtain ⟨j, hj, hg⟩ := hg
    exact PEL4.out.lt hj hg)
  clear hb5 p16 hri5 pri5 pel5 hG5 hvo hol HG HRI4 HEL4 PRI4 PEL4 HB4 HT4 hbl5 HBL
  go_upto_region 42 with (first
    | (go_at_call 84; refine (growTokens_nil (by assumption)).mono ?_; rintro r y ⟨rfl, rfl⟩)
    | (go_at_call 85; refine (growTexts_nil (by assumption)).mono ?_; rintro r y ⟨rfl, rfl⟩)
    | (go_at_call 86; refine (growBools_nil (by assumption)).mono ?_; rintro r y ⟨rfl, rfl⟩)
    | (go_at_call 87; refine (growSteps_nil (by assumption)).mono ?_; rintro r y ⟨rfl, rfl⟩)
    | (go_at_call 88; refine (growEdges_nil (by assumption)).mono ?_; rintro r y ⟨rfl, rfl⟩)
    | (go_at_call 89; refine (growNodes_nil (by assumption)).mono ?_; rintro r y ⟨rfl, rfl⟩)
    | (go_at_call 90; refine (growPairs_nil (by assumption)).mono ?_; rintro r y ⟨rfl, rfl⟩))
  clear e2 e4 e6 e8 e10 e12 e14
  obtain ⟨X5, hX5⟩ := PEL5.out.els
  have HX5 := Lib.hid hX5
  clear hX5
  go_upto_region 43 with (go_at_call 91; refine PG.out.mono ?_; rintro r w6 ⟨vo2, outs2, rfl, hol2, hvo2, hG6⟩)
  have hb6 := (hG6.tur.block bk (lt_of_block' HB5.out) PNB.out).trans HB5.out
  have e18 : w6.cell? ⟨bk, 18, none⟩ = some (.slice none 0 0) := by simp [World.cell?, hb6]
  have e20 : w6.cell? ⟨bk, 20, none⟩ = some (.slice none 0 0) := by simp [World.cell?, hb6]
  have hri6 : w6.ownsRow 0 34 1 (.slice io vs.length ic) vs.length vs := owns_keep HRI5.out (fun g hg => hG6.tur.block g (owns_lt HRI5.out hg) (HDI.out g hg))
  have hel6 : Els w6 vs (fun j => marks j 0 (C j).length) := fun i hi => owns_keep (HGE.out i hi) (fun g hg => hG6.tur.block g (owns_lt (HGE.out i hi) hg) (HX5.out.ne (HGE.out i hi) (by decide) hg))
  have hou6 : Els w6 outs (fun j => marks j 0 ((C j).length + 96)) := fun i hi => owns_keep (HGO.out i hi) (fun g hg => hG6.tur.block g (owns_lt (HGO.out i hi) hg) (HX5.out.ne (HGO.out i hi) (by decide) hg))
  have hvo6 := owns_keep HVO.out (fun g hg => hG6.tur.block g (owns_lt HVO.out hg) (fun e => by have h1 := HIV.out g e; have h2 := (HVO.out.lt g hg).1; omega))
  have pri6 : w6.ownsRow 0 26 1 (.slice po us.length pc) us.length us := owns_keep PRI5.out (fun g hg => hG6.tur.block g (owns_lt PRI5.out hg) (HX5.out.ne PRI5.out (by decide) hg))
  have HM1 := Lib.hid (markedInts_any (vs := outs) (L := fun j => (C j).length + 96) (by rw [HOL.out]; exact hvo6) hou6 (by rw [HOL.out]; exact HVL.out) (fun i hi => by have := HSZ.out i (by rw [← HOL.out]; exact hi); omega))
  have HM2 : Hid (∀ W, Up w6 W → Calls Tryz.prog 94 #[.slice io vs.length ic] W fun r w' => r = .returned (.bool true) ∧ Up W w') := Lib.hid (fun W hu => markedInts_any (L := fun j => (C j).length) (hu.owns hri6) (hel6.up hu) HVL.out (fun i hi => by have := HSZ.out i hi; omega))
  obtain ⟨ao, ac, rfl⟩ := owns_shape' hvo2
  have HM3 : Hid (∀ W, Up w6 W → Calls Tryz.prog 102 #[.slice ao us.length ac] W fun r w' => r = .returned (.bool true) ∧ Up W w') := Lib.hid (fun W hu => Rw.markedRows_any (vs := outs2) (L := fun j => (D j).length + 96) (by rw [hol2]; exact hu.owns hvo2) (hG6.oel.up hu) (by rw [hol2]; exact PVL.out) (fun i hi => by have := PSZ.out i (by rw [← hol2]; exact hi); omega))
  have HM4 : Hid (∀ W, Up w6 W → Calls Tryz.prog 102 #[.slice po us.length pc] W fun r w' => r = .returned (.bool true) ∧ Up W w') := Lib.hid (fun W hu => Rw.markedRows_any (L := fun j => (D j).length) (hu.owns pri6) (hG6.el.up hu) PVL.out (fun i hi => by have := PSZ.out i hi; omega))
  have HT6 : Hid (Turned (fun k => InV vs k ∨ InV us k) w w6) := Lib.hid (HT5.out.trans hG6.tur (fun _ _ h => .inr h))
  have HX6 : Hid (∀ y, Up w6 y → y.heap[bk]? = _) := Lib.hid (fun y hu => (hu.block bk (lt_of_block' hb6)).trans hb6)
  clear hb6 hri6 hel6 hou6 hvo6 pri6 hvo2 hol2 hG6 PG HVO HOL HGE HGO HRI5 PRI5 PEL5 HB5 HT5 HX5 HIV HIB
  go_upto_region 44 with (first
    | (go_at_call 92; refine (growLines_nil (by assumption)).mono ?_; rintro r y ⟨rfl, rfl⟩)
    | (go_at_call 93; refine (growWalks_nil (by assumption)).mono ?_; rintro r y ⟨rfl, rfl⟩))
  go_wp2_with (first
    | (go_at_call 93; refine (growWalks_nil (by assumption)).mono ?_; rintro r y ⟨rfl, rfl⟩)
    | (go_at_call 94; (with_reducible refine HM1.out.mono ?_); rintro r w7 ⟨rfl, hu7⟩; (have hb7 := HX6.out w7 hu7); (have f2 : w7.cell? ⟨bk, 2, none⟩ = some (.slice none 0 0) := by simp [World.cell?, hb7]); (have f4 : w7.cell? ⟨bk, 4, none⟩ = some (.slice none 0 0) := by simp [World.cell?, hb7]); (have f6 : w7.cell? ⟨bk, 6, none⟩ = some (.slice none 0 0) := by simp [World.cell?, hb7]); (have f8 : w7.cell? ⟨bk, 8, none⟩ = some (.slice none 0 0) := by simp [World.cell?, hb7]); (have f10 : w7.cell? ⟨bk, 10, none⟩ = some (.slice none 0 0) := by simp [World.cell?, hb7]); (have f12 : w7.cell? ⟨bk, 12, none⟩ = some (.slice none 0 0) := by simp [World.cell?, hb7]); (have f14 : w7.cell? ⟨bk, 14, none⟩ = some (.slice none 0 0) := by simp [World.cell?, hb7]); (have f18 : w7.cell? ⟨bk, 18, none⟩ = some (.slice none 0 0) := by simp [World.cell?, hb7]); (have f20 : w7.cell? ⟨bk, 20, none⟩ = some (.slice none 0 0) := by simp [World.cell?, hb7]); (have f0 : w7.cell? ⟨bk, 0, none⟩ = some (.slice io vs.length ic) := by simp [World.cell?, hb7]); (have f16 : w7.cell? ⟨bk, 16, none⟩ = some (.slice po us.length pc) := by simp [World.cell?, hb7]); clear hb7)
    | (go_at_call 94; (with_reducible refine (HM2.out _ hu7).mono ?_); rintro r w8 ⟨rfl, hu8⟩; (have hU8 := hu7.trans hu8); (have hb8 := HX6.out w8 hU8); (have g2 : w8.cell? ⟨bk, 2, none⟩ = some (.slice none 0 0) := by simp [World.cell?, hb8]); (have g4 : w8.cell? ⟨bk, 4, none⟩ = some (.slice none 0 0) := by simp [World.cell?, hb8]); (have g6 : w8.cell? ⟨bk, 6, none⟩ = some (.slice none 0 0) := by simp [World.cell?, hb8]); (have g8 : w8.cell? ⟨bk, 8, none⟩ = some (.slice none 0 0) := by simp [World.cell?, hb8]); (have g10 : w8.cell? ⟨bk, 10, none⟩ = some (.slice none 0 0) := by simp [World.cell?, hb8]); (have g12 : w8.cell? ⟨bk, 12, none⟩ = some (.slice none 0 0) := by simp [World.cell?, hb8]); (have g14 : w8.cell? ⟨bk, 14, none⟩ = some (.slice none 0 0) := by simp [World.cell?, hb8]); (have g18 : w8.cell? ⟨bk, 18, none⟩ = some (.slice none 0 0) := by simp [World.cell?, hb8]); (have g20 : w8.cell? ⟨bk, 20, none⟩ = some (.slice none 0 0) := by simp [World.cell?, hb8]); (have g0 : w8.cell? ⟨bk, 0, none⟩ = some (.slice io vs.length ic) := by simp [World.cell?, hb8]); (have g16 : w8.cell? ⟨bk, 16, none⟩ = some (.slice po us.length pc) := by simp [World.cell?, hb8]); clear hb8)
    | (go_at_call 102; (with_reducible refine (HM3.out _ hU8).mono ?_); rintro r w9 ⟨rfl, hu9⟩; (have hU9 := hU8.trans hu9); (have hb9 := HX6.out w9 hU9); (have h2 : w9.cell? ⟨bk, 2, none⟩ = some (.slice none 0 0) := by simp [World.cell?, hb9]); (have h4 : w9.cell? ⟨bk, 4, none⟩ = some (.slice none 0 0) := by simp [World.cell?, hb9]); (have h6 : w9.cell? ⟨bk, 6, none⟩ = some (.slice none 0 0) := by simp [World.cell?, hb9]); (have h8 : w9.cell? ⟨bk, 8, none⟩ = some (.slice none 0 0) := by simp [World.cell?, hb9]); (have h10 : w9.cell? ⟨bk, 10, none⟩ = some (.slice none 0 0) := by simp [World.cell?, hb9]); (have h12 : w9.cell? ⟨bk, 12, none⟩ = some (.slice none 0 0) := by simp [World.cell?, hb9]); (have h14 : w9.cell? ⟨bk, 14, none⟩ = some (.slice none 0 0) := by simp [World.cell?, hb9]); (have h18 : w9.cell? ⟨bk, 18, none⟩ = some (.slice none 0 0) := by simp [World.cell?, hb9]); (have h20 : w9.cell? ⟨bk, 20, none⟩ = some (.slice none 0 0) := by simp [World.cell?, hb9]); (have h0 : w9.cell? ⟨bk, 0, none⟩ = some (.slice io vs.length ic) := by simp [World.cell?, hb9]); (have h16 : w9.cell? ⟨bk, 16, none⟩ = some (.slice po us.length pc) := by simp [World.cell?, hb9]); clear hb9)
    | (go_at_call 102; (with_reducible refine (HM4.out _ hU9).mono ?_); rintro r w10 ⟨rfl, hu10⟩; (have hU10 := hU9.trans hu10); (have hb10 := HX6.out w10 hU10); (have i2 : w10.cell? ⟨bk, 2, none⟩ = some (.slice none 0 0) := by simp [World.cell?, hb10]); (have i4 : w10.cell? ⟨bk, 4, none⟩ = some (.slice none 0 0) := by simp [World.cell?, hb10]); (have i6 : w10.cell? ⟨bk, 6, none⟩ = some (.slice none 0 0) := by simp [World.cell?, hb10]); (have i8 : w10.cell? ⟨bk, 8, none⟩ = some (.slice none 0 0) := by simp [World.cell?, hb10]); (have i10 : w10.cell? ⟨bk, 10, none⟩ = some (.slice none 0 0) := by simp [World.cell?, hb10]); (have i12 : w10.cell? ⟨bk, 12, none⟩ = some (.slice none 0 0) := by simp [World.cell?, hb10]); (have i14 : w10.cell? ⟨bk, 14, none⟩ = some (.slice none 0 0) := by simp [World.cell?, hb10]); (have i18 : w10.cell? ⟨bk, 18, none⟩ = some (.slice none 0 0) := by simp [World.cell?, hb10]); (have i20 : w10.cell? ⟨bk, 20, none⟩ = some (.slice none 0 0) := by simp [World.cell?, hb10]); (have i0 : w10.cell? ⟨bk, 0, none⟩ = some (.slice io vs.length ic) := by simp [World.cell?, hb10]); (have i16 : w10.cell? ⟨bk, 16, none⟩ = some (.slice po us.length pc) := by simp [World.cell?, hb10]); clear hb10)
    | (go_at_call 95; refine (markedTokens_nil _).mono ?_; rintro r y ⟨rfl, rfl⟩)
    | (go_at_call 96; refine (markedTexts_nil _).mono ?_; rintro r y ⟨rfl, rfl⟩)
    | (go_at_call 97; refine (markedBools_nil _).mono ?_; rintro r y ⟨rfl, rfl⟩)
    | (go_at_call 98; refine (markedSteps_nil _).mono ?_; rintro r y ⟨rfl, rfl⟩)
    | (go_at_call 99; refine (markedEdges_nil _).mono ?_; rintro r y ⟨rfl, rfl⟩)
    | (go_at_call 100; refine (markedNodes_nil _).mono ?_; rintro r y ⟨rfl, rfl⟩)
    | (go_at_call 101; refine (markedPairs_nil _).mono ?_; rintro r y ⟨rfl, rfl⟩)
    | (go_at_call 103; refine (markedLines_nil _).mono ?_; rintro r y ⟨rfl, rfl⟩)
    | (go_at_call 104; refine (markedWalks_nil _).mono ?_; rintro r y ⟨rfl, rfl⟩))
  go_ret
  exact ⟨rfl, by rw [← HVS.out.1, ← HVS.out.2]; exact HT6.out.upR hU10⟩

end Go.Proofs.YtpmdjicaefmbnaaGreatDoor
