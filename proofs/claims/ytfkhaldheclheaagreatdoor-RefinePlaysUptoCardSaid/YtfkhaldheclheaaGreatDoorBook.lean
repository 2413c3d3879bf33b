/- The book of lists: Ints, by its contract. -/
import Derived.Test.YtfkhaldheclheaaGreatDoorLst
import Derived.Deep.RegionLaw
import Derived.BigRegion
import Derived.Deep.DeepCutAuto
import Derived.Maps.AppendAt
import Derived.Deep.AppendLies
namespace Go.Proofs.YtfkhaldheclheaaGreatDoor
open Go.RowKit
set_option linter.unusedVariables false
set_option linter.unusedSimpArgs false

/-- A list that the book keeps: the list, the copy that was made at once, what both hold. -/
structure Ent where
  v : Value
  u : Value
  xs : List Int

/-- A slice's own block, as a list. -/
def blk (v : Value) : List Nat := v.ownBlock.toList

def entBlocks (es : List Ent) : List Nat := es.flatMap fun e => blk e.v ++ blk e.u

theorem mem_blk {v : Value} {g : Nat} : g ∈ blk v ↔ v.ownBlock = some g := by simp [blk]

theorem entBlocks_snoc (es : List Ent) (e : Ent) : entBlocks (es ++ [e]) = entBlocks es ++ (blk e.v ++ blk e.u) := by simp [entBlocks]

theorem mem_entBlocks {es : List Ent} {g : Nat} : g ∈ entBlocks es ↔ ∃ e ∈ es, e.v.ownBlock = some g ∨ e.u.ownBlock = some g := by
  simp only [entBlocks, List.mem_flatMap, List.mem_append, mem_blk]

/-- A book that keeps lists of integers alone. -/
structure BookAt (w : World) (bk : Nat) (vi vw : Value) (es : List Ent) : Prop where
  box : w.heap[bk]? = some (.cells #[vi, vw, .slice none 0 0, .slice none 0 0, .slice none 0 0, .slice none 0 0, .slice none 0 0, .slice none 0 0, .slice none 0 0, .slice none 0 0, .slice none 0 0, .slice none 0 0, .slice none 0 0, .slice none 0 0, .slice none 0 0, .slice none 0 0, .slice none 0 0, .slice none 0 0, .slice none 0 0, .slice none 0 0, .slice none 0 0, .slice none 0 0] 40 (0, 0))
  ri : w.ownsRow 0 22 1 vi es.length (es.map (·.v))
  rw : w.ownsRow 0 22 1 vw es.length (es.map (·.u))
  ap : ∀ g, vi.ownBlock = some g → vw.ownBlock ≠ some g
  ent : ∀ e ∈ es, w.ownsRow 0 3 1 e.v e.xs.length (e.xs.map (Value.int .i64)) ∧ w.ownsRow 0 3 1 e.u e.xs.length (e.xs.map (Value.int .i64))
  nd : (entBlocks es).Nodup
  sz : ∀ e ∈ es, e.xs.length ≤ 900000

/-- The book's blocks; and those of them that Ints writes. -/
def BkFoot (bk : Nat) (vi vw : Value) (es : List Ent) (k : Nat) : Prop := k = bk ∨ vi.ownBlock = some k ∨ vw.ownBlock = some k ∨ k ∈ entBlocks es
def BkOwn (bk : Nat) (vi vw : Value) (k : Nat) : Prop := k = bk ∨ vi.ownBlock = some k ∨ vw.ownBlock = some k

theorem BookAt.keep {w w' : World} {bk : Nat} {vi vw : Value} {es : List Ent} (h : BookAt w bk vi vw es) (hk : ∀ k, BkFoot bk vi vw es k → w'.heap[k]? = w.heap[k]?) : BookAt w' bk vi vw es :=
  ⟨(hk bk (.inl rfl)).trans h.box, owns_keep h.ri (fun g hg => hk g (.inr (.inl hg))), owns_keep h.rw (fun g hg => hk g (.inr (.inr (.inl hg)))), h.ap,
    fun e he => ⟨owns_keep (h.ent e he).1 (fun g hg => hk g (.inr (.inr (.inr (mem_entBlocks.2 ⟨e, he, .inl hg⟩))))), owns_keep (h.ent e he).2 (fun g hg => hk g (.inr (.inr (.inr (mem_entBlocks.2 ⟨e, he, .inr hg⟩)))))⟩, h.nd, h.sz⟩

theorem BookAt.foot_lt {w : World} {bk k : Nat} {vi vw : Value} {es : List Ent} (h : BookAt w bk vi vw es) (hk : BkFoot bk vi vw es k) : k < w.heap.size := by
  rcases hk with rfl | hk | hk | hk
  · exact (Array.getElem?_eq_some_iff.1 h.box).1
  · exact owns_lt h.ri hk
  · exact owns_lt h.rw hk
  · obtain ⟨e, he, hk | hk⟩ := mem_entBlocks.1 hk
    · exact owns_lt (h.ent e he).1 hk
    · exact owns_lt (h.ent e he).2 hk

theorem BookAt.up {w w' : World} {bk : Nat} {vi vw : Value} {es : List Ent} (h : BookAt w bk vi vw es) (hu : Up w w') : BookAt w' bk vi vw es :=
  h.keep (fun k hk => hu.block k (h.foot_lt hk))

/-- What Ints leaves. -/
def IntsDone (w : World) (bk : Nat) (vi vw : Value) (es : List Ent) (v : Value) (xs : List Int) (r : Ending) (w' : World) : Prop :=
  r = .returned (.tuple #[]) ∧ ∃ vi' vw' es', BookAt w' bk vi' vw' es' ∧ es'.length ≤ 400 ∧ (es' = es ∨ ∃ u, es' = es ++ [⟨v, u, xs⟩]) ∧
    (∀ k, BkFoot bk vi' vw' es' k → BkFoot bk vi vw es k ∨ v.ownBlock = some k ∨ w.heap.size ≤ k) ∧ Turned (BkOwn bk vi vw) w w'

/-- append ONTO A SLICE THAT THE CALL OWNS, as one step of a region that draws its order. -/
theorem step_append_book {P : Program} {ops : Array Oper} {o : Oper} {a : Act} {w : World} {K : Act → World → Prop} {Q : Exit → Act → World → Prop} {E : Prop}
    (hg : o.guard = none) (s x : Operand) (t : TypeId) (hop : o.op = Op.call { callee := Callee.builtin Builtin.append, args := #[s, x], argTypes := #[t, t] })
    (base : Nat) (e : TypeId) (i : TypeInfo) (z : Value) (size bytes : Nat) (ht : P.underlying t = some (.slice e)) (hi : P.info? e = some i) (hz : i.zero = some z)
    (hsize : i.size = size) (hby : i.bytes = bytes) (hzs : z.cells.size = size) (hsz : 0 < size)
    (v : Value) (n : Nat) (xs : List Value) (hs : a.eval s = v) (hown : w.ownsRow base e size v n xs)
    (ad : Addr) (m c : Nat) (news : List Value) (hx : a.eval x = .slice (some ad) m c) (hl : news.length = m * size) (hnews : ∀ j u, news[j]? = some u → w.cell? (ad.add j) = some u) (h1 : ∀ u ∈ news, u.oneCell' = true)
    (h63 : n + m ≤ maxLen) (hbytes : (n + m) * bytes ≤ 140737488355328) (hbase : base ≤ w.heap.size)
    (hK : ∀ v' w', w'.ownsRow base e size v' (n + m) (xs ++ news) → w.grownBy w' v.ownBlock → (v'.ownBlock = v.ownBlock ∨ v'.ownBlock = some w.heap.size) → K (a.put o.dst v') w') :
    if Region.wanted o (yielded ops a.tmps) = true then Oper.wp P o a w K Q else E := by
  have hw : Region.wanted o (yielded ops a.tmps) = true := by simp [Region.wanted, hg]
  rw [if_pos hw]
  obtain ⟨v', w', hr, h2, h3, h4, h5⟩ := run_append_own_at (P := P) w base t o.type e i z size bytes ht hi hz hsize hby hzs hsz v n xs hown ad m c news hl hnews h1 h63 hbytes hbase
  unfold Oper.wp execOp
  simp only [hop, resolve, invoke, builtin, Sem.run_bind, Sem.run_pure, Result.andThen_ok, List.map_toArray, List.map_cons, List.map_nil, hs, hx, hr]
  exact hK v' w' h2 h3 h5

theorem Tryz.sliceInfo : (Tryz.prog.info? 22).map (fun i => (i.zero, i.size, i.bytes)) = some (some (.slice none 0 0), 1, 24) := by kernel_rfl
theorem Tryz.intInfoB : (Tryz.prog.info? 3).map (fun i => (i.zero, i.size, i.bytes)) = some (some (.int .i64 0), 1, 8) := by kernel_rfl

theorem one_cell_slice (a : Option Addr) (n c : Nat) : ∀ u ∈ [Value.slice a n c], u.oneCell' = true := by
  intro u hu
  simp only [List.mem_singleton] at hu
  subst hu; rfl

end Go.Proofs.YtfkhaldheclheaaGreatDoor
