/- A store of terms in memory that takes one term more: its map, its row, its header. -/
import Derived.Test.YtiiieailimphnaaGreatDoorTmMem
namespace Go.Proofs.YtiiieailimphnaaGreatDoor
open Go.RowKit Go.Maps
set_option linter.unusedVariables false
set_option linter.unusedSimpArgs false

theorem map_ne_cells {H : Type} {P : Program} {k : TypeId} {R : Value → Option (DataW H × List MemPlace)} {w : World} {b n g : Nat} {D : DataW H} {cur : Array Value} {e : TypeId} {fr : Nat × Nat} (h : w.ownsMap P k R b n D) (hg : w.heap[g]? = some (.cells cur e fr)) : b ≠ g := by
  obtain ⟨es, clock, hb, _⟩ := h
  rintro rfl
  rw [hb] at hg
  cases hg

theorem cells_ne {w : World} {a b : Nat} {ca cb : Array Value} {ea eb : TypeId} {fa fb : Nat × Nat} (ha : w.heap[a]? = some (.cells ca ea fa)) (hb : w.heap[b]? = some (.cells cb eb fb)) (h : ea ≠ eb) : a ≠ b := by
  rintro rfl
  rw [ha] at hb
  simp only [Option.some.injEq, Obj.cells.injEq] at hb
  exact h hb.2.1

/-- The blocks of a store's lists are none of its three others. -/
theorem StoreAt.lists {w : World} {B bm : Nat} {vt : Value} {ts : List TRow} (h : StoreAt w B vt (.map (some bm)) ts) {x : TRow} (hx : x ∈ ts) {k : Nat} (hk : x.2.1.ownBlock = some k ∨ x.2.2.ownBlock = some k) :
    k ≠ B ∧ vt.ownBlock ≠ some k ∧ k ≠ bm := by
  have ho := h.own x hx
  have hm : ∃ n D, w.ownsMap (H := Unit) Tryz.prog 9 (plainElem Tryz.prog 3) bm n D := by
    rcases h.map with ⟨e, _⟩ | ⟨b, e, hm⟩
    · cases e
    · cases e; exact ⟨_, _, hm⟩
  obtain ⟨n, D, hm⟩ := hm
  rcases hk with hk | hk
  · obtain ⟨cur, hc⟩ := owns_type ho.n hk
    refine ⟨cells_ne hc h.box (by decide), fun e => ?_, fun e => map_ne_cells hm hc e.symm⟩
    obtain ⟨cur', hc'⟩ := owns_type h.row e
    exact cells_ne hc hc' (by decide) rfl
  · obtain ⟨cur, hc⟩ := owns_type ho.p hk
    refine ⟨cells_ne hc h.box (by decide), fun e => ?_, fun e => map_ne_cells hm hc e.symm⟩
    obtain ⟨cur', hc'⟩ := owns_type h.row e
    exact cells_ne hc hc' (by decide) rfl

theorem StoreAt.heads {w : World} {B bm : Nat} {vt : Value} {ts : List TRow} (h : StoreAt w B vt (.map (some bm)) ts) : bm ≠ B ∧ vt.ownBlock ≠ some B ∧ vt.ownBlock ≠ some bm ∧ bm < w.heap.size ∧ B < w.heap.size := by
  rcases h.map with ⟨e, _⟩ | ⟨b, e, hm⟩
  · cases e
  cases e
  refine ⟨map_ne_cells hm h.box, fun e => ?_, fun e => ?_, hm.lt, lt_of_block' h.box⟩
  · obtain ⟨cur', hc'⟩ := owns_type h.row e
    exact cells_ne hc' h.box (by decide) rfl
  · obtain ⟨cur', hc'⟩ := owns_type h.row e
    exact map_ne_cells hm hc' rfl

/-- What Put turns. -/
def PutFoot (B bm : Nat) (vt : Value) (k : Nat) : Prop := k = B ∨ vt.ownBlock = some k ∨ k = bm

theorem StoreAt.pushed {W W2 w3 w4 : World} {B bm : Nat} {vt v' nv pv : Value} {ts : List TRow} {t : Tm.T} {o : Obj} (h : StoreAt W B vt (.map (some bm)) ts) (hinv : Tm.Inv (ts.map (·.1) ++ [t]))
    (hmap : W2.ownsMap (H := Unit) Tryz.prog 9 (plainElem Tryz.prog 3) bm (ts.length + 1) (Tm.index (ts.map (·.1) ++ [t]))) (hg2 : W.grownBy W2 (some bm))
    (hb3 : Up W2 w3) (hown : TOwn w3 t nv pv) (hnew : ∀ k, nv.ownBlock = some k ∨ pv.ownBlock = some k → W2.heap.size ≤ k)
    (hrow : w4.ownsRow 0 35 6 v' (ts.length + 1) (cellsT ts ++ tcells t nv pv)) (hg4 : (w3.alloc o).grownBy w4 vt.ownBlock) (hloc : v'.ownBlock = vt.ownBlock ∨ v'.ownBlock = some (w3.alloc o).heap.size) :
    StoreAt (w4.setCell ⟨B, 0, none⟩ v') B v' (.map (some bm)) (ts ++ [(t, nv, pv)]) ∧ Turned (PutFoot B bm vt) W (w4.setCell ⟨B, 0, none⟩ v') ∧ (∀ k, v'.ownBlock = some k → vt.ownBlock = some k ∨ W.heap.size ≤ k) := by
  obtain ⟨n1, n2, n3, lm, lB⟩ := h.heads
  have s2 := hg2.size
  have s3 := hb3.size
  have s4 : w3.heap.size + 1 ≤ w4.heap.size := by have := hg4.size; simpa using this
  -- what was there behind the map's store
  have k3 : ∀ k, k < w3.heap.size → vt.ownBlock ≠ some k → w4.heap[k]? = w3.heap[k]? := fun k hk hv =>
    (hg4.block k (by simp; omega) (fun e => hv e.symm)).trans (Below.heap_alloc w3 o k hk)
  have k1 : ∀ k, k < W.heap.size → k ≠ bm → vt.ownBlock ≠ some k → w4.heap[k]? = W.heap[k]? := fun k hk hm hv =>
    (k3 k (by omega) hv).trans ((hb3.block k (by omega)).trans (hg2.block k hk (by simpa using hm)))
  have hvlt : ∀ k, v'.ownBlock = some k → vt.ownBlock = some k ∨ w3.heap.size < k := by
    intro k hk
    rcases hloc with e | e
    · rw [e] at hk; exact .inl hk
    · rw [hk, Option.some.injEq] at e; right; rw [e]; simp
  have hvB : v'.ownBlock ≠ some B := by
    intro e
    rcases hvlt B e with h1 | h1
    · exact n2 h1
    · omega
  have hset : ∀ k, k ≠ B → (w4.setCell ⟨B, 0, none⟩ v').heap[k]? = w4.heap[k]? := fun k hk => Below.heap_setCell w4 ⟨B, 0, none⟩ v' k hk
  refine ⟨⟨?_, ?_, ?_, ?_, ?_⟩, ?_, ?_⟩
  · have hb : w4.heap[B]? = some (.cells #[vt, .map (some bm)] 71 (0, 0)) := (k1 B lB (fun e => n1 e.symm) n2).trans h.box
    simp [World.setCell, Array.getElem?_modify, hb]
  · rw [cellsT_append, List.length_append]
    show (w4.setCell ⟨B, 0, none⟩ v').ownsRow 0 _ 6 v' (ts.length + 1) (cellsT ts ++ (tcells t nv pv ++ []))
    rw [List.append_nil]
    exact owns_keep hrow (fun k hk => hset k (fun e => hvB (by rw [← e]; exact hk)))
  · refine .inr ⟨bm, rfl, ?_⟩
    rw [List.map_append, List.length_append]
    exact ownsMap_keep hmap ((hset bm n1).trans ((k3 bm (by omega) n3).trans (hb3.block bm (by omega))))
  · intro x hx
    rcases List.mem_append.1 hx with hx | hx
    · have hl := fun k hk => h.lists hx (k := k) hk
      refine (h.own x hx).keep (fun k hk => ?_)
      obtain ⟨e1, e2, e3⟩ := hl k hk
      have hk1 : k < W.heap.size := h.lt (.inr (.inr (.inr ⟨x, hx, hk⟩)))
      exact (hset k e1).trans (k1 k hk1 e3 e2)
    · rw [List.mem_singleton] at hx
      subst hx
      refine hown.keep (fun k hk => ?_)
      have h1 := hnew k hk
      have h2 : k < w3.heap.size := by
        rcases hk with hk | hk
        · exact owns_lt hown.n hk
        · exact owns_lt hown.p hk
      refine (hset k (by omega)).trans (k3 k h2 (fun e => ?_))
      have := owns_lt h.row e
      omega
  · rw [List.map_append]; exact hinv
  · have T1 : Turned (PutFoot B bm vt) W W2 := (Turned.refl _ W).grown hg2 (fun k hk => .inl (by cases hk; exact .inr (.inr rfl)))
    have T2 : Turned (PutFoot B bm vt) W w3 := T1.trans (Turned.below hb3) (fun i hi hk => absurd hk (by omega))
    exact ((T2.alloc o).grown hg4 (fun k hk => .inl (.inr (.inl hk)))).setCell (.inl (.inl rfl)) _
  · intro k hk
    rcases hvlt k hk with h1 | h1
    · exact .inl h1
    · right; omega

end Go.Proofs.YtiiieailimphnaaGreatDoor
