/- The document's own store of terms in memory: a struct of 513 cells: the terms, and 512 rows of numbers. -/
import Derived.Test.YtiiieailimphnaaGreatDoorTmR5
import Derived.Test.YtiiieailimphnaaGreatDoorTmRun
namespace Go.Proofs.YtiiieailimphnaaGreatDoor
open Go.RowKit Go.Maps
set_option linter.unusedVariables false
set_option linter.unusedSimpArgs false

namespace Tm
/-- The numbers of the terms with a sum. -/
def rowOf (s : List T) (j : Nat) : List Nat := (List.range s.length).filter fun i => decide (refSum (s.getD i nilT) = (j : Int))

theorem rowOf_nil (j : Nat) : rowOf [] j = [] := rfl

theorem rowOf_snoc (s : List T) (t : T) (j : Nat) : rowOf (s ++ [t]) j = if refSum t = (j : Int) then rowOf s j ++ [s.length] else rowOf s j := by
  unfold rowOf
  rw [List.length_append, List.length_singleton, List.range_succ, List.filter_append]
  have e : (List.range s.length).filter (fun i => decide (refSum ((s ++ [t]).getD i nilT) = (j : Int))) = (List.range s.length).filter (fun i => decide (refSum (s.getD i nilT) = (j : Int))) := by
    refine List.filter_congr (fun i hi => ?_)
    have hi := List.mem_range.1 hi
    simp [List.getD, List.getElem?_append, hi]
  rw [e]
  have e2 : (s ++ [t]).getD s.length nilT = t := by simp [List.getD]
  by_cases h : refSum t = (j : Int)
  · rw [if_pos h]; simp only [List.filter_cons, List.filter_nil, e2, h, decide_true, if_true]
  · rw [if_neg h]; simp only [List.filter_cons, List.filter_nil, e2, h, decide_false, Bool.false_eq_true, if_false, List.append_nil]

theorem rowOf_mem {s : List T} {j i : Nat} : i ∈ rowOf s j ↔ i < s.length ∧ refSum (s.getD i nilT) = (j : Int) := by
  simp [rowOf]

theorem rowOf_len (s : List T) (j : Nat) : (rowOf s j).length ≤ s.length := by
  have := List.length_filter_le (fun i => decide (refSum (s.getD i nilT) = (j : Int))) (List.range s.length)
  simpa [rowOf] using this

/-- What Find tells. -/
def find (s : List T) (t : T) : Int := if t ∈ s then (s.idxOf t : Nat) else -1

theorem find_at {s : List T} (h : s.Nodup) {i : Nat} (hi : i < s.length) : find s (s.getD i nilT) = (i : Int) := by
  have e : s.getD i nilT = s[i] := by simp [List.getD, hi]
  rw [e, find, if_pos (List.getElem_mem hi)]
  have := h.idxOf_getElem i hi
  rw [this]

theorem find_not {s : List T} {t : T} {j : Nat} (hj : refSum t = (j : Int)) (h : ∀ i, i ∈ rowOf s j → s.getD i nilT ≠ t) : find s t = -1 := by
  rw [find, if_neg]
  intro hin
  obtain ⟨i, hi, rfl⟩ := List.mem_iff_getElem.1 hin
  have e : s.getD i nilT = s[i] := by simp [List.getD, hi]
  exact h i (rowOf_mem.2 ⟨hi, by rw [e]; exact hj⟩) e
end Tm

/-- The document's own store. -/
structure RefAt (w : World) (R : Nat) (vl : Value) (rows : Nat → Value) (ts : List TRow) : Prop where
  box : ∃ cs : Array Value, w.heap[R]? = some (.cells cs 32 (0, 0)) ∧ cs.size = 513 ∧ cs[0]? = some vl ∧ ∀ j, j < 512 → cs[1 + j]? = some (rows j)
  row : w.ownsRow 0 35 6 vl ts.length (cellsT ts)
  rws : ∀ j, j < 512 → w.ownsRow 0 3 1 (rows j) (Tm.rowOf (ts.map (·.1)) j).length (ints (Tm.rowOf (ts.map (·.1)) j))
  own : ∀ x ∈ ts, TOwn w x.1 x.2.1 x.2.2
  apart : ∀ i j k, i < 512 → j < 512 → (rows i).ownBlock = some k → (rows j).ownBlock = some k → i = j
  apartT : ∀ j k, j < 512 → (rows j).ownBlock = some k → ∀ x ∈ ts, x.2.1.ownBlock ≠ some k
  inv : Tm.Inv (ts.map (·.1))

/-- Its blocks. -/
def RFoot (R : Nat) (vl : Value) (rows : Nat → Value) (ts : List TRow) (k : Nat) : Prop := k = R ∨ vl.ownBlock = some k ∨ (∃ j, j < 512 ∧ (rows j).ownBlock = some k) ∨ ∃ x ∈ ts, x.2.1.ownBlock = some k ∨ x.2.2.ownBlock = some k

theorem RefAt.lt {w : World} {R : Nat} {vl : Value} {rows : Nat → Value} {ts : List TRow} (h : RefAt w R vl rows ts) {k : Nat} (hk : RFoot R vl rows ts k) : k < w.heap.size := by
  rcases hk with rfl | hk | ⟨j, hj, hk⟩ | ⟨x, hx, hk⟩
  · obtain ⟨cs, hb, _⟩ := h.box
    exact lt_of_block' hb
  · exact owns_lt h.row hk
  · exact owns_lt (h.rws j hj) hk
  · rcases hk with hk | hk
    · exact owns_lt (h.own x hx).n hk
    · exact owns_lt (h.own x hx).p hk

theorem RefAt.keep {w w' : World} {R : Nat} {vl : Value} {rows : Nat → Value} {ts : List TRow} (h : RefAt w R vl rows ts) (hk : ∀ k, RFoot R vl rows ts k → w'.heap[k]? = w.heap[k]?) : RefAt w' R vl rows ts := by
  obtain ⟨cs, hb, hc⟩ := h.box
  exact ⟨⟨cs, (hk R (.inl rfl)).trans hb, hc⟩, owns_keep h.row (fun g hg => hk g (.inr (.inl hg))), fun j hj => owns_keep (h.rws j hj) (fun g hg => hk g (.inr (.inr (.inl ⟨j, hj, hg⟩)))),
    fun x hx => (h.own x hx).keep (fun k hk' => hk k (.inr (.inr (.inr ⟨x, hx, hk'⟩)))), h.apart, h.apartT, h.inv⟩

/-- The document's own store of the terms s lies at R, its blocks among F. -/
def Rs (F : Nat → Prop) (w : World) (R : Nat) (s : List Tm.T) : Prop := ∃ vl rows ts, ts.map (·.1) = s ∧ RefAt w R vl rows ts ∧ ∀ k, RFoot R vl rows ts k → F k

theorem Rs.keep {F : Nat → Prop} {w w' : World} {R : Nat} {s : List Tm.T} (h : Rs F w R s) (hk : ∀ k, k < w.heap.size → F k → w'.heap[k]? = w.heap[k]?) : Rs F w' R s := by
  obtain ⟨vl, rows, ts, e, hs, hf⟩ := h
  exact ⟨vl, rows, ts, e, hs.keep (fun k hk' => hk k (hs.lt hk') (hf k hk')), hf⟩

theorem Rs.mono {F G : Nat → Prop} {w : World} {R : Nat} {s : List Tm.T} (h : Rs F w R s) (hF : ∀ k, k < w.heap.size → F k → G k) : Rs G w R s := by
  obtain ⟨vl, rows, ts, e, hs, hf⟩ := h
  exact ⟨vl, rows, ts, e, hs, fun k hk => hF k (hs.lt hk) (hf k hk)⟩

theorem Rs.turned {F S : Nat → Prop} {w w' : World} {R : Nat} {s : List Tm.T} (h : Rs F w R s) (ht : Turned S w w') (hd : ∀ k, k < w.heap.size → F k → ¬ S k) : Rs F w' R s :=
  h.keep (fun k hk hf => ht.block k hk (hd k hk hf))

theorem Rs.up {F : Nat → Prop} {w w' : World} {R : Nat} {s : List Tm.T} (h : Rs F w R s) (hu : Up w w') : Rs F w' R s := h.keep (fun k hk _ => hu.block k hk)

theorem Rs.bound {F : Nat → Prop} {w : World} {R : Nat} {s : List Tm.T} (h : Rs F w R s) : Rs (fun k => F k ∧ k < w.heap.size) w R s := h.mono (fun k hk hf => ⟨hf, hk⟩)

theorem Rs.inv {F : Nat → Prop} {w : World} {R : Nat} {s : List Tm.T} (h : Rs F w R s) : Tm.Inv s := by
  obtain ⟨vl, rows, ts, e, hs, hf⟩ := h
  rw [← e]; exact hs.inv

theorem RefAt.cell {w : World} {R : Nat} {vl : Value} {rows : Nat → Value} {ts : List TRow} (h : RefAt w R vl rows ts) : w.cell? ⟨R, 0, none⟩ = some vl ∧ (∀ j, j < 512 → w.cell? ⟨R, 1 + j, none⟩ = some (rows j)) ∧ ∀ j, w.frozen? ⟨R, j, none⟩ = false := by
  obtain ⟨cs, hb, hn, h0, hc⟩ := h.box
  refine ⟨?_, fun j hj => ?_, fun j => ?_⟩
  · simp only [World.cell?, hb]; exact h0
  · simp only [World.cell?, hb]; exact hc j hj
  · simp [World.frozen?, hb]

/-- The terms and a row of such a store, where they stand. -/
theorem Rs.at {F : Nat → Prop} {w : World} {R : Nat} {s : List Tm.T} (h : Rs F w R s) : ∃ ao cap, w.cell? ⟨R, 0, none⟩ = some (.slice ao s.length cap) ∧
    (∀ j, j < 512 → ∃ v, w.cell? ⟨R, 1 + j, none⟩ = some v ∧ w.ownsRow 0 3 1 v (Tm.rowOf s j).length (ints (Tm.rowOf s j))) ∧
    ∀ i, i < s.length → ∃ g nv pv, ao = some ⟨g, 0, none⟩ ∧ (∀ j u, j < 6 → (tcells (s.getD i Tm.nilT) nv pv)[j]? = some u → w.cell? ⟨g, i * 6 + j, none⟩ = some u) ∧ TOwn w (s.getD i Tm.nilT) nv pv := by
  obtain ⟨vl, rows, ts, rfl, hs, hf⟩ := h
  obtain ⟨c0, cr, -⟩ := hs.cell
  obtain ⟨ao, cap, rfl⟩ := owns_shape' hs.row
  refine ⟨ao, cap, by rw [List.length_map]; exact c0, fun j hj => ⟨rows j, cr j hj, hs.rws j hj⟩, fun i hi => ?_⟩
  rw [List.length_map] at hi
  have e : (ts.map (·.1)).getD i Tm.nilT = ts[i].1 := by simp [List.getD, hi]
  rcases owns_cases hs.row with ⟨_, h0, _⟩ | ⟨g, cap', e2, hr, _⟩
  · omega
  · cases e2
    refine ⟨g, ts[i].2.1, ts[i].2.2, rfl, fun j u hj hu => hr.cell ?_, ?_⟩
    · rw [cellsT_get ts i j hi hj, ← e]; exact hu
    · rw [e]; exact hs.own ts[i] (List.getElem_mem hi)

theorem ref_zero : Tryz.zeroCells32 = Array.replicate 513 (.slice none 0 0) := by kernel_rfl

/-- A new one. -/
theorem rs_zero (w : World) : Rs (fun k => w.heap.size ≤ k) (w.alloc (.cells Tryz.zeroCells32 32)) w.heap.size [] := by
  rw [ref_zero]
  refine ⟨.slice none 0 0, fun _ => .slice none 0 0, [], rfl, ⟨⟨Array.replicate 513 (.slice none 0 0), heap_alloc_new w _, Array.size_replicate, by simp, (fun j hj => by rw [Array.getElem?_replicate, if_pos (by omega)])⟩, World.ownsRow_nil _ _ _ _, (fun j hj => World.ownsRow_nil _ _ _ _), (fun x hx => by cases hx), (fun i j k _ _ h _ => by cases h), (fun j k _ h => by cases h), Tm.Inv.nil⟩, fun k hk => ?_⟩
  rcases hk with rfl | hk | ⟨j, _, hk⟩ | ⟨x, hx, _⟩
  · exact Nat.le_refl _
  · cases hk
  · cases hk
  · cases hx

end Go.Proofs.YtiiieailimphnaaGreatDoor
