/- A store of terms in memory: terms as values and as cells; the store's three parts; what keeps it. -/
import Derived.Test.YtiiieailimphnaaGreatDoorLst
import Derived.Test.YtiiieailimphnaaGreatDoorTmMap
namespace Go.Proofs.YtiiieailimphnaaGreatDoor
open Go.RowKit Go.Maps
set_option linter.unusedVariables false
set_option linter.unusedSimpArgs false

/-! ### Terms as values and cells -/

def tv (t : Tm.T) (nv pv : Value) : Value := .agg #[.int .i64 t.kind, .int .i64 t.label, .int .i64 t.a, .int .i64 t.b, nv, pv]

def tcells (t : Tm.T) (nv pv : Value) : List Value := [.int .i64 t.kind, .int .i64 t.label, .int .i64 t.a, .int .i64 t.b, nv, pv]

/-- Integers as cells. -/
def vals (l : List Int) : List Value := l.map (Value.int .i64)

def cellsP : List (Int × Int) → List Value
  | [] => []
  | p :: l => Value.int .i64 p.1 :: Value.int .i64 p.2 :: cellsP l

theorem cellsP_length : ∀ l, (cellsP l).length = l.length * 2
  | [] => rfl
  | p :: l => by simp [cellsP, cellsP_length l]; omega

theorem cellsP_get0 : ∀ (l : List (Int × Int)) (i : Nat), i < l.length → (cellsP l)[i * 2]? = some (.int .i64 (l.getD i (0, 0)).1)
  | x :: l, 0, _ => rfl
  | x :: l, i + 1, h => by
    rw [show (i + 1) * 2 = i * 2 + 2 by omega]
    simpa [cellsP] using cellsP_get0 l i (by simpa using h)
theorem cellsP_get1 : ∀ (l : List (Int × Int)) (i : Nat), i < l.length → (cellsP l)[i * 2 + 1]? = some (.int .i64 (l.getD i (0, 0)).2)
  | x :: l, 0, _ => rfl
  | x :: l, i + 1, h => by
    rw [show (i + 1) * 2 + 1 = i * 2 + 1 + 2 by omega]
    simpa [cellsP] using cellsP_get1 l i (by simpa using h)

theorem cellsP_oneCell (l : List (Int × Int)) : ∀ u ∈ cellsP l, u.oneCell' = true := by
  induction l with
  | nil => intro u hu; cases hu
  | cons b l ih =>
    intro u hu
    simp only [cellsP, List.mem_cons] at hu
    rcases hu with rfl | rfl | hu
    · rfl
    · rfl
    · exact ih u hu

theorem vals_oneCell (l : List Int) : ∀ u ∈ vals l, u.oneCell' = true := by
  intro u hu
  obtain ⟨_, _, rfl⟩ := List.mem_map.1 hu
  rfl

theorem vals_get {l : List Int} {i : Nat} (h : i < l.length) : (vals l)[i]? = some (.int .i64 (l.getD i 0)) := by simp [vals, h]
theorem vals_length (l : List Int) : (vals l).length = l.length := by simp [vals]

/-- Pairs stand in cells from an address on. -/
def PairsAt (w : World) (g off : Nat) (ps : List (Int × Int)) : Prop :=
  ∀ i, i < ps.length → w.cell? ⟨g, off + i * 2, none⟩ = some (.int .i64 (ps.getD i (0, 0)).1) ∧ w.cell? ⟨g, off + i * 2 + 1, none⟩ = some (.int .i64 (ps.getD i (0, 0)).2)

/-- A slice reads as a list of pairs. -/
def Lsp (w : World) (v : Value) (ps : List (Int × Int)) : Prop := ∃ ao cap g off, v = .slice ao ps.length cap ∧ (0 < ps.length → ao = some ⟨g, off, none⟩) ∧ PairsAt w g off ps

theorem Lsp.up {w w1 : World} {v : Value} {ps : List (Int × Int)} (h : Lsp w v ps) (hu : Up w w1) : Lsp w1 v ps := by
  obtain ⟨ao, cap, g, off, hv, ha, hc⟩ := h
  exact ⟨ao, cap, g, off, hv, ha, fun i hi => ⟨hu.cell (hc i hi).1, hu.cell (hc i hi).2⟩⟩

theorem owns_lsp {w : World} {base n : Nat} {v : Value} {ps : List (Int × Int)} (h : w.ownsRow base 75 2 v n (cellsP ps)) : Lsp w v ps := by
  have hn : ps.length = n := by have := h.1; rw [cellsP_length] at this; omega
  rcases owns_cases h with ⟨rfl, h0, _⟩ | ⟨g, cap, rfl, hr, _⟩
  · have : ps = [] := List.eq_nil_of_length_eq_zero (by omega)
    subst this
    exact ⟨none, 0, 0, 0, rfl, fun h => by simp at h, fun i hi => by simp at hi⟩
  · exact ⟨_, _, g, 0, by rw [hn], fun _ => rfl, fun i hi => by rw [Nat.zero_add]; exact ⟨hr.cell (cellsP_get0 ps i hi), hr.cell (cellsP_get1 ps i hi)⟩⟩

theorem lst_nil (w : World) : Lst w (.slice none 0 0) [] := ⟨none, 0, 0, 0, rfl, fun h => by simp at h, fun i h => by simp at h⟩
theorem lsp_nil (w : World) : Lsp w (.slice none 0 0) [] := ⟨none, 0, 0, 0, rfl, fun h => by simp at h, fun i h => by simp at h⟩

/-- A term's two lists stand where its value says. -/
structure TRead (w : World) (t : Tm.T) (nv pv : Value) : Prop where
  n : Lst w nv t.names
  p : Lsp w pv t.pairs

theorem TRead.up {w w1 : World} {t : Tm.T} {nv pv : Value} (h : TRead w t nv pv) (hu : Up w w1) : TRead w1 t nv pv := ⟨h.n.up hu, h.p.up hu⟩

/-- A term whose lists are the call's own. -/
structure TOwn (w : World) (t : Tm.T) (nv pv : Value) : Prop where
  n : w.ownsRow 0 3 1 nv t.names.length (vals t.names)
  p : w.ownsRow 0 75 2 pv t.pairs.length (cellsP t.pairs)

theorem TOwn.read {w : World} {t : Tm.T} {nv pv : Value} (h : TOwn w t nv pv) : TRead w t nv pv := ⟨owns_lst h.n, owns_lsp h.p⟩

theorem TOwn.keep {w w' : World} {t : Tm.T} {nv pv : Value} (h : TOwn w t nv pv) (hk : ∀ k, nv.ownBlock = some k ∨ pv.ownBlock = some k → w'.heap[k]? = w.heap[k]?) : TOwn w' t nv pv :=
  ⟨owns_keep h.n (fun g hg => hk g (.inl hg)), owns_keep h.p (fun g hg => hk g (.inr hg))⟩

theorem TOwn.up {w w1 : World} {t : Tm.T} {nv pv : Value} (h : TOwn w t nv pv) (hu : Up w w1) : TOwn w1 t nv pv := ⟨hu.owns h.n, hu.owns h.p⟩

abbrev TRow := Tm.T × Value × Value

def cellsT : List TRow → List Value
  | [] => []
  | x :: l => tcells x.1 x.2.1 x.2.2 ++ cellsT l

theorem cellsT_length : ∀ l, (cellsT l).length = l.length * 6
  | [] => rfl
  | x :: l => by simp [cellsT, cellsT_length l, tcells]; omega

theorem cellsT_append : ∀ l m, cellsT (l ++ m) = cellsT l ++ cellsT m
  | [], m => rfl
  | x :: l, m => by simp [cellsT, cellsT_append l m]

theorem cellsT_get : ∀ (l : List TRow) (i j : Nat) (h : i < l.length), j < 6 → (cellsT l)[i * 6 + j]? = (tcells l[i].1 l[i].2.1 l[i].2.2)[j]?
  | x :: l, 0, j, _, hj => by
    simp only [cellsT, Nat.zero_mul, Nat.zero_add, List.getElem_cons_zero]
    rw [List.getElem?_append_left (by simp [tcells]; omega)]
  | x :: l, i + 1, j, h, hj => by
    simp only [cellsT, List.getElem_cons_succ]
    rw [List.getElem?_append_right (by simp [tcells]; omega), ← cellsT_get l i j (by simpa using h) hj]
    congr 1
    simp [tcells]; omega

/-! ### The store -/

/-- A store lies at B: the slice of its terms, its map. -/
structure StoreAt (w : World) (B : Nat) (vt vm : Value) (ts : List TRow) : Prop where
  box : w.heap[B]? = some (.cells #[vt, vm] 71 (0, 0))
  row : w.ownsRow 0 35 6 vt ts.length (cellsT ts)
  map : (vm = .map none ∧ ts = []) ∨ ∃ bm, vm = .map (some bm) ∧ w.ownsMap (H := Unit) Tryz.prog 9 (plainElem Tryz.prog 3) bm ts.length (Tm.index (ts.map (·.1)))
  own : ∀ x ∈ ts, TOwn w x.1 x.2.1 x.2.2
  inv : Tm.Inv (ts.map (·.1))

/-- The store's blocks. -/
def SFoot (B : Nat) (vt vm : Value) (ts : List TRow) (k : Nat) : Prop := k = B ∨ vt.ownBlock = some k ∨ vm = .map (some k) ∨ ∃ x ∈ ts, x.2.1.ownBlock = some k ∨ x.2.2.ownBlock = some k

theorem lt_of_block' {w : World} {k : Nat} {o : Obj} (h : w.heap[k]? = some o) : k < w.heap.size := (Array.getElem?_eq_some_iff.1 h).1

theorem StoreAt.lt {w : World} {B : Nat} {vt vm : Value} {ts : List TRow} (h : StoreAt w B vt vm ts) {k : Nat} (hk : SFoot B vt vm ts k) : k < w.heap.size := by
  rcases hk with rfl | hk | hk | ⟨x, hx, hk⟩
  · exact lt_of_block' h.box
  · exact owns_lt h.row hk
  · rcases h.map with ⟨e, _⟩ | ⟨bm, e, hm⟩
    · rw [e] at hk; cases hk
    · rw [e] at hk; cases hk; exact hm.lt
  · rcases hk with hk | hk
    · exact owns_lt (h.own x hx).n hk
    · exact owns_lt (h.own x hx).p hk

theorem ownsMap_keep {H : Type} {P : Program} {k : TypeId} {R : Value → Option (DataW H × List MemPlace)} {w w' : World} {b n : Nat} {D : DataW H} (h : w.ownsMap P k R b n D) (hk : w'.heap[b]? = w.heap[b]?) : w'.ownsMap P k R b n D := by
  obtain ⟨es, clock, hb, r⟩ := h
  exact ⟨es, clock, hk.trans hb, r⟩

theorem StoreAt.keep {w w' : World} {B : Nat} {vt vm : Value} {ts : List TRow} (h : StoreAt w B vt vm ts) (hk : ∀ k, SFoot B vt vm ts k → w'.heap[k]? = w.heap[k]?) : StoreAt w' B vt vm ts := by
  refine ⟨(hk B (.inl rfl)).trans h.box, owns_keep h.row (fun g hg => hk g (.inr (.inl hg))), ?_, fun x hx => (h.own x hx).keep (fun k hk' => hk k (.inr (.inr (.inr ⟨x, hx, hk'⟩)))), h.inv⟩
  rcases h.map with hm | ⟨bm, e, hm⟩
  · exact .inl hm
  · exact .inr ⟨bm, e, ownsMap_keep hm (hk bm (.inr (.inr (.inl e))))⟩

/-- A store of the terms s lies at B, its blocks among F. -/
def St (F : Nat → Prop) (w : World) (B : Nat) (s : List Tm.T) : Prop := ∃ vt vm ts, ts.map (·.1) = s ∧ StoreAt w B vt vm ts ∧ ∀ k, SFoot B vt vm ts k → F k

theorem St.mono {F G : Nat → Prop} {w : World} {B : Nat} {s : List Tm.T} (h : St F w B s) (hF : ∀ k, k < w.heap.size → F k → G k) : St G w B s := by
  obtain ⟨vt, vm, ts, e, hs, hf⟩ := h
  exact ⟨vt, vm, ts, e, hs, fun k hk => hF k (hs.lt hk) (hf k hk)⟩

theorem St.keep {F : Nat → Prop} {w w' : World} {B : Nat} {s : List Tm.T} (h : St F w B s) (hk : ∀ k, k < w.heap.size → F k → w'.heap[k]? = w.heap[k]?) : St F w' B s := by
  obtain ⟨vt, vm, ts, e, hs, hf⟩ := h
  exact ⟨vt, vm, ts, e, hs.keep (fun k hk' => hk k (hs.lt hk') (hf k hk')), hf⟩

theorem St.turned {F S : Nat → Prop} {w w' : World} {B : Nat} {s : List Tm.T} (h : St F w B s) (ht : Turned S w w') (hd : ∀ k, k < w.heap.size → F k → ¬ S k) : St F w' B s :=
  h.keep (fun k hk hf => ht.block k hk (hd k hk hf))

theorem St.up {F : Nat → Prop} {w w' : World} {B : Nat} {s : List Tm.T} (h : St F w B s) (hu : Up w w') : St F w' B s := h.keep (fun k hk _ => hu.block k hk)

theorem St.inv {F : Nat → Prop} {w : World} {B : Nat} {s : List Tm.T} (h : St F w B s) : Tm.Inv s := by
  obtain ⟨vt, vm, ts, e, hs, hf⟩ := h
  rw [← e]; exact hs.inv

theorem St.lt {F : Nat → Prop} {w : World} {B : Nat} {s : List Tm.T} (h : St F w B s) : B < w.heap.size ∧ F B := by
  obtain ⟨vt, vm, ts, e, hs, hf⟩ := h
  exact ⟨hs.lt (.inl rfl), hf B (.inl rfl)⟩

theorem St.bound {F : Nat → Prop} {w : World} {B : Nat} {s : List Tm.T} (h : St F w B s) : St (fun k => F k ∧ k < w.heap.size) w B s := h.mono (fun k hk hf => ⟨hf, hk⟩)

end Go.Proofs.YtiiieailimphnaaGreatDoor
