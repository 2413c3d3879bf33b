/- Rows of pairs and of triples of integers in memory; a row that was sorted. No function of the program is named. -/
import Derived.Test.YtkcdkfkgjjpaaaaGreatDoorLst
import Derived.Test.YtkcdkfkgjjpaaaaGreatDoorSyPlain
import Derived.Shelf.GgSortFunc.InsertionK
namespace Go.Proofs.YtkcdkfkgjjpaaaaGreatDoor
open Go.RowKit Go.Sort
set_option linter.unusedVariables false
set_option linter.unusedSimpArgs false
set_option linter.unusedSectionVars false

/-! ### Elements of k cells, one behind the other -/

section
variable {α : Type} {enc : α → List Value} {k : Nat}

theorem flat_len (hk : ∀ x, (enc x).length = k) : ∀ l : List α, (l.flatMap enc).length = l.length * k
  | [] => by simp
  | x :: l => by rw [List.flatMap_cons, List.length_append, hk, flat_len hk l, List.length_cons, Nat.succ_mul, Nat.add_comm]

theorem flat_get (hk : ∀ x, (enc x).length = k) : ∀ (l : List α) (i c : Nat) (hi : i < l.length), c < k → (l.flatMap enc)[i * k + c]? = (enc l[i])[c]?
  | x :: l, 0, c, hi, hc => by
    rw [List.flatMap_cons, Nat.zero_mul, Nat.zero_add, List.getElem?_append_left (by rw [hk]; exact hc)]; rfl
  | x :: l, i + 1, c, hi, hc => by
    rw [List.flatMap_cons, List.getElem?_append_right (by rw [hk, Nat.succ_mul]; omega), hk, show (i + 1) * k + c - k = i * k + c by rw [Nat.succ_mul]; omega,
      flat_get hk l i c (by simpa using hi) hc]
    rfl

variable [Inhabited α]

theorem flatK_list (hk : ∀ x, (enc x).length = k) (d : Array α) : (flatK enc k d).toList = d.toList.flatMap enc := by
  refine List.ext_getElem? fun t => ?_
  by_cases ht : t < d.size * k
  · have k0 : 0 < k := by rcases Nat.eq_zero_or_pos k with h | h
                          · subst h; simp at ht
                          · exact h
    have hd : t / k < d.size := Nat.div_lt_of_lt_mul (by rwa [Nat.mul_comm] at ht)
    have hm : t % k < k := Nat.mod_lt _ k0
    have h1 : (flatK enc k d).toList[t]? = some (flatK enc k d)[t]! := by
      rw [Array.getElem?_toList, Array.getElem?_eq_getElem (by simpa using ht), getElem!_pos (flatK enc k d) t (by simpa using ht)]
    have hj : (enc d[t / k]!)[t % k]? = some (enc d[t / k]!)[t % k]! := by
      generalize hz : enc d[t / k]! = z
      have hzl : t % k < z.length := by rw [← hz, hk]; exact hm
      rw [List.getElem?_eq_getElem hzl, getElem!_pos z _ hzl]
    rw [h1, get_flatK enc k d t ht]
    have e : t = t / k * k + t % k := (Nat.div_add_mod' t k).symm
    conv => rhs; rw [e]
    rw [flat_get hk d.toList (t / k) (t % k) (by simpa using hd) hm, ← hj]
    congr 2
    rw [getElem!_pos d _ hd]
    simp
  · have h1 : (flatK enc k d).toList[t]? = none := List.getElem?_eq_none (by simp; omega)
    rw [h1, List.getElem?_eq_none]
    rw [flat_len hk]; simpa using ht

/-- A row of elements stands where the sort asks it. -/
theorem Row.holdsK (hk : ∀ x, (enc x).length = k) {w : World} {g cap : Nat} {e : TypeId} {l : List α} (h : Row w g e cap (l.flatMap enc)) : HoldsK enc k w g 0 l.toArray := by
  intro j hj
  have hj' : j < (l.flatMap enc).length := by rw [flat_len hk]; simpa using hj
  refine ⟨?_, by rw [Nat.zero_add]; exact h.free j⟩
  rw [Nat.zero_add]
  refine h.cell ?_
  have := flatK_list hk l.toArray
  simp only at this
  rw [← this, Array.getElem?_toList, Array.getElem?_eq_getElem hj, getElem!_pos _ j hj]
  rfl

/-- A row that was sorted. -/
theorem Row.sorted (hk : ∀ x, (enc x).length = k) {w : World} {g cap : Nat} {e : TypeId} {l : List α} {d : Array α} (h : Row w g e cap (l.flatMap enc)) (hd : d.size = l.length) (n : Nat) (os : Array Obj) :
    Row (sortWorldK enc k w g 0 n d os) g e cap (d.toList.flatMap enc) := by
  obtain ⟨cur, hg, hs, hl, ht⟩ := h
  have hlt := (Array.getElem?_eq_some_iff.1 hg).1
  have hlen : (l.flatMap enc).length = l.length * k := flat_len hk l
  have hlen' : (d.toList.flatMap enc).length = l.length * k := by rw [flat_len hk]; simp [hd]
  have hb : (sortWorldK enc k w g 0 n d os).heap[g]? = some (.cells (putCells id 0 (flatK enc k d) cur) e (0, 0)) := by
    have hz : (putRowK enc k (Sort.ahead w n) g 0 d).heap[g]? = some (.cells (putCells id 0 (flatK enc k d) cur) e (0, 0)) := by
      show (mapBlock (Sort.ahead w n) g (putCells id 0 (flatK enc k d))).heap[g]? = _
      unfold mapBlock
      simp only [Array.getElem?_modify, if_true]
      show Option.map _ w.heap[g]? = _
      rw [hg]; rfl
    show ((putRowK enc k (Sort.ahead w n) g 0 d).heap ++ os)[g]? = _
    rw [Array.getElem?_append_left (Array.getElem?_eq_some_iff.1 hz).1]
    exact hz
  refine ⟨_, hb, by simp [putCells, hs], by rw [hlen', ← hlen]; exact hl, ?_⟩
  rw [hlen']
  refine List.ext_getElem? fun t => ?_
  by_cases h1 : t < l.length * k
  · rw [List.getElem?_take_of_lt h1, Array.getElem?_toList, ← flatK_list hk d, Array.getElem?_toList]
    have hc : t < cur.size := by rw [hs]; rw [hlen] at hl; omega
    have hf : t < (flatK enc k d).size := by rw [size_flatK, hd]; exact h1
    rw [Array.getElem?_eq_getElem (by simp [putCells]; exact hc), Array.getElem?_eq_getElem hf]
    simp [putCells, hd, h1, getElem!_pos (flatK enc k d) t hf]
  · rw [List.getElem?_eq_none (by rw [List.length_take]; omega), List.getElem?_eq_none (by rw [hlen']; omega)]

theorem sort_turned {w : World} {g : Nat} (n : Nat) (d : Array α) (os : Array Obj) : Turned (fun j => j = g) w (sortWorldK enc k w g 0 n d os) := by
  refine ⟨rfl, rfl, rfl, ?_, fun i hi hn => ?_⟩
  · show w.heap.size ≤ (_ ++ os).size
    simp [putRowK, putRow, mapBlock, Sort.ahead]
  · show (_ ++ os)[i]? = _
    have hs : (putRowK enc k (Sort.ahead w n) g 0 d).heap.size = w.heap.size := by simp [putRowK, putRow, mapBlock, Sort.ahead]
    rw [Array.getElem?_append_left (by rw [hs]; exact hi)]
    show (w.heap.modify g _)[i]? = _
    rw [Array.getElem?_modify, if_neg (fun e => hn e.symm)]
end

/-! ### Pairs and triples -/

def two (x : Int × Int) : List Value := [.int .i64 x.1, .int .i64 x.2]
def tri (e : Sy.Edge) : List Value := [.int .i64 e.1, .int .i64 e.2.1, .int .i64 e.2.2]
theorem two_len (x : Int × Int) : (two x).length = 2 := rfl
theorem tri_len (x : Sy.Edge) : (tri x).length = 3 := rfl

theorem two_one (x : Int × Int) : ∀ v ∈ two x, v.oneCell' = true := by
  intro v hv; simp only [two, List.mem_cons, List.not_mem_nil, or_false] at hv; rcases hv with rfl | rfl <;> rfl
theorem tri_one (x : Sy.Edge) : ∀ v ∈ tri x, v.oneCell' = true := by
  intro v hv; simp only [tri, List.mem_cons, List.not_mem_nil, or_false] at hv; rcases hv with rfl | rfl | rfl <;> rfl

def cells2 (l : List (Int × Int)) : List Value := l.flatMap two
def cells3 (l : List Sy.Edge) : List Value := l.flatMap tri

theorem cells2_len (l : List (Int × Int)) : (cells2 l).length = l.length * 2 := flat_len two_len l
theorem cells3_len (l : List Sy.Edge) : (cells3 l).length = l.length * 3 := flat_len tri_len l
theorem cells2_append (l m : List (Int × Int)) : cells2 (l ++ m) = cells2 l ++ cells2 m := by simp [cells2]
theorem cells3_append (l m : List Sy.Edge) : cells3 (l ++ m) = cells3 l ++ cells3 m := by simp [cells3]
theorem cells2_one (l : List (Int × Int)) : ∀ v ∈ cells2 l, v.oneCell' = true := by
  intro v hv; obtain ⟨x, _, h⟩ := List.mem_flatMap.1 hv; exact two_one x v h
theorem cells3_one (l : List Sy.Edge) : ∀ v ∈ cells3 l, v.oneCell' = true := by
  intro v hv; obtain ⟨x, _, h⟩ := List.mem_flatMap.1 hv; exact tri_one x v h

theorem getD_of {α : Type} {l : List α} {i : Nat} (d : α) (h : i < l.length) : l[i] = l.getD i d := by simp [List.getD, h]

theorem cells2_get (l : List (Int × Int)) (i : Nat) (h : i < l.length) : (cells2 l)[i * 2]? = some (.int .i64 (l.getD i (0, 0)).1) ∧ (cells2 l)[i * 2 + 1]? = some (.int .i64 (l.getD i (0, 0)).2) := by
  have e := getD_of (0, 0) h
  have h0 := flat_get two_len l i 0 h (by omega)
  have h1 := flat_get two_len l i 1 h (by omega)
  rw [e] at h0 h1
  exact ⟨h0, h1⟩

theorem cells3_get (l : List Sy.Edge) (i : Nat) (h : i < l.length) : (cells3 l)[i * 3]? = some (.int .i64 (l.getD i (0, 0, 0)).1) ∧ (cells3 l)[i * 3 + 1]? = some (.int .i64 (l.getD i (0, 0, 0)).2.1) ∧
    (cells3 l)[i * 3 + 2]? = some (.int .i64 (l.getD i (0, 0, 0)).2.2) := by
  have e := getD_of (0, 0, 0) h
  have h0 := flat_get tri_len l i 0 h (by omega)
  have h1 := flat_get tri_len l i 1 h (by omega)
  have h2 := flat_get tri_len l i 2 h (by omega)
  rw [e] at h0 h1 h2
  exact ⟨h0, h1, h2⟩

/-- Pairs stand in cells from an address on. -/
def Twos (w : World) (g off : Nat) (l : List (Int × Int)) : Prop :=
  ∀ i, i < l.length → w.cell? ⟨g, off + i * 2, none⟩ = some (.int .i64 (l.getD i (0, 0)).1) ∧ w.cell? ⟨g, off + i * 2 + 1, none⟩ = some (.int .i64 (l.getD i (0, 0)).2)
/-- Triples stand in cells from an address on. -/
def Tris (w : World) (g off : Nat) (l : List Sy.Edge) : Prop :=
  ∀ i, i < l.length → w.cell? ⟨g, off + i * 3, none⟩ = some (.int .i64 (l.getD i (0, 0, 0)).1) ∧ w.cell? ⟨g, off + i * 3 + 1, none⟩ = some (.int .i64 (l.getD i (0, 0, 0)).2.1) ∧
    w.cell? ⟨g, off + i * 3 + 2, none⟩ = some (.int .i64 (l.getD i (0, 0, 0)).2.2)

/-- A slice reads as a list of pairs. -/
def Ls2 (w : World) (v : Value) (l : List (Int × Int)) : Prop := ∃ ao cap g off, v = .slice ao l.length cap ∧ (0 < l.length → ao = some ⟨g, off, none⟩) ∧ Twos w g off l
/-- A slice reads as a list of triples. -/
def Ls3 (w : World) (v : Value) (l : List Sy.Edge) : Prop := ∃ ao cap g off, v = .slice ao l.length cap ∧ (0 < l.length → ao = some ⟨g, off, none⟩) ∧ Tris w g off l

theorem Ls2.up {w w1 : World} {v : Value} {l : List (Int × Int)} (h : Ls2 w v l) (hu : Up w w1) : Ls2 w1 v l := by
  obtain ⟨ao, cap, g, off, hv, ha, hc⟩ := h
  exact ⟨ao, cap, g, off, hv, ha, fun i hi => ⟨hu.cell (hc i hi).1, hu.cell (hc i hi).2⟩⟩
theorem Ls3.up {w w1 : World} {v : Value} {l : List Sy.Edge} (h : Ls3 w v l) (hu : Up w w1) : Ls3 w1 v l := by
  obtain ⟨ao, cap, g, off, hv, ha, hc⟩ := h
  exact ⟨ao, cap, g, off, hv, ha, fun i hi => ⟨hu.cell (hc i hi).1, hu.cell (hc i hi).2.1, hu.cell (hc i hi).2.2⟩⟩

theorem Row.twos {w : World} {g cap : Nat} {e : TypeId} {l : List (Int × Int)} (h : Row w g e cap (cells2 l)) : Twos w g 0 l := by
  intro i hi
  have := cells2_get l i hi
  rw [Nat.zero_add]
  exact ⟨h.cell this.1, h.cell this.2⟩
theorem Row.tris {w : World} {g cap : Nat} {e : TypeId} {l : List Sy.Edge} (h : Row w g e cap (cells3 l)) : Tris w g 0 l := by
  intro i hi
  have := cells3_get l i hi
  rw [Nat.zero_add]
  exact ⟨h.cell this.1, h.cell this.2.1, h.cell this.2.2⟩

theorem owns_ls2 {w : World} {base n : Nat} {e : TypeId} {v : Value} {l : List (Int × Int)} (h : w.ownsRow base e 2 v n (cells2 l)) : Ls2 w v l := by
  have hn : l.length = n := by have := h.1; rw [cells2_len] at this; omega
  rcases owns_cases h with ⟨rfl, h0, _⟩ | ⟨g, cap, rfl, hr, _⟩
  · have : l = [] := List.eq_nil_of_length_eq_zero (by omega)
    subst this
    exact ⟨none, 0, 0, 0, rfl, fun h => by simp at h, fun i hi => by simp at hi⟩
  · exact ⟨_, _, g, 0, by rw [hn], fun _ => rfl, hr.twos⟩
theorem owns_ls3 {w : World} {base n : Nat} {e : TypeId} {v : Value} {l : List Sy.Edge} (h : w.ownsRow base e 3 v n (cells3 l)) : Ls3 w v l := by
  have hn : l.length = n := by have := h.1; rw [cells3_len] at this; omega
  rcases owns_cases h with ⟨rfl, h0, _⟩ | ⟨g, cap, rfl, hr, _⟩
  · have : l = [] := List.eq_nil_of_length_eq_zero (by omega)
    subst this
    exact ⟨none, 0, 0, 0, rfl, fun h => by simp at h, fun i hi => by simp at hi⟩
  · exact ⟨_, _, g, 0, by rw [hn], fun _ => rfl, hr.tris⟩

/-- A part of a row. -/
theorem Twos.part {w : World} {g off : Nat} {l : List (Int × Int)} (h : Twos w g off l) (a n : Nat) (hn : a + n ≤ l.length) : Twos w g (off + a * 2) ((l.drop a).take n) := by
  intro i hi
  rw [List.length_take, List.length_drop] at hi
  have hh := h (a + i) (by omega)
  have e : ((l.drop a).take n).getD i (0, 0) = l.getD (a + i) (0, 0) := by
    simp only [List.getD, List.getElem?_take, List.getElem?_drop]
    rw [if_pos (by omega)]
  rw [e, show off + a * 2 + i * 2 = off + (a + i) * 2 by omega]
  exact hh

/-! ### What a sort by a strict total order leaves -/

theorem permIn_all {α : Type} [Inhabited α] {d d' : Array α} (h : PermIn 0 d.size d d') : d'.size = d.size ∧ d'.toList.Perm d.toList := by
  obtain ⟨h1, _, h3⟩ := h
  refine ⟨h1, ?_⟩
  have e1 : (d'.extract 0 d.size).toList = d'.toList := by rw [← h1]; simp
  have e2 : (d.extract 0 d.size).toList = d.toList := by simp
  rwa [e1, e2] at h3

theorem sortedIn_all {α : Type} [Inhabited α] {lt : α → α → Bool} {d : Array α} (h : SortedIn lt 0 d.size d) : d.toList.Pairwise (fun a b => lt b a = false) := by
  rw [List.pairwise_iff_getElem]
  intro i j hi hj hij
  have hi' : i < d.size := by simpa using hi
  have hj' : j < d.size := by simpa using hj
  have := h i j (Nat.zero_le _) hij hj'
  rw [getElem!_pos d i hi', getElem!_pos d j hj'] at this
  simpa using this

theorem tot_swo {α : Type} {lt : α → α → Bool} (T : Sy.Tot lt) : SWO lt where
  irrefl := T.irrefl
  trans := T.trans
  ntrans x y z h1 h2 := by
    rcases hb : lt x z with _ | _
    · rfl
    · exfalso
      rcases T.total x y with h | h | h
      · rw [h] at h1; cases h1
      · subst h; rw [h2] at hb; cases hb
      · have := T.trans _ _ _ h hb; rw [this] at h2; cases h2

end Go.Proofs.YtkcdkfkgjjpaaaaGreatDoor
