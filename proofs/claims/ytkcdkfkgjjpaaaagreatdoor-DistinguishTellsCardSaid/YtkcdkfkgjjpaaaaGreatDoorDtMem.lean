/- A teller in memory: its box, the row of its parts, the parts' lists, its two maps; a part put, a pair known. Walks: slices.Index, slices.Contains at integers (a list of small numbers). Walk: (*teller).nodes. Walk: (*teller).nodes. Walks: (*teller).tells, (*teller).same. A teller under way: the memory that it was made in, what it holds, how it goes on. -/
import Derived.Test.YtkcdkfkgjjpaaaaGreatDoorDtPlain
import Derived.Test.YtkcdkfkgjjpaaaaGreatDoorRdNext
import Derived.WideKeyPair
import Derived.DeepKeys4
import Derived.ChangeBookTie2
import Derived.Test.YtkcdkfkgjjpaaaaGreatDoorDtBd
import Derived.Test.YtkcdkfkgjjpaaaaGreatDoorSyW2
import Derived.Deep.AppendLies
import Derived.Test.YtkcdkfkgjjpaaaaGreatDoorSyBy
import Derived.Test.YtkcdkfkgjjpaaaaGreatDoorRdRanks

namespace Go.Proofs.YtkcdkfkgjjpaaaaGreatDoor
open Go.RowKit Go.Maps Go.WideMaps
set_option linter.unusedVariables false
set_option linter.unusedSimpArgs false

/-! ### Pairs of numbers as keys -/

theorem laidOutD : laidOutB Tryz.prog = true := by kernel_rfl
theorem rowD : 253 < Tryz.prog.types.size := of_decide_eq_true (by kernel_rfl)
theorem arrD : ArrKey Tryz.prog 253 3 2 := ⟨Tryz.underlying253, by kernel_rfl, by kernel_rfl, by kernel_rfl⟩
theorem lawD : KeyLaw Tryz.prog 253 := Go.deep_law_laid laidOutD (m := 2) (by omega) rowD (by kernel_rfl) (by rw [Tryz.underlying253])
theorem keyedD : Keyed Tryz.prog 253 := Keyed.of_law lawD

/-- A pair's key. -/
def pkD (a b : Nat) : Lit := .string (keyBytes [.int .i64 (a : Nat), .int .i64 (b : Nat)])

theorem sizeD : ∃ m, Tryz.prog.types.size = m + 1 := by
  have := rowD
  exact ⟨Tryz.prog.types.size - 1, by omega⟩

theorem keyOf_pkD {a b : Nat} (ha : a ≤ 1000) (hb : b ≤ 1000) : keyOf Tryz.prog 253 (.agg #[.int .i64 (a : Nat), .int .i64 (b : Nat)]) = some (pkD a b) :=
  keyOf_pair arrD Tryz.underlying3 sizeD (WalkArith.wf_i64 (by omega)) (WalkArith.wf_i64 (by omega))

theorem keyForD : Dt.KeyFor 1001 pkD where
  lit := fun a b => trivial
  inj := fun a b c d ha hb hc hd h => by
    have h1 := keyOf_pkD (a := a) (b := b) (by omega) (by omega)
    have h2 := keyOf_pkD (a := c) (b := d) (by omega) (by omega)
    rw [h] at h1
    have := lawD.inj h1 h2
    simp at this
    omega

/-! ### Blocks that are not the same -/

theorem map_neD {H : Type} {P : Program} {k : TypeId} {R : Value → Option (DataW H × List MemPlace)} {w : World} {b n g : Nat} {D : DataW H} {cur : Array Value} {e : TypeId} {fr : Nat × Nat} (h : w.ownsMap P k R b n D) (hg : w.heap[g]? = some (.cells cur e fr)) : b ≠ g := by
  obtain ⟨es, clock, hb, _⟩ := h
  rintro rfl
  rw [hb] at hg
  cases hg

theorem cells_neD {w : World} {a b : Nat} {ca cb : Array Value} {ea eb : TypeId} {fa fb : Nat × Nat} (ha : w.heap[a]? = some (.cells ca ea fa)) (hb : w.heap[b]? = some (.cells cb eb fb)) (h : ea ≠ eb) : a ≠ b := by
  rintro rfl
  rw [ha] at hb
  simp only [Option.some.injEq, Obj.cells.injEq] at hb
  exact h hb.2.1

/-! ### The teller -/

/-- A part's row: the part, its formula, its list. -/
abbrev DRow := (Dt.Part × List Dt.Nd) × Value

def partCells (x : DRow) : List Value := [.int .i64 x.1.1.1.1, .int .i64 x.1.1.1.2, x.2, .int .i64 ((Dt.size x.1.2 : Nat) : Int)]
def cellsD (l : List DRow) : List Value := l.flatMap partCells

theorem partCells_len (x : DRow) : (partCells x).length = 4 := rfl
theorem cellsD_len (l : List DRow) : (cellsD l).length = l.length * 4 := flat_len partCells_len l
theorem cellsD_append (l m : List DRow) : cellsD (l ++ m) = cellsD l ++ cellsD m := by simp [cellsD]
theorem cellsD_one (x : DRow) : cellsD [x] = partCells x := by simp [cellsD]
theorem cellsD_get (l : List DRow) (i c : Nat) (hi : i < l.length) (hc : c < 4) : (cellsD l)[i * 4 + c]? = (partCells l[i])[c]? := flat_get partCells_len l i c hi hc

structure TlAt (w : World) (tb : Nat) (gv rv vp : Value) (ma mk : Nat) (rs : List DRow) (T : Dt.Tl) : Prop where
  ps : rs.map (fun x => x.1.1) = T.ps
  ts : rs.map (fun x => x.1.2) = T.ts
  box : w.heap[tb]? = some (.cells #[gv, rv, vp, .map (some ma), .map (some mk)] 161 (0, 0))
  row : w.ownsRow 0 163 4 vp rs.length (cellsD rs)
  own : ∀ x ∈ rs, w.ownsRow 0 3 1 x.2 x.1.1.2.length (ints x.1.1.2)
  ats : w.ownsMap (H := Unit) Tryz.prog 9 (plainElem Tryz.prog 3) ma rs.length (Dt.mp (Dt.atOf T.ps))
  kns : w.ownsMap (H := Unit) Tryz.prog 253 (plainElem Tryz.prog 3) mk T.kn.length (Dt.mp (Dt.knOf pkD T.kn))
  ne : ma ≠ mk

/-- What put and of turn. -/
def TTurn (tb ma mk : Nat) (vp : Value) (k : Nat) : Prop := k = tb ∨ vp.ownBlock = some k ∨ k = ma ∨ k = mk
/-- All blocks of a teller. -/
def TFoot (tb ma mk : Nat) (vp : Value) (rs : List DRow) (k : Nat) : Prop := TTurn tb ma mk vp k ∨ ∃ x ∈ rs, x.2.ownBlock = some k

theorem TlAt.len {w : World} {tb ma mk : Nat} {gv rv vp : Value} {rs : List DRow} {T : Dt.Tl} (h : TlAt w tb gv rv vp ma mk rs T) : rs.length = T.ps.length := by rw [← h.ps, List.length_map]

theorem TlAt.lt {w : World} {tb ma mk : Nat} {gv rv vp : Value} {rs : List DRow} {T : Dt.Tl} (h : TlAt w tb gv rv vp ma mk rs T) {k : Nat} (hk : TFoot tb ma mk vp rs k) : k < w.heap.size := by
  rcases hk with (rfl | hk | rfl | rfl) | ⟨x, hx, hk⟩
  · exact lt_of_block' h.box
  · exact owns_lt h.row hk
  · exact h.ats.lt
  · exact h.kns.lt
  · exact owns_lt (h.own x hx) hk

theorem TlAt.keep {w w' : World} {tb ma mk : Nat} {gv rv vp : Value} {rs : List DRow} {T : Dt.Tl} (h : TlAt w tb gv rv vp ma mk rs T) (hk : ∀ k, TFoot tb ma mk vp rs k → w'.heap[k]? = w.heap[k]?) : TlAt w' tb gv rv vp ma mk rs T where
  ps := h.ps
  ts := h.ts
  box := (hk tb (.inl (.inl rfl))).trans h.box
  row := owns_keep h.row (fun g hg => hk g (.inl (.inr (.inl hg))))
  own := fun x hx => owns_keep (h.own x hx) (fun g hg => hk g (.inr ⟨x, hx, hg⟩))
  ats := ownsMap_keep h.ats (hk ma (.inl (.inr (.inr (.inl rfl)))))
  kns := ownsMap_keep h.kns (hk mk (.inl (.inr (.inr (.inr rfl)))))
  ne := h.ne

theorem TlAt.up {w w' : World} {tb ma mk : Nat} {gv rv vp : Value} {rs : List DRow} {T : Dt.Tl} (h : TlAt w tb gv rv vp ma mk rs T) (hu : Up w w') : TlAt w' tb gv rv vp ma mk rs T := h.keep (fun k hk => hu.block k (h.lt hk))

/-- The lists' blocks are none of the four; nor is one of the four another one. -/
theorem TlAt.lists {w : World} {tb ma mk : Nat} {gv rv vp : Value} {rs : List DRow} {T : Dt.Tl} (h : TlAt w tb gv rv vp ma mk rs T) {x : DRow} (hx : x ∈ rs) {k : Nat} (hk : x.2.ownBlock = some k) : ¬ TTurn tb ma mk vp k := by
  obtain ⟨cur, hc⟩ := owns_type (h.own x hx) hk
  rintro (rfl | e | rfl | rfl)
  · exact cells_neD hc h.box (by decide) rfl
  · obtain ⟨cur', hc'⟩ := owns_type h.row e
    exact cells_neD hc hc' (by decide) rfl
  · exact map_neD h.ats hc rfl
  · exact map_neD h.kns hc rfl

theorem TlAt.heads {w : World} {tb ma mk : Nat} {gv rv vp : Value} {rs : List DRow} {T : Dt.Tl} (h : TlAt w tb gv rv vp ma mk rs T) :
    ma ≠ tb ∧ mk ≠ tb ∧ vp.ownBlock ≠ some tb ∧ vp.ownBlock ≠ some ma ∧ vp.ownBlock ≠ some mk := by
  refine ⟨map_neD h.ats h.box, map_neD h.kns h.box, fun e => ?_, fun e => ?_, fun e => ?_⟩
  · obtain ⟨cur', hc'⟩ := owns_type h.row e
    exact cells_neD hc' h.box (by decide) rfl
  · obtain ⟨cur', hc'⟩ := owns_type h.row e
    exact map_neD h.ats hc' rfl
  · obtain ⟨cur', hc'⟩ := owns_type h.row e
    exact map_neD h.kns hc' rfl

/-- Another map's element: the pair is known from now on. -/
theorem TlAt.known {w w' : World} {tb ma mk : Nat} {gv rv vp : Value} {rs : List DRow} {T : Dt.Tl} (h : TlAt w tb gv rv vp ma mk rs T) {p q n : Nat}
    (hm : w'.ownsMap (H := Unit) Tryz.prog 253 (plainElem Tryz.prog 3) mk (T.kn.length + 1) ((Dt.mp (Dt.knOf pkD T.kn)).put (pkD p q) (.lit (.int .i64 (n : Nat))))) (hg : w.grownBy w' (some mk)) :
    TlAt w' tb gv rv vp ma mk rs ⟨T.ps, T.ts, T.kn ++ [((p, q), n)]⟩ ∧ Turned (TTurn tb ma mk vp) w w' := by
  obtain ⟨n1, n2, n3, n4, n5⟩ := h.heads
  have hb : ∀ k, k < w.heap.size → k ≠ mk → w'.heap[k]? = w.heap[k]? := fun k hk he => hg.block k hk (by simpa using he)
  refine ⟨⟨h.ps, h.ts, (hb tb (lt_of_block' h.box) (fun e => n2 e.symm)).trans h.box, owns_keep h.row (fun g hk => hb g (owns_lt h.row hk) (fun e => n5 (by rw [← e]; exact hk))),
    fun x hx => owns_keep (h.own x hx) (fun g hk => hb g (owns_lt (h.own x hx) hk) (fun e => h.lists hx hk (.inr (.inr (.inr e))))),
    ownsMap_keep h.ats (hb ma h.ats.lt h.ne), ?_, h.ne⟩, (Turned.refl _ _).grown hg (fun k hk => .inl (.inr (.inr (.inr (by simpa using hk.symm)))))⟩
  have e : Dt.knOf pkD (T.kn ++ [((p, q), n)]) = Dt.knOf pkD T.kn ++ [(pkD p q, n)] := Dt.knOf_snoc _ _ _
  show w'.ownsMap _ _ _ mk (T.kn ++ [((p, q), n)]).length (Dt.mp (Dt.knOf pkD (T.kn ++ [((p, q), n)])))
  rw [e, Dt.mp_snoc, List.length_append]
  exact hm

/-- A part put behind the others: the map, the row, the box. -/
theorem TlAt.pushed {W W2 w3 w4 : World} {tb ma mk : Nat} {gv rv vp v' lv : Value} {rs : List DRow} {T : Dt.Tl} {y : Dt.Part} {f : List Dt.Nd} {o : Obj} (h : TlAt W tb gv rv vp ma mk rs T)
    (hm : W2.ownsMap (H := Unit) Tryz.prog 9 (plainElem Tryz.prog 3) ma (rs.length + 1) ((Dt.mp (Dt.atOf T.ps)).put (.string (Dt.keyT y)) (.lit (.int .i64 (rs.length : Nat))))) (hg : W.grownBy W2 (some ma))
    (hu : Up W2 w3) (hl : W.ownsRow 0 3 1 lv y.2.length (ints y.2)) (hlt : ∀ k, lv.ownBlock = some k → ¬ TTurn tb ma mk vp k)
    (hrow : w4.ownsRow 0 163 4 v' (rs.length + 1) (cellsD rs ++ partCells ((y, f), lv))) (hg4 : (w3.alloc o).grownBy w4 vp.ownBlock) (hloc : v'.ownBlock = vp.ownBlock ∨ v'.ownBlock = some (w3.alloc o).heap.size) :
    TlAt (w4.setCell ⟨tb, 2, none⟩ v') tb gv rv v' ma mk (rs ++ [((y, f), lv)]) ⟨T.ps ++ [y], T.ts ++ [f], T.kn⟩ ∧ Turned (TTurn tb ma mk vp) W (w4.setCell ⟨tb, 2, none⟩ v') ∧ (∀ k, v'.ownBlock = some k → vp.ownBlock = some k ∨ W.heap.size ≤ k) := by
  obtain ⟨n1, n2, n3, n4, n5⟩ := h.heads
  have s2 := hg.size
  have s3 := hu.size
  have s4 : w3.heap.size + 1 ≤ w4.heap.size := by have := hg4.size; simpa using this
  have k3 : ∀ k, k < w3.heap.size → vp.ownBlock ≠ some k → w4.heap[k]? = w3.heap[k]? := fun k hk hv =>
    (hg4.block k (by simp; omega) (fun e => hv e.symm)).trans (Below.heap_alloc w3 o k hk)
  have k1 : ∀ k, k < W.heap.size → k ≠ ma → vp.ownBlock ≠ some k → w4.heap[k]? = W.heap[k]? := fun k hk hm hv =>
    (k3 k (by omega) hv).trans ((hu.block k (by omega)).trans (hg.block k hk (by simpa using hm)))
  have hvlt : ∀ k, v'.ownBlock = some k → vp.ownBlock = some k ∨ w3.heap.size < k := by
    intro k hk
    rcases hloc with e | e
    · rw [e] at hk; exact .inl hk
    · rw [hk, Option.some.injEq] at e; right; rw [e]; simp
  have ltb := lt_of_block' h.box
  have hvB : v'.ownBlock ≠ some tb := by
    intro e
    rcases hvlt tb e with h1 | h1
    · exact n3 h1
    · omega
  have hset : ∀ k, k ≠ tb → (w4.setCell ⟨tb, 2, none⟩ v').heap[k]? = w4.heap[k]? := fun k hk => Below.heap_setCell w4 ⟨tb, 2, none⟩ v' k hk
  have hlist : ∀ k, k < W.heap.size → ¬ TTurn tb ma mk vp k → (w4.setCell ⟨tb, 2, none⟩ v').heap[k]? = W.heap[k]? := fun k hk hn =>
    (hset k (fun e => hn (.inl e))).trans (k1 k hk (fun e => hn (.inr (.inr (.inl e)))) (fun e => hn (.inr (.inl e))))
  refine ⟨⟨?_, ?_, ?_, ?_, ?_, ?_, ?_, h.ne⟩, ?_, ?_⟩
  · show _ = T.ps ++ [y]
    rw [List.map_append, h.ps]; rfl
  · show _ = T.ts ++ [f]
    rw [List.map_append, h.ts]; rfl
  · have hb : w4.heap[tb]? = some (.cells #[gv, rv, vp, .map (some ma), .map (some mk)] 161 (0, 0)) := (k1 tb ltb (fun e => n1 e.symm) n3).trans h.box
    simp [World.setCell, Array.getElem?_modify, hb]
  · rw [cellsD_append, cellsD_one, List.length_append]
    exact owns_keep hrow (fun k hk => hset k (fun e => hvB (by rw [← e]; exact hk)))
  · intro x hx
    rcases List.mem_append.1 hx with hx | hx
    · exact owns_keep (h.own x hx) (fun k hk => hlist k (owns_lt (h.own x hx) hk) (h.lists hx hk))
    · rw [List.mem_singleton] at hx
      subst hx
      exact owns_keep hl (fun k hk => hlist k (owns_lt hl hk) (hlt k hk))
  · show World.ownsMap _ _ _ _ ma (rs ++ [((y, f), lv)]).length (Dt.mp (Dt.atOf (T.ps ++ [y])))
    rw [Dt.atOf_snoc, Dt.mp_snoc, List.length_append, ← h.len]
    exact ownsMap_keep hm ((hset ma n1).trans ((k3 ma (by have := hm.lt; omega) n4).trans (hu.block ma hm.lt)))
  · exact ownsMap_keep h.kns ((hset mk n2).trans (k1 mk h.kns.lt (fun e => h.ne e.symm) n5))
  · have T1 : Turned (TTurn tb ma mk vp) W W2 := (Turned.refl _ _).grown hg (fun k hk => .inl (.inr (.inr (.inl (by simpa using hk.symm)))))
    have T2 : Turned (TTurn tb ma mk vp) W w3 := T1.trans ⟨hu.os, hu.tape, hu.output, hu.size, fun k hk _ => hu.block k hk⟩ (fun _ _ hh => hh)
    exact ((T2.alloc o).grown hg4 (fun k hk => .inl (.inr (.inl hk)))).setCell (.inl (.inl rfl)) _
  · intro k hk
    rcases hvlt k hk with e | e
    · exact .inl e
    · right; omega

end Go.Proofs.YtkcdkfkgjjpaaaaGreatDoor

namespace Go.Proofs.YtkcdkfkgjjpaaaaGreatDoor
open Go.RowKit
set_option linter.unusedVariables false
set_option linter.unusedSimpArgs false

/-- A list of numbers, as it is read. -/
def LsN (w : World) (v : Value) (l : List Nat) : Prop := ∃ ao cap g off, v = .slice ao l.length cap ∧ (0 < l.length → ao = some ⟨g, off, none⟩) ∧ ∀ i, i < l.length → w.cell? ⟨g, off + i, none⟩ = some (.int .i64 ((l.getD i 0 : Nat) : Int))

theorem LsN.up {w w1 : World} {v : Value} {l : List Nat} (h : LsN w v l) (hu : Up w w1) : LsN w1 v l := by
  obtain ⟨ao, cap, g, off, e, ha, hx⟩ := h
  exact ⟨ao, cap, g, off, e, ha, fun i hi => hu.cell (hx i hi)⟩

theorem owns_lsn {w : World} {base n : Nat} {v : Value} {l : List Nat} (h : w.ownsRow base 3 1 v n (ints l)) (hn : l.length = n) : LsN w v l := by
  subst hn
  rcases owns_cases h with ⟨rfl, h0, _⟩ | ⟨g, cap, rfl, hr, _⟩
  · exact ⟨none, 0, 0, 0, by rw [h0], fun h => by omega, fun i hi => by omega⟩
  · exact ⟨_, _, g, 0, rfl, fun _ => rfl, fun i hi => by rw [Nat.zero_add]; exact hr.cell (ints_get hi)⟩

set_option maxHeartbeats 1000000 in
set_option maxRecDepth 100000 in
theorem indexN_any {w : World} {v : Value} {l : List Nat} (n : Nat) (h : LsN w v l) (hl : l.length ≤ 1000000) :
    Calls Tryz.prog 237 #[v, .int .i64 (n : Nat)] w fun r w' => (∃ z : Int, r = .returned (.int .i64 z) ∧ (0 ≤ z ↔ n ∈ l)) ∧ w = w' := by
  obtain ⟨ao, cap, g, off, rfl, ha, hx⟩ := h
  obtain ⟨m, hm⟩ : ∃ m, m = l.length := ⟨_, rfl⟩
  rw [← hm] at ha hl hx ⊢
  have HA := Lib.hid ha
  have HX := Lib.hid hx
  have HM := Lib.hid hm
  clear ha hx hm
  go_enter Tryz.func237, Tryz.ntmps237
  go_wp2_with fail
  go_loopw [8] (fun i wr => ∃ j : Nat, j ≤ m ∧ i = .int .i64 (j : Int) ∧ Hid (∀ k, k < j → l.getD k 0 ≠ n) ∧ wr = w) (fun i _ => m - (intOf i).toNat)
  case atStart => exact ⟨0, Nat.zero_le _, rfl, Lib.hid (fun k hk => by omega), rfl⟩
  case round =>
    obtain ⟨j, hj, rfl, HN, rfl⟩ := hrel
    by_cases hlt : j < m
    · obtain rfl := HA.out (by omega)
      have c := HX.out j hlt
      obtain ⟨x, hx⟩ : ∃ x, x = l.getD j 0 := ⟨_, rfl⟩
      rw [← hx] at c
      have HXX := Lib.hid hx
      clear hx
      by_cases e : n = x
      · have q : decide ((n : Int) = (x : Int)) = true := by simp [e]
        have q2 : ((n : Int) == (x : Int)) = true := by simp [e]
        have HR : Hid (n ∈ l) := Lib.hid (by
          have hj2 : j < l.length := by rw [← HM.out]; exact hlt
          have := HXX.out
          rw [e, this]
          simp only [List.getD, List.getElem?_eq_getElem hj2, Option.getD_some]
          exact List.getElem_mem hj2)
        clear e
        go_wp2_with fail
        go_ret
        exact ⟨⟨_, rfl, ⟨fun _ => HR.out, fun _ => by omega⟩⟩, rfl⟩
      · have q : decide ((n : Int) = (x : Int)) = false := by simp; omega
        have q2 : ((n : Int) == (x : Int)) = false := by simp; omega
        have HE := Lib.hid e
        clear e
        go_wp2_with fail
        go_roundw
        case rel => exact ⟨j + 1, by omega, by go_num, Lib.hid (fun k hk => by
          rcases Nat.lt_succ_iff_lt_or_eq.1 hk with h1 | rfl
          · exact HN.out k h1
          · rw [← HXX.out]; exact fun h => HE.out h.symm), trivial⟩
        case measure => simp [intOf]; omega
    · have HR : Hid (n ∉ l) := Lib.hid (fun h => by
        obtain ⟨k, hk, e⟩ := List.getElem_of_mem h
        have := HN.out k (by have := HM.out; omega)
        simp only [List.getD, List.getElem?_eq_getElem hk, Option.getD_some] at this
        exact this e)
      go_wp2_with fail
      go_ret
      exact ⟨⟨_, rfl, ⟨fun h => absurd h (by decide), fun h => absurd h HR.out⟩⟩, rfl⟩

theorem containsN_any {w : World} {v : Value} {l : List Nat} (n : Nat) (h : LsN w v l) (hl : l.length ≤ 1000000) :
    Calls Tryz.prog 207 #[v, .int .i64 (n : Nat)] w fun r w' => r = .returned (.bool (decide (n ∈ l))) ∧ w = w' := by
  have HI := Lib.hid (indexN_any n h hl)
  clear h hl
  go_enter Tryz.func207, Tryz.ntmps207
  go_wp2_with (go_at_call 237; refine HI.out.mono ?_; rintro r y ⟨⟨z, rfl, hz⟩, rfl⟩; (have HZ := Lib.hid hz); clear hz)
  go_ret
  exact ⟨ret_bool (by simpa using HZ.out), rfl⟩

end Go.Proofs.YtkcdkfkgjjpaaaaGreatDoor

namespace Go.Proofs.YtkcdkfkgjjpaaaaGreatDoor
open Go.RowKit Go.Maps
set_option linter.unusedVariables false
set_option linter.unusedSimpArgs false

theorem Tryz.nodeInfoD : (Tryz.prog.info? 71).map (fun i => (i.zero, i.size, i.bytes)) = some (some (.agg #[.int .i64 0, .int .i64 0]), 2, 16) := by kernel_rfl

/-- A slice of nodes that the call owns, with nodes behind it. -/
def NodesDone (base : Nat) (l : List (Int × Int)) (w : World) (v : Value) (r : Ending) (w' : World) : Prop :=
  ∃ v', r = .returned v' ∧ w'.ownsRow base 71 2 v' l.length (cells2 l) ∧ Turned (fun k => v.ownBlock = some k) w w' ∧ ∀ k, v'.ownBlock = some k → v.ownBlock = some k ∨ w.heap.size ≤ k

/-- What a teller's parts are, as they are read. -/
theorem TlAt.part {w : World} {tb ma mk : Nat} {gv rv vp : Value} {rs : List DRow} {T : Dt.Tl} (h : TlAt w tb gv rv vp ma mk rs T) {i : Nat} (hi : i < T.ps.length) :
    ∃ g cap lv, vp = .slice (some ⟨g, 0, none⟩) rs.length cap ∧ w.cell? ⟨g, i * 4, none⟩ = some (.int .i64 (T.ps.getD i ((0, 0), [])).1.1) ∧ w.cell? ⟨g, i * 4 + 1, none⟩ = some (.int .i64 (T.ps.getD i ((0, 0), [])).1.2) ∧
      w.cell? ⟨g, i * 4 + 2, none⟩ = some lv ∧ LsN w lv (T.ps.getD i ((0, 0), [])).2 ∧ w.cell? ⟨g, i * 4 + 3, none⟩ = some (.int .i64 ((Dt.size (T.ts.getD i []) : Nat) : Int)) ∧ ∀ k, lv.ownBlock = some k → ∃ cur, w.heap[k]? = some (.cells cur 3 (0, 0)) := by
  have hl := h.len
  have hi2 : i < rs.length := by omega
  have e1 : T.ps.getD i ((0, 0), []) = rs[i].1.1 := by rw [← h.ps]; simp [List.getD, hi2]
  have e2 : T.ts.getD i [] = rs[i].1.2 := by rw [← h.ts]; simp [List.getD, hi2]
  rcases owns_cases h.row with ⟨_, h0, _⟩ | ⟨g, cap, rfl, hr, _⟩
  · omega
  · have hx := h.own _ (List.getElem_mem hi2)
    have hc := fun c (hc : c < 4) => cellsD_get rs i c hi2 hc
    rw [e1, e2]
    exact ⟨g, cap, rs[i].2, rfl, hr.cell (hc 0 (by omega)), hr.cell (hc 1 (by omega)), hr.cell (hc 2 (by omega)), owns_lsn hx rfl, hr.cell (hc 3 (by omega)), fun k hk => owns_type hx hk⟩

end Go.Proofs.YtkcdkfkgjjpaaaaGreatDoor

namespace Go.Proofs.YtkcdkfkgjjpaaaaGreatDoor
open Go.RowKit Go.Maps
set_option linter.unusedVariables false
set_option linter.unusedSimpArgs false

theorem LsN.cell {w : World} {g off m cap : Nat} {l : List Nat} (h : LsN w (.slice (some ⟨g, off, none⟩) m cap) l) {i : Nat} (hi : i < l.length) : w.cell? ⟨g, off + i, none⟩ = some (.int .i64 ((l.getD i 0 : Nat) : Int)) := by
  obtain ⟨ao, c, g', off', e, ha, hx⟩ := h
  simp only [Value.slice.injEq] at e
  have h1 := ha (by omega)
  rw [← e.1] at h1
  simp only [Option.some.injEq, Addr.mk.injEq, and_true] at h1
  rw [h1.1, h1.2]
  exact hx i hi

def row0 : DRow := (((((0 : Int), (0 : Int)), ([] : List Nat)), ([] : List Dt.Nd)), undef)

/-- What a teller's parts are, as they are read: the list's header is the row's own. -/
theorem TlAt.part2 {w : World} {tb ma mk : Nat} {gv rv vp : Value} {rs : List DRow} {T : Dt.Tl} (h : TlAt w tb gv rv vp ma mk rs T) {i : Nat} (hi : i < T.ps.length) :
    ∃ g cap, vp = .slice (some ⟨g, 0, none⟩) rs.length cap ∧ w.cell? ⟨g, i * 4, none⟩ = some (.int .i64 (T.ps.getD i ((0, 0), [])).1.1) ∧ w.cell? ⟨g, i * 4 + 1, none⟩ = some (.int .i64 (T.ps.getD i ((0, 0), [])).1.2) ∧
      w.cell? ⟨g, i * 4 + 2, none⟩ = some (rs.getD i row0).2 ∧ LsN w (rs.getD i row0).2 (T.ps.getD i ((0, 0), [])).2 := by
  have hl := h.len
  have hi2 : i < rs.length := by omega
  have e1 : T.ps.getD i ((0, 0), []) = rs[i].1.1 := by rw [← h.ps]; simp [List.getD, hi2]
  have e3 : rs.getD i row0 = rs[i] := by simp [List.getD, hi2]
  rcases owns_cases h.row with ⟨_, h0, _⟩ | ⟨g, cap, rfl, hr, _⟩
  · omega
  · have hx := h.own _ (List.getElem_mem hi2)
    have hc := fun c (hc : c < 4) => cellsD_get rs i c hi2 hc
    rw [e1, e3]
    exact ⟨g, cap, rfl, hr.cell (hc 0 (by omega)), hr.cell (hc 1 (by omega)), hr.cell (hc 2 (by omega)), owns_lsn hx rfl⟩

/-- The formulas of the first parts, one behind the other. -/
def firstF (ts : List (List Dt.Nd)) (l : List Nat) (j : Nat) : List Dt.Nd := ((l.take j).map fun i => ts.getD i []).flatten

theorem firstF_succ (ts : List (List Dt.Nd)) {l : List Nat} {j : Nat} (h : j < l.length) : firstF ts l (j + 1) = firstF ts l j ++ ts.getD (l.getD j 0) [] := by
  unfold firstF
  rw [List.take_succ_eq_append_getElem h, List.map_append, List.flatten_append]
  have e : l.getD j 0 = l[j] := by simp [List.getD, h]
  rw [e]
  simp

theorem firstF_le (ts : List (List Dt.Nd)) (x : Dt.Nd) (l : List Nat) (j : Nat) : (firstF ts l j).length + 1 ≤ (Dt.made ts x l).length := by
  have e : Dt.made ts x l = firstF ts l j ++ ((l.drop j).map fun i => ts.getD i []).flatten ++ [x] := by
    unfold firstF Dt.made
    rw [← List.flatten_append, ← List.map_append, List.take_append_drop]
  rw [e]
  simp only [List.length_append, List.length_cons, List.length_nil]
  omega

theorem firstF_all (ts : List (List Dt.Nd)) (x : Dt.Nd) (l : List Nat) : firstF ts l l.length ++ [x] = Dt.made ts x l := by
  unfold firstF Dt.made
  rw [List.take_length]

/-- Nodes under way. -/
structure NodesAt (base : Nat) (w wr : World) (v o : Value) (n : Nat) (l : List (Int × Int)) : Prop where
  own : wr.ownsRow base 71 2 o n (cells2 l)
  turn : Turned (fun k => v.ownBlock = some k) w wr
  loc : ∀ k, o.ownBlock = some k → v.ownBlock = some k ∨ w.heap.size ≤ k

theorem NodesAt.tl {base : Nat} {w wr : World} {v o : Value} {n : Nat} {l k : List (Int × Int)} {tb ma mk : Nat} {gv rv vp : Value} {rs : List DRow} {T : Dt.Tl} (h : NodesAt base w wr v o n l) (hv : w.ownsRow base 71 2 v k.length (cells2 k))
    (ht : TlAt w tb gv rv vp ma mk rs T) (hf : ∀ b, TFoot tb ma mk vp rs b → b < base) : TlAt wr tb gv rv vp ma mk rs T :=
  ht.keep (fun b hb => h.turn.block b (ht.lt hb) (fun e => by have := (hv.lt b e).1; have := hf b hb; omega))

theorem NodesAt.next {base : Nat} {w wr w2 : World} {v o o2 : Value} {n m : Nat} {l l2 : List (Int × Int)} (h : NodesAt base w wr v o n l) (ho : w2.ownsRow base 71 2 o2 m (cells2 l2)) (ht : Turned (fun k => o.ownBlock = some k) wr w2)
    (hl : ∀ k, o2.ownBlock = some k → o.ownBlock = some k ∨ wr.heap.size ≤ k) : NodesAt base w w2 v o2 m l2 := by
  have hs := h.turn.size
  refine ⟨ho, h.turn.trans ht (fun i hi hk => ?_), fun k hk => ?_⟩
  · rcases h.loc i hk with e | e
    · exact e
    · omega
  · rcases hl k hk with e | e
    · exact h.loc k e
    · right; omega

set_option maxHeartbeats 4000000 in
set_option maxRecDepth 100000 in
theorem nodes_any {tb ma mk base : Nat} {gv rv vp : Value} {rs : List DRow} {T : Dt.Tl} (hok : Dt.Table T.ps T.ts) (hps : T.ps.length ≤ 1000000000000) (hf : ∀ b, TFoot tb ma mk vp rs b → b < base) :
    ∀ (n : Nat) (w : World) (v : Value) (k : List (Int × Int)), n < T.ps.length → TlAt w tb gv rv vp ma mk rs T → w.ownsRow base 71 2 v k.length (cells2 k) → base ≤ w.heap.size → k.length + (T.ts.getD n []).length ≤ 1000000 →
    Calls Tryz.prog 115 #[.pointer (some ⟨tb, 0, none⟩), .int .i64 (n : Nat), v] w (NodesDone base (k ++ T.ts.getD n []) w v) := by
  intro n
  induction n using Nat.strongRecOn with
  | ind n ih =>
  intro w v k hn ht hv hb hlen
  obtain ⟨i0, hi, hz0, hz1, hz2⟩ := info_parts Tryz.nodeInfoD
  have IH := Lib.hid ih
  clear ih
  obtain ⟨g, cap, hvp, c0, c1, c2, hls⟩ := ht.part2 hn
  have t2 : w.cell? ⟨tb, 2, none⟩ = some vp := by simp [World.cell?, ht.box]
  rw [hvp] at t2
  have hN : rs.length = T.ps.length := ht.len
  obtain ⟨N, hNe⟩ : ∃ N, N = rs.length := ⟨_, rfl⟩
  rw [← hNe] at t2 hN
  obtain ⟨x, hx⟩ : ∃ x, x = (T.ps.getD n ((0, 0), [])).1 := ⟨_, rfl⟩
  obtain ⟨l, hl⟩ : ∃ l, l = (T.ps.getD n ((0, 0), [])).2 := ⟨_, rfl⟩
  obtain ⟨lv, hlv⟩ : ∃ lv, lv = (rs.getD n row0).2 := ⟨_, rfl⟩
  have hmade := hok.eq n hn
  have hless := hok.less n hn
  have hml2 : (T.ps.getD n ((0, 0), [])).2.length ≤ 2 := by
    rw [(hok.is n hn).2]; unfold Dt.ar; split <;> (try split) <;> omega
  rw [← hx, ← hl] at hmade
  rw [← hl] at hless hml2
  rw [← hx] at c0 c1
  rw [← hlv] at c2
  rw [← hl, ← hlv] at hls
  have HLS : Hid (∀ wr, TlAt wr tb gv rv vp ma mk rs T → LsN wr lv l ∧ ∃ g2 cap2, vp = .slice (some ⟨g2, 0, none⟩) N cap2 ∧ wr.cell? ⟨g2, n * 4, none⟩ = some (.int .i64 x.1) ∧ wr.cell? ⟨g2, n * 4 + 1, none⟩ = some (.int .i64 x.2)) := Lib.hid (fun wr hwr => by
    obtain ⟨g2, cap2, e, d0, d1, _, hls2⟩ := hwr.part2 hn
    rw [← hl, ← hlv] at hls2
    rw [← hx] at d0 d1
    exact ⟨hls2, g2, cap2, by rw [e, hNe], d0, d1⟩)
  have hNn : n < N := by omega
  rw [hmade] at hlen ⊢
  obtain ⟨lo, lc, lg, loff, hlve, hla, hlx⟩ := hls
  obtain ⟨m, hm⟩ : ∃ m, m = l.length := ⟨_, rfl⟩
  rw [← hm] at hlve hla hlx hml2
  have A0 : NodesAt base w w v v k.length k := ⟨hv, Turned.refl _ _, fun k hk => .inl hk⟩
  obtain ⟨K, hK⟩ : ∃ K, K = k.length := ⟨_, rfl⟩
  rw [← hK] at A0
  obtain ⟨x1, x2⟩ := x
  simp only at c0 c1 HLS
  have HOK := Lib.hid hok
  have HF := Lib.hid hf
  have HT := Lib.hid ht
  have HV := Lib.hid hv
  have HLEN := Lib.hid hlen
  have HM := Lib.hid hm
  have HKK := Lib.hid hK
  have HLESS := Lib.hid hless
  have HLA := Lib.hid hla
  have HLX := Lib.hid hlx
  have HVP := Lib.hid hvp
  have HNN := Lib.hid hN
  have HBW := Lib.hid hb
  subst hlve
  have HA0 := Lib.hid A0
  clear hx hl hlv hmade hok hf ht hv hlen hm hK hless hla hlx hvp hN hNe A0 hn hb
  go_enter Tryz.func115, Tryz.ntmps115
  go_wp2_with fail
  go_loopw [18, 2] (fun i o wr => ∃ j : Nat, i = .int .i64 j ∧ j ≤ m ∧ Hid (NodesAt base w wr v o (K + (firstF T.ts l j).length) (k ++ firstF T.ts l j))) (fun i _ _ => m - (intOf i).toNat)
  case atStart => exact ⟨0, rfl, Nat.zero_le _, by simpa [firstF] using HA0⟩
  case round =>
    obtain ⟨j, rfl, hj, HR⟩ := hrel
    have htr := HR.out.tl HV.out HT.out HF.out
    obtain ⟨hls2, g2, cap2, hvp2, d0, d1⟩ := HLS.out wr htr
    by_cases hlt : j < m
    · obtain rfl := HLA.out (by omega)
      obtain ⟨q, hq⟩ : ∃ q, q = l.getD j 0 := ⟨_, rfl⟩
      have hjl : j < l.length := by rw [← HM.out]; exact hlt
      have hql : q ∈ l := by rw [hq]; simp only [List.getD, List.getElem?_eq_getElem hjl, Option.getD_some]; exact List.getElem_mem hjl
      have hqn := HLESS.out q hql
      have cq := hls2.cell hjl
      rw [← hq] at cq
      have hsucc := firstF_succ T.ts hjl
      rw [← hq] at hsucc
      have hle := firstF_le T.ts (x1, x2) l (j + 1)
      have hle2 := HLEN.out
      have hKe : K = k.length := HKK.out
      have HI := Lib.hid (IH.out q hqn wr _ (k ++ firstF T.ts l j) (by have := HNN.out; omega) htr (by rw [List.length_append, ← hKe]; exact HR.out.own) (Nat.le_trans HBW.out HR.out.turn.size) (by
        rw [hsucc, List.length_append] at hle
        rw [List.length_append]
        omega))
      have HS : Hid (k ++ firstF T.ts l (j + 1) = k ++ firstF T.ts l j ++ T.ts.getD q []) := Lib.hid (by rw [hsucc, List.append_assoc])
      clear hq hjl hql hqn hsucc hle hle2 hKe
      go_wp2_with fail
      (with_reducible refine HI.out.mono ?_)
      rintro r w2 ⟨o2, rfl, hown2, hT2, hloc2⟩
      rw [← HS.out] at hown2
      have hlen3 : (k ++ firstF T.ts l (j + 1)).length = K + (firstF T.ts l (j + 1)).length := by rw [List.length_append, HKK.out]
      rw [hlen3] at hown2
      have HN2 := Lib.hid (HR.out.next hown2 hT2 hloc2)
      clear hown2 hT2 hloc2 hlen3 HI
      go_wp2_with fail
      go_roundw
      case rel => exact ⟨j + 1, by go_num, by omega, HN2⟩
      case measure => simp [intOf]; omega
    · obtain rfl : j = m := by omega
      have hall := firstF_all T.ts (x1, x2) l
      rw [← HM.out] at hall
      have hR := HR.out
      obtain ⟨M, hMe⟩ : ∃ M, M = K + (firstF T.ts l j).length := ⟨_, rfl⟩
      rw [← hMe] at hR
      have hMb : M + 1 ≤ 1000000 := by
        have h1 := HLEN.out
        rw [← hall, List.length_append, List.length_singleton, ← HKK.out] at h1
        omega
      have t2' : wr.cell? ⟨tb, 2, none⟩ = some (.slice (some ⟨g2, 0, none⟩) N cap2) := by rw [← hvp2]; simp [World.cell?, htr.box]
      obtain ⟨oa, oc, hoe⟩ := owns_shape' hR.own
      subst hoe
      have hbs : base ≤ wr.heap.size := Nat.le_trans HBW.out hR.turn.size
      have HMB := Lib.hid hMb
      have HME := Lib.hid hMe
      have HALL := Lib.hid hall
      have HRR := Lib.hid hR
      have e0 : ∀ o, (wr.alloc o).cell? ⟨g2, n * 4, none⟩ = some (.int .i64 x1) := fun o => ((Up.refl wr).alloc o).cell d0
      clear hall hR hMe hls2 htr
      go_wp2_with (at_builtin; refine wpList_append_lies _ rfl _ _ 36 rfl base 71 i0 (.agg #[.int .i64 0, .int .i64 0]) 2 16 Tryz.underlying36 hi hz0 hz1 hz2 rfl (by decide) (.slice oa M oc) M _ rfl (HRR.out.own.alloc _) ⟨wr.heap.size, 0, none⟩ 1 1 [.int .i64 x1, .int .i64 x2] rfl rfl (cells_new2 _ _ _ _) (two_one (x1, x2)) (by omega) (by unfold maxLen; omega) (by omega) (by simp only [World.size_alloc]; omega) _ rfl ?_; intro g9 c9 w9 hown9 hgrow9 hat9 hlt9; (have HO9 := Lib.hid hown9); (have HG9 := Lib.hid hgrow9); (have HA9 := Lib.hid hat9); clear hown9 hgrow9 hat9 hlt9)
      go_ret
      have hE : (k ++ Dt.made T.ts (x1, x2) l).length = M + 1 := by rw [← HALL.out, HME.out, HKK.out]; simp only [List.length_append, List.length_singleton]; omega
      refine ⟨_, rfl, ?_, ?_, ?_⟩
      · rw [hE, ← HALL.out, ← List.append_assoc, cells2_append]
        exact HO9.out
      · refine ((HRR.out.turn.alloc _).grown HG9.out (fun b hb => ?_))
        exact HRR.out.loc b hb
      · intro b hb
        rcases HA9.out with e | e
        · refine HRR.out.loc b ?_
          rw [e]; exact hb
        · right
          have h1 := HRR.out.turn.size
          have hb2 : g9 = b := by simpa [Value.ownBlock] using hb
          rw [← hb2, e]
          simp only [World.size_alloc]
          omega

end Go.Proofs.YtkcdkfkgjjpaaaaGreatDoor

namespace Go.Proofs.YtkcdkfkgjjpaaaaGreatDoor
open Go.RowKit Go.Maps
set_option linter.unusedVariables false
set_option linter.unusedSimpArgs false

theorem meetsL_byL (s : Sy.Lts) (q : Nat) (l : Int) : Dt.meetsL s q l = (Rd.byL (Sy.steps s q) l).map Int.toNat := by
  unfold Dt.meetsL Rd.byL
  rw [List.map_map]
  rfl

/-- The ranks of all states, as they are read. -/
def RkRead (w : World) (rv : Value) (s : Sy.Lts) : Prop :=
  ∃ ao cap g off, rv = .slice ao s.n.toNat cap ∧ (0 < s.n.toNat → ao = some ⟨g, off, none⟩) ∧ ∀ p, p < s.n.toNat → ∃ h ro rc, w.cell? ⟨g, off + p, none⟩ = some (.slice (some ⟨h, ro, none⟩) s.n.toNat rc) ∧
    ∀ q, q < s.n.toNat → w.cell? ⟨h, ro + q, none⟩ = some (.int .i64 (Rd.rank s p q))

theorem RkRead.up {w w1 : World} {rv : Value} {s : Sy.Lts} (h : RkRead w rv s) (hu : Up w w1) : RkRead w1 rv s := by
  obtain ⟨ao, cap, g, off, e, ha, hx⟩ := h
  refine ⟨ao, cap, g, off, e, ha, fun p hp => ?_⟩
  obtain ⟨h, ro, rc, h1, h2⟩ := hx p hp
  exact ⟨h, ro, rc, hu.cell h1, fun q hq => hu.cell (h2 q hq)⟩

theorem rkRead_of {w : World} {b : Nat} {rv : Value} {vs : List Value} {s : Sy.Lts} (ho : w.ownsRow b 35 1 rv s.n.toNat vs) (hr : RowsI b w vs (ranks s)) : RkRead w rv s := by
  obtain ⟨hl, hrow, -⟩ := hr
  rw [show (ranks s).length = s.n.toNat from rankRows_len s _] at hl hrow
  rcases owns_cases ho with ⟨rfl, h0, _⟩ | ⟨g, cap, rfl, hR, _⟩
  · exact ⟨none, 0, 0, 0, by rw [h0], fun h => by omega, fun p hp => by omega⟩
  · refine ⟨_, cap, g, 0, rfl, fun _ => rfl, fun p hp => ?_⟩
    have hp2 := hrow p hp
    rw [ranks_get hp, rankRow_len] at hp2
    have hv : vs[p]? = some (vs.getD p undef) := by simp [List.getD, hl, hp]
    have hc := hR.cell hv
    rcases owns_cases hp2 with ⟨_, h0, _⟩ | ⟨h, rc, e, hR2, _⟩
    · omega
    · rw [e] at hc
      refine ⟨h, 0, rc, by rw [Nat.zero_add]; exact hc, fun q hq => ?_⟩
      rw [Nat.zero_add]
      exact hR2.cell (by simp [ivs, rankRow, hq])

theorem tells_iff (s : Sy.Lts) (x : Int × Int) (q : Nat) (k : Int) : Dt.tells s x q k = (Rd.byL (Sy.steps s q) x.1).all fun t => decide (0 ≤ Rd.rank s x.2.toNat t.toNat) && decide (Rd.rank s x.2.toNat t.toNat < k) := by
  unfold Dt.tells
  rw [meetsL_byL, List.all_map]
  rfl

set_option maxHeartbeats 1000000 in
theorem same_any {w : World} {tb p q : Nat} {rv : Value} {s : Sy.Lts} (h1 : w.cell? ⟨tb, 1, none⟩ = some rv) (hr : RkRead w rv s) (hp : p < s.n.toNat) (hq : q < s.n.toNat) (hn : s.n.toNat ≤ 1000) :
    Calls Tryz.prog 113 #[.pointer (some ⟨tb, 0, none⟩), .int .i64 (p : Nat), .int .i64 (q : Nat)] w fun r w' => r = .returned (.bool (decide (Rd.rank s p q < 0))) ∧ w = w' := by
  obtain ⟨ao, cap, g, off, rfl, ha, hx⟩ := hr
  obtain rfl := ha (by omega)
  obtain ⟨h, ro, rc, c1, hx2⟩ := hx p hp
  have c2 := hx2 q hq
  obtain ⟨n, hn'⟩ : ∃ n, n = s.n.toNat := ⟨_, rfl⟩
  obtain ⟨z, hz⟩ : ∃ z, z = Rd.rank s p q := ⟨_, rfl⟩
  rw [← hn'] at h1 c1 hp hq hn
  rw [← hz] at c2 ⊢
  clear hx hx2 hn' hz ha
  go_enter Tryz.func113, Tryz.ntmps113
  go_wp2_with fail
  go_ret
  exact ⟨rfl, rfl⟩

end Go.Proofs.YtkcdkfkgjjpaaaaGreatDoor

namespace Go.Proofs.YtkcdkfkgjjpaaaaGreatDoor
open Go.RowKit Go.Maps
set_option linter.unusedVariables false
set_option linter.unusedSimpArgs false

/-- A teller that was made on top of a world. -/
structure Tel (w0 : World) (tb B : Nat) (rv : Value) (ma mk : Nat) (s : Sy.Lts) (w : World) (vp : Value) (rs : List DRow) (T : Dt.Tl) : Prop where
  tl : TlAt w tb (.pointer (some ⟨B, 0, none⟩)) rv vp ma mk rs T
  ok : T.Ok s
  up : Up w0 w
  lo : ∀ k, TTurn tb ma mk vp k → w0.heap.size ≤ k

/-- How it goes on. -/
structure TelTo (w0 : World) (tb B : Nat) (rv : Value) (ma mk : Nat) (s : Sy.Lts) (d e : Nat) (w : World) (vp : Value) (rs : List DRow) (T : Dt.Tl) (w' : World) (vp' : Value) (rs' : List DRow) (T' : Dt.Tl) : Prop where
  tel : Tel w0 tb B rv ma mk s w' vp' rs' T'
  go : T.To s 10003 d e T'
  turn : Turned (TTurn tb ma mk vp) w w'
  blk : ∀ k, vp'.ownBlock = some k → vp.ownBlock = some k ∨ w.heap.size ≤ k
  foot : ∀ k, TFoot tb ma mk vp' rs' k → TFoot tb ma mk vp rs k ∨ w.heap.size ≤ k

section
variable {w0 w w1 w2 : World} {tb B ma mk d e d' e' : Nat} {rv vp vp1 vp2 : Value} {rs rs1 rs2 : List DRow} {s : Sy.Lts} {T T1 T2 : Dt.Tl}

theorem Tel.upto (h : Tel w0 tb B rv ma mk s w vp rs T) (hu : Up w w1) : Tel w0 tb B rv ma mk s w1 vp rs T := ⟨h.tl.up hu, h.ok, h.up.trans hu, h.lo⟩

theorem Tel.same (h : Tel w0 tb B rv ma mk s w vp rs T) (hu : Up w w1) : TelTo w0 tb B rv ma mk s 0 0 w vp rs T w1 vp rs T :=
  ⟨h.upto hu, Dt.Tl.To.refl _ _ _ _, hu.turnS, fun k hk => .inl hk, fun k hk => .inl hk⟩

theorem Tel.turned (h : Tel w0 tb B rv ma mk s w vp rs T) (ht : Turned (TTurn tb ma mk vp) w w1) : Up w0 w1 := by
  have h1 := ((Turned.below h.up).trans ht (fun i _ hi => h.lo i hi))
  exact ⟨h1.os, h1.tape, h1.output, h1.size, fun i hi => h1.block i hi (by omega)⟩

theorem TelTo.turn1 (h : TelTo w0 tb B rv ma mk s d e w vp rs T w1 vp1 rs1 T1) {k : Nat} (hk : TTurn tb ma mk vp1 k) : TTurn tb ma mk vp k ∨ w.heap.size ≤ k := by
  rcases hk with rfl | hk | rfl | rfl
  · exact .inl (.inl rfl)
  · rcases h.blk k hk with h1 | h1
    · exact .inl (.inr (.inl h1))
    · exact .inr h1
  · exact .inl (.inr (.inr (.inl rfl)))
  · exact .inl (.inr (.inr (.inr rfl)))

theorem TelTo.trans (h : TelTo w0 tb B rv ma mk s d e w vp rs T w1 vp1 rs1 T1) (k : TelTo w0 tb B rv ma mk s d' e' w1 vp1 rs1 T1 w2 vp2 rs2 T2) :
    TelTo w0 tb B rv ma mk s (max d d') (e + e') w vp rs T w2 vp2 rs2 T2 := by
  have hs := h.turn.size
  refine ⟨k.tel, h.go.trans k.go, h.turn.trans k.turn (fun i hi ht => ?_), fun b hb => ?_, fun b hb => ?_⟩
  · rcases h.turn1 ht with h1 | h1
    · exact h1
    · omega
  · rcases k.blk b hb with h1 | h1
    · exact h.blk b h1
    · right; omega
  · rcases k.foot b hb with h1 | h1
    · exact h.foot b h1
    · right; omega

theorem TelTo.mono (h : TelTo w0 tb B rv ma mk s d e w vp rs T w1 vp1 rs1 T1) (hd : d ≤ d') (he : e ≤ e') : TelTo w0 tb B rv ma mk s d' e' w vp rs T w1 vp1 rs1 T1 :=
  ⟨h.tel, h.go.mono hd he, h.turn, h.blk, h.foot⟩

theorem TelTo.upto (h : TelTo w0 tb B rv ma mk s d e w vp rs T w1 vp1 rs1 T1) (hu : Up w1 w2) : TelTo w0 tb B rv ma mk s d e w vp rs T w2 vp1 rs1 T1 := by
  have := h.trans (h.tel.same hu)
  exact this.mono (by omega) (by omega)

/-- A list that is none of the teller's stays. -/
theorem TelTo.keep (h : TelTo w0 tb B rv ma mk s d e w vp rs T w1 vp1 rs1 T1) {k : Nat} (hk : k < w.heap.size) (hn : ¬ TTurn tb ma mk vp k) : w1.heap[k]? = w.heap[k]? := h.turn.block k hk hn
end

end Go.Proofs.YtkcdkfkgjjpaaaaGreatDoor
