/- Walk: rounds.All. Walks: rounds.rank$1, slices.IndexFunc at rows, rounds.rank. -/
import Derived.Test.YtkcdkfkgjjpaaaaGreatDoorRdAs

namespace Go.Proofs.YtkcdkfkgjjpaaaaGreatDoor
open Go.RowKit Go.Sort Go.Maps
set_option linter.unusedVariables false
set_option linter.unusedSimpArgs false

/-- The layer's name, as the program has it. -/
def layerRounds : ByteArray := { data := #[114, 111, 117, 110, 100, 115] }

/-- The values vs are rows of integers, each in a new block of its own, one behind the other. -/
def RowsOf (base : Nat) (w : World) (vs : List Value) (rows : List (List Nat)) : Prop :=
  vs.length = rows.length ∧ (∀ i, i < rows.length → w.ownsRow base 3 1 (vs.getD i undef) (rows.getD i []).length (ivs ((rows.getD i []).map Int.ofNat))) ∧
    ∀ i j g h, i < j → j < rows.length → (vs.getD i undef).ownBlock = some g → (vs.getD j undef).ownBlock = some h → g < h

theorem RowsOf.up {base : Nat} {w w1 : World} {vs : List Value} {rows : List (List Nat)} (h : RowsOf base w vs rows) (hu : Up w w1) : RowsOf base w1 vs rows :=
  ⟨h.1, fun i hi => hu.owns (h.2.1 i hi), h.2.2⟩

theorem getD_snoc_old {α : Type} {l : List α} {x d : α} {i : Nat} (h : i < l.length) : (l ++ [x]).getD i d = l.getD i d := by simp [List.getD, List.getElem?_append_left h]
theorem getD_snoc_new {α : Type} (l : List α) (x d : α) : (l ++ [x]).getD l.length d = x := by simp [List.getD]

theorem RowsOf.snoc {base : Nat} {w0 w : World} {vs : List Value} {rows : List (List Nat)} {v : Value} {c : List Nat} (h : RowsOf base w0 vs rows) (hu : Up w0 w) (hb : base ≤ w0.heap.size) (hv : w.ownsRow w0.heap.size 3 1 v c.length (ivs (c.map Int.ofNat))) : RowsOf base w (vs ++ [v]) (rows ++ [c]) := by
  refine ⟨by simp [h.1], fun i hi => ?_, fun i j g k hij hj hg hk => ?_⟩
  · rw [List.length_append, List.length_singleton] at hi
    by_cases he : i < rows.length
    · rw [getD_snoc_old (by rw [h.1]; exact he), getD_snoc_old he]; exact hu.owns (h.2.1 i he)
    · obtain rfl : i = rows.length := by omega
      have h1 : (vs ++ [v]).getD rows.length undef = v := by rw [← h.1]; exact getD_snoc_new _ _ _
      rw [h1, getD_snoc_new]; exact owns_base hv hb
  · rw [List.length_append, List.length_singleton] at hj
    have hi : i < rows.length := by omega
    rw [getD_snoc_old (by rw [h.1]; exact hi)] at hg
    by_cases he : j < rows.length
    · rw [getD_snoc_old (by rw [h.1]; exact he)] at hk
      exact h.2.2 i j g k hij he hg hk
    · obtain rfl : j = rows.length := by omega
      rw [show (vs ++ [v]).getD rows.length undef = v by rw [← h.1]; exact getD_snoc_new _ _ _] at hk
      have h1 := owns_lt (h.2.1 i hi) hg
      have h2 := (hv.lt k hk).1
      omega

/-- Behind an append to a list of another kind. -/
theorem RowsOf.grown {base b2 e2 n2 : Nat} {w w1 : World} {vs xs : List Value} {v : Value} {rows : List (List Nat)} (h : RowsOf base w vs rows) (ho : w.ownsRow b2 e2 1 v n2 xs) (he : e2 ≠ 3) (hg : w.grownBy w1 v.ownBlock) : RowsOf base w1 vs rows :=
  ⟨h.1, fun i hi => owns_keep (h.2.1 i hi) (fun g hgb => hg.block g (owns_lt (h.2.1 i hi) hgb) (fun e => by
    obtain ⟨c1, h1⟩ := owns_type (h.2.1 i hi) hgb
    obtain ⟨c2, h2⟩ := owns_type ho e.symm
    rw [h1] at h2
    simp only [Option.some.injEq, Obj.cells.injEq] at h2
    exact he h2.2.1.symm)), h.2.2⟩

/-- The first call done. -/
theorem EachAt.begin {w : World} {bb cb gb B gc : Nat} {s : Sy.Lts} {c : List Nat} (h : EachAt w bb cb gb B s false gc c) (hint : gc ≠ bb) : EachAt (w.setCell ⟨bb, 0, none⟩ (.bool true)) bb cb gb B s true gc c := by
  have hcs : cb ≠ bb := fun e => by
    have h1 := h.cl
    rw [e, h.bg] at h1
    simp only [Option.some.injEq, Obj.cells.injEq] at h1
    exact absurd h1.2.1 (by decide)
  have hgs : gb ≠ bb := fun e => by
    have h1 := h.gr
    rw [e, h.bg] at h1
    simp only [Option.some.injEq, Obj.cells.injEq] at h1
    exact absurd h1.2.1 (by decide)
  refine ⟨box_set h.bg _, (Below.heap_setCell w ⟨bb, 0, none⟩ _ cb hcs).trans h.cl, h.row.other hint _, (Below.heap_setCell w ⟨bb, 0, none⟩ _ gb hgs).trans h.gr, ?_⟩
  obtain ⟨w0, h1, h2, h3, h4⟩ := h.sep
  exact ⟨w0, h1, h2.setCell h4 _, h3, h4⟩

theorem EachAt.apart {w : World} {bb cb gb B gc : Nat} {s : Sy.Lts} {b : Bool} {c : List Nat} (h : EachAt w bb cb gb B s b gc c) : gc ≠ bb := fun e => by
  obtain ⟨cur, h1, -⟩ := h.row
  rw [e, h.bg] at h1
  simp only [Option.some.injEq, Obj.cells.injEq] at h1
  exact absurd h1.2.1 (by decide)

/-- The closure's boxes behind an append to a list of rows. -/
theorem EachAt.grow {w w1 : World} {bb cb gb B gc b n : Nat} {s : Sy.Lts} {bg : Bool} {c : List Nat} {v : Value} {xs : List Value} (h : EachAt w bb cb gb B s bg gc c) (ho : w.ownsRow b 35 1 v n xs) (hb : cb < b) (hg : w.grownBy w1 v.ownBlock) : EachAt w1 bb cb gb B s bg gc c := by
  have hk : ∀ (j : Nat) (cur : Array Value) (e : TypeId), w.heap[j]? = some (.cells cur e (0, 0)) → e ≠ 35 → w1.heap[j]? = w.heap[j]? := fun j cur e hj he =>
    hg.block j (lt_of_block' hj) (fun e1 => by
      obtain ⟨c2, h2⟩ := owns_type ho e1.symm
      rw [hj] at h2
      simp only [Option.some.injEq, Obj.cells.injEq] at h2
      exact he h2.2.1)
  have hcb : w1.heap[cb]? = w.heap[cb]? := hg.block cb (lt_of_block' h.cl) (fun e1 => by have := (ho.lt cb e1.symm).1; omega)
  refine ⟨(hk _ _ _ h.bg (by decide)).trans h.bg, hcb.trans h.cl, ?_, (hk _ _ _ h.gr (by decide)).trans h.gr, ?_⟩
  · obtain ⟨cur, h1, h2⟩ := h.row
    exact h.row.keep (hk _ _ _ h1 (by decide))
  · obtain ⟨w0, h1, h2, h3, h4⟩ := h.sep
    exact ⟨w0, h1, h2.grown hg (fun j hj => by have := (ho.lt j hj).1; omega), h3, h4⟩

/-- What All leaves. -/
def AllDone (s : Sy.Lts) (w : World) (x : Value) (r : Ending) (w' : World) : Prop :=
  Up w w' ∧ ((Sy.right s = true ∧ ∃ v vs, r = .returned (.tuple #[v, .nilIface]) ∧ w'.ownsRow w.heap.size 35 1 v (Rd.last s + 1) vs ∧ RowsOf w.heap.size w' vs (Rd.rounds s)) ∨
    (Sy.right s = false ∧ ∃ qb pb, r = .returned (.tuple #[.slice none 0 0, faultAt qb]) ∧ w.heap.size ≤ qb ∧ w.heap.size ≤ pb ∧ FaultE w' qb layerRounds (faultAt pb) ∧ FaultE w' pb layerSystem x))

set_option maxHeartbeats 8000000 in
set_option maxRecDepth 100000 in
theorem all_bad (s : Sy.Lts) (se : Value) (xt : TypeId) (xv : Value) (w : World) (hr : Sy.right s = false) (hs : Ls3 w se s.es) (hE : w.cell? ⟨2, 0, none⟩ = some (.iface xt xv)) (hG : ErrT w) (hl : s.es.length ≤ maxLen) :
    Calls Tryz.prog 102 #[sysV s se] w (AllDone s w (.iface xt xv)) := by
  obtain ⟨ao, cap, g, off, rfl, ha, hc⟩ := hs
  have hs : Ls3 w (.slice ao s.es.length cap) s.es := ⟨ao, cap, g, off, rfl, ha, hc⟩
  have HN : Hid (∀ W, Up w W → Calls Tryz.prog 13 #[.agg #[.int .i64 s.n, .int .i64 s.m, .int .i64 s.start, .slice ao s.es.length cap]] W (Newed s W (.iface xt xv))) := Lib.hid (fun W hu => new_any s _ xt xv W (hs.up hu) (hu.cell hE) hl)
  have HR := Lib.hid hr
  have HG := Lib.hid hG
  clear hr hs hE hG hl ha hc
  unfold sysV
  go_enter Tryz.func102, Tryz.ntmps102
  go_wp2_with (first
    | (go_at_call 13; refine (HN.out _ ((Up.refl w).alloc _)).mono ?_; rintro r w1 ⟨hu1, ⟨h1, -⟩ | ⟨-, pb, rfl, hpb, hfe⟩⟩; (exact absurd (h1.symm.trans HR.out) (by decide)); (have HFE := Lib.hid hfe); (have HPB := Lib.hid hpb); (have HU1 := Lib.hid (((Up.refl w).alloc _).trans hu1)); clear hfe hpb hu1; unfold faultAt)
    | (go_at_call 111; refine (as_fault layerRounds layerSystem _ _ _ HFE.out (HU1.out.cell HG.out)).mono ?_; rintro r w2 ⟨qb, rfl, hqb, hu2, hfq⟩))
  go_ret2
  have h0 := HU1.out.size
  exact ⟨HU1.out.trans hu2, .inr ⟨HR.out, qb, _, rfl, by omega, by have := HPB.out; rw [World.size_alloc] at this; omega, hfq, HFE.out.up hu2⟩⟩

/-- The length of a slice's value. -/
def sliceLen : Value → Nat
  | .slice _ n _ => n
  | _ => 0

theorem last_eq {s : Sy.Lts} {k : Nat} (hk : k ≤ Rd.last s) (h : Rd.R s (k + 1) = Rd.R s k) : k = Rd.last s := by
  rcases Nat.lt_or_ge k (Rd.last s) with h1 | h1
  · exact absurd h (Rd.last_prev s k h1)
  · omega

theorem last_ne {s : Sy.Lts} {k : Nat} (hk : k ≤ Rd.last s) (h : Rd.R s (k + 1) ≠ Rd.R s k) : k < Rd.last s := by
  rcases Nat.lt_or_ge k (Rd.last s) with h1 | h1
  · exact h1
  · obtain rfl : k = Rd.last s := by omega
    exact absurd (Rd.last_end s) h

/-- The first rounds. -/
def firsts (s : Sy.Lts) (k : Nat) : List (List Nat) := (List.range k).map (Rd.R s)

theorem firsts_succ (s : Sy.Lts) (k : Nat) : firsts s (k + 1) = firsts s k ++ [Rd.R s k] := by simp [firsts, List.range_succ]

theorem firsts_all (s : Sy.Lts) : firsts s (Rd.last s + 1) = Rd.rounds s := rfl

/-- The first call, told at a number. -/
theorem first_len {w : World} {bb cb gb B gc n : Nat} {s : Sy.Lts} {c : List Nat} (h : EachAt w bb cb gb B s false gc c) (hn : c.length = n) :
    Calls Tryz.prog 196 #[.pointer (some ⟨bb, 0, none⟩), .pointer (some ⟨cb, 0, none⟩), .pointer (some ⟨gb, 0, none⟩)] w fun r w' =>
      r = .returned (.slice (some ⟨gc, 0, none⟩) n n) ∧ EachAt w' bb cb gb B s true gc c ∧ (∀ w0, Up w0 w → w0.heap.size ≤ bb → Up w0 w') := by
  refine (each_first h).mono ?_
  rintro r w' ⟨rfl, rfl⟩
  exact ⟨by rw [hn], h.begin h.apart, fun w0 h1 h2 => h1.setCell h2 _⟩

/-- A later call, told at a round's number. -/
def MoreDone (w : World) (bb cb gb B n : Nat) (s : Sy.Lts) (k : Nat) (r : Ending) (w' : World) : Prop :=
  (Rd.R s (k + 1) = Rd.R s k ∧ r = .returned (.slice none 0 0) ∧ Up w w') ∨
  (Rd.R s (k + 1) ≠ Rd.R s k ∧ ∃ g, r = .returned (.slice (some ⟨g, 0, none⟩) n n) ∧ EachAt w' bb cb gb B s true g (Rd.R s (k + 1)) ∧ Turned (fun k => k = cb) w w' ∧ (∀ w0, Up w0 w → w0.heap.size ≤ cb → Up w0 w'))

theorem more_any {w : World} {bb cb gb B gc n k : Nat} {s : Sy.Lts} (h : EachAt w bb cb gb B s true gc (Rd.R s k)) (hR : Sy.Right s) (hT : Tab w) (hn : s.n.toNat = n) :
    Calls Tryz.prog 196 #[.pointer (some ⟨bb, 0, none⟩), .pointer (some ⟨cb, 0, none⟩), .pointer (some ⟨gb, 0, none⟩)] w (MoreDone w bb cb gb B n s k) := by
  refine (each_next h hR hT (Rd.R_len s k) (Rd.R_small s k (by have := hR.n1; omega))).mono ?_
  rintro r w' (⟨h1, h2, h3⟩ | ⟨h1, g, h2, -, h4, h5⟩)
  · exact .inl ⟨h1, h2, h3⟩
  · refine .inr ⟨h1, g, by rw [h2, Rd.R_len, hn], h4, h5, fun w0 h6 h7 => ?_⟩
    exact ⟨h5.os.trans h6.os, h5.tape.trans h6.tape, h5.output.trans h6.output, Nat.le_trans h6.size h5.size, fun j hj => (h5.block j (Nat.lt_of_lt_of_le hj h6.size) (by omega)).trans (h6.block j hj)⟩

/-- A round's row, copied. -/
theorem clone_round {w : World} {v : Value} {n k : Nat} {s : Sy.Lts} (hv : Lst w v ((Rd.R s k).map Int.ofNat)) (hn : s.n.toNat = n) (hn1 : n ≤ 1000) :
    Calls Tryz.prog 154 #[v] w fun r w' => ∃ ao cap, r = .returned (.slice ao n cap) ∧ w'.ownsRow w.heap.size 3 1 (.slice ao n cap) (Rd.R s k).length (ivs ((Rd.R s k).map Int.ofNat)) ∧ Up w w' := by
  have hl : ((Rd.R s k).map Int.ofNat).length = n := by rw [List.length_map, Rd.R_len, hn]
  refine (clone_ints hv (by omega)).mono ?_
  rintro r w' ⟨v', rfl, ho, hu⟩
  obtain ⟨ao, cap, rfl⟩ := owns_shape' ho
  rw [hl] at ho ⊢
  exact ⟨ao, cap, rfl, by rw [Rd.R_len, hn]; exact ho, hu⟩

/-- What the slot of the next round holds behind the round k. -/
def Ahead (bb cb gb B n : Nat) (s : Sy.Lts) (k : Nat) (v8 : Value) (w : World) : Prop :=
  (v8 = .slice none 0 0 ∧ k = Rd.last s) ∨ (k < Rd.last s ∧ ∃ g, v8 = .slice (some ⟨g, 0, none⟩) n n ∧ EachAt w bb cb gb B s true g (Rd.R s (k + 1)))

theorem more_ahead {w : World} {bb cb gb B gc n k : Nat} {s : Sy.Lts} (h : EachAt w bb cb gb B s true gc (Rd.R s k)) (hR : Sy.Right s) (hT : Tab w) (hn : s.n.toNat = n) (hk : k ≤ Rd.last s) :
    Calls Tryz.prog 196 #[.pointer (some ⟨bb, 0, none⟩), .pointer (some ⟨cb, 0, none⟩), .pointer (some ⟨gb, 0, none⟩)] w fun r w' =>
      ∃ v8, r = .returned v8 ∧ Ahead bb cb gb B n s k v8 w' ∧ Turned (fun k => k = cb) w w' ∧ (∀ w0, Up w0 w → w0.heap.size ≤ cb → Up w0 w') := by
  refine (more_any h hR hT hn).mono ?_
  rintro r w' (⟨h1, h2, h3⟩ | ⟨h1, g, h2, h3, h5, h4⟩)
  · exact ⟨_, h2, .inl ⟨rfl, last_eq hk h1⟩, h3.turnS, fun w0 h _ => h.trans h3⟩
  · exact ⟨_, h2, .inr ⟨last_ne hk h1, g, rfl, h3⟩, h5, h4⟩

/-- A list of one row, laid. -/
theorem start_rows {w3 w4 : World} {v : Value} {s : Sy.Lts} (h4 : Up w3 w4) (ho : w4.ownsRow w3.heap.size 3 1 v (Rd.R s 0).length (ivs ((Rd.R s 0).map Int.ofNat))) :
    (w4.alloc (.cells #[v] 35)).ownsRow w3.heap.size 35 1 (.slice (some ⟨w4.heap.size, 0, none⟩) 1 1) 1 [v] ∧ RowsOf w3.heap.size (w4.alloc (.cells #[v] 35)) [v] (firsts s 1) := by
  have h1 := h4.size
  refine ⟨⟨rfl, .inr ⟨w4.heap.size, 1, #[v], rfl, by omega, by show (w4.heap.push _)[w4.heap.size]? = _; simp, Nat.le_refl _, by decide, rfl, rfl⟩⟩, rfl, fun i hi => ?_, fun i j g k hij hj => by simp [firsts] at hj; omega⟩
  obtain rfl : i = 0 := by simp [firsts] at hi; omega
  exact ((Up.refl w4).alloc _).owns ho

/-- What holds at the head of All's loop. -/
def AllInv (w : World) (b bb cb gb B n : Nat) (s : Sy.Lts) (v7 v8 : Value) (wr : World) : Prop :=
  ∃ k vs, k ≤ Rd.last s ∧ wr.ownsRow b 35 1 v7 (k + 1) vs ∧ RowsOf b wr vs (firsts s (k + 1)) ∧ Up w wr ∧ Ahead bb cb gb B n s k v8 wr

theorem owns_turn {w w' : World} {b cb e size n : Nat} {v : Value} {xs : List Value} (h : w.ownsRow b e size v n xs) (hb : cb < b) (ht : Turned (fun k => k = cb) w w') : w'.ownsRow b e size v n xs :=
  owns_keep h (fun g hg => ht.block g (owns_lt h hg) (by have := (h.lt g hg).1; omega))

theorem RowsOf.turn {w w' : World} {b cb : Nat} {vs : List Value} {rows : List (List Nat)} (h : RowsOf b w vs rows) (hb : cb < b) (ht : Turned (fun k => k = cb) w w') : RowsOf b w' vs rows :=
  ⟨h.1, fun i hi => owns_turn (h.2.1 i hi) hb ht, h.2.2⟩

theorem RowsOf.base {w : World} {b b' : Nat} {vs : List Value} {rows : List (List Nat)} (h : RowsOf b w vs rows) (hb : b' ≤ b) : RowsOf b' w vs rows :=
  ⟨h.1, fun i hi => owns_base (h.2.1 i hi) hb, h.2.2⟩

theorem Tryz.sliceInfoD : (Tryz.prog.info? 35).map (fun i => (i.zero, i.size, i.bytes)) = some (some (.slice none 0 0), 1, 24) := by kernel_rfl

theorem one_cell_sl (a : Option Addr) (n c : Nat) : ∀ u ∈ [Value.slice a n c], u.oneCell' = true := by
  intro u hu
  simp only [List.mem_singleton] at hu
  subst hu; rfl

theorem last_zero {s : Sy.Lts} (h : s.n.toNat = 0) : Rd.last s = 0 := by
  unfold Rd.last; rw [h]; rfl

set_option maxHeartbeats 8000000 in
set_option maxRecDepth 100000 in
theorem all_good (s : Sy.Lts) (se : Value) (xt : TypeId) (xv : Value) (w : World) (hr : Sy.right s = true) (hT : Tab w) (hs : Ls3 w se s.es) (hE : w.cell? ⟨2, 0, none⟩ = some (.iface xt xv)) (hl : s.es.length ≤ maxLen) :
    Calls Tryz.prog 102 #[sysV s se] w (AllDone s w (.iface xt xv)) := by
  obtain ⟨ao, cap, g, off, rfl, ha, hc⟩ := hs
  have hs : Ls3 w (.slice ao s.es.length cap) s.es := ⟨ao, cap, g, off, rfl, ha, hc⟩
  have HN : Hid (∀ W, Up w W → Calls Tryz.prog 13 #[.agg #[.int .i64 s.n, .int .i64 s.m, .int .i64 s.start, .slice ao s.es.length cap]] W (Newed s W (.iface xt xv))) := Lib.hid (fun W hu => new_any s _ xt xv W (hs.up hu) (hu.cell hE) hl)
  have HRB := Lib.hid hr
  have HR : Hid (Sy.Right s) := Lib.hid ((Sy.right_iff s).1 hr)
  have HT := Lib.hid hT
  obtain ⟨n, hn⟩ : ∃ n : Nat, s.n = (n : Nat) := ⟨s.n.toNat, by have := HR.out.n0; omega⟩
  have hn1 : n ≤ 1000 := by have := HR.out.n1; omega
  have hnn : s.n.toNat = n := by rw [hn]; rfl
  have HNN := Lib.hid hnn
  have HSN := Lib.hid hn
  obtain ⟨i0, hi, hz0, hz1, hz2⟩ := info_parts Tryz.sliceInfoD
  clear hr hs hE hl ha hc hT hnn
  unfold sysV
  rw [hn]
  clear hn
  go_enter Tryz.func102, Tryz.ntmps102
  rw [HSN.out] at HN
  go_upto_region 6 with (first
    | (go_at_call 13; refine (HN.out _ ((Up.refl w).alloc _)).mono ?_; rintro r w1 ⟨hu1, ⟨-, B, rfl, hB, hg⟩ | ⟨h1, -⟩⟩; rotate_left; (exact absurd (HRB.out.symm.trans h1) (by decide)); (have HG := Lib.hid hg); (have HU1 := Lib.hid (((Up.refl w).alloc _).trans hu1)); clear hB hg hu1)
    | (go_at_call 153; refine (each_any HG.out HR.out).mono ?_; rintro r w2 ⟨bb, cb, gb, gc, rfl, hu2, ⟨hb1, hb2⟩, he⟩; (have HE := Lib.hid he); (have HU2 := Lib.hid hu2); clear he hu2)
    | (go_at_call 196; refine (first_len HE.out (n := n) (by rw [List.length_replicate]; exact HNN.out)).mono ?_; rintro r w3 ⟨rfl, he3, hu3⟩; (have HE3 : Hid (EachAt w3 bb cb gb B s true gc (Rd.R s 0)) := Lib.hid he3); (have HU3 := Lib.hid (hu3 _ HU2.out hb1)); clear he3 hu3)
    | (go_at_call 154; refine (clone_round (k := 0) (n := n) (Row.lstN (m := n) (q := n) HE3.out.row (by rw [Rd.R_len]; exact HNN.out)) HNN.out hn1).mono ?_; rintro r w4 ⟨ao4, cap4, rfl, ho4, hu4⟩; (have HO4 := Lib.hid ho4); (have HU4 := Lib.hid hu4); clear ho4 hu4))
  have hs01 := HU1.out.size
  have hs13 := HU3.out.size
  obtain ⟨hown0, hrows0⟩ := start_rows HU4.out HO4.out
  have hu5 : Up w (w4.alloc (.cells #[.slice ao4 n cap4] 35)) := ((HU1.out.trans HU3.out).trans HU4.out).alloc _
  have he5 := HE3.out.up (HU4.out.alloc (.cells #[.slice ao4 n cap4] 35))
  have hcb : w.heap.size ≤ cb := by omega
  have hcb3 : cb < w3.heap.size := lt_of_block' HE3.out.cl
  have hb03 : w.heap.size ≤ w3.heap.size := by omega
  obtain ⟨b3, hb3⟩ : ∃ b3, b3 = w3.heap.size := ⟨_, rfl⟩
  rw [← hb3] at hown0 hrows0 hcb3 hb03
  clear hb3
  have HT5 := Lib.hid (HT.out.up hu5)
  generalize w4.alloc (.cells #[.slice ao4 n cap4] 35) = w5 at hown0 hrows0 hu5 he5 HT5 ⊢
  have HOWN := Lib.hid hown0
  have HROWS := Lib.hid hrows0
  have HU5 := Lib.hid hu5
  have HE5 := Lib.hid he5
  clear hown0 hrows0 hu5 he5 hs01 hs13 hb1 hb2
  by_cases hn0 : n = 0
  · subst hn0
    go_wp2_with (go_at_call 43; refine (states_in HE5.out.graph).mono ?_; rintro r w6 ⟨rfl, hu6⟩; rw [HSN.out])
    go_ret2
    have hl0 := last_zero HNN.out
    refine ⟨HU5.out.trans hu6, .inl ⟨HRB.out, _, _, rfl, by rw [hl0]; exact owns_base (hu6.owns HOWN.out) hb03, ?_⟩⟩
    rw [← firsts_all, hl0]
    exact (HROWS.out.up hu6).base hb03
  · have hn0' : (n : Int) ≠ 0 := by omega
    go_upto_region 9 with (first
      | (go_at_call 43; refine (states_in HE5.out.graph).mono ?_; rintro r w6 ⟨rfl, hu6⟩; rw [HSN.out]; (have HE6 := Lib.hid (HE5.out.up hu6)); (have HT6 := Lib.hid (HT5.out.up hu6)); (have HU6 := Lib.hid hu6); clear hu6)
      | (go_at_call 196; refine (more_ahead (k := 0) (n := n) HE6.out HR.out HT6.out HNN.out (Nat.zero_le _)).mono ?_; rintro r w7 ⟨v8, rfl, ha7, ht7, hu7⟩; (have HA7 := Lib.hid ha7); (have HU7 := Lib.hid (hu7 _ (HU5.out.trans HU6.out) hcb)); (have HT7 := Lib.hid ht7); clear ha7 hu7 ht7))
    have HL : Hid (Rd.last s < n) := Lib.hid (by have := Rd.last_lt s (by rw [HNN.out]; omega); rw [HNN.out] at this; exact this)
    have hq := Lib.run_eql_slice_nil (P := Tryz.prog)
    go_loopw [7, 8] (AllInv w b3 bb cb gb B n s) (fun v7 _ _ => 1001 - sliceLen v7)
    case atStart => exact ⟨0, _, Nat.zero_le _, owns_turn (HU6.out.owns HOWN.out) hcb3 HT7.out, (HROWS.out.up HU6.out).turn hcb3 HT7.out, HU7.out, HA7.out⟩
    case round =>
      obtain ⟨k, vs, hk, hown, hrows, hup, ha⟩ := hrel
      have HK := Lib.hid hk
      have HRW := Lib.hid hrows
      have HUP := Lib.hid hup
      have HO := Lib.hid hown
      rcases ha with ⟨rfl, hkl⟩ | ⟨hkl, g, rfl, he⟩
      · have HKL := Lib.hid hkl
        clear hk hrows hup hown hkl
        go_wp2_with fail
        go_ret2
        obtain rfl := HKL.out
        exact ⟨HUP.out, .inl ⟨HRB.out, _, _, rfl, owns_base HO.out hb03, HRW.out.base hb03⟩⟩
      · have HKL := Lib.hid hkl
        have HEG := Lib.hid he
        have hq1 := fun w => hq w 35 3 (some ⟨g, 0, none⟩) n n 0 0 Tryz.underlying35
        clear hk hrows hup hown he hkl hq
        have hk1 : k + 1 ≤ Rd.last s := HKL.out
        have hk2 : k + 1 < n := Nat.lt_of_le_of_lt hk1 HL.out
        have hs3 := HUP.out.size
        have hlen : sliceLen u7 = k + 1 := by obtain ⟨a7, c7, rfl⟩ := owns_shape' HO.out; rfl
        have hb3r : b3 ≤ wr.heap.size := by
          obtain ⟨a7, c7, h7⟩ := owns_shape' HO.out
          rcases owns_cases HO.out with ⟨-, h0, -⟩ | ⟨g7, c7, h7, -⟩
          · omega
          · have := HO.out.lt g7 (by rw [h7]; rfl)
            omega
        go_upto_region 10 with (first
          | (go_at_call 154; refine (clone_round (k := k + 1) (n := n) (Row.lstN (m := n) (q := n) HEG.out.row (by rw [Rd.R_len]; exact HNN.out)) HNN.out hn1).mono ?_; rintro r w8 ⟨ao8, cap8, rfl, ho8, hu8⟩; (have HO8 := Lib.hid ho8); (have HU8 := Lib.hid hu8); (have HOW8 := Lib.hid (hu8.owns HO.out)); (have hs8 := hu8.size); clear ho8 hu8)
          | (at_builtin; (refine wpList_append_own _ rfl _ _ 48 rfl b3 35 i0 (.slice none 0 0) 1 24 Tryz.underlying48 hi hz0 hz1 hz2 rfl (by decide) _ (k + 1) _ rfl (HOW8.out.alloc _) ⟨w8.heap.size, 0, none⟩ 1 1 [.slice ao8 n cap8] rfl rfl (cell_one_new _ _ _) (one_cell_sl _ _ _) (by unfold maxLen; omega) (by omega) (by simp; omega) ?_); intro v9 w9 hown9 hgrow9 hnil9; clear hnil9))
        have hg9 : (w8.alloc (.cells #[.slice ao8 n cap8] 35)).grownBy w9 u7.ownBlock := hgrow9
        have how := HOW8.out.alloc (.cells #[.slice ao8 n cap8] 35)
        have hr9 : RowsOf b3 w9 (vs ++ [.slice ao8 n cap8]) (firsts s (k + 1 + 1)) := by
          rw [firsts_succ]
          exact RowsOf.grown ((HRW.out.snoc HU8.out hb3r HO8.out).up ((Up.refl _).alloc _)) how (by decide) hg9
        have he9 := (HEG.out.up (HU8.out.alloc (.cells #[.slice ao8 n cap8] 35))).grow how hcb3 hg9
        have hu9 : Up w w9 := ((HUP.out.trans HU8.out).alloc _).grown hg9 (fun j hj => by have := (how.lt j hj).1; omega)
        have hlen9 : sliceLen v9 = k + 1 + 1 := by obtain ⟨a7, c7, rfl⟩ := owns_shape' hown9; rfl
        have HR9 := Lib.hid hr9
        have HE9 := Lib.hid he9
        have HU9 := Lib.hid hu9
        have HO9 := Lib.hid hown9
        have HT9 := Lib.hid (HT.out.up hu9)
        clear hgrow9 hg9 how hr9 he9 hu9 hown9
        go_wp2_with (go_at_call 196; refine (more_ahead (k := k + 1) (n := n) HE9.out HR.out HT9.out HNN.out hk1).mono ?_; rintro r w10 ⟨v10, rfl, ha10, ht10, hu10⟩; (have HA10 := Lib.hid ha10); (have HU10 := Lib.hid (hu10 _ HU9.out hcb)); (have HT10 := Lib.hid ht10); clear ha10 hu10 ht10)
        go_roundw
        case rel => exact ⟨k + 1, _, hk1, owns_turn HO9.out hcb3 HT10.out, HR9.out.turn hcb3 HT10.out, HU10.out, HA10.out⟩
        case measure => simp [hlen, hlen9]; omega

theorem all_any (s : Sy.Lts) (se : Value) (xt : TypeId) (xv : Value) (w : World) (hT : Tab w) (hG : ErrT w) (hs : Ls3 w se s.es) (hE : w.cell? ⟨2, 0, none⟩ = some (.iface xt xv)) (hl : s.es.length ≤ maxLen) :
    Calls Tryz.prog 102 #[sysV s se] w (AllDone s w (.iface xt xv)) := by
  cases hr : Sy.right s
  · exact all_bad s se xt xv w hr hs hE hG hl
  · exact all_good s se xt xv w hr hT hs hE hl

end Go.Proofs.YtkcdkfkgjjpaaaaGreatDoor

namespace Go.Proofs.YtkcdkfkgjjpaaaaGreatDoor
open Go.RowKit Go.Sort Go.Maps
set_option linter.unusedVariables false
set_option linter.unusedSimpArgs false

theorem at_nat {w : World} {g off i : Nat} {c : List Nat} (h : IntsAt w g off (c.map Int.ofNat)) (hi : i < c.length) : w.cell? ⟨g, off + i, none⟩ = some (.int .i64 ((c.getD i 0 : Nat) : Int)) := by
  have := h i (by rw [List.length_map]; exact hi)
  rw [this]
  simp [List.getD, hi]

set_option maxHeartbeats 2000000 in
set_option maxRecDepth 100000 in
theorem rank1_any {w : World} {pb qb p q : Nat} {c : List Nat} {v : Value} (hp : w.cell? ⟨pb, 0, none⟩ = some (.int .i64 (p : Nat))) (hq : w.cell? ⟨qb, 0, none⟩ = some (.int .i64 (q : Nat))) (hv : Lst w v (c.map Int.ofNat)) (hpl : p < c.length) (hql : q < c.length) (hm : c.length ≤ 1000) :
    Calls Tryz.prog 156 #[v, .pointer (some ⟨pb, 0, none⟩), .pointer (some ⟨qb, 0, none⟩)] w fun r w' => r = .returned (.bool (c.getD p 0 != c.getD q 0)) ∧ Up w w' := by
  obtain ⟨ao, cap, g, off, rfl, ha, hx⟩ := hv
  have hx1 := at_nat hx hpl
  have hx2 := at_nat hx hql
  rw [List.length_map] at ha ⊢
  obtain rfl := ha (by omega)
  obtain ⟨n, hn⟩ : ∃ n, n = c.length := ⟨_, rfl⟩
  rw [← hn] at hpl hql hm ⊢
  obtain ⟨x, hxe⟩ : ∃ x, c.getD p 0 = x := ⟨_, rfl⟩
  obtain ⟨y, hye⟩ : ∃ y, c.getD q 0 = y := ⟨_, rfl⟩
  rw [hxe] at hx1 ⊢
  rw [hye] at hx2 ⊢
  clear hx ha hn hxe hye
  by_cases hxy : x = y
  · subst hxy
    have q1 : ((x : Int) != (x : Int)) = false := by simp
    have HQ : Hid (false = (x != x)) := Lib.hid (by simp)
    go_enter Tryz.func156, Tryz.ntmps156
    go_wp2_with fail
    go_quiet (fail)
    go_wp2_with fail
    go_ret
    exact ⟨ret_bool HQ.out, (Up.refl w).drewN _⟩
  · have q1 : ((x : Int) != (y : Int)) = true := by simp; omega
    have HQ : Hid (true = (x != y)) := Lib.hid (by simp [hxy])
    clear hxy
    go_enter Tryz.func156, Tryz.ntmps156
    go_wp2_with fail
    go_quiet (fail)
    go_wp2_with fail
    go_ret
    exact ⟨ret_bool HQ.out, (Up.refl w).drewN _⟩

/-- A list of rows, as it reads. -/
def RowsRd (w : World) (v : Value) (rows : List (List Nat)) : Prop :=
  ∃ g cap, v = .slice (some ⟨g, 0, none⟩) rows.length cap ∧ ∀ i, i < rows.length → ∃ u, w.cell? ⟨g, i, none⟩ = some u ∧ Lst w u ((rows.getD i []).map Int.ofNat)

theorem RowsRd.up {w w1 : World} {v : Value} {rows : List (List Nat)} (h : RowsRd w v rows) (hu : Up w w1) : RowsRd w1 v rows := by
  obtain ⟨g, cap, hv, hr⟩ := h
  refine ⟨g, cap, hv, fun i hi => ?_⟩
  obtain ⟨u, h1, h2⟩ := hr i hi
  exact ⟨u, hu.cell h1, h2.up hu⟩

theorem RowsOf.at {w : World} {b n : Nat} {v : Value} {vs : List Value} {rows : List (List Nat)} (ho : w.ownsRow b 35 1 v n vs) (h : RowsOf b w vs rows) (hn : rows.length = n) (h0 : 0 < n) : RowsRd w v rows := by
  rcases owns_cases ho with ⟨-, h1, -⟩ | ⟨g, cap, rfl, hr, -⟩
  · omega
  · refine ⟨g, cap, by rw [hn], fun i hi => ?_⟩
    have hi2 : i < vs.length := by rw [h.1]; exact hi
    refine ⟨vs.getD i undef, hr.cell (by simp [List.getD, hi2]), owns_lst (h.2.1 i hi)⟩

/-- The first row in which two places part; -1: there is none. -/
def firstApart (rows : List (List Nat)) (p q : Nat) : Int :=
  match rows.findIdx? (fun l => l.getD p 0 != l.getD q 0) with
  | some k => (k : Int)
  | none => -1

theorem apart_hit {rows : List (List Nat)} {p q j : Nat} (hj : j < rows.length) (h : ∀ k, k < j → ((rows.getD k []).getD p 0 != (rows.getD k []).getD q 0) = false) (h1 : ((rows.getD j []).getD p 0 != (rows.getD j []).getD q 0) = true) : firstApart rows p q = j := by
  have : rows.findIdx? (fun l => l.getD p 0 != l.getD q 0) = some j := by
    rw [List.findIdx?_eq_some_iff_getElem]
    refine ⟨hj, ?_, fun k hk => ?_⟩
    · rw [getD_of [] hj]; exact h1
    · rw [getD_of [] (by omega : k < rows.length), h k hk]; simp
  unfold firstApart; rw [this]

theorem apart_none {rows : List (List Nat)} {p q : Nat} (h : ∀ k, k < rows.length → ((rows.getD k []).getD p 0 != (rows.getD k []).getD q 0) = false) : firstApart rows p q = -1 := by
  have : rows.findIdx? (fun l => l.getD p 0 != l.getD q 0) = none := by
    rw [List.findIdx?_eq_none_iff]
    intro l hl
    obtain ⟨k, hk, rfl⟩ := List.mem_iff_getElem.1 hl
    rw [getD_of [] hk]; exact h k hk
  unfold firstApart; rw [this]

set_option maxHeartbeats 800000 in
set_option maxRecDepth 100000 in
theorem index_any {w : World} {pb qb p q : Nat} {rows : List (List Nat)} {v : Value} (hp : w.cell? ⟨pb, 0, none⟩ = some (.int .i64 (p : Nat))) (hq : w.cell? ⟨qb, 0, none⟩ = some (.int .i64 (q : Nat))) (hv : RowsRd w v rows) (hm : rows.length ≤ 1001)
    (hl : ∀ c ∈ rows, p < c.length ∧ q < c.length ∧ c.length ≤ 1000) :
    Calls Tryz.prog 155 #[v, .func (.func 156) #[] #[.pointer (some ⟨pb, 0, none⟩), .pointer (some ⟨qb, 0, none⟩)]] w fun r w' => r = .returned (.int .i64 (firstApart rows p q)) ∧ Up w w' := by
  obtain ⟨g, cap, rfl, hr⟩ := hv
  obtain ⟨m, hmm⟩ : ∃ m, m = rows.length := ⟨_, rfl⟩
  rw [← hmm] at hm ⊢
  have HM := Lib.hid hmm
  have HR := Lib.hid hr
  have HL := Lib.hid hl
  have HP := Lib.hid hp
  have HQ := Lib.hid hq
  clear hmm hr hl hp hq
  go_enter Tryz.func155, Tryz.ntmps155
  go_wp2_with fail
  go_loopw [8] (fun i wr => ∃ j : Nat, j ≤ m ∧ i = .int .i64 j ∧ Up w wr ∧ Hid (∀ k, k < j → ((rows.getD k []).getD p 0 != (rows.getD k []).getD q 0) = false)) (fun i _ => m - (intOf i).toNat)
  case atStart => exact ⟨0, Nat.zero_le _, rfl, Up.refl _, fun k hk => by omega⟩
  case round =>
    obtain ⟨j, hj, rfl, hU, HE⟩ := hrel
    by_cases hlt : j < m
    · obtain ⟨u, hc, hlst⟩ := HR.out j (by rw [← HM.out]; exact hlt)
      have hmem : rows.getD j [] ∈ rows := by rw [← getD_of [] (by rw [← HM.out]; exact hlt)]; exact List.getElem_mem _
      obtain ⟨hp1, hq1, hm1⟩ := HL.out _ hmem
      have hcall : ∀ W, Up w W → Calls Tryz.prog 156 #[u, .pointer (some ⟨pb, 0, none⟩), .pointer (some ⟨qb, 0, none⟩)] W fun r w' => r = .returned (.bool ((rows.getD j []).getD p 0 != (rows.getD j []).getD q 0)) ∧ Up W w' := fun W hW =>
        rank1_any (hW.cell HP.out) (hW.cell HQ.out) (hlst.up hW) hp1 hq1 hm1
      obtain ⟨ao, ucap, ug, uoff, hue, -, -⟩ := hlst
      obtain ⟨L, hLL⟩ : ∃ L, L = ((rows.getD j []).map Int.ofNat).length := ⟨_, rfl⟩
      rw [← hLL] at hue
      subst hue
      clear hLL
      have c0 := hU.cell hc
      obtain ⟨t, ht⟩ : ∃ t, ((rows.getD j []).getD p 0 != (rows.getD j []).getD q 0) = t := ⟨_, rfl⟩
      rw [ht] at hcall
      have HT := Lib.hid ht
      have HC := Lib.hid hcall
      clear hc hmem hp1 hq1 hm1 hcall ht
      cases t
      · go_wp2_with (go_at_call 156; refine (HC.out _ hU).mono ?_; rintro r w1 ⟨rfl, hu1⟩)
        go_roundw
        case rel => exact ⟨j + 1, by omega, by go_num, hU.trans hu1, fun k hk => by
            by_cases hkj : k = j
            · rw [hkj]; exact HT.out
            · exact HE.out k (by omega)⟩
        case measure => simp [intOf] <;> omega
      · go_wp2_with (go_at_call 156; refine (HC.out _ hU).mono ?_; rintro r w1 ⟨rfl, hu1⟩)
        go_ret
        exact ⟨ret_int (apart_hit (by rw [← HM.out]; exact hlt) HE.out HT.out).symm, hU.trans hu1⟩
    · obtain rfl : j = m := by omega
      go_wp2_with fail
      go_ret
      exact ⟨ret_int (apart_none (fun k hk => HE.out k (by rw [HM.out]; exact hk))).symm, hU⟩

theorem rank_eq (s : Sy.Lts) (p q : Nat) : firstApart (Rd.rounds s) p q = Rd.rank s p q := rfl

set_option maxHeartbeats 800000 in
theorem rank_any {w : World} {p q : Nat} {rows : List (List Nat)} {v : Value} (hv : RowsRd w v rows) (hm : rows.length ≤ 1001) (hl : ∀ c ∈ rows, p < c.length ∧ q < c.length ∧ c.length ≤ 1000) :
    Calls Tryz.prog 103 #[v, .int .i64 (p : Nat), .int .i64 (q : Nat)] w fun r w' => r = .returned (.int .i64 (firstApart rows p q)) ∧ Up w w' := by
  have HI : Hid (∀ W pb qb, Up w W → W.cell? ⟨pb, 0, none⟩ = some (.int .i64 (p : Nat)) → W.cell? ⟨qb, 0, none⟩ = some (.int .i64 (q : Nat)) → Calls Tryz.prog 155 #[v, .func (.func 156) #[] #[.pointer (some ⟨pb, 0, none⟩), .pointer (some ⟨qb, 0, none⟩)]] W fun r w' => r = .returned (.int .i64 (firstApart rows p q)) ∧ Up W w') :=
    Lib.hid (fun W pb qb hW h1 h2 => index_any h1 h2 (hv.up hW) hm hl)
  obtain ⟨g, cap, rfl, -⟩ := hv
  obtain ⟨m, hmm⟩ : ∃ m, m = rows.length := ⟨_, rfl⟩
  rw [← hmm] at HI ⊢
  obtain ⟨f, hf⟩ : ∃ f, f = firstApart rows p q := ⟨_, rfl⟩
  rw [← hf] at HI ⊢
  clear hmm hf hm hl
  go_enter Tryz.func103, Tryz.ntmps103
  go_wp2_with (go_at_call 155; refine (HI.out _ _ _ (((Up.refl w).alloc _).alloc _) (by simp) (by simp)).mono ?_; rintro r w1 ⟨rfl, hu1⟩)
  go_ret
  exact ⟨rfl, (((Up.refl w).alloc _).alloc _).trans hu1⟩

end Go.Proofs.YtkcdkfkgjjpaaaaGreatDoor
