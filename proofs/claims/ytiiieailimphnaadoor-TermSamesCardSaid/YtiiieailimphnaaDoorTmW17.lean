/- Walk: Same's closure. -/
import Derived.Test.YtiiieailimphnaaDoorTmW14
import Derived.Test.YtiiieailimphnaaDoorTmW10
import Derived.Test.YtiiieailimphnaaDoorTmSeen
import Derived.StillTailTactics
import Derived.Deep.DeepCutAuto
import Derived.BigRegion
namespace Go.Proofs.YtiiieailimphnaaDoor
open Go.RowKit Go.Maps
set_option linter.unusedVariables false
set_option linter.unusedSimpArgs false

/-- The two stores, the set, the four boxes. -/
structure SameAt (w : World) (N S O bm q p1 p2 pf : Nat) (s o : List Tm.T) (sl : List (Nat × Nat)) : Prop where
  hs : St (fun k => k < N) w S s
  ho : St (fun k => k < N) w O o
  hN : N ≤ bm
  cq : w.cell? ⟨q, 0, none⟩ = some (.map (some bm))
  c1 : w.cell? ⟨p1, 0, none⟩ = some (.pointer (some ⟨S, 0, none⟩))
  c2 : w.cell? ⟨p2, 0, none⟩ = some (.pointer (some ⟨O, 0, none⟩))
  cf : w.cell? ⟨pf, 0, none⟩ = some (.func (.func 24) #[] #[.pointer (some ⟨q, 0, none⟩), .pointer (some ⟨p1, 0, none⟩), .pointer (some ⟨p2, 0, none⟩), .pointer (some ⟨pf, 0, none⟩)])
  map : w.ownsMap (H := Unit) Tryd.prog 63 unitElem bm sl.length (sset sl)
  nd : sl.Nodup
  bd : ∀ p ∈ sl, p.1 < s.length ∧ p.2 < o.length

theorem SameAt.up {w w' : World} {N S O bm q p1 p2 pf : Nat} {s o : List Tm.T} {sl : List (Nat × Nat)} (h : SameAt w N S O bm q p1 p2 pf s o sl) (hu : Up w w') : SameAt w' N S O bm q p1 p2 pf s o sl :=
  ⟨h.hs.up hu, h.ho.up hu, h.hN, hu.cell h.cq, hu.cell h.c1, hu.cell h.c2, hu.cell h.cf, ownsMap_keep h.map (hu.block _ h.map.lt), h.nd, h.bd⟩

theorem SameAt.next {w w' : World} {N S O bm q p1 p2 pf : Nat} {s o : List Tm.T} {sl sl' : List (Nat × Nat)} (h : SameAt w N S O bm q p1 p2 pf s o sl) (ht : Turned (fun k => k = bm) w w')
    (hm : w'.ownsMap (H := Unit) Tryd.prog 63 unitElem bm sl'.length (sset sl')) (hn : sl'.Nodup) (hb : ∀ p ∈ sl', p.1 < s.length ∧ p.2 < o.length) : SameAt w' N S O bm q p1 p2 pf s o sl' :=
  ⟨h.hs.turned ht (fun k _ hk e => by have := h.hN; omega), h.ho.turned ht (fun k _ hk e => by have := h.hN; omega), h.hN, ht.cell h.cq (cell_no_map h.map h.cq), ht.cell h.c1 (cell_no_map h.map h.c1), ht.cell h.c2 (cell_no_map h.map h.c2), ht.cell h.cf (cell_no_map h.map h.cf), hm, hn, hb⟩

theorem upTurned {F : Nat → Prop} {w w' : World} (h : Up w w') : Turned F w w' := (Turned.below h).newF

/-- What the closure leaves. -/
def SameDone (N S O bm q p1 p2 pf : Nat) (s o : List Tm.T) (a b : Nat) (sl : List (Nat × Nat)) (w : World) (r : Ending) (w' : World) : Prop :=
  ∃ sl', r = .returned (.bool (Tm.alike s o a b)) ∧ SameAt w' N S O bm q p1 p2 pf s o sl' ∧ Turned (fun k => k = bm) w w' ∧ (Tm.alike s o a b = true → ∀ p ∈ sl', p ∈ sl ∨ Tm.alike s o p.1 p.2 = true)

set_option maxHeartbeats 4000000 in
set_option maxRecDepth 100000 in
theorem same1_had {w : World} {N S O bm q p1 p2 pf : Nat} {s o : List Tm.T} {sl : List (Nat × Nat)} {a b : Nat} (hls : s.length ≤ 1000) (hlo : o.length ≤ 1000) (ha : a < s.length) (hb : b < o.length) (h : SameAt w N S O bm q p1 p2 pf s o sl) (hin : (a, b) ∈ sl)
    (hal : ∀ p ∈ sl, p.1 ≤ a → Tm.alike s o p.1 p.2 = true) :
    Calls Tryd.prog 24 #[.int .i64 (a : Nat), .int .i64 (b : Nat), .pointer (some ⟨q, 0, none⟩), .pointer (some ⟨p1, 0, none⟩), .pointer (some ⟨p2, 0, none⟩), .pointer (some ⟨pf, 0, none⟩)] w (SameDone N S O bm q p1 p2 pf s o a b sl w) := by
  have hkey := Lib.hid (keyOf_pk (a := a) (b := b) (by omega) (by omega))
  have hbd := h.bd
  have I1 : Hid (Maps.has (sset sl) (pk a b) = true) := Lib.hid (by rw [sset_has (fun p hp => by have := hbd p hp; omega) (by omega) (by omega), decide_eq_true hin])
  have HE : Hid (Tm.alike s o a b = true) := Lib.hid (hal (a, b) hin (Nat.le_refl _))
  have cq := h.cq
  have hql := World.block_lt_of_cell? w _ cq
  have hmap := h.map
  have HH := Lib.hid h
  obtain ⟨m, hm⟩ : ∃ m, m = sl.length := ⟨_, rfl⟩
  obtain ⟨D, hD⟩ : ∃ D, D = sset sl := ⟨_, rfl⟩
  rw [← hm, ← hD] at hmap
  rw [← hD] at I1
  clear hls hlo ha hb hin hal hbd hm hD h
  go_enter Tryd.func24, Tryd.ntmps24
  go_wp2_with (at_lookup; refine wpList_lookup_own_unit _ rfl _ _ 61 rfl 63 64 keyedS Tryd.underlying61 (zeroS _) bm m _ rfl (hmap.alloc _) _ _ rfl hkey.out ?_; rw [I1.out])
  go_ret
  have hU := ((Up.refl w).alloc (.cells #[.int .i64 (a : Nat), .int .i64 (b : Nat)] 63)).alloc (.cells #[] 64)
  exact ⟨_, ret_bool HE.out.symm, HH.out.up hU, upTurned hU, fun _ p hp => .inl hp⟩

/-- A term of a store, where it stands. -/
def TermHere (w : World) (B n j : Nat) (t : Tm.T) (g cap : Nat) (p1 : Option Addr) (q1 : Nat) (p2 : Option Addr) (q2 : Nat) : Prop :=
  w.cell? ⟨B, 0, none⟩ = some (.slice (some ⟨g, 0, none⟩) n cap) ∧ w.cell? ⟨g, j * 6, none⟩ = some (.int .i64 t.kind) ∧ w.cell? ⟨g, j * 6 + 1, none⟩ = some (.int .i64 t.label) ∧ w.cell? ⟨g, j * 6 + 2, none⟩ = some (.int .i64 t.a) ∧ w.cell? ⟨g, j * 6 + 3, none⟩ = some (.int .i64 t.b) ∧
  w.cell? ⟨g, j * 6 + 4, none⟩ = some (.slice p1 t.names.length q1) ∧ w.cell? ⟨g, j * 6 + 5, none⟩ = some (.slice p2 t.pairs.length q2) ∧ TRead w t (.slice p1 t.names.length q1) (.slice p2 t.pairs.length q2)

theorem St.termAt {F : Nat → Prop} {w : World} {B : Nat} {s : List Tm.T} (h : St F w B s) {j : Nat} (hj : j < s.length) : ∃ g cap p1 q1 p2 q2, TermHere w B s.length j s[j] g cap p1 q1 p2 q2 := by
  obtain ⟨g, cap, vm, nv, pv, hb, hc, ho, -⟩ := h.term hj
  obtain ⟨p1, q1, rfl⟩ := owns_shape' ho.n
  obtain ⟨p2, q2, rfl⟩ := owns_shape' ho.p
  exact ⟨g, cap, p1, q1, p2, q2, (box2 hb).1, hc 0 _ (by omega) rfl, hc 1 _ (by omega) rfl, hc 2 _ (by omega) rfl, hc 3 _ (by omega) rfl, hc 4 _ (by omega) rfl, hc 5 _ (by omega) rfl, ho.read⟩

theorem heapUp {w : World} {g : Nat} {o o' : Obj} (h : w.heap[g]? = some o) : (w.alloc o').heap[g]? = some o :=
  (Below.heap_alloc _ _ _ (Array.getElem?_eq_some_iff.1 h).1).trans h
theorem heapDrew {w : World} {g : Nat} {o : Obj} (h : w.heap[g]? = some o) : w.drew.heap[g]? = some o := h
theorem heapNew {w : World} {g : Nat} {o : Obj} (h : g = w.heap.size) : (w.alloc o).heap[g]? = some o := by rw [h]; exact heap_alloc_new w o

/-- Two terms in boxes. -/
def BoxXY (w : World) (A B : Obj) (v u : Value) (w' : World) : Prop := ∃ k1 k2, v = .pointer (some ⟨k1, 0, none⟩) ∧ u = .pointer (some ⟨k2, 0, none⟩) ∧ w'.heap[k1]? = some A ∧ w'.heap[k2]? = some B ∧ Up w w'

/-- A truth value. -/
def BoolUp (b : Bool) (w : World) (v : Value) (w' : World) : Prop := v = .bool b ∧ Up w w'

theorem zip_all {xs ys : List Int} (f : Int → Int → Bool) (hl : xs.length = ys.length) : ((List.zip xs ys).all fun p => f p.1 p.2) = true ↔ ∀ i, i < xs.length → f (xs.getD i 0) (ys.getD i 0) = true := by
  rw [List.all_eq_true]
  constructor
  · intro h i hi
    have := h (xs[i], ys[i]) (List.mem_iff_getElem.2 ⟨i, by simp; omega, by simp⟩)
    have hi' : i < ys.length := by omega
    simpa [List.getD, hi, hi'] using this
  · intro h p hp
    obtain ⟨i, hi, rfl⟩ := List.mem_iff_getElem.1 hp
    rw [List.length_zip] at hi
    have h1 : i < xs.length := by omega
    have h2 : i < ys.length := by omega
    have := h i h1
    simpa [List.getD, h1, h2] using this

theorem parts_len {x y : Tm.T} (h : x.kind = y.kind) : x.parts.length = y.parts.length := by
  unfold Tm.T.parts
  rw [h]
  split
  · rfl
  · split <;> rfl

theorem Lst.turnedMap {w w' : World} {bm n : Nat} {D : DataW Unit} {R : Value → Option (DataW Unit × List MemPlace)} {k : TypeId} {v : Value} {xs : List Int} (h : Lst w v xs) (hm : w.ownsMap Tryd.prog k R bm n D) (ht : Turned (fun k => k = bm) w w') : Lst w' v xs := by
  obtain ⟨ao, cap, g, off, hv, ha, hx⟩ := h
  exact ⟨ao, cap, g, off, hv, ha, fun i hi => ht.cell (hx i hi) (cell_no_map hm (hx i hi))⟩

theorem getD_mem {l : List Int} {i : Nat} (h : i < l.length) : l.getD i 0 ∈ l := by
  simp [List.getD, h]

/-- What the call for a part leaves. -/
def PartDone (N S O bm q p1 p2 pf : Nat) (s o : List Tm.T) (bb : Bool) (slr : List (Nat × Nat)) (W : World) (r : Ending) (w' : World) : Prop :=
  ∃ sl', r = .returned (.bool bb) ∧ SameAt w' N S O bm q p1 p2 pf s o sl' ∧ Turned (fun k => k = bm) W w' ∧ (bb = true → ∀ p ∈ sl', p ∈ slr ∨ Tm.alike s o p.1 p.2 = true)

/-- Behind so many parts. -/
def RoundAt (N S O bm q p1 p2 pf : Nat) (s o : List Tm.T) (w w5 : World) (sl : List (Nat × Nat)) (a b : Nat) (xs ys : List Int) (j : Nat) (wr : World) : Prop :=
  ∃ sl', SameAt wr N S O bm q p1 p2 pf s o sl' ∧ Turned (fun k => k = bm) w wr ∧ Turned (fun k => k = bm) w5 wr ∧ (∀ p ∈ sl', p ∈ sl ∨ p = (a, b) ∨ Tm.alike s o p.1 p.2 = true) ∧ ∀ i, i < j → Tm.alike s o (xs.getD i 0).toNat (ys.getD i 0).toNat = true

set_option maxHeartbeats 8000000 in
set_option maxRecDepth 100000 in
theorem same1_new {w : World} {N S O bm q p1 p2 pf : Nat} {s o : List Tm.T} {sl : List (Nat × Nat)} {a b : Nat} (hls : s.length ≤ 1000) (hlo : o.length ≤ 1000) (ha : a < s.length) (hb : b < o.length) (h : SameAt w N S O bm q p1 p2 pf s o sl) (hin : (a, b) ∉ sl)
    (hal : ∀ p ∈ sl, p.1 ≤ a → Tm.alike s o p.1 p.2 = true)
    (IH : ∀ (a' b' : Nat) (sl' : List (Nat × Nat)) (w' : World), a' < a → b' < o.length → SameAt w' N S O bm q p1 p2 pf s o sl' → (∀ p ∈ sl', p.1 ≤ a' → Tm.alike s o p.1 p.2 = true) →
      Calls Tryd.prog 24 #[.int .i64 (a' : Nat), .int .i64 (b' : Nat), .pointer (some ⟨q, 0, none⟩), .pointer (some ⟨p1, 0, none⟩), .pointer (some ⟨p2, 0, none⟩), .pointer (some ⟨pf, 0, none⟩)] w' (SameDone N S O bm q p1 p2 pf s o a' b' sl' w')) :
    Calls Tryd.prog 24 #[.int .i64 (a : Nat), .int .i64 (b : Nat), .pointer (some ⟨q, 0, none⟩), .pointer (some ⟨p1, 0, none⟩), .pointer (some ⟨p2, 0, none⟩), .pointer (some ⟨pf, 0, none⟩)] w (SameDone N S O bm q p1 p2 pf s o a b sl w) := by
  have hkey := Lib.hid (keyOf_pk (a := a) (b := b) (by omega) (by omega))
  have hbd := h.bd
  have I1 : Hid (Maps.has (sset sl) (pk a b) = false) := Lib.hid (by rw [sset_has (fun p hp => by have := hbd p hp; omega) (by omega) (by omega), decide_eq_false hin])
  have hml := seen_le h.nd (fun p hp => by have := hbd p hp; omega)
  have hIA := h.hs.inv
  have hIB := h.ho.inv
  have hsx := Tm.may_small (hIA.may_mem (List.getElem_mem ha)) hls
  have hsy := Tm.may_small (hIB.may_mem (List.getElem_mem hb)) hlo
  have HEQ := Lib.hid (Tm.alike_eq hIA ha hb)
  have HPX := Lib.hid (Tm.parts_lt (hIA.may a ha))
  have HPY := Lib.hid (Tm.parts_lt (hIB.may b hb))
  have HNEXT : Hid (∀ w1, Turned (fun k => k = bm) w w1 → w1.ownsMap (H := Unit) Tryd.prog 63 unitElem bm (sl.length + 1) ((sset sl).put (pk a b) (.agg [])) → SameAt w1 N S O bm q p1 p2 pf s o (sl ++ [(a, b)])) := Lib.hid (fun w1 ht hm => by
    refine h.next ht (by rw [List.length_append, sset_snoc]; exact hm) ?_ ?_
    · exact List.nodup_append.2 ⟨h.nd, by simp, fun p hp p' hp' e => by rw [List.mem_singleton] at hp'; subst hp'; subst e; exact hin hp⟩
    · intro p hp
      rcases List.mem_append.1 hp with hp | hp
      · exact hbd p hp
      · rw [List.mem_singleton] at hp; subst hp; exact ⟨ha, hb⟩)
  have HX : Hid (∀ w1, SameAt w1 N S O bm q p1 p2 pf s o (sl ++ [(a, b)]) → ∃ g cap n1 c1 n2 c2, TermHere w1 S s.length a s[a] g cap n1 c1 n2 c2) := Lib.hid (fun w1 h1 => h1.hs.termAt ha)
  have HY : Hid (∀ w1, SameAt w1 N S O bm q p1 p2 pf s o (sl ++ [(a, b)]) → ∃ g cap n1 c1 n2 c2, TermHere w1 O o.length b o[b] g cap n1 c1 n2 c2) := Lib.hid (fun w1 h1 => h1.ho.termAt hb)
  obtain ⟨x, hx⟩ : ∃ t, t = s[a] := ⟨_, rfl⟩
  obtain ⟨y, hy⟩ : ∃ t, t = o[b] := ⟨_, rfl⟩
  rw [← hx] at HEQ HPX HX hsx
  rw [← hy] at HEQ HPY HY hsy
  obtain ⟨n1, hn1⟩ : ∃ n, n = s.length := ⟨_, rfl⟩
  obtain ⟨n2, hn2⟩ : ∃ n, n = o.length := ⟨_, rfl⟩
  have cq := h.cq
  have hql := World.block_lt_of_cell? w _ cq
  have hmap := h.map
  have HAL := Lib.hid hal
  have HIH := Lib.hid IH
  have HN1 := Lib.hid hn1
  have HN2 := Lib.hid hn2
  obtain ⟨m, hm⟩ : ∃ m, m = sl.length := ⟨_, rfl⟩
  obtain ⟨D, hD⟩ : ∃ D, D = sset sl := ⟨_, rfl⟩
  obtain ⟨sl1, hsl1⟩ : ∃ l, l = sl ++ [(a, b)] := ⟨_, rfl⟩
  rw [← hm, ← hD] at hmap HNEXT
  rw [← hD] at I1
  rw [← hm] at hml
  rw [← hsl1] at HNEXT HX HY
  rw [← hn1] at HX ha hls
  rw [← hn2] at HY hb hlo
  have HSL := Lib.hid hsl1
  clear hin hal IH hbd hm hD h hx hy hn1 hn2 hIA hIB hsl1
  go_enter Tryd.func24, Tryd.ntmps24
  go_upto_region 6 with (first
    | (at_lookup; refine wpList_lookup_own_unit _ rfl _ _ 61 rfl 63 64 keyedS Tryd.underlying61 (zeroS _) bm m _ rfl (hmap.alloc _) _ _ rfl hkey.out ?_; rw [I1.out])
    | (at_mapUpdate; refine wpList_mapUpdate_own _ rfl _ _ _ 61 rfl 63 64 keyedS Tryd.underlying61 (unitElem (H := Unit)) bm m _ rfl ((hmap.alloc _).alloc _) (by unfold maxLen; omega) _ _ _ rfl rfl hkey.out _ [] unitElem_mk ?_; intro w1 hown1 hgrow1))
  have hT1 : Turned (fun k => k = bm) w w1 := (((Turned.refl _ w).alloc _).alloc _).grown hgrow1 (fun k hk => .inl (by cases hk; rfl))
  have hS1 := HNEXT.out w1 hT1 hown1
  obtain ⟨g1, cap1, x1, d1, x2, d2, cS, a0, a1, a2, a3, a4, a5, hrx⟩ := HX.out w1 hS1
  obtain ⟨g2, cap2, y1, e1, y2, e2, cO, b0, b1, b2, b3, b4, b5, hry⟩ := HY.out w1 hS1
  have c1 := hS1.c1
  have c2 := hS1.c2
  obtain ⟨bn, hbn⟩ : ∃ bn, bn = decide (x.names = y.names) := ⟨_, rfl⟩
  obtain ⟨bp, hbp⟩ : ∃ bp, bp = decide (x.pairs = y.pairs) := ⟨_, rfl⟩
  have HEI : Hid (∀ W, Up w1 W → Calls Tryd.prog 25 #[.slice x1 x.names.length d1, .slice y1 y.names.length e1] W (Eql W bn)) := Lib.hid (fun W hW => by rw [hbn]; exact equal_ints (hrx.n.up hW) (hry.n.up hW) (by omega) (by omega))
  have HEP : Hid (∀ W, Up w1 W → Calls Tryd.prog 26 #[.slice x2 x.pairs.length d2, .slice y2 y.pairs.length e2] W (Eql W bp)) := Lib.hid (fun W hW => by rw [hbp]; exact equal_pairs (hrx.p.up hW) (hry.p.up hW) (by omega) (by omega))
  have HHD : Hid (x.head y = (decide (x.kind = y.kind) && decide (x.label = y.label) && bn && bp && (decide (x.kind ≠ 7) || decide (x.a = y.a)))) := Lib.hid (by rw [hbn, hbp]; rfl)
  obtain ⟨l1, hl1⟩ : ∃ l, l = x.names.length := ⟨_, rfl⟩
  obtain ⟨l2, hl2⟩ : ∃ l, l = x.pairs.length := ⟨_, rfl⟩
  obtain ⟨l3, hl3⟩ : ∃ l, l = y.names.length := ⟨_, rfl⟩
  obtain ⟨l4, hl4⟩ : ∃ l, l = y.pairs.length := ⟨_, rfl⟩
  rw [← hl1, ← hl3] at HEI
  rw [← hl2, ← hl4] at HEP
  rw [← hl1] at a4
  rw [← hl2] at a5
  rw [← hl3] at b4
  rw [← hl4] at b5
  have q1 := World.block_lt_of_cell? w1 _ c1
  have q2 := World.block_lt_of_cell? w1 _ c2
  have q3 := World.block_lt_of_cell? w1 _ cS
  have q4 := World.block_lt_of_cell? w1 _ cO
  have q5 := World.block_lt_of_cell? w1 _ a0
  have q6 := World.block_lt_of_cell? w1 _ b0
  simp only at q1 q2 q3 q4 q5 q6
  have i1 : (a : Int) < (n1 : Int) := by omega
  have i2 : (b : Int) < (n2 : Int) := by omega
  have HT1 := Lib.hid hT1
  have HS1 := Lib.hid hS1
  clear hrx hry hbn hbp hl1 hl2 hl3 hl4 hsx hsy hmap hgrow1 hown1 cq hql hT1 hS1 HX HY hkey I1 hml HNEXT
  go_frame
  go_cut [12, 13] (BoxXY w1 (.cells #[.int .i64 x.kind, .int .i64 x.label, .int .i64 x.a, .int .i64 x.b, .slice x1 l1 d1, .slice x2 l2 d2] 33 (0, 0)) (.cells #[.int .i64 y.kind, .int .i64 y.label, .int .i64 y.a, .int .i64 y.b, .slice y1 l3 e1, .slice y2 l4 e2] 33 (0, 0)))
  case first =>
    as_aux_lemma =>
      go_region
      all_goals go_wp2_with fail
      all_goals go_meet
      all_goals exact ⟨_, _, rfl, rfl,
        (by repeat (first | ((with_reducible apply heapNew); (simp; done)) | (with_reducible apply heapUp) | (with_reducible apply heapDrew))),
        (by repeat (first | ((with_reducible apply heapNew); (simp; done)) | (with_reducible apply heapUp) | (with_reducible apply heapDrew))),
        (by repeat (first | (with_reducible exact Up.refl _) | (with_reducible apply Up.drew) | (with_reducible apply Up.drewN) | (with_reducible apply Up.alloc)))⟩
  case rest =>
  obtain ⟨k1, k2, rfl, rfl, hk1, hk2, hU2⟩ := hcut
  obtain ⟨w2, rfl⟩ : ∃ x, x = wc := ⟨_, rfl⟩
  clear c1 c2 cS cO a0 a1 a2 a3 a4 a5 b0 b1 b2 b3 b4 b5 q1 q2 q3 q4 q5 q6 i1 i2
  have HK1 : Hid (∀ W, Up w2 W → W.heap[k1]? = some (.cells #[.int .i64 x.kind, .int .i64 x.label, .int .i64 x.a, .int .i64 x.b, .slice x1 l1 d1, .slice x2 l2 d2] 33 (0, 0))) := Lib.hid (fun W hW => (hW.block _ (lt_of_block' hk1)).trans hk1)
  have HK2 : Hid (∀ W, Up w2 W → W.heap[k2]? = some (.cells #[.int .i64 y.kind, .int .i64 y.label, .int .i64 y.a, .int .i64 y.b, .slice y1 l3 e1, .slice y2 l4 e2] 33 (0, 0))) := Lib.hid (fun W hW => (hW.block _ (lt_of_block' hk2)).trans hk2)
  obtain ⟨a0, a1, a2, a3, a4, a5, -⟩ := six_cells hk1
  obtain ⟨b0, b1, b2, b3, b4, b5, -⟩ := six_cells hk2
  have HU2 := Lib.hid hU2
  clear hk1 hk2 hU2
  obtain ⟨hd, hhd⟩ : ∃ hd, hd = x.head y := ⟨_, rfl⟩
  rw [← hhd] at HHD HEQ
  have HHE := Lib.hid hhd
  clear hhd
  go_upto_region 7 with fail
  go_cut [83] (BoolUp (!hd) w2)
  case first =>
    as_aux_lemma =>
      go_wp2_with (first
        | (go_at_call 25; (with_reducible refine (HEI.out _ HU2.out).mono ?_); rintro e w3 ⟨rfl, hU3⟩; clear a0 a1 a2 a3 a4 a5 b0 b1 b2 b3 b4 b5; (obtain ⟨a0, a1, a2, a3, a4, a5, -⟩ := six_cells (HK1.out _ hU3)); (obtain ⟨b0, b1, b2, b3, b4, b5, -⟩ := six_cells (HK2.out _ hU3)); (replace hU3 := Lib.hid hU3))
        | (go_at_call 26; (with_reducible refine (HEP.out _ (HU2.out.trans hU3.out)).mono ?_); rintro e w4 ⟨rfl, hU4⟩; clear a0 a1 a2 a3 a4 a5 b0 b1 b2 b3 b4 b5; (replace hU4 := Lib.hid (hU3.out.trans hU4)); (obtain ⟨a0, a1, a2, a3, a4, a5, -⟩ := six_cells (HK1.out _ hU4.out)); (obtain ⟨b0, b1, b2, b3, b4, b5, -⟩ := six_cells (HK2.out _ hU4.out))))
      all_goals go_meet
      all_goals refine ⟨?_, ?_⟩
      all_goals first
        | exact hU4.out
        | exact hU3.out
        | exact Up.refl _
        | (rw [HHD.out]; by_cases hq : x.a = y.a <;> simp_all; done)
  case rest =>
  obtain ⟨rfl, hUa⟩ := hcut
  obtain ⟨w3, rfl⟩ : ∃ x, x = wc := ⟨_, rfl⟩
  have hU3 := HU2.out.trans hUa
  have hT3 : Turned (fun k => k = bm) w w3 := HT1.out.trans (upTurned (F := fun k => k = bm) hU3) (fun i hi h => h)
  have hS3 := HS1.out.up hU3
  have hc1 := HK1.out _ hUa
  have hc2 := HK2.out _ hUa
  clear a0 a1 a2 a3 a4 a5 b0 b1 b2 b3 b4 b5 HK1 HK2 HU2 HT1 HS1 hUa hU3 HHD HEI HEP
  cases hd
  · have HE : Hid (Tm.alike s o a b = false) := Lib.hid (by rw [HEQ.out, Bool.false_and])
    clear hc1 hc2
    go_wp2_with fail
    go_ret
    exact ⟨sl1, ret_bool HE.out.symm, hS3, hT3, fun h => by rw [HE.out] at h; cases h⟩
  obtain ⟨mp, hmp⟩ : ∃ m, m = x.parts.length := ⟨_, rfl⟩
  have hlen : y.parts.length = mp := by rw [hmp]; exact (parts_len ((Tm.head_iff x y).1 HHE.out.symm).1).symm
  have HPCX : Hid (∀ W, Calls Tryd.prog 27 #[.agg #[.int .i64 x.kind, .int .i64 x.label, .int .i64 x.a, .int .i64 x.b, .slice x1 l1 d1, .slice x2 l2 d2]] W (PartsDone x W)) := Lib.hid (fun W => parts_lit x _ _ W)
  have HPCY : Hid (∀ W, Calls Tryd.prog 27 #[.agg #[.int .i64 y.kind, .int .i64 y.label, .int .i64 y.a, .int .i64 y.b, .slice y1 l3 e1, .slice y2 l4 e2]] W (PartsDone y W)) := Lib.hid (fun W => parts_lit y _ _ W)
  have HMP := Lib.hid hmp
  have HLEN := Lib.hid hlen
  have hmp2 : mp ≤ 2 := by rw [hmp]; exact parts_le x
  have HEND : Hid (Tm.alike s o a b = true ↔ ∀ i, i < mp → Tm.alike s o (x.parts.getD i 0).toNat (y.parts.getD i 0).toNat = true) := Lib.hid (by
    rw [HEQ.out, Bool.true_and, hmp]
    exact zip_all (fun p q => Tm.alike s o p.toNat q.toNat) (by rw [hlen, hmp]))
  obtain ⟨b0, b1, b2, b3, b4, b5, -⟩ := six_cells hc2
  have HC1 := Lib.hid hc1
  have HT3 := Lib.hid hT3
  have HS3 := Lib.hid hS3
  clear hc1 hc2 hmp hlen HEQ HHE hT3 hS3
  go_wp2_with fail
  (with_reducible refine (HPCY.out _).mono ?_)
  rintro e w4 ⟨v4, rfl, hL4, hb4⟩
  obtain ⟨ao4, cap4, g4, off4, rfl, ha4, hx4⟩ := hL4
  rw [HLEN.out] at ha4 ⊢
  have HA4 := Lib.hid ha4
  have HX4 := Lib.hid hx4
  have HU4 : Hid (Up w3 w4) := Lib.hid hb4
  obtain ⟨a0, a1, a2, a3, a4, a5, -⟩ := six_cells ((HU4.out.block _ (lt_of_block' HC1.out)).trans HC1.out)
  clear ha4 hx4 hb4 b0 b1 b2 b3 b4 b5
  go_wp2_with fail
  (with_reducible refine (HPCX.out _).mono ?_)
  rintro e w5 ⟨v5, rfl, hL5, hb5⟩
  obtain ⟨ao5, cap5, g5, off5, rfl, ha5, hx5⟩ := hL5
  rw [← HMP.out] at ha5 ⊢
  have HA5 := Lib.hid ha5
  have HX5 := Lib.hid hx5
  have HU5 : Hid (Up w4 w5) := Lib.hid hb5
  have hU35 := HU4.out.trans HU5.out
  have hS5 := HS3.out.up hU35
  have hT5 : Turned (fun k => k = bm) w w5 := HT3.out.trans (upTurned (F := fun k => k = bm) hU35) (fun i hi h => h)
  have HS5 := Lib.hid hS5
  clear ha5 hx5 hb5 a0 a1 a2 a3 a4 a5 hS5 hU35 HC1 HS3 HT3 HPCX HPCY
  go_wp2_with fail
  go_loopw [89] (fun i wr => ∃ j : Nat, j ≤ mp ∧ i = .int .i64 j ∧ RoundAt N S O bm q p1 p2 pf s o w w5 sl a b x.parts y.parts j wr) (fun i _ => mp - (intOf i).toNat)
  case atStart => exact ⟨0, Nat.zero_le _, rfl, sl1, HS5.out, hT5, Turned.refl _ _, fun p hp => by
    rw [HSL.out] at hp
    rcases List.mem_append.1 hp with hp | hp
    · exact .inl hp
    · exact .inr (.inl (List.mem_singleton.1 hp)), fun i hi => by omega⟩
  case round =>
    clear hT5
    obtain ⟨j, hj, rfl, slr, hSr, hTr, hT5, hpr, hjr⟩ := hrel
    by_cases hlt : j < mp
    · obtain rfl := HA4.out (by omega)
      obtain rfl := HA5.out (by omega)
      have hm5 := HS5.out.map
      have cx := HX5.out j (by rw [← HMP.out]; exact hlt)
      have cx := hT5.cell cx (cell_no_map hm5 cx)
      have cy := HU5.out.cell (HX4.out j (by rw [HLEN.out]; exact hlt))
      have cy := hT5.cell cy (cell_no_map hm5 cy)
      have px := HPX.out (x.parts.getD j 0) (getD_mem (by rw [← HMP.out]; exact hlt))
      have py := HPY.out (y.parts.getD j 0) (getD_mem (by rw [HLEN.out]; exact hlt))
      obtain ⟨ka, hka⟩ : ∃ k : Nat, x.parts.getD j 0 = (k : Int) := ⟨(x.parts.getD j 0).toNat, by omega⟩
      obtain ⟨kb, hkb⟩ : ∃ k : Nat, y.parts.getD j 0 = (k : Int) := ⟨(y.parts.getD j 0).toNat, by omega⟩
      rw [hka] at cx px
      rw [hkb] at cy py
      obtain ⟨bb, hbb⟩ : ∃ bb, bb = Tm.alike s o ka kb := ⟨_, rfl⟩
      have HJ : Hid (Tm.alike s o (x.parts.getD j 0).toNat (y.parts.getD j 0).toNat = bb) := Lib.hid (by rw [hka, hkb, hbb]; simp)
      have HCALL : Hid (∀ W, Up wr W → Calls Tryd.prog 24 #[.int .i64 (ka : Nat), .int .i64 (kb : Nat), .pointer (some ⟨q, 0, none⟩), .pointer (some ⟨p1, 0, none⟩), .pointer (some ⟨p2, 0, none⟩), .pointer (some ⟨pf, 0, none⟩)] W (PartDone N S O bm q p1 p2 pf s o bb slr W)) := Lib.hid (fun W hW => by
        rw [hbb]
        exact HIH.out ka kb slr W (by omega) (by have := HN2.out; omega) (hSr.up hW) (fun p hp hpl => (hpr p hp).elim (fun h => HAL.out p h (by omega)) (fun h => h.elim (fun e => by subst e; simp only at hpl; omega) id)))
      have cf := hSr.cf
      have HTR := Lib.hid hTr
      have HT5 := Lib.hid hT5
      have HPR := Lib.hid hpr
      have HJR := Lib.hid hjr
      clear hm5 px py hka hkb hbb hSr hTr hT5 hpr hjr
      cases bb
      · have HE : Hid (Tm.alike s o a b = false) := Lib.hid (by
          cases hq : Tm.alike s o a b
          · rfl
          · have := (HEND.out.1 hq) j hlt
            rw [HJ.out] at this; cases this)
        go_wp2_with fail
        go_still_tail 6, (by kernel_rfl)
        change wpList _ _ _ _ _ wr.drew
        obtain ⟨w7, hw7⟩ : ∃ w7, wr.drew = w7 := ⟨_, rfl⟩
        have hU7 : Up wr w7 := by rw [← hw7]; exact (Up.refl wr).drew
        rw [hw7]
        clear hw7
        go_wp2_with (go_at_call 24; (with_reducible refine (HCALL.out _ hU7).mono ?_); rintro e w8 ⟨sl8, rfl, hS8, hT8, -⟩)
        go_ret
        exact ⟨sl8, ret_bool HE.out.symm, hS8, (HTR.out.trans (upTurned (F := fun k => k = bm) hU7) (fun i hi h => h)).trans hT8 (fun i hi h => h), fun h => by rw [HE.out] at h; cases h⟩
      · go_wp2_with fail
        go_still_tail 6, (by kernel_rfl)
        change wpList _ _ _ _ _ wr.drew
        obtain ⟨w7, hw7⟩ : ∃ w7, wr.drew = w7 := ⟨_, rfl⟩
        have hU7 : Up wr w7 := by rw [← hw7]; exact (Up.refl wr).drew
        rw [hw7]
        clear hw7
        go_wp2_with (go_at_call 24; (with_reducible refine (HCALL.out _ hU7).mono ?_); rintro e w8 ⟨sl8, rfl, hS8, hT8, hA8⟩; (replace hA8 := Lib.hid (hA8 rfl)))
        go_roundw
        case rel => exact ⟨j + 1, by omega, by go_num, sl8, hS8, (HTR.out.trans (upTurned (F := fun k => k = bm) hU7) (fun i hi h => h)).trans hT8 (fun i hi h => h), (HT5.out.trans (upTurned (F := fun k => k = bm) hU7) (fun i hi h => h)).trans hT8 (fun i hi h => h),
          (fun p hp => (hA8.out p hp).elim (fun h => HPR.out p h) (fun h => .inr (.inr h))), (fun i hi => by
            by_cases hij : i = j
            · rw [hij]; exact HJ.out
            · exact HJR.out i (by omega))⟩
        case measure => simp [intOf] <;> omega
    · obtain rfl : j = mp := by omega
      have HE : Hid (Tm.alike s o a b = true) := Lib.hid (HEND.out.2 hjr)
      go_wp2_with fail
      go_ret
      exact ⟨slr, ret_bool HE.out.symm, hSr, hTr, fun _ p hp => (hpr p hp).elim .inl (fun h => .inr (h.elim (fun e => by rw [e]; exact HE.out) id))⟩

theorem same1_any {N S O bm q p1 p2 pf : Nat} {s o : List Tm.T} (hls : s.length ≤ 1000) (hlo : o.length ≤ 1000) : ∀ (n a b : Nat) (sl : List (Nat × Nat)) (w : World), a < n → a < s.length → b < o.length → SameAt w N S O bm q p1 p2 pf s o sl → (∀ p ∈ sl, p.1 ≤ a → Tm.alike s o p.1 p.2 = true) →
    Calls Tryd.prog 24 #[.int .i64 (a : Nat), .int .i64 (b : Nat), .pointer (some ⟨q, 0, none⟩), .pointer (some ⟨p1, 0, none⟩), .pointer (some ⟨p2, 0, none⟩), .pointer (some ⟨pf, 0, none⟩)] w (SameDone N S O bm q p1 p2 pf s o a b sl w) := by
  intro n
  induction n with
  | zero => intro a b sl w h; omega
  | succ n ih =>
    intro a b sl w hn ha hb h hal
    by_cases hin : (a, b) ∈ sl
    · exact same1_had hls hlo ha hb h hin hal
    · exact same1_new hls hlo ha hb h hin hal (fun a' b' sl' w' h1 h2 h3 h4 => ih a' b' sl' w' (by omega) (by omega) h2 h3 h4)

end Go.Proofs.YtiiieailimphnaaDoor
