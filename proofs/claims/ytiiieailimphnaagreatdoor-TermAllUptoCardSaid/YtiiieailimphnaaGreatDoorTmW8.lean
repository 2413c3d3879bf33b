/- Walks: an error of the layer, asked, Put where the term may not be put, Put of a term that stands there. -/
import Derived.Test.YtiiieailimphnaaGreatDoorTmW7
import Derived.Test.YtiiieailimphnaaGreatDoorTmW5
import Derived.Test.YtiiieailimphnaaGreatDoorTmW4
import Derived.Maps.OwnSet
namespace Go.Proofs.YtiiieailimphnaaGreatDoor
open Go.RowKit Go.Maps
set_option linter.unusedVariables false
set_option linter.unusedSimpArgs false

/-- The layer's name, as the program has it. -/
def layerTerm : ByteArray := { data := #[116, 101, 114, 109] }

/-- An error of the layer stands in memory. -/
def FaultT (w : World) (pb : Nat) (xt : TypeId) (xv : Value) : Prop := w.heap[pb]? = some (.cells #[.string layerTerm, .int .i64 0, .int .i64 0, .iface xt xv] 123 (0, 0))

theorem FaultT.up {w w1 : World} {pb : Nat} {xt : TypeId} {xv : Value} (h : FaultT w pb xt xv) (hu : Up w w1) : FaultT w1 pb xt xv := (hu.block pb (lt_of_block' h)).trans h

set_option maxHeartbeats 400000 in
theorem faultNewT (xt : TypeId) (xv : Value) (w : World) :
    Calls Tryz.prog 82 #[.string { data := #[116, 101, 114, 109] }, .iface xt xv] w fun e w' => ∃ pb, e = .returned (.iface 120 (.pointer (some ⟨pb, 0, none⟩))) ∧ FaultT w' pb xt xv ∧ w.heap.size ≤ pb ∧ Below w.heap.size w w' := by
  go_enter Tryz.func82, Tryz.ntmps82
  go_wp2_with fail
  go_ret
  exact ⟨w.heap.size, rfl, heap_alloc_new w _, Nat.le_refl _, (Below.refl _ _).alloc (Nat.le_refl _) _⟩

theorem Tryz.strLaw : Keyed Tryz.prog 9 := string_keyed Tryz.underlying9
theorem Tryz.intZero (w : World) : (zeroValue 3).run Tryz.prog w = .ok (.int .i64 0) w := by kernel_rfl
theorem Tryz.termInfo : (Tryz.prog.info? 35).map (fun i => (i.zero, i.size, i.bytes)) = some (some (.agg #[.int .i64 0, .int .i64 0, .int .i64 0, .int .i64 0, .slice none 0 0, .slice none 0 0]), 6, 80) := by kernel_rfl

theorem tlit (t : Tm.T) (nv pv : Value) : tv t nv pv = .agg #[.int .i64 t.kind, .int .i64 t.label, .int .i64 t.a, .int .i64 t.b, nv, pv] := rfl

theorem mayPut_lit (t : Tm.T) (nv pv : Value) (B : Nat) (ao : Option Addr) (n cap : Nat) (vm : Value) (b : Bool) (w : World) (h : TRead w t nv pv) (hn : t.names.length ≤ 9223372036854775807) (hp : t.pairs.length ≤ 9223372036854775807)
    (hb : w.heap[B]? = some (.cells #[.slice ao n cap, vm] 71 (0, 0))) (hm : t.may n = b) :
    Calls Tryz.prog 81 #[.pointer (some ⟨B, 0, none⟩), .agg #[.int .i64 t.kind, .int .i64 t.label, .int .i64 t.a, .int .i64 t.b, nv, pv]] w fun e w' => e = .returned (.bool b) ∧ Up w w' := by
  subst hm
  exact mayPut_any t nv pv B ao n cap vm w h hn hp hb

theorem key_lit (t : Tm.T) (nv pv : Value) (w : World) (h : TRead w t nv pv) (hT : Tab w) {n : Nat} (hm : t.may n = true) (hn : n ≤ 1000) :
    Calls Tryz.prog 83 #[.agg #[.int .i64 t.kind, .int .i64 t.label, .int .i64 t.a, .int .i64 t.b, nv, pv]] w (KeyDone t w) := by
  obtain ⟨h1, h2, h3, h4, h5, h6, h7, h8, h9, h10, h11, h12⟩ := Tm.may_small hm hn
  exact key_any t nv pv w h hT (by omega) (by omega) (by omega) (by omega) h9 h10 h11 h12

theorem enc_le {s : List Int} (h : ∀ x ∈ s, 0 ≤ x ∧ x < 1000) : (Tm.enc s).length ≤ 22 * s.length := by
  induction s with
  | nil => simp [Tm.enc]
  | cons x s ih =>
    have hx := h x List.mem_cons_self
    have := Lib.itoa_length_le x (by omega) (by omega)
    have := ih (fun y hy => h y (List.mem_cons_of_mem _ hy))
    rw [Tm.enc_cons]; simp only [List.length_append, List.length_cons]; omega

theorem flat_len (l : List (Int × Int)) : (Tm.flat l).length = 2 * l.length := by
  induction l with
  | nil => rfl
  | cons p l ih => simp [Tm.flat] at ih ⊢; omega

theorem seq_small {n : Nat} {t : Tm.T} (hm : t.may n = true) (hn : n ≤ 1000) : t.seq.length ≤ 400 ∧ ∀ x ∈ t.seq, 0 ≤ x ∧ x < 1000 := by
  obtain ⟨h1, h2, h3, h4, h5, h6, h7, h8, h9, h10, h11, h12⟩ := Tm.may_small hm hn
  constructor
  · rw [Tm.T.seq]; simp only [List.length_append, List.length_cons, List.length_nil, flat_len]; omega
  · intro x hx
    rw [Tm.T.seq] at hx
    simp only [List.mem_append, List.mem_cons, List.not_mem_nil, or_false] at hx
    rcases hx with (hx | hx) | hx
    · omega
    · have := h11 x hx; omega
    · simp only [Tm.flat, List.mem_flatMap, List.mem_cons, List.not_mem_nil, or_false] at hx
      obtain ⟨p, hp, hx⟩ := hx
      have := h12 p hp; omega

theorem keyOf_t {n : Nat} {t : Tm.T} (hm : t.may n = true) (hn : n ≤ 1000) : keyOf Tryz.prog 9 (.string ⟨(Tm.enc t.seq).toArray⟩) = some (Tm.kl t) := by
  obtain ⟨h1, h2⟩ := seq_small hm hn
  have := enc_le h2
  rw [Go.WideMaps.keyOf_string_mk Tryz.underlying9 (by show (Tm.enc t.seq).toArray.size ≤ _; unfold maxLen; simp; omega)]
  rfl

theorem Turned.newF {F : Nat → Prop} {w w' : World} (h : Turned (fun k => w.heap.size ≤ k) w w') : Turned F w w' := h.mono (fun k hk hs => absurd hs (by omega))

/-- What Put of a term that may be put leaves. -/
def PutOk (F : Nat → Prop) (w : World) (B : Nat) (s : List Tm.T) (k : Nat) (r : Ending) (w' : World) : Prop :=
  r = .returned (.tuple #[.int .i64 (k : Nat), .nilIface]) ∧ St (fun j => F j ∨ w.heap.size ≤ j) w' B s ∧ Turned F w w'

/-- What a call that tells an error leaves. -/
def Bad (vs : List Value) (xt : TypeId) (xv : Value) (w : World) (r : Ending) (w' : World) : Prop :=
  ∃ pb, r = .returned (.tuple (vs ++ [Value.iface 120 (.pointer (some ⟨pb, 0, none⟩))]).toArray) ∧ FaultT w' pb xt xv ∧ w.heap.size ≤ pb ∧ Up w w'

set_option maxHeartbeats 2000000 in
set_option maxRecDepth 100000 in
theorem put_bad {F : Nat → Prop} {w : World} {B : Nat} {s : List Tm.T} {t : Tm.T} {nv pv : Value} {xt : TypeId} {xv : Value} (h : St F w B s) (hr : TRead w t nv pv) (hn : t.names.length ≤ 9223372036854775807) (hp : t.pairs.length ≤ 9223372036854775807)
    (hm : t.may s.length = false) (hg : w.cell? ⟨0, 0, none⟩ = some (.iface xt xv)) :
    Calls Tryz.prog 20 #[.pointer (some ⟨B, 0, none⟩), tv t nv pv] w (Bad [.int .i64 0] xt xv w) := by
  obtain ⟨ao, cap, vm, hb⟩ := h.box
  obtain ⟨a1, c1, g1, o1, e1, -⟩ := hr.n
  obtain ⟨a2, c2, g2, o2, e2, -⟩ := hr.p
  subst e1 e2
  have hU0 := (Up.refl w).alloc (.cells #[.int .i64 t.kind, .int .i64 t.label, .int .i64 t.a, .int .i64 t.b, .slice a1 t.names.length c1, .slice a2 t.pairs.length c2] 35)
  have HM := Lib.hid (mayPut_lit t _ _ B ao s.length cap vm false _ (hr.up hU0) hn hp ((hU0.block B (lt_of_block' hb)).trans hb) hm)
  obtain ⟨l1, hl1⟩ : ∃ l, l = t.names.length := ⟨_, rfl⟩
  obtain ⟨l2, hl2⟩ : ∃ l, l = t.pairs.length := ⟨_, rfl⟩
  rw [← hl1, ← hl2] at HM hU0
  rw [tlit, ← hl1, ← hl2]
  clear hb h hr hm hn hp hl1 hl2
  go_enter Tryz.func20, Tryz.ntmps20
  go_wp2_with fail
  (with_reducible refine HM.out.mono ?_)
  rintro e w1 ⟨rfl, hU1⟩
  have hU2 := hU0.trans hU1
  have hg1 := hU2.cell hg
  clear hU1 hU0 HM
  go_wp2_with fail
  (with_reducible refine (faultNewT xt xv _).mono ?_)
  rintro e w2 ⟨pb, rfl, hf, hpb, hb2⟩
  go_wp2_with fail
  go_ret2
  exact ⟨pb, rfl, hf, Nat.le_trans hU2.size hpb, hU2.trans hb2⟩

set_option maxHeartbeats 2000000 in
set_option maxRecDepth 100000 in
theorem put_had {F : Nat → Prop} {w : World} {B : Nat} {s : List Tm.T} {t : Tm.T} {nv pv : Value} (h : St F w B s) (hr : TRead w t nv pv) (hm : t.may s.length = true) (hn : s.length ≤ 1000) (hin : t ∈ s) (hT : Tab w) :
    Calls Tryz.prog 20 #[.pointer (some ⟨B, 0, none⟩), tv t nv pv] w (PutOk F w B s (s.idxOf t)) := by
  have HS := Lib.hid h
  have hsm := Tm.may_small hm hn
  obtain ⟨vt, vm, ts, hts, hs, hf⟩ := h
  obtain ⟨ao, cap, hvt⟩ := hs.shape
  have hb := hs.box
  have hle : ts.length = s.length := by rw [← hts, List.length_map]
  rw [hvt, hle] at hb
  clear hle
  rcases hs.map with ⟨_, h0⟩ | ⟨bm, rfl, hmap⟩
  · subst h0; simp at hts; subst hts; simp at hin
  rw [hts] at hmap
  obtain ⟨ix1, ix2⟩ := Tm.index_at (show Tm.Inv s by rw [← hts]; exact hs.inv) hm
  have ix3 := ix2 (.lit (.int .i64 0)) hin
  rw [decide_eq_true hin] at ix1
  obtain ⟨a1, c1, g1, o1, e1, -⟩ := hr.n
  obtain ⟨a2, c2, g2, o2, e2, -⟩ := hr.p
  subst e1 e2
  have hU0 := (Up.refl w).alloc (.cells #[.int .i64 t.kind, .int .i64 t.label, .int .i64 t.a, .int .i64 t.b, .slice a1 t.names.length c1, .slice a2 t.pairs.length c2] 35)
  have hx0 := heap_alloc_new w (.cells #[.int .i64 t.kind, .int .i64 t.label, .int .i64 t.a, .int .i64 t.b, .slice a1 t.names.length c1, .slice a2 t.pairs.length c2] 35)
  have HM := Lib.hid (mayPut_lit t _ _ B ao s.length cap _ true _ (hr.up hU0) (by omega) (by omega) ((hU0.block B (lt_of_block' hb)).trans hb) hm)
  have HK : Hid (∀ W, Up w W → Calls Tryz.prog 83 #[.agg #[.int .i64 t.kind, .int .i64 t.label, .int .i64 t.a, .int .i64 t.b, .slice a1 t.names.length c1, .slice a2 t.pairs.length c2]] W (KeyDone t W)) := fun W hW => key_lit t _ _ W (hr.up hW) (hT.up hW) hm hn
  have HKEY := Lib.hid (keyOf_t hm hn)
  have HB : Hid (∀ W, Up w W → W.cell? ⟨B, 1, none⟩ = some (.map (some bm))) := fun W hW => by
    have := (hW.block B (lt_of_block' hb)).trans hb
    simp [World.cell?, this]
  have HMAP : Hid (∀ W, Up w W → W.ownsMap (H := Unit) Tryz.prog 9 (plainElem Tryz.prog 3) bm ts.length (Tm.index s)) := fun W hW => ownsMap_keep hmap (hW.block bm hmap.lt)
  obtain ⟨l1, hl1⟩ : ∃ l, l = t.names.length := ⟨_, rfl⟩
  obtain ⟨l2, hl2⟩ : ∃ l, l = t.pairs.length := ⟨_, rfl⟩
  rw [← hl1, ← hl2] at HM HK hU0 hx0
  rw [tlit, ← hl1, ← hl2]
  have I1 := Lib.hid ix1
  have I3 := Lib.hid ix3
  have HSUB : Hid (∀ W, Up w W → PutOk F w B s (s.idxOf t) (.returned (.tuple #[.int .i64 ((s.idxOf t : Nat) : Int), .nilIface])) W) := fun W hW =>
    ⟨rfl, (HS.out.up hW).mono (fun k _ hk => .inl hk), (Turned.below hW).newF⟩
  clear hb hr hm hn hsm hin hT hs hf hts hmap ix1 ix2 ix3 hl1 hl2 HS hvt
  go_enter Tryz.func20, Tryz.ntmps20
  go_wp2_with fail
  (with_reducible refine HM.out.mono ?_)
  rintro e w1 ⟨rfl, hU1⟩
  have hb1 := (hU1.block w.heap.size (lt_of_block' hx0)).trans hx0
  obtain ⟨x0, x1, x2, x3, x4, x5, -⟩ := six_cells hb1
  have hU2 := hU0.trans hU1
  clear hU1 hU0 HM hb1 hx0
  go_wp2_with fail
  (with_reducible refine (HK.out _ hU2).mono ?_)
  rintro e w2 ⟨rfl, hU3⟩
  have hU4 := hU2.trans hU3
  have hmap := HMAP.out _ hU4
  have c1 := HB.out _ hU4
  clear hU2 hU3 HK x0 x1 x2 x3 x4 x5
  go_wp2_with (at_lookup; refine wpList_lookup_own_ok_int _ rfl _ _ 69 rfl 9 3 .i64 Tryz.strLaw Tryz.underlying69 Tryz.underlying3 (Tryz.intZero _) bm ts.length _ rfl hmap _ _ rfl HKEY.out ?_; intro c' hat hwc; (obtain rfl : c' = ((s.idxOf t : Nat) : Int) := by (rw [I3.out] at hat; simpa using hat.symm)); rw [I1.out]; clear hat hwc)
  go_ret2
  exact HSUB.out _ hU4

end Go.Proofs.YtiiieailimphnaaGreatDoor
