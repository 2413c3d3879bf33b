/- Put, by its contract; New, asked, Get. -/
import Derived.Test.YtiiieailimphnaaGreatDoorTmW9
namespace Go.Proofs.YtiiieailimphnaaGreatDoor
open Go.RowKit Go.Maps
set_option linter.unusedVariables false
set_option linter.unusedSimpArgs false

/-- A store's contract: the term is put; the number that is told. -/
def PutDone2 (F : Nat → Prop) (w : World) (B : Nat) (s : List Tm.T) (t : Tm.T) (r : Ending) (w' : World) : Prop :=
  ∃ k : Nat, (Tm.put s t).1 = some k ∧ r = .returned (.tuple #[.int .i64 (k : Nat), .nilIface]) ∧ St (fun j => F j ∨ w.heap.size ≤ j) w' B (Tm.put s t).2 ∧ Turned F w w'

theorem put_term {F : Nat → Prop} {w : World} {B : Nat} {s : List Tm.T} {t : Tm.T} {nv pv : Value} (h : St F w B s) (hr : TRead w t nv pv) (hm : t.may s.length = true) (hn : s.length ≤ 1000) (hT : Tab w) :
    Calls Tryz.prog 20 #[.pointer (some ⟨B, 0, none⟩), tv t nv pv] w (PutDone2 F w B s t) := by
  by_cases hin : t ∈ s
  · have hp : Tm.put s t = (some (s.idxOf t), s) := by rw [Tm.put, if_pos hm, if_pos hin]
    refine (put_had h hr hm hn hin hT).mono fun r w' ⟨h1, h2, h3⟩ => ⟨s.idxOf t, by rw [hp], h1, by rw [hp]; exact h2, h3⟩
  · have hp : Tm.put s t = (some s.length, s ++ [t]) := by rw [Tm.put, if_pos hm, if_neg hin]
    obtain ⟨vt, vm, ts, rfl, hs, hf⟩ := h
    have hl : (ts.map (·.1)).length = ts.length := List.length_map _
    have key : ∀ bm : Nat, (vm = .map (some bm) ∨ w.heap.size ≤ bm) → ∀ r w', NewDone w B bm vt ts t r w' → PutDone2 F w B (ts.map (·.1)) t r w' := by
      rintro bm hbm r w' ⟨he, vt', nv', pv', h1, h2, h3, h4⟩
      refine ⟨(ts.map (·.1)).length, by rw [hp], by rw [hl]; exact he, ?_, ?_⟩
      · rw [hp]
        refine ⟨vt', .map (some bm), ts ++ [(t, nv', pv')], by simp, h1, fun k hk => ?_⟩
        rcases hk with rfl | hk | hk | ⟨x, hx, hk⟩
        · exact .inl (hf _ (.inl rfl))
        · rcases h3 k hk with h | h
          · exact .inl (hf k (.inr (.inl h)))
          · exact .inr h
        · simp only [Value.map.injEq, Option.some.injEq] at hk
          subst hk
          rcases hbm with e | e
          · exact .inl (hf bm (.inr (.inr (.inl e))))
          · exact .inr e
        · rcases List.mem_append.1 hx with hx | hx
          · exact .inl (hf k (.inr (.inr (.inr ⟨x, hx, hk⟩))))
          · rw [List.mem_singleton] at hx; subst hx; exact .inr (h4 k hk)
      · refine h2.mono (fun k hk hkf => ?_)
        rcases hkf with rfl | hkf | rfl
        · exact hf _ (.inl rfl)
        · exact hf k (.inr (.inl hkf))
        · rcases hbm with e | e
          · exact hf k (.inr (.inr (.inl e)))
          · omega
    rcases hs.map with ⟨rfl, h0⟩ | ⟨bm, rfl, _⟩
    · subst h0
      exact (put_first hs hr (by simpa using hm) hT).mono fun r w' ⟨bm, hb, hd⟩ => key bm (.inr hb) r w' hd
    · exact (put_new hs hr (by rw [← hl]; exact hm) (by omega) hin hT).mono fun r w' hd => key bm (.inl rfl) r w' hd

def nilT : Tm.T := ⟨1, 0, 0, 0, [], []⟩

theorem put_nil : Tm.put [] nilT = (some 0, [nilT]) := by decide

/-- What New leaves. -/
def NewStore (w : World) (r : Ending) (w' : World) : Prop := ∃ B, r = .returned (.pointer (some ⟨B, 0, none⟩)) ∧ St (fun k => w.heap.size ≤ k) w' B [nilT] ∧ Up w w'

theorem store_zero (w : World) : St (fun k => w.heap.size ≤ k) (w.alloc (.cells #[.slice none 0 0, .map none] 71)) w.heap.size [] :=
  ⟨_, _, [], rfl, ⟨heap_alloc_new w _, World.ownsRow_nil _ _ _ _, .inl ⟨rfl, rfl⟩, (fun x hx => by cases hx), Tm.Inv.nil⟩, fun k hk => by
    rcases hk with rfl | hk | hk | ⟨x, hx, _⟩
    · exact Nat.le_refl _
    · cases hk
    · cases hk
    · cases hx⟩

set_option maxHeartbeats 1000000 in
theorem new_any (w : World) (hT : Tab w) : Calls Tryz.prog 6 #[] w (NewStore w) := by
  have h0 := store_zero w
  have hU := (Up.refl w).alloc (.cells #[.slice none 0 0, .map none] 71)
  have HP := Lib.hid (put_term (t := nilT) h0 ⟨lst_nil _, lsp_nil _⟩ (by decide) (by decide) (hT.up hU))
  unfold tv nilT at HP
  clear h0 hT
  go_enter Tryz.func6, Tryz.ntmps6
  go_wp2_with fail
  (with_reducible refine HP.out.mono ?_)
  rintro e w1 ⟨k, hk, rfl, hS, ht⟩
  go_wp2_with fail
  go_ret
  refine ⟨_, rfl, ?_, ?_⟩
  · have e : (Tm.put [] nilT).2 = [nilT] := by rw [put_nil]
    rw [← e]
    exact hS.mono (fun k _ hk => by rcases hk with hk | hk; exact hk; simp at hk; omega)
  · have s1 := hU.size
    have ht' : Turned (fun k => w.heap.size ≤ k) w w1 := (Turned.below hU).trans ht (fun i _ hi => hi)
    exact ⟨ht'.os, ht'.tape, ht'.output, ht'.size, fun i hi => ht'.block i hi (by omega)⟩

theorem asked_in {F : Nat → Prop} {w : World} {B : Nat} {s : List Tm.T} (h : St F w B s) (i : Int) (hi : 0 ≤ i ∧ i < s.length) :
    Calls Tryz.prog 25 #[.pointer (some ⟨B, 0, none⟩), .int .i64 i] w fun e w' => e = .returned .nilIface ∧ w = w' := by
  obtain ⟨ao, cap, vm, hb⟩ := h.box
  have HH := Lib.hid (has_is B ao s.length cap vm i true w hb (by simp [Tm.has, hi]))
  clear h hb hi
  go_enter Tryz.func25, Tryz.ntmps25
  go_wp2_with (go_at_call 87; refine HH.out.mono ?_; rintro e w' ⟨rfl, rfl⟩)
  go_ret
  exact ⟨rfl, rfl⟩

/-- What a call that tells an error alone leaves. -/
def BadOne (xt : TypeId) (xv : Value) (w : World) (r : Ending) (w' : World) : Prop :=
  ∃ pb, r = .returned (.iface 120 (.pointer (some ⟨pb, 0, none⟩))) ∧ FaultT w' pb xt xv ∧ w.heap.size ≤ pb ∧ Up w w'

theorem asked_out {F : Nat → Prop} {w : World} {B : Nat} {s : List Tm.T} {xt : TypeId} {xv : Value} (h : St F w B s) (i : Int) (hi : ¬ (0 ≤ i ∧ i < s.length)) (hg : w.cell? ⟨1, 0, none⟩ = some (.iface xt xv)) :
    Calls Tryz.prog 25 #[.pointer (some ⟨B, 0, none⟩), .int .i64 i] w (BadOne xt xv w) := by
  obtain ⟨ao, cap, vm, hb⟩ := h.box
  have HH := Lib.hid (has_is B ao s.length cap vm i false w hb (by
    cases hh : Tm.has s.length i
    · rfl
    · exact absurd (by simpa [Tm.has] using hh) hi))
  clear h hb hi
  go_enter Tryz.func25, Tryz.ntmps25
  go_wp2_with (first | (go_at_call 87; refine HH.out.mono ?_; rintro e w' ⟨rfl, rfl⟩) | (go_at_call 82; (with_reducible refine (faultNewT xt xv _).mono ?_); rintro e w2 ⟨pb, rfl, hf, hpb, hb2⟩))
  go_ret
  exact ⟨pb, rfl, hf, hpb, hb2⟩

/-- What Get of a term that is there leaves: the term, its lists new. -/
def GetDone (t : Tm.T) (w : World) (r : Ending) (w' : World) : Prop :=
  ∃ nv pv, r = .returned (.tuple #[tv t nv pv, .nilIface]) ∧ TOwn w' t nv pv ∧ (∀ k, nv.ownBlock = some k ∨ pv.ownBlock = some k → w.heap.size ≤ k) ∧ Up w w'

/-- A term of a store, where it stands. -/
theorem St.term {F : Nat → Prop} {w : World} {B : Nat} {s : List Tm.T} (h : St F w B s) {i : Nat} (hi : i < s.length) : ∃ g cap vm nv pv, w.heap[B]? = some (.cells #[.slice (some ⟨g, 0, none⟩) s.length cap, vm] 71 (0, 0)) ∧
    (∀ j u, j < 6 → (tcells s[i] nv pv)[j]? = some u → w.cell? ⟨g, i * 6 + j, none⟩ = some u) ∧ TOwn w s[i] nv pv ∧ ∀ k, nv.ownBlock = some k ∨ pv.ownBlock = some k → F k := by
  obtain ⟨vt, vm, ts, rfl, hs, hf⟩ := h
  rw [List.length_map] at hi
  rcases owns_cases hs.row with ⟨_, h0, _⟩ | ⟨g, cap, rfl, hr, _⟩
  · omega
  · refine ⟨g, cap, vm, ts[i].2.1, ts[i].2.2, by rw [List.length_map]; exact hs.box, fun j u hj hu => hr.cell ?_, ?_, fun k hk => hf k (.inr (.inr (.inr ⟨ts[i], List.getElem_mem hi, hk⟩)))⟩
    · rw [cellsT_get ts i j hi hj]; simpa using hu
    · have := hs.own ts[i] (List.getElem_mem hi)
      simpa using this

set_option maxHeartbeats 4000000 in
set_option maxRecDepth 100000 in
theorem get_in {F : Nat → Prop} {w : World} {B : Nat} {s : List Tm.T} (h : St F w B s) {i : Nat} (hi : i < s.length) (hm : s.length ≤ 1000) :
    Calls Tryz.prog 17 #[.pointer (some ⟨B, 0, none⟩), .int .i64 i] w (GetDone s[i] w) := by
  have hsm := Tm.may_small (h.inv.may_mem (List.getElem_mem hi)) hm
  have HA : Hid (∀ W, Up w W → Calls Tryz.prog 25 #[.pointer (some ⟨B, 0, none⟩), .int .i64 i] W fun e w' => e = .returned .nilIface ∧ W = w') := fun W hW => asked_in (h.up hW) i ⟨by omega, by omega⟩
  obtain ⟨g, cap, vm, nv, pv, hb, hc, ho, -⟩ := h.term hi
  obtain ⟨t, ht⟩ : ∃ t, t = s[i] := ⟨_, rfl⟩
  rw [← ht] at hc ho hsm ⊢
  obtain ⟨p1, q1, rfl⟩ := owns_shape' ho.n
  obtain ⟨p2, q2, rfl⟩ := owns_shape' ho.p
  have HO : Hid (∀ W, Up w W → Calls Tryz.prog 79 #[.agg #[.int .i64 t.kind, .int .i64 t.label, .int .i64 t.a, .int .i64 t.b, .slice p1 t.names.length q1, .slice p2 t.pairs.length q2]] W (OwnDone t W)) := fun W hW => own_lit t _ _ W (ho.up hW).read (by omega) (by omega)
  obtain ⟨l1, hl1⟩ : ∃ l, l = t.names.length := ⟨_, rfl⟩
  obtain ⟨l2, hl2⟩ : ∃ l, l = t.pairs.length := ⟨_, rfl⟩
  obtain ⟨n, hn⟩ : ∃ n, n = s.length := ⟨_, rfl⟩
  rw [← hl1, ← hl2] at HO hc
  rw [← hn] at hb hi
  have hBl := lt_of_block' hb
  have x0 := hc 0 _ (by omega) rfl
  have hgl := World.block_lt_of_cell? w _ x0
  have HC : Hid (∀ W, Up w W → W.cell? ⟨B, 0, none⟩ = some (.slice (some ⟨g, 0, none⟩) n cap) ∧ W.cell? ⟨g, i * 6, none⟩ = some (.int .i64 t.kind) ∧ W.cell? ⟨g, i * 6 + 1, none⟩ = some (.int .i64 t.label) ∧ W.cell? ⟨g, i * 6 + 2, none⟩ = some (.int .i64 t.a) ∧
      W.cell? ⟨g, i * 6 + 3, none⟩ = some (.int .i64 t.b) ∧ W.cell? ⟨g, i * 6 + 4, none⟩ = some (.slice p1 l1 q1) ∧ W.cell? ⟨g, i * 6 + 5, none⟩ = some (.slice p2 l2 q2)) := fun W hW =>
    ⟨hW.cell (box2 hb).1, hW.cell x0, hW.cell (hc 1 _ (by omega) rfl), hW.cell (hc 2 _ (by omega) rfl), hW.cell (hc 3 _ (by omega) rfl), hW.cell (hc 4 _ (by omega) rfl), hW.cell (hc 5 _ (by omega) rfl)⟩
  have hU0 := (Up.refl w).alloc (.cells #[.int .i64 0, .int .i64 0, .int .i64 0, .int .i64 0, .slice none 0 0, .slice none 0 0] 35)
  have hx0 := heap_alloc_new w (.cells #[.int .i64 0, .int .i64 0, .int .i64 0, .int .i64 0, .slice none 0 0, .slice none 0 0] 35)
  obtain ⟨c0, y0, y1, y2, y3, y4, y5⟩ := HC.out _ hU0
  clear h hsm hb hc ho ht hl1 hl2 hn x0
  go_enter Tryz.func17, Tryz.ntmps17
  go_wp2_with fail
  (with_reducible refine (HA.out _ hU0).mono ?_)
  rintro e w1 ⟨rfl, rfl⟩
  go_wp2_with fail
  (with_reducible refine (HO.out _ hU0).mono ?_)
  rintro e w2 ⟨nv', pv', he, ho2, hn2, hb2⟩
  obtain ⟨r1, k1, rfl⟩ := owns_shape' ho2.n
  obtain ⟨r2, k2, rfl⟩ := owns_shape' ho2.p
  rw [tlit] at he
  subst he
  have hx2 := (hb2.block w.heap.size (lt_of_block' hx0)).trans hx0
  obtain ⟨z0, z1, z2, z3, z4, z5, zf⟩ := six_cells hx2
  have HX2 := Lib.hid hx2
  have HO2 := Lib.hid ho2
  have HN2 := Lib.hid hn2
  have HB2 := Lib.hid hb2
  clear hx2 ho2 hn2 hb2 c0 y0 y1 y2 y3 y4 y5 hx0
  go_wp2_with fail
  obtain ⟨u0, u1, u2, u3, u4, u5, -⟩ := six_cells (six_set HX2.out (.int .i64 t.kind) (.int .i64 t.label) (.int .i64 t.a) (.int .i64 t.b) (.slice r1 t.names.length k1) (.slice r2 t.pairs.length k2))
  refine bodyPost_ret (v := .tuple #[.agg #[.int .i64 t.kind, .int .i64 t.label, .int .i64 t.a, .int .i64 t.b, .slice r1 t.names.length k1, .slice r2 t.pairs.length k2], .nilIface]) (by simp [results, Tryz.results17, go_sem, u0, u1, u2, u3, u4, u5]) rfl ?_
  have hU2 := hU0.trans HB2.out
  have hs1 : w.heap.size < (w.alloc (.cells #[.int .i64 0, .int .i64 0, .int .i64 0, .int .i64 0, .slice none 0 0, .slice none 0 0] 35)).heap.size := by simp
  refine ⟨_, _, rfl, ?_, fun k hk => Nat.le_trans hU0.size (HN2.out k hk), ?_⟩
  · refine HO2.out.keep (fun k hk => ?_)
    have := HN2.out k hk
    have hne : ∀ j, k ≠ (⟨w.heap.size, j, none⟩ : Addr).block := fun j => by simp only; omega
    rw [Below.heap_setCell _ _ _ k (hne 5), Below.heap_setCell _ _ _ k (hne 4), Below.heap_setCell _ _ _ k (hne 3), Below.heap_setCell _ _ _ k (hne 2), Below.heap_setCell _ _ _ k (hne 1), Below.heap_setCell _ _ _ k (hne 0)]
  · exact (((((hU2.setCell (Nat.le_refl _) _).setCell (Nat.le_refl _) _).setCell (Nat.le_refl _) _).setCell (Nat.le_refl _) _).setCell (Nat.le_refl _) _).setCell (Nat.le_refl _) _

end Go.Proofs.YtiiieailimphnaaGreatDoor
