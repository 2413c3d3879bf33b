/- append to nothing, whatever is appended; walks over the document's own store: Put of a term that may not be put, of one that is there. -/
import Derived.Test.YtiiieailimphnaaGreatDoorTmR6
import Derived.Maps.AppendAt
namespace Go.Proofs.YtiiieailimphnaaGreatDoor
open Go.RowKit Go.Maps
set_option linter.unusedVariables false
set_option linter.unusedSimpArgs false

/-- append([]E(nil), x...): a slice of the call's own. -/
theorem run_append_fresh {P : Program} {w : World} (t ty e : TypeId) (i : TypeInfo) (z : Value) (size bytes : Nat) (ht : P.underlying t = some (.slice e)) (hi : P.info? e = some i) (hz : i.zero = some z)
    (hsize : i.size = size) (hby : i.bytes = bytes) (hzs : z.cells.size = size) (hsz : 0 < size) (ao : Option Addr) (m c : Nat) (news : List Value) (hao : ao = none → m = 0) (hl : news.length = m * size)
    (hnews : ∀ ad, ao = some ad → ∀ j u, news[j]? = some u → w.cell? (ad.add j) = some u) (h1 : ∀ u ∈ news, u.oneCell' = true) (h63 : m ≤ maxLen) (hbytes : m * bytes ≤ 140737488355328) :
    ∃ v' w', (Builtin.append_ #[t, t] ty #[.slice none 0 0, .slice ao m c]).run P w = .ok v' w' ∧ w'.ownsRow w.heap.size e size v' m news ∧ Up w w' := by
  cases ao with
  | none =>
    obtain rfl := hao rfl
    obtain rfl : news = [] := List.eq_nil_of_length_eq_zero (by omega)
    refine ⟨.slice none 0 0, w, ?_, World.ownsRow_nil _ _ _ _, Up.refl _⟩
    simp [Builtin.append_, run_underlying ht, sizeOf, typeInfo, hi, Builtin.lenOf, Builtin.firstCells]
  | some ad =>
    obtain ⟨v', w', hr, h2, h3, -, h5⟩ := run_append_own_at (P := P) w w.heap.size t ty e i z size bytes ht hi hz hsize hby hzs hsz (.slice none 0 0) 0 [] (World.ownsRow_nil _ _ _ _) ad m c news hl (hnews ad rfl) h1 (by omega) (by rw [Nat.zero_add]; exact hbytes) (Nat.le_refl _)
    rw [Nat.zero_add, List.nil_append] at h2
    exact ⟨v', w', hr, h2, (Up.refl w).grown h3 (fun k hk => by cases hk)⟩

/-- .. at the operation. -/
theorem wpList_append_fresh {P : Program} (w : World) {ops : Array Oper} {rest : List Oper} {o : Oper} {a : Act} {Q : Exit → Act → World → Prop} (hg : o.guard = none) (s x : Operand) (t : TypeId)
    (hop : o.op = .call { callee := .builtin .append, args := #[s, x], argTypes := #[t, t] }) (e : TypeId) (i : TypeInfo) (z : Value) (size bytes : Nat) (ht : P.underlying t = some (.slice e)) (hi : P.info? e = some i) (hz : i.zero = some z)
    (hsize : i.size = size) (hby : i.bytes = bytes) (hzs : z.cells.size = size) (hsz : 0 < size) (hs : a.eval s = .slice none 0 0) (ao : Option Addr) (m c : Nat) (hx : a.eval x = .slice ao m c) (news : List Value) (hao : ao = none → m = 0) (hl : news.length = m * size)
    (hnews : ∀ ad, ao = some ad → ∀ j u, news[j]? = some u → w.cell? (ad.add j) = some u) (h1 : ∀ u ∈ news, u.oneCell' = true) (h63 : m ≤ maxLen) (hbytes : m * bytes ≤ 140737488355328)
    (hK : ∀ v' w', w'.ownsRow w.heap.size e size v' m news → Up w w' → wpList P ops Q rest (a.put o.dst v') w') : wpList P ops Q (o :: rest) a w := by
  refine wpList_plain hg fun K' hK' => ?_
  obtain ⟨v', w', hr, h2, h3⟩ := run_append_fresh (P := P) (w := w) t o.type e i z size bytes ht hi hz hsize hby hzs hsz ao m c news hao hl hnews h1 h63 hbytes
  unfold Oper.wp execOp
  simp only [hop, resolve, invoke, builtin, Sem.run_bind, Sem.run_pure, Result.andThen_ok, List.map_toArray, List.map_cons, List.map_nil, hs, hx, hr]
  exact hK' _ _ (hK v' w' h2 h3)

/-- What Put of the document's own store leaves. -/
def RefPut (F : Nat → Prop) (w : World) (R : Nat) (s : List Tm.T) (t : Tm.T) (r : Ending) (w' : World) : Prop :=
  r = .returned (.int .i64 (match (Tm.put s t).1 with | some k => (k : Int) | none => -1)) ∧ Rs (fun j => F j ∨ w.heap.size ≤ j) w' R (Tm.put s t).2 ∧ Turned F w w'

set_option maxHeartbeats 2000000 in
set_option maxRecDepth 100000 in
theorem refput_bad {F : Nat → Prop} {w : World} {R : Nat} {s : List Tm.T} {t : Tm.T} {nv pv : Value} (hR : Rs F w R s) (h : TRead w t nv pv) (hm : t.may s.length = false) (hn : t.names.length ≤ 9223372036854775807) (hp : t.pairs.length ≤ 9223372036854775807) :
    Calls Tryz.prog 22 #[.pointer (some ⟨R, 0, none⟩), .agg #[.int .i64 t.kind, .int .i64 t.label, .int .i64 t.a, .int .i64 t.b, nv, pv]] w (RefPut F w R s t) := by
  obtain ⟨ao, cap, c0, -, -⟩ := hR.at
  have HMAY : Hid (∀ W, Up w W → Calls Tryz.prog 84 #[.pointer (some ⟨R, 0, none⟩), .agg #[.int .i64 t.kind, .int .i64 t.label, .int .i64 t.a, .int .i64 t.b, nv, pv]] W (Eql W false)) := Lib.hid (fun W hW => by
    have := refmay_any (h.up hW) (hW.cell c0) hn hp
    rw [hm] at this; exact this)
  have HE : Hid (∀ W, Up w W → RefPut F w R s t (.returned (.int .i64 (-1))) W) := Lib.hid (fun W hW => by
    have e : Tm.put s t = (none, s) := by rw [Tm.put, if_neg (by simp [hm])]
    exact ⟨by rw [e], by rw [e]; exact (hR.up hW).mono (fun k _ hk => .inl hk), upTurned hW⟩)
  obtain ⟨o1, q1, g1, f1, e1, -⟩ := h.n
  obtain ⟨o2, q2, g2, f2, e2, -⟩ := h.p
  subst e1 e2
  have KU : Hid (∀ A : Obj, Up w (w.alloc A)) := Lib.hid (fun A => (Up.refl w).alloc A)
  obtain ⟨l1, hl1⟩ : ∃ l, l = t.names.length := ⟨_, rfl⟩
  obtain ⟨l2, hl2⟩ : ∃ l, l = t.pairs.length := ⟨_, rfl⟩
  rw [← hl1, ← hl2] at HMAY ⊢
  clear hR h hm hn hp c0 hl1 hl2
  go_enter Tryz.func22, Tryz.ntmps22
  go_wp2_with fail
  (with_reducible refine (HMAY.out _ (KU.out _)).mono ?_)
  rintro e w1 ⟨rfl, hU1⟩
  have HU1 := Lib.hid ((KU.out _).trans hU1)
  clear hU1
  go_wp2_with fail
  go_ret
  exact HE.out _ HU1.out

set_option maxHeartbeats 2000000 in
set_option maxRecDepth 100000 in
theorem refput_had {F : Nat → Prop} {w : World} {R : Nat} {s : List Tm.T} {t : Tm.T} {nv pv : Value} (hR : Rs F w R s) (h : TRead w t nv pv) (hm : t.may s.length = true) (hs : s.length ≤ 1000) (hin : t ∈ s) :
    Calls Tryz.prog 22 #[.pointer (some ⟨R, 0, none⟩), .agg #[.int .i64 t.kind, .int .i64 t.label, .int .i64 t.a, .int .i64 t.b, nv, pv]] w (RefPut F w R s t) := by
  have hsm := Tm.may_small hm hs
  obtain ⟨ao, cap, c0, -, -⟩ := hR.at
  have HMAY : Hid (∀ W, Up w W → Calls Tryz.prog 84 #[.pointer (some ⟨R, 0, none⟩), .agg #[.int .i64 t.kind, .int .i64 t.label, .int .i64 t.a, .int .i64 t.b, nv, pv]] W (Eql W true)) := Lib.hid (fun W hW => by
    have := refmay_any (h.up hW) (hW.cell c0) (by omega) (by omega)
    rw [hm] at this; exact this)
  obtain ⟨k, hk⟩ : ∃ k, k = s.idxOf t := ⟨_, rfl⟩
  have HFIND : Hid (∀ W, Up w W → Calls Tryz.prog 85 #[.pointer (some ⟨R, 0, none⟩), .agg #[.int .i64 t.kind, .int .i64 t.label, .int .i64 t.a, .int .i64 t.b, nv, pv]] W fun r w' => r = .returned (.int .i64 (k : Nat)) ∧ Up W w') := Lib.hid (fun W hW => (find_any (hR.up hW) (h.up hW) hm hs).mono fun r w' ⟨e, hu⟩ => ⟨by rw [e, Tm.find, if_pos hin, hk], hu⟩)
  have HE : Hid (∀ W, Up w W → RefPut F w R s t (.returned (.int .i64 (k : Nat))) W) := Lib.hid (fun W hW => by
    have e : Tm.put s t = (some k, s) := by rw [Tm.put, if_pos hm, if_pos hin, hk]
    exact ⟨by rw [e], by rw [e]; exact (hR.up hW).mono (fun k _ hk => .inl hk), upTurned hW⟩)
  obtain ⟨o1, q1, g1, f1, e1, -⟩ := h.n
  obtain ⟨o2, q2, g2, f2, e2, -⟩ := h.p
  subst e1 e2
  obtain ⟨l1, hl1⟩ : ∃ l, l = t.names.length := ⟨_, rfl⟩
  obtain ⟨l2, hl2⟩ : ∃ l, l = t.pairs.length := ⟨_, rfl⟩
  rw [← hl1, ← hl2] at HMAY HFIND ⊢
  have hnew := heap_alloc_new w (.cells #[.int .i64 t.kind, .int .i64 t.label, .int .i64 t.a, .int .i64 t.b, .slice o1 l1 q1, .slice o2 l2 q2] 35 (0, 0))
  have HU0 := Lib.hid ((Up.refl w).alloc (.cells #[.int .i64 t.kind, .int .i64 t.label, .int .i64 t.a, .int .i64 t.b, .slice o1 l1 q1, .slice o2 l2 q2] 35 (0, 0)))
  have HN := Lib.hid hnew
  have hk0 : (0 : Int) ≤ (k : Int) := by omega
  clear hR h hm hs hin hsm c0 hk hl1 hl2 hnew
  go_enter Tryz.func22, Tryz.ntmps22
  go_wp2_with fail
  (with_reducible refine (HMAY.out _ HU0.out).mono ?_)
  rintro e w1 ⟨rfl, hU1⟩
  obtain ⟨d0, d1, d2, d3, d4, d5, -⟩ := six_cells ((hU1.block _ (lt_of_block' HN.out)).trans HN.out)
  have HU1 := Lib.hid (HU0.out.trans hU1)
  clear hU1
  go_wp2_with fail
  (with_reducible refine (HFIND.out _ HU1.out).mono ?_)
  rintro e w2 ⟨rfl, hU2⟩
  have HU2 := Lib.hid (HU1.out.trans hU2)
  clear hU2 d0 d1 d2 d3 d4 d5
  go_wp2_with fail
  go_ret
  exact HE.out _ HU2.out

end Go.Proofs.YtiiieailimphnaaGreatDoor
