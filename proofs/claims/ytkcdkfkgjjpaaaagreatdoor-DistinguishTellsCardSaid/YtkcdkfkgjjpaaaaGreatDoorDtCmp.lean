/- Walk: distinguish.asked. Walk: distinguish.Compare. Walk: the law's first calls. -/
import Derived.Test.YtkcdkfkgjjpaaaaGreatDoorDtOf
import Derived.Test.YtkcdkfkgjjpaaaaGreatDoorSgRefine
import Derived.Test.YtkcdkfkgjjpaaaaGreatDoorDtBd

namespace Go.Proofs.YtkcdkfkgjjpaaaaGreatDoor
open Go.RowKit Go.Sort Go.Maps
set_option linter.unusedVariables false
set_option linter.unusedSimpArgs false

/-- A new teller. -/
theorem tel_new {w0 : World} {B : Nat} {rv : Value} {s : Sy.Lts} :
    Tel w0 (w0.heap.size + 1 + 1) B rv w0.heap.size (w0.heap.size + 1) s
      (((w0.alloc (.map #[] 0)).alloc (.map #[] 0)).alloc (.cells #[.pointer (some ⟨B, 0, none⟩), rv, .slice none 0 0, .map (some w0.heap.size), .map (some (w0.heap.size + 1))] 161)) (.slice none 0 0) [] ⟨[], [], []⟩ := by
  have s1 : (w0.alloc (.map #[] 0)).heap.size = w0.heap.size + 1 := by simp
  have s2 : ((w0.alloc (.map #[] 0)).alloc (.map #[] 0)).heap.size = w0.heap.size + 1 + 1 := by simp
  refine ⟨⟨rfl, rfl, ?_, World.ownsRow_nil _ _ _ _, (fun x hx => by cases hx), ?_, ?_, by omega⟩, ⟨Dt.Table.nil, (fun e he => by cases he), List.nodup_nil⟩, (((Up.refl w0).alloc _).alloc _).alloc _, fun k hk => ?_⟩
  · have h := heap_alloc_new ((w0.alloc (.map #[] 0)).alloc (.map #[] 0)) (.cells #[.pointer (some ⟨B, 0, none⟩), rv, .slice none 0 0, .map (some w0.heap.size), .map (some (w0.heap.size + 1))] 161)
    rw [s2] at h
    exact h
  · have h := World.ownsMap_made (H := Unit) (P := Tryz.prog) w0 9 (plainElem Tryz.prog 3)
    exact ownsMap_keep h ((((Up.refl (w0.alloc (.map #[] 0))).alloc _).alloc _).block _ (by rw [s1]; omega))
  · have h := World.ownsMap_made (H := Unit) (P := Tryz.prog) (w0.alloc (.map #[] 0)) 253 (plainElem Tryz.prog 3)
    rw [s1] at h
    exact ownsMap_keep h (((Up.refl ((w0.alloc (.map #[] 0)).alloc (.map #[] 0))).alloc _).block _ (by rw [s2]; omega))
  · rcases hk with rfl | hk | rfl | rfl
    · omega
    · simp [Value.ownBlock] at hk
    · omega
    · omega

theorem root_new (s : Sy.Lts) : Root s 0 ⟨[], [], []⟩ := ⟨0, Dt.Tl.To.refl _ _ _ _⟩

/-- An asked teller. -/
def Asked (s : Sy.Lts) (w : World) (v : Value) (w' : World) : Prop :=
  ∃ w0 tb B rv ma mk, v = .pointer (some ⟨tb, 0, none⟩) ∧ Up w w0 ∧ Lean0 w0 B rv s ∧ Tel w0 tb B rv ma mk s w' (.slice none 0 0) [] ⟨[], [], []⟩

/-- The errors of asked. -/
def AskBad (s : Sy.Lts) (p q : Int) (w : World) (x xi xl : Value) (e : Value) (w' : World) : Prop :=
  (Sy.right s = true ∧ There s p q ∧ 300 < s.n ∧ ∃ pb, e = faultAt pb ∧ w.heap.size ≤ pb ∧ FaultE w' pb layerDist xl) ∨
  (Sy.right s = true ∧ ¬ There s p q ∧ ∃ pb, e = faultAt pb ∧ w.heap.size ≤ pb ∧ FaultE w' pb layerDist xi) ∨
  (Sy.right s = false ∧ ∃ qb pb, e = faultAt qb ∧ w.heap.size ≤ qb ∧ w.heap.size ≤ pb ∧ FaultE w' qb layerDist (faultAt pb) ∧ FaultE w' pb layerSystem x)

/-- What asked leaves. -/
def AskDone (s : Sy.Lts) (p q : Int) (w : World) (x xi xl : Value) (r : Ending) (w' : World) : Prop :=
  Up w w' ∧ ((Sy.right s = true ∧ There s p q ∧ s.n ≤ 300 ∧ ∃ v, r = .returned (.tuple #[v, .nilIface]) ∧ Asked s w v w') ∨
    (∃ e, r = .returned (.tuple #[.pointer none, e]) ∧ AskBad s p q w x xi xl e w'))

set_option maxHeartbeats 4000000 in
set_option maxRecDepth 100000 in
theorem askD_bad (s : Sy.Lts) (se : Value) (p q : Int) (a : Addr) (xi xl : Value) (w : World) (hr : Sy.right s = false) (hG : ErrT w) (hs : Ls3 w se s.es) (hE : w.cell? ⟨2, 0, none⟩ = some (.iface 354 (.pointer (some a)))) (hl : s.es.length ≤ maxLen) :
    Calls Tryz.prog 45 #[sysV s se, .int .i64 p, .int .i64 q] w (AskDone s p q w (.iface 354 (.pointer (some a))) xi xl) := by
  obtain ⟨ao, cap, g, off, rfl, ha, hc⟩ := hs
  have hs : Ls3 w (.slice ao s.es.length cap) s.es := ⟨ao, cap, g, off, rfl, ha, hc⟩
  have HN : Hid (∀ W, Up w W → Calls Tryz.prog 13 #[.agg #[.int .i64 s.n, .int .i64 s.m, .int .i64 s.start, .slice ao s.es.length cap]] W (Newed s W (.iface 354 (.pointer (some a))))) := Lib.hid (fun W hu => new_any s _ _ _ W (hs.up hu) (hu.cell hE) hl)
  have HR := Lib.hid hr
  have HG := Lib.hid hG
  clear hr hs hE hG hl ha hc
  unfold sysV
  go_enter Tryz.func45, Tryz.ntmps45
  go_wp2_with (first
    | (go_at_call 13; refine (HN.out _ ((Up.refl w).alloc _)).mono ?_; rintro r w1 ⟨hu1, ⟨h1, -⟩ | ⟨-, pb, rfl, hpb, hfe⟩⟩; (exact absurd (h1.symm.trans HR.out) (by decide)); (have HFE := Lib.hid hfe); (have HPB := Lib.hid hpb); (have HU1 := Lib.hid (((Up.refl w).alloc _).trans hu1)); clear hfe hpb hu1; unfold faultAt)
    | (go_at_call 111; refine (as_fault layerDist layerSystem _ _ _ HFE.out (HU1.out.cell HG.out)).mono ?_; rintro r w2 ⟨qb, rfl, hqb, hu2, hfq⟩))
  go_ret2
  have h0 := HU1.out.size
  exact ⟨HU1.out.trans hu2, .inr ⟨_, rfl, .inr (.inr ⟨HR.out, qb, _, rfl, by omega, by have := HPB.out; rw [World.size_alloc] at this; omega, hfq, HFE.out.up hu2⟩)⟩⟩

/-- New of a system that is one, its argument in a box. -/
theorem new_yes {s : Sy.Lts} {ao : Option Addr} {k cap : Nat} {xt : TypeId} {xv : Value} {w : World} (hr : Sy.right s = true) (hs : Ls3 w (.slice ao k cap) s.es) (hE : w.cell? ⟨2, 0, none⟩ = some (.iface xt xv)) (hl : s.es.length ≤ maxLen) :
    Calls Tryz.prog 13 #[.agg #[.int .i64 s.n, .int .i64 s.m, .int .i64 s.start, .slice ao k cap]] (w.alloc (.cells #[.int .i64 s.n, .int .i64 s.m, .int .i64 s.start, .slice ao k cap] 27)) fun r w1 =>
      ∃ B, r = .returned (.tuple #[.pointer (some ⟨B, 0, none⟩), .nilIface]) ∧ Up w w1 ∧ w1.heap[w.heap.size]? = some (.cells #[.int .i64 s.n, .int .i64 s.m, .int .i64 s.start, .slice ao k cap] 27 (0, 0)) ∧ w.heap.size ≤ B ∧ GraphAt w1 B s := by
  have hu := (Up.refl w).alloc (.cells #[.int .i64 s.n, .int .i64 s.m, .int .i64 s.start, .slice ao k cap] 27)
  refine (new_any s (.slice ao k cap) xt xv _ (hs.up hu) (hu.cell hE) hl).mono ?_
  rintro r w1 ⟨hu1, ⟨-, B, rfl, hB, hg⟩ | ⟨h1, -⟩⟩
  · have hb1 := (hu1.block _ (by simp)).trans (heap_alloc_new w (.cells #[.int .i64 s.n, .int .i64 s.m, .int .i64 s.start, .slice ao k cap] 27))
    exact ⟨B, rfl, hu.trans hu1, hb1, by have := hu.size; omega, hg⟩
  · exact absurd (hr.symm.trans h1) (by decide)

/-- Ranks behind New, its argument in a box. -/
def RanksFor (s : Sy.Lts) (w : World) (args : Array Value) (x xl : Value) : Prop := ∀ W, Up w W → Calls Tryz.prog 112 args W (RanksDone s W x xl)

set_option maxHeartbeats 8000000 in
set_option maxRecDepth 100000 in
theorem askD_out (s : Sy.Lts) (se : Value) (p q : Int) (a : Addr) (xt : TypeId) (xv xl : Value) (w : World) (hr : Sy.right s = true) (hs : Ls3 w se s.es) (hE : w.cell? ⟨2, 0, none⟩ = some (.iface 354 (.pointer (some a))))
    (hI : w.cell? ⟨3, 0, none⟩ = some (.iface xt xv)) (hl : s.es.length ≤ maxLen) (ht : ¬ There s p q) :
    Calls Tryz.prog 45 #[sysV s se, .int .i64 p, .int .i64 q] w (AskDone s p q w (.iface 354 (.pointer (some a))) (.iface xt xv) xl) := by
  obtain ⟨ao, cap, rfl⟩ := ls3_shape hs
  have HA := Lib.hid (new_yes hr hs hE hl)
  have HR := Lib.hid hr
  have HNT := Lib.hid ht
  have hcs : (decide (p < 0) = true) ∨ (decide (p < 0) = false ∧ decide (s.n ≤ p) = true) ∨ (decide (p < 0) = false ∧ decide (s.n ≤ p) = false ∧ decide (q < 0) = true) ∨ (decide (p < 0) = false ∧ decide (s.n ≤ p) = false ∧ decide (q < 0) = false ∧ decide (s.n ≤ q) = true) := by
    have hn0 := ((Sy.right_iff s).1 hr).n0
    unfold There at ht
    simp only [decide_eq_true_eq, decide_eq_false_iff_not]
    omega
  clear hr hs hE hl ht
  unfold sysV
  rcases hcs with q1 | ⟨q1, q2⟩ | ⟨q1, q2, q3⟩ | ⟨q1, q2, q3, q4⟩
  all_goals
    go_enter Tryz.func45, Tryz.ntmps45
    go_wp2_with (first
      | (go_at_call 13; refine HA.out.mono ?_; rintro r w1 ⟨B, rfl, hu1, hbx, -, -⟩; (have cB := (four_cells hbx).1.1); (have hI1 := hu1.cell hI); (have HU1 := Lib.hid hu1); clear hu1 hI hbx)
      | (go_at_call 99; refine (faultNewE layerDist _ _ _).mono ?_; rintro e w3 ⟨rfl, hw3⟩; (have HW3 := Lib.hid (fault_up hw3)); (have HU3 := Lib.hid (show Up w w3 by rw [hw3]; exact HU1.out.alloc _)); clear hw3))
    go_ret2
    exact ⟨HU3.out, .inr ⟨_, rfl, .inr (.inl ⟨HR.out, HNT.out, _, rfl, HU1.out.size, HW3.out⟩)⟩⟩

set_option maxHeartbeats 8000000 in
set_option maxRecDepth 100000 in
theorem askD_long (s : Sy.Lts) (se : Value) (p q : Int) (a b : Addr) (xi : Value) (w : World) (hr : Sy.right s = true) (hT : Tab w) (hG : ErrT w) (hs : Ls3 w se s.es) (hE : w.cell? ⟨2, 0, none⟩ = some (.iface 354 (.pointer (some a))))
    (hI : w.cell? ⟨4, 0, none⟩ = some (.iface 354 (.pointer (some b)))) (hl : s.es.length ≤ maxLen) (ht : There s p q) (h300 : 300 < s.n) :
    Calls Tryz.prog 45 #[sysV s se, .int .i64 p, .int .i64 q] w (AskDone s p q w (.iface 354 (.pointer (some a))) xi (.iface 354 (.pointer (some b)))) := by
  obtain ⟨ao, cap, rfl⟩ := ls3_shape hs
  have HA := Lib.hid (new_yes hr hs hE hl)
  have HK : Hid (∀ W, Up w W → Calls Tryz.prog 112 #[.agg #[.int .i64 s.n, .int .i64 s.m, .int .i64 s.start, .slice ao s.es.length cap]] W (fun r w2 => Up W w2 ∧ ∃ pb, r = .returned (.tuple #[.slice none 0 0, faultAt pb]) ∧ FaultE w2 pb layerRounds (.iface 354 (.pointer (some b))))) :=
    Lib.hid (fun W hW => (ranks_long s (.slice ao s.es.length cap) a _ _ W hr h300 (hT.up hW) (hW.cell hG) (hs.up hW) (hW.cell hE) (hW.cell hI) hl).mono (by
      rintro r w2 ⟨hu2, ⟨-, h1, -⟩ | ⟨-, -, pb, rfl, hpb, hfe⟩ | ⟨h1, -⟩⟩
      · exact absurd h1 (by omega)
      · exact ⟨hu2, pb, rfl, hfe⟩
      · exact absurd (h1.symm.trans hr) (by decide)))
  have HR := Lib.hid hr
  have HTH := Lib.hid ht
  have HN3 := Lib.hid h300
  have q1 : decide (p < 0) = false := by unfold There at ht; simp; omega
  have q2 : decide (s.n ≤ p) = false := by unfold There at ht; simp; omega
  have q3 : decide (q < 0) = false := by unfold There at ht; simp; omega
  have q4 : decide (s.n ≤ q) = false := by unfold There at ht; simp; omega
  clear hr hs hE hl ht hT hG h300
  unfold sysV
  go_enter Tryz.func45, Tryz.ntmps45
  go_wp2_with (first
    | (go_at_call 13; refine HA.out.mono ?_; rintro r w1 ⟨B, rfl, hu1, hbx, -, -⟩; (obtain ⟨⟨cB, cB1, cB2, cB3⟩, -⟩ := four_cells hbx); (have hI1 := hu1.cell hI); (have HU1 := Lib.hid hu1); clear hu1 hI hbx)
    | (go_at_call 112; refine (HK.out _ HU1.out).mono ?_; rintro r w2 ⟨hu2, pb, rfl, hfe⟩; (have HFE := Lib.hid hfe); (have hI2 := hu2.cell hI1); (have HU2 := Lib.hid (HU1.out.trans hu2)); clear hfe hu2; unfold faultAt)
    | (go_at_call 16; refine (is_fault_same pb b _ (fault_cell HFE.out)).mono ?_; rintro e w2 ⟨rfl, rfl⟩)
    | (go_at_call 99; refine (faultNewE layerDist _ _ _).mono ?_; rintro e w3 ⟨rfl, hw3⟩; (have HW3 := Lib.hid (fault_up hw3)); (have HU3 := Lib.hid (show Up w w3 by rw [hw3]; exact HU2.out.alloc _)); clear hw3))
  go_ret2
  exact ⟨HU3.out, .inr ⟨_, rfl, .inl ⟨HR.out, HTH.out, HN3.out, _, rfl, HU2.out.size, HW3.out⟩⟩⟩

set_option maxHeartbeats 8000000 in
set_option maxRecDepth 100000 in
theorem askD_ok (s : Sy.Lts) (se : Value) (p q : Int) (a b : Addr) (xi xl : Value) (w : World) (hr : Sy.right s = true) (hT : Tab w) (hG : ErrT w) (hs : Ls3 w se s.es) (hE : w.cell? ⟨2, 0, none⟩ = some (.iface 354 (.pointer (some a))))
    (hI : w.cell? ⟨4, 0, none⟩ = some (.iface 354 (.pointer (some b)))) (hl : s.es.length ≤ maxLen) (ht : There s p q) (h300 : s.n ≤ 300) :
    Calls Tryz.prog 45 #[sysV s se, .int .i64 p, .int .i64 q] w (AskDone s p q w (.iface 354 (.pointer (some a))) xi xl) := by
  obtain ⟨ao, cap, rfl⟩ := ls3_shape hs
  have HA := Lib.hid (new_yes hr hs hE hl)
  have HK : Hid (∀ W, Up w W → Calls Tryz.prog 112 #[.agg #[.int .i64 s.n, .int .i64 s.m, .int .i64 s.start, .slice ao s.es.length cap]] W (fun r w2 => Up W w2 ∧ ∃ vo vc, r = .returned (.tuple #[.slice vo s.n.toNat vc, .nilIface]) ∧ RkRead w2 (.slice vo s.n.toNat vc) s)) :=
    Lib.hid (fun W hW => (ranks_ok s (.slice ao s.es.length cap) a xl W hr h300 (hT.up hW) (hW.cell hG) (hs.up hW) (hW.cell hE) hl).mono (by
      rintro r w2 ⟨hu2, ⟨-, -, v, vs, rfl, hown, hrows⟩ | ⟨-, h1, -⟩ | ⟨h1, -⟩⟩
      · obtain ⟨vo, vc, rfl⟩ := owns_shape' hown
        exact ⟨hu2, vo, vc, rfl, rkRead_of hown hrows⟩
      · exact absurd h1 (by omega)
      · exact absurd (h1.symm.trans hr) (by decide)))
  have HR := Lib.hid hr
  have HTH := Lib.hid ht
  have HN3 := Lib.hid h300
  have HT := Lib.hid hT
  have hmm := @run_makeMap Tryz.prog
  have q1 : decide (p < 0) = false := by unfold There at ht; simp; omega
  have q2 : decide (s.n ≤ p) = false := by unfold There at ht; simp; omega
  have q3 : decide (q < 0) = false := by unfold There at ht; simp; omega
  have q4 : decide (s.n ≤ q) = false := by unfold There at ht; simp; omega
  clear hr hs hE hl ht hT hG h300
  unfold sysV
  go_enter Tryz.func45, Tryz.ntmps45
  go_wp2_with (first
    | (go_at_call 13; refine HA.out.mono ?_; rintro r w1 ⟨B, rfl, hu1, hbx, -, hgr⟩; (obtain ⟨⟨cB, cB1, cB2, cB3⟩, -⟩ := four_cells hbx); (have hI1 := hu1.cell hI); (have HU1 := Lib.hid hu1); (have HGR := Lib.hid hgr); clear hu1 hI hbx hgr)
    | (go_at_call 112; refine (HK.out _ HU1.out).mono ?_; rintro r w2 ⟨hu2, vo, vc, rfl, hrk⟩; (have HRK := Lib.hid hrk); (have hI2 := hu2.cell hI1); (have HU2 := Lib.hid (HU1.out.trans hu2)); (have HGR2 := Lib.hid (HGR.out.up hu2)); clear hrk hu2)
    | (go_at_call 16; refine (is_nil b _).mono ?_; rintro e w3 ⟨rfl, rfl⟩))
  go_ret2
  have hL : Lean0 w2 B (.slice vo s.n.toNat vc) s := ⟨HGR2.out, HRK.out, HT.out.up HU2.out, (Sy.right_iff s).1 HR.out, by have := HN3.out; omega⟩
  exact ⟨((HU2.out.alloc _).alloc _).alloc _, .inl ⟨HR.out, HTH.out, HN3.out, _, rfl, w2, _, B, _, _, _, rfl, HU2.out, hL, by simpa using tel_new⟩⟩

/-- asked of whatever system and whatever numbers. -/
theorem askD_any (s : Sy.Lts) (se : Value) (p q : Int) (a b : Addr) (xt : TypeId) (xv : Value) (w : World) (hT : Tab w) (hG : ErrT w) (hs : Ls3 w se s.es) (hE : w.cell? ⟨2, 0, none⟩ = some (.iface 354 (.pointer (some a))))
    (hI : w.cell? ⟨3, 0, none⟩ = some (.iface xt xv)) (hL : w.cell? ⟨4, 0, none⟩ = some (.iface 354 (.pointer (some b)))) (hl : s.es.length ≤ maxLen) :
    Calls Tryz.prog 45 #[sysV s se, .int .i64 p, .int .i64 q] w (AskDone s p q w (.iface 354 (.pointer (some a))) (.iface xt xv) (.iface 354 (.pointer (some b)))) := by
  cases hr : Sy.right s
  · exact askD_bad s se p q a _ _ w hr hG hs hE hl
  · by_cases ht : There s p q
    · by_cases h3 : s.n ≤ 300
      · exact askD_ok s se p q a b _ _ w hr hT hG hs hE hL hl ht h3
      · exact askD_long s se p q a b _ w hr hT hG hs hE hL hl ht (by omega)
    · exact askD_out s se p q a xt xv _ w hr hs hE hI hl ht

end Go.Proofs.YtkcdkfkgjjpaaaaGreatDoor

namespace Go.Proofs.YtkcdkfkgjjpaaaaGreatDoor
open Go.RowKit Go.Maps
set_option linter.unusedVariables false
set_option linter.unusedSimpArgs false

/-- What Compare tells: the same state, with the last round; or the formula. -/
def CmpYes (s : Sy.Lts) (p q : Nat) (w : World) (r : Ending) (w' : World) : Prop :=
  (Rd.rank s p q < 0 ∧ ∃ ao cap, r = .returned (.tuple #[.agg #[.bool true, .slice ao s.n.toNat cap, .slice none 0 0], .nilIface]) ∧ w'.ownsRow w.heap.size 3 1 (.slice ao s.n.toNat cap) s.n.toNat (ints (Rd.R s (Rd.last s)))) ∨
  (0 ≤ Rd.rank s p q ∧ (Dt.F s p q).length ≤ 5000 ∧ ∃ ao cap, r = .returned (.tuple #[.agg #[.bool false, .slice none 0 0, .slice ao (Dt.F s p q).length cap], .nilIface]) ∧ w'.ownsRow w.heap.size 71 2 (.slice ao (Dt.F s p q).length cap) (Dt.F s p q).length (cells2 (Dt.F s p q)))

def noVerdict : Value := .agg #[.bool false, .slice none 0 0, .slice none 0 0]

/-- What Compare leaves. -/
def CmpDone (s : Sy.Lts) (p q : Int) (w : World) (x xi xl xm : Value) (r : Ending) (w' : World) : Prop :=
  Up w w' ∧ ((Sy.right s = true ∧ There s p q ∧ s.n ≤ 300 ∧ CmpYes s p.toNat q.toNat w r w') ∨
    (Sy.right s = true ∧ There s p q ∧ s.n ≤ 300 ∧ 0 ≤ Rd.rank s p.toNat q.toNat ∧ 5000 < (Dt.F s p.toNat q.toNat).length ∧ ∃ pb, r = .returned (.tuple #[noVerdict, faultAt pb]) ∧ w.heap.size ≤ pb ∧ FaultE w' pb layerDist xm) ∨
    (∃ e, r = .returned (.tuple #[noVerdict, e]) ∧ AskBad s p q w x xi xl e w'))

/-- The sentinels that Compare may meet, as they stand in memory. -/
structure CmpSent (w : World) (a b i n m : Addr) : Prop where
  sys : w.cell? ⟨2, 0, none⟩ = some (.iface 354 (.pointer (some a)))
  long : w.cell? ⟨4, 0, none⟩ = some (.iface 354 (.pointer (some b)))
  idx : w.cell? ⟨3, 0, none⟩ = some (.iface 354 (.pointer (some i)))
  non : w.cell? ⟨1, 0, none⟩ = some (.iface 354 (.pointer (some n)))
  lim : w.cell? ⟨0, 0, none⟩ = some (.iface 354 (.pointer (some m)))
  ne : m ≠ n
  bn : ∃ c t, w.heap[n.block]? = some (.cells c t (0, 0))
  bm : ∃ c t, w.heap[m.block]? = some (.cells c t (0, 0))

theorem CmpSent.up {w w1 : World} {a b i n m : Addr} (h : CmpSent w a b i n m) (hu : Up w w1) : CmpSent w1 a b i n m := by
  obtain ⟨c, t, hc⟩ := h.bn
  obtain ⟨c', t', hc'⟩ := h.bm
  exact ⟨hu.cell h.sys, hu.cell h.long, hu.cell h.idx, hu.cell h.non, hu.cell h.lim, h.ne, ⟨c, t, (hu.block _ (lt_of_block' hc)).trans hc⟩, ⟨c', t', (hu.block _ (lt_of_block' hc')).trans hc'⟩⟩

theorem CmpSent.other {w : World} {a b i n m : Addr} {pb : Nat} {l : ByteArray} (h : CmpSent w a b i n m) (hf : FaultE w pb l (.iface 354 (.pointer (some m)))) :
    Calls Tryz.prog 16 #[faultAt pb, .iface 354 (.pointer (some n))] w fun r w' => r = .returned (.bool false) ∧ w = w' := by
  obtain ⟨c, t, hc⟩ := h.bn
  obtain ⟨c', t', hc'⟩ := h.bm
  exact is_fault_other pb n m c' c t' t w (fault_cell hf) h.ne hc' hc

theorem AskBad.fault {s : Sy.Lts} {p q : Int} {w w' : World} {x xi xl e : Value} (h : AskBad s p q w x xi xl e w') : ∃ qb, e = faultAt qb := by
  rcases h with ⟨_, _, _, pb, e, _⟩ | ⟨_, _, pb, e, _⟩ | ⟨_, qb, pb, e, _⟩
  · exact ⟨pb, e⟩
  · exact ⟨pb, e⟩
  · exact ⟨qb, e⟩

/-- The two boxes that Compare begins with. -/
theorem cmp_boxes (w : World) (A : Obj) (o1 : Array Value) (t : TypeId) : ((w.alloc A).alloc (.cells o1 t)).heap[w.heap.size + 1]? = some (.cells o1 t (0, 0)) := by
  have h := heap_alloc_new (w.alloc A) (.cells o1 t)
  rw [World.size_alloc] at h
  exact h

theorem verdict_cells {w : World} {b : Nat} {a1 a2 a3 : Value} {e : TypeId} (h : w.heap[b]? = some (.cells #[a1, a2, a3] e (0, 0))) :
    (w.cell? ⟨b, 0, none⟩ = some a1 ∧ w.cell? ⟨b, 1, none⟩ = some a2 ∧ w.cell? ⟨b, 2, none⟩ = some a3) ∧ w.frozen? ⟨b, 0, none⟩ = false ∧ w.frozen? ⟨b, 1, none⟩ = false ∧ w.frozen? ⟨b, 2, none⟩ = false := by
  refine ⟨⟨?_, ?_, ?_⟩, ?_, ?_, ?_⟩ <;> simp [World.cell?, World.frozen?, h]

theorem verdict_set {W : World} {b : Nat} {a1 a2 a3 : Value} {e : TypeId} (h : W.heap[b]? = some (.cells #[a1, a2, a3] e (0, 0))) (u1 u2 u3 : Value) :
    (((W.setCell ⟨b, 0, none⟩ u1).setCell ⟨b, 1, none⟩ u2).setCell ⟨b, 2, none⟩ u3).cell? ⟨b, 0, none⟩ = some u1 ∧ (((W.setCell ⟨b, 0, none⟩ u1).setCell ⟨b, 1, none⟩ u2).setCell ⟨b, 2, none⟩ u3).cell? ⟨b, 1, none⟩ = some u2 ∧
    (((W.setCell ⟨b, 0, none⟩ u1).setCell ⟨b, 1, none⟩ u2).setCell ⟨b, 2, none⟩ u3).cell? ⟨b, 2, none⟩ = some u3 ∧ Turned (fun k => k = b) W (((W.setCell ⟨b, 0, none⟩ u1).setCell ⟨b, 1, none⟩ u2).setCell ⟨b, 2, none⟩ u3) := by
  have hrow : Row W b e 3 [a1, a2, a3] := ⟨_, h, rfl, by simp, rfl⟩
  have h1 := ((hrow.set 0 u1).set 1 u2).set 2 u3
  exact ⟨h1.cell rfl, h1.cell rfl, h1.cell rfl, (((Turned.refl (fun k => k = b) W).setCell (p := ⟨b, 0, none⟩) (.inl rfl) u1).setCell (p := ⟨b, 1, none⟩) (.inl rfl) u2).setCell (p := ⟨b, 2, none⟩) (.inl rfl) u3⟩

theorem up_verdict {w W W2 : World} {b : Nat} (hu : Up w W) (ht : Turned (fun k => k = b) W W2) (hb : w.heap.size ≤ b) : Up w W2 := by
  have h1 : Turned (fun j => w.heap.size ≤ j) w W2 := (Turned.below hu).trans ht (fun i hi e => by rw [e]; exact hb)
  exact ⟨h1.os, h1.tape, h1.output, h1.size, fun i hi => h1.block i hi (by omega)⟩

theorem FaultE.turned {W W2 : World} {b pb : Nat} {l : ByteArray} {v : Value} (h : FaultE W pb l v) (ht : Turned (fun k => k = b) W W2) (hb : b < pb) : FaultE W2 pb l v :=
  (ht.block pb (lt_of_block' h) (by omega)).trans h

theorem AskBad.turned {s : Sy.Lts} {p q : Int} {w0 w w1 w2 : World} {b : Nat} {x xi xl e : Value} (h : AskBad s p q w x xi xl e w1) (ht : Turned (fun k => k = b) w1 w2) (h0 : w0.heap.size ≤ w.heap.size) (hb : b < w.heap.size) : AskBad s p q w0 x xi xl e w2 := by
  rcases h with ⟨h1, h2, h3, pb, e, h4, h5⟩ | ⟨h1, h2, pb, e, h4, h5⟩ | ⟨h1, qb, pb, e, h4, h5, h6, h7⟩
  · exact .inl ⟨h1, h2, h3, pb, e, by omega, h5.turned ht (by omega)⟩
  · exact .inr (.inl ⟨h1, h2, pb, e, by omega, h5.turned ht (by omega)⟩)
  · exact .inr (.inr ⟨h1, qb, pb, e, by omega, by omega, h6.turned ht (by omega), h7.turned ht (by omega)⟩)

set_option maxHeartbeats 8000000 in
set_option maxRecDepth 100000 in
theorem cmp_bad (s : Sy.Lts) (se : Value) (p q : Int) (a b i n m : Addr) (w : World) (hT : Tab w) (hG : ErrT w) (hs : Ls3 w se s.es) (hC : CmpSent w a b i n m) (hl : s.es.length ≤ maxLen) (hno : ¬ (Sy.right s = true ∧ There s p q ∧ s.n ≤ 300)) :
    Calls Tryz.prog 15 #[sysV s se, .int .i64 p, .int .i64 q] w (CmpDone s p q w (.iface 354 (.pointer (some a))) (.iface 354 (.pointer (some i))) (.iface 354 (.pointer (some b))) (.iface 354 (.pointer (some m)))) := by
  obtain ⟨ao, cap, rfl⟩ := ls3_shape hs
  have HK : Hid (∀ W, Up w W → Calls Tryz.prog 45 #[.agg #[.int .i64 s.n, .int .i64 s.m, .int .i64 s.start, .slice ao s.es.length cap], .int .i64 p, .int .i64 q] W (fun r w2 => Up W w2 ∧ ∃ qb, r = .returned (.tuple #[.pointer none, faultAt qb]) ∧
      AskBad s p q W (.iface 354 (.pointer (some a))) (.iface 354 (.pointer (some i))) (.iface 354 (.pointer (some b))) (faultAt qb) w2)) :=
    Lib.hid (fun W hW => (askD_any s (.slice ao s.es.length cap) p q a b _ _ W (hT.up hW) (hW.cell hG) (hs.up hW) (hC.up hW).sys (hC.up hW).idx (hC.up hW).long hl).mono (by
      rintro r w2 ⟨hu2, ⟨h1, h2, h3, -⟩ | ⟨e, rfl, hb⟩⟩
      · exact absurd ⟨h1, h2, h3⟩ hno
      · obtain ⟨qb, rfl⟩ := hb.fault
        exact ⟨hu2, qb, rfl, hb⟩))
  obtain ⟨L, hL⟩ : ∃ L, L = s.es.length := ⟨_, rfl⟩
  rw [← hL] at HK
  unfold sysV
  rw [← hL]
  have HU0 : Hid (∀ A B, Up w ((w.alloc A).alloc B)) := Lib.hid (fun A B => ((Up.refl w).alloc A).alloc B)
  clear hT hG hs hC hl hno hL
  go_enter Tryz.func15, Tryz.ntmps15
  go_wp2_with (go_at_call 45; refine (HK.out _ (HU0.out _ _)).mono ?_; rintro r w2 ⟨hu2, qb, rfl, hb⟩; (have hvb := (hu2.block (w.heap.size + 1) (by simp)).trans (cmp_boxes w _ _ _)); (obtain ⟨⟨v0, v1, v2⟩, vf0, vf1, vf2⟩ := verdict_cells hvb); (have HVB := Lib.hid hvb); (have HU2 := Lib.hid ((HU0.out _ _).trans hu2)); (have HB := Lib.hid hb); clear hu2 hb hvb; unfold faultAt)
  obtain ⟨z0, z1, z2, hT⟩ := verdict_set HVB.out (.bool false) (.slice none 0 0) (.slice none 0 0)
  refine bodyPost_ret (v := .tuple #[.agg #[.bool false, .slice none 0 0, .slice none 0 0], .iface 103 (.pointer (some ⟨qb, 0, none⟩))]) (by simp [results, Tryz.results15, go_sem, z0, z1, z2]) rfl ?_
  have hu9 := up_verdict HU2.out hT (by omega)
  have hb9 := HB.out
  exact ⟨hu9, .inr (.inr ⟨_, rfl, hb9.turned hT (HU0.out _ _).size (by simp)⟩)⟩

theorem FormDone.base {w0 W w' : World} {s : Sy.Lts} {p q : Nat} {xn xm : Value} {r : Ending} (h : FormDone w0 s p q xn xm r w') (hu : Up W w0) : FormDone W s p q xn xm r w' := by
  have hs := hu.size
  obtain ⟨h1, h2⟩ := h
  refine ⟨hu.trans h1, ?_⟩
  rcases h2 with ⟨k, pb, e, hb, hf⟩ | ⟨k, k2, pb, e, hb, hf⟩ | ⟨k, k2, ao, cap, e, ho⟩
  · exact .inl ⟨k, pb, e, by omega, hf⟩
  · exact .inr (.inl ⟨k, k2, pb, e, by omega, hf⟩)
  · exact .inr (.inr ⟨k, k2, ao, cap, e, owns_base ho hs⟩)

/-- asked, and formula behind it, of two states that are there. -/
def AskForm (s : Sy.Lts) (p q : Nat) (W : World) (xn xm : Value) (r : Ending) (w2 : World) : Prop :=
  Up W w2 ∧ ∃ tb, r = .returned (.tuple #[.pointer (some ⟨tb, 0, none⟩), .nilIface]) ∧ Calls Tryz.prog 46 #[.pointer (some ⟨tb, 0, none⟩), .int .i64 (p : Nat), .int .i64 (q : Nat)] w2 (FormDone W s p q xn xm)

theorem ask_form (s : Sy.Lts) (se : Value) (p q : Nat) (a b i n m : Addr) (w : World) (hT : Tab w) (hG : ErrT w) (hs : Ls3 w se s.es) (hC : CmpSent w a b i n m) (hl : s.es.length ≤ maxLen) (hr : Sy.right s = true) (ht : There s p q) (h3 : s.n ≤ 300) :
    Calls Tryz.prog 45 #[sysV s se, .int .i64 (p : Nat), .int .i64 (q : Nat)] w (AskForm s p q w (.iface 354 (.pointer (some n))) (.iface 354 (.pointer (some m)))) := by
  refine (askD_ok s se p q a b undef undef w hr hT hG hs hC.sys hC.long hl ht h3).mono ?_
  rintro r w2 ⟨hu2, ⟨-, -, -, v, rfl, w0, tb, B, rv, ma, mk, rfl, hu, hL, hTel⟩ | ⟨e, rfl, hb⟩⟩
  · have hp : p < s.n.toNat := by unfold There at ht; omega
    have hq : q < s.n.toNat := by unfold There at ht; omega
    exact ⟨hu2, tb, rfl, (formula_any hL hTel (root_new s) hp hq (hu.cell hC.non) (hu.cell hC.lim)).mono (fun r w' h => h.base hu)⟩
  · rcases hb with ⟨_, _, k, _⟩ | ⟨_, k, _⟩ | ⟨k, _⟩
    · omega
    · exact absurd ht k
    · exact absurd (hr.symm.trans k) (by decide)

theorem sys_box (w : World) (A : Array Value) (t : TypeId) (B : Obj) : ((w.alloc (.cells A t)).alloc B).heap[w.heap.size]? = some (.cells A t (0, 0)) :=
  (Below.heap_alloc (w.alloc (.cells A t)) B _ (by simp)).trans (heap_alloc_new w _)

set_option maxHeartbeats 8000000 in
set_option maxRecDepth 100000 in
theorem cmp_same (s : Sy.Lts) (se : Value) (p q : Nat) (a b i n m : Addr) (x xi xl xm : Value) (w : World) (hT : Tab w) (hG : ErrT w) (hs : Ls3 w se s.es) (hC : CmpSent w a b i n m) (hl : s.es.length ≤ maxLen) (hr : Sy.right s = true) (ht : There s p q) (h3 : s.n ≤ 300) (h0 : Rd.rank s p q < 0) :
    Calls Tryz.prog 15 #[sysV s se, .int .i64 (p : Nat), .int .i64 (q : Nat)] w (CmpDone s p q w x xi xl xm) := by
  obtain ⟨ao, cap, rfl⟩ := ls3_shape hs
  have HK : Hid (∀ W, Up w W → Calls Tryz.prog 45 #[.agg #[.int .i64 s.n, .int .i64 s.m, .int .i64 s.start, .slice ao s.es.length cap], .int .i64 (p : Nat), .int .i64 (q : Nat)] W (AskForm s p q W (.iface 354 (.pointer (some n))) (.iface 354 (.pointer (some m))))) :=
    Lib.hid (fun W hW => ask_form s (.slice ao s.es.length cap) p q a b i n m W (hT.up hW) (hW.cell hG) (hs.up hW) (hC.up hW) hl hr ht h3)
  have HCL : Hid (∀ W, Up w W → Calls Tryz.prog 28 #[.agg #[.int .i64 s.n, .int .i64 s.m, .int .i64 s.start, .slice ao s.es.length cap]] W (ClassesOk s W s.n.toNat)) :=
    Lib.hid (fun W hW => classes_ok s (.slice ao s.es.length cap) _ _ W hr (hs.up hW) (hC.up hW).sys hl)
  have HYES := Lib.hid (And.intro hr (And.intro ht (And.intro h3 h0)))
  have HCC := Lib.hid hC
  obtain ⟨L, hL⟩ : ∃ L, L = s.es.length := ⟨_, rfl⟩
  rw [← hL] at HK HCL
  unfold sysV
  rw [← hL]
  obtain ⟨N, hN⟩ : ∃ N, N = s.n.toNat := ⟨_, rfl⟩
  rw [← hN] at HCL
  have HN := Lib.hid hN
  have HU0 : Hid (∀ A B, Up w ((w.alloc A).alloc B)) := Lib.hid (fun A B => ((Up.refl w).alloc A).alloc B)
  have gn := hC.non
  clear hT hG hs hC hl hr ht h3 h0 hL hN
  go_enter Tryz.func15, Tryz.ntmps15
  go_wp2_with (first
    | (go_at_call 45; refine (HK.out _ (HU0.out _ _)).mono ?_; rintro r w2 ⟨hu2, tb, rfl, hfm⟩; (have hvb := (hu2.block (w.heap.size + 1) (by simp)).trans (cmp_boxes w _ _ _)); (have hsb := (hu2.block w.heap.size (by simp; omega)).trans (sys_box w _ _ _)); (have HVB := Lib.hid hvb); (have HSB := Lib.hid hsb); (have HU2 := Lib.hid ((HU0.out _ _).trans hu2)); (have HFM := Lib.hid hfm); clear hu2 hfm hvb hsb)
    | fail)
  refine HFM.out.mono ?_
  rintro r w3 ⟨hu3, ⟨-, pb, rfl, hpb, hfe⟩ | ⟨h1, -⟩ | ⟨h1, -⟩⟩
  rotate_left
  · exact absurd h1 (by have := HYES.out.2.2.2; omega)
  · exact absurd h1 (by have := HYES.out.2.2.2; omega)
  have HSZ := Lib.hid (HU0.out (.cells #[.int .i64 s.n, .int .i64 s.m, .int .i64 s.start, .slice ao L cap] 27) (.cells #[.bool false, .slice none 0 0, .slice none 0 0] 38)).size
  have hu3' : Up w w3 := (HU0.out _ _).trans hu3
  have gn3 := ((Up.refl w3).alloc (.cells #[.pointer none] 103)).cell (hu3'.cell gn)
  have hsb3 := (hu3.block w.heap.size (by simp; omega)).trans (sys_box w _ _ _)
  have hvb3 := (hu3.block (w.heap.size + 1) (by simp)).trans (cmp_boxes w _ _ _)
  have HF4 := Lib.hid (hfe.up ((Up.refl w3).alloc (.cells #[.pointer none] 103)))
  have HU4 := Lib.hid (hu3'.alloc (.cells #[.pointer none] 103))
  have HSB4 := Lib.hid ((((Up.refl w3).alloc (.cells #[.pointer none] 103)).block _ (lt_of_block' hsb3)).trans hsb3)
  have HVB4 := Lib.hid ((((Up.refl w3).alloc (.cells #[.pointer none] 103)).block _ (lt_of_block' hvb3)).trans hvb3)
  obtain ⟨⟨s0, s1, s2, s3⟩, -⟩ := four_cells HSB4.out
  clear hu3 hu3' hpb hfe hsb3 hvb3 gn
  unfold faultAt
  go_wp2_with (first
    | (go_at_call 16; refine (is_fault_same pb n _ (fault_cell HF4.out)).mono ?_; rintro e w4 ⟨rfl, rfl⟩)
    | (go_at_call 28; refine (HCL.out _ HU4.out).mono ?_; rintro r w5 ⟨a1, c1, rfl, HO5, hu5⟩; (have hvb5 := (hu5.block _ (lt_of_block' HVB4.out)).trans HVB4.out); (obtain ⟨⟨v0, v1, v2⟩, vf0, vf1, vf2⟩ := verdict_cells hvb5); (have HVB5 := Lib.hid hvb5); (have HU5 := Lib.hid (HU4.out.trans hu5)); clear hu5 hvb5))
  obtain ⟨z0, z1, z2, hT⟩ := verdict_set HVB5.out (.bool true) (.slice a1 N c1) (.slice none 0 0)
  refine bodyPost_ret (v := .tuple #[.agg #[.bool true, .slice a1 N c1, .slice none 0 0], .nilIface]) (by simp [results, Tryz.results15, go_sem, z0, z1, z2]) rfl ?_
  have hu9 := up_verdict HU5.out hT (by omega)
  obtain ⟨y1, y2, y3, y4⟩ := HYES.out
  have hsz := HU4.out.size
  have hown : World.ownsRow _ _ _ _ _ _ _ := HO5.out
  refine ⟨hu9, .inl ⟨y1, y2, y3, .inl ⟨by simpa using y4, a1, c1, by rw [← HN.out], ?_⟩⟩⟩
  rw [← HN.out]
  refine owns_base (owns_keep hown (fun g hg => hT.block g (owns_lt hown hg) (fun e => ?_))) hsz
  have h1 := (hown.lt g hg).1
  have h2 := lt_of_block' HVB4.out
  omega

set_option maxHeartbeats 8000000 in
set_option maxRecDepth 100000 in
theorem cmp_long (s : Sy.Lts) (se : Value) (p q : Nat) (a b i n m : Addr) (x xi xl : Value) (w : World) (hT : Tab w) (hG : ErrT w) (hs : Ls3 w se s.es) (hC : CmpSent w a b i n m) (hl : s.es.length ≤ maxLen) (hr : Sy.right s = true) (ht : There s p q) (h3 : s.n ≤ 300) (h0 : 0 ≤ Rd.rank s p q) (hlong : 5000 < (Dt.F s p q).length) :
    Calls Tryz.prog 15 #[sysV s se, .int .i64 (p : Nat), .int .i64 (q : Nat)] w (CmpDone s p q w x xi xl (.iface 354 (.pointer (some m)))) := by
  obtain ⟨ao, cap, rfl⟩ := ls3_shape hs
  have HK : Hid (∀ W, Up w W → Calls Tryz.prog 45 #[.agg #[.int .i64 s.n, .int .i64 s.m, .int .i64 s.start, .slice ao s.es.length cap], .int .i64 (p : Nat), .int .i64 (q : Nat)] W (AskForm s p q W (.iface 354 (.pointer (some n))) (.iface 354 (.pointer (some m))))) :=
    Lib.hid (fun W hW => ask_form s (.slice ao s.es.length cap) p q a b i n m W (hT.up hW) (hW.cell hG) (hs.up hW) (hC.up hW) hl hr ht h3)
  have HG := Lib.hid hG
  have HYES := Lib.hid (And.intro hr (And.intro ht (And.intro h3 (And.intro h0 hlong))))
  have HCC := Lib.hid hC
  obtain ⟨L, hL⟩ : ∃ L, L = s.es.length := ⟨_, rfl⟩
  rw [← hL] at HK
  unfold sysV
  rw [← hL]
  obtain ⟨N, hN⟩ : ∃ N, N = s.n.toNat := ⟨_, rfl⟩
  have HN := Lib.hid hN
  have HU0 : Hid (∀ A B, Up w ((w.alloc A).alloc B)) := Lib.hid (fun A B => ((Up.refl w).alloc A).alloc B)
  have gn := hC.non
  clear hT hG hs hC hl hr ht h3 h0 hlong hL hN
  go_enter Tryz.func15, Tryz.ntmps15
  go_wp2_with (first
    | (go_at_call 45; refine (HK.out _ (HU0.out _ _)).mono ?_; rintro r w2 ⟨hu2, tb, rfl, hfm⟩; (have hvb := (hu2.block (w.heap.size + 1) (by simp)).trans (cmp_boxes w _ _ _)); (have hsb := (hu2.block w.heap.size (by simp; omega)).trans (sys_box w _ _ _)); (have HVB := Lib.hid hvb); (have HSB := Lib.hid hsb); (have HU2 := Lib.hid ((HU0.out _ _).trans hu2)); (have HFM := Lib.hid hfm); clear hu2 hfm hvb hsb)
    | fail)
  refine HFM.out.mono ?_
  rintro r w3 ⟨hu3, ⟨h1, -⟩ | ⟨-, -, pb, rfl, hpb, hfe⟩ | ⟨-, h1, -⟩⟩
  · exact absurd h1 (by have := HYES.out.2.2.2.1; omega)
  rotate_left
  · exact absurd h1 (by have := HYES.out.2.2.2.2; omega)
  have hu3' : Up w w3 := (HU0.out _ _).trans hu3
  have gn3 := ((Up.refl w3).alloc (.cells #[.pointer none] 103)).cell (hu3'.cell gn)
  have hvb3 := (hu3.block (w.heap.size + 1) (by simp)).trans (cmp_boxes w _ _ _)
  have HC4 := Lib.hid (HCC.out.up (hu3'.alloc (.cells #[.pointer none] 103)))
  have HF3 := Lib.hid hfe
  have HU3 := Lib.hid hu3'
  have HVB3 := Lib.hid hvb3
  have HPB : Hid (w.heap.size + 2 ≤ pb) := Lib.hid (by simpa using hpb)
  clear hu3 hu3' hpb hfe hvb3 gn
  unfold faultAt
  have HIS : Hid (Calls Tryz.prog 16 #[.iface 103 (.pointer (some ⟨pb, 0, none⟩)), .iface 354 (.pointer (some n))] (w3.alloc (.cells #[.pointer none] 103)) fun r w' => r = .returned (.bool false) ∧ (w3.alloc (.cells #[.pointer none] 103)) = w') := Lib.hid (HC4.out.other (HF3.out.up ((Up.refl w3).alloc _)))
  go_upto_region 10 with (first
    | (go_at_call 16; refine HIS.out.mono ?_; rintro e w4 ⟨rfl, rfl⟩)
    | (go_at_call 47; refine (as_box ⟨pb, 0, none⟩ (.pointer none) w3 (HU3.out.cell HG.out)).mono ?_; rintro e w5 ⟨rfl, hc5, hu5⟩))
  have hvb5 := (hu5.block _ (lt_of_block' HVB3.out)).trans HVB3.out
  obtain ⟨⟨v0, v1, v2⟩, vf0, vf1, vf2⟩ := verdict_cells hvb5
  have HVB5 := Lib.hid hvb5
  have HU5 := Lib.hid (HU3.out.trans hu5)
  have HF5 := Lib.hid (HF3.out.up hu5)
  clear hvb5 hu5 gn3
  have hlt3 : w.heap.size + 1 < w3.heap.size := lt_of_block' HVB3.out
  have hne3 : w3.heap.size ≠ w.heap.size + 1 := by omega
  have hne4 : w.heap.size + 1 ≠ w3.heap.size := by omega
  go_region
  obtain ⟨z0, z1, z2, hT⟩ := verdict_set HVB5.out (.bool false) (.slice none 0 0) (.slice none 0 0)
  have hT2 := hT.drew
  generalize ((w5.setCell ⟨w.heap.size + 1, 0, none⟩ (.bool false)).setCell ⟨w.heap.size + 1, 1, none⟩ (.slice none 0 0)).setCell ⟨w.heap.size + 1, 2, none⟩ (.slice none 0 0) = W9 at z0 z1 z2 hT hT2 ⊢
  have z0' : W9.drew.cell? ⟨w.heap.size + 1, 0, none⟩ = some (.bool false) := z0
  have z1' : W9.drew.cell? ⟨w.heap.size + 1, 1, none⟩ = some (.slice none 0 0) := z1
  have z2' : W9.drew.cell? ⟨w.heap.size + 1, 2, none⟩ = some (.slice none 0 0) := z2
  generalize W9.drew = W8 at z0' z1' z2' hT2 ⊢
  go_wp2_with fail
  refine bodyPost_ret (v := .tuple #[.agg #[.bool false, .slice none 0 0, .slice none 0 0], .iface 103 (.pointer (some ⟨pb, 0, none⟩))]) (by simp [results, Tryz.results15, go_sem, z0', z1', z2']) rfl ?_
  have hu9 := up_verdict HU5.out hT2 (by omega)
  obtain ⟨y1, y2, y3, y4, y5⟩ := HYES.out
  have hpb := HPB.out
  exact ⟨hu9, .inr (.inl ⟨y1, y2, y3, by simpa using y4, by simpa using y5, pb, rfl, by omega, HF5.out.turned hT2 (by omega)⟩)⟩

set_option maxHeartbeats 8000000 in
set_option maxRecDepth 100000 in
theorem cmp_form (s : Sy.Lts) (se : Value) (p q : Nat) (a b i n m : Addr) (x xi xl xm : Value) (w : World) (hT : Tab w) (hG : ErrT w) (hs : Ls3 w se s.es) (hC : CmpSent w a b i n m) (hl : s.es.length ≤ maxLen) (hr : Sy.right s = true) (ht : There s p q) (h3 : s.n ≤ 300) (h0 : 0 ≤ Rd.rank s p q) (hlong : (Dt.F s p q).length ≤ 5000) :
    Calls Tryz.prog 15 #[sysV s se, .int .i64 (p : Nat), .int .i64 (q : Nat)] w (CmpDone s p q w x xi xl xm) := by
  obtain ⟨ao, cap, rfl⟩ := ls3_shape hs
  have HK : Hid (∀ W, Up w W → Calls Tryz.prog 45 #[.agg #[.int .i64 s.n, .int .i64 s.m, .int .i64 s.start, .slice ao s.es.length cap], .int .i64 (p : Nat), .int .i64 (q : Nat)] W (AskForm s p q W (.iface 354 (.pointer (some n))) (.iface 354 (.pointer (some m))))) :=
    Lib.hid (fun W hW => ask_form s (.slice ao s.es.length cap) p q a b i n m W (hT.up hW) (hW.cell hG) (hs.up hW) (hC.up hW) hl hr ht h3)
  have HG := Lib.hid hG
  have HYES := Lib.hid (And.intro hr (And.intro ht (And.intro h3 (And.intro h0 hlong))))
  have HCC := Lib.hid hC
  obtain ⟨L, hL⟩ : ∃ L, L = s.es.length := ⟨_, rfl⟩
  rw [← hL] at HK
  unfold sysV
  rw [← hL]
  obtain ⟨N, hN⟩ : ∃ N, N = s.n.toNat := ⟨_, rfl⟩
  have HN := Lib.hid hN
  have HU0 : Hid (∀ A B, Up w ((w.alloc A).alloc B)) := Lib.hid (fun A B => ((Up.refl w).alloc A).alloc B)
  have gn := hC.non
  clear hT hG hs hC hl hr ht h3 h0 hlong hL hN
  go_enter Tryz.func15, Tryz.ntmps15
  go_wp2_with (first
    | (go_at_call 45; refine (HK.out _ (HU0.out _ _)).mono ?_; rintro r w2 ⟨hu2, tb, rfl, hfm⟩; (have hvb := (hu2.block (w.heap.size + 1) (by simp)).trans (cmp_boxes w _ _ _)); (have hsb := (hu2.block w.heap.size (by simp; omega)).trans (sys_box w _ _ _)); (have HVB := Lib.hid hvb); (have HSB := Lib.hid hsb); (have HU2 := Lib.hid ((HU0.out _ _).trans hu2)); (have HFM := Lib.hid hfm); clear hu2 hfm hvb hsb)
    | fail)
  refine HFM.out.mono ?_
  rintro r w3 ⟨hu3, ⟨h1, -⟩ | ⟨-, h1, -⟩ | ⟨-, -, fo, fc, rfl, hown⟩⟩
  · exact absurd h1 (by have := HYES.out.2.2.2.1; omega)
  · exact absurd h1 (by have := HYES.out.2.2.2.2; omega)
  have hu3' : Up w w3 := (HU0.out _ _).trans hu3
  have gn3 := ((Up.refl w3).alloc (.cells #[.pointer none] 103)).cell (hu3'.cell gn)
  have hvb3 := (hu3.block (w.heap.size + 1) (by simp)).trans (cmp_boxes w _ _ _)
  have hvb4 := (((Up.refl w3).alloc (.cells #[.pointer none] 103)).block _ (lt_of_block' hvb3)).trans hvb3
  obtain ⟨⟨v0, v1, v2⟩, vf0, vf1, vf2⟩ := verdict_cells hvb4
  have HVB4 := Lib.hid hvb4
  have HU4 := Lib.hid (hu3'.alloc (.cells #[.pointer none] 103))
  obtain ⟨K, hK⟩ : ∃ K, K = (Dt.F s p q).length := ⟨_, rfl⟩
  have hown4 := ((Up.refl w3).alloc (.cells #[.pointer none] 103)).owns hown
  rw [← hK] at hown4 ⊢
  have HO4 := Lib.hid hown4
  have HKK := Lib.hid hK
  clear hu3 hu3' hown hown4 hvb3 hvb4 gn hK
  go_wp2_with (first
    | (go_at_call 16; refine (is_nil n _).mono ?_; rintro e w4 ⟨rfl, rfl⟩)
    | (go_at_call 47; refine (as_nil _ _).mono ?_; rintro e w5 ⟨rfl, rfl⟩))
  obtain ⟨z0, z1, z2, hT⟩ := verdict_set HVB4.out (.bool false) (.slice none 0 0) (.slice fo K fc)
  refine bodyPost_ret (v := .tuple #[.agg #[.bool false, .slice none 0 0, .slice fo K fc], .nilIface]) (by simp [results, Tryz.results15, go_sem, z0, z1, z2]) rfl ?_
  have hu9 := up_verdict HU4.out hT (by omega)
  obtain ⟨y1, y2, y3, y4, y5⟩ := HYES.out
  have hown := HO4.out
  refine ⟨hu9, .inl ⟨y1, y2, y3, .inr ⟨by simpa using y4, by simpa using y5, fo, fc, by simp only [Int.toNat_natCast, ← HKK.out], ?_⟩⟩⟩
  simp only [Int.toNat_natCast, ← HKK.out]
  refine owns_base (owns_keep hown (fun g hg => hT.block g (owns_lt hown hg) (fun e => ?_))) (by simp; omega)
  have h1 := (hown.lt g hg).1
  simp at h1
  omega

/-- Compare of whatever system and whatever numbers. -/
theorem compare_any (s : Sy.Lts) (se : Value) (p q : Int) (a b i n m : Addr) (w : World) (hT : Tab w) (hG : ErrT w) (hs : Ls3 w se s.es) (hC : CmpSent w a b i n m) (hl : s.es.length ≤ maxLen) :
    Calls Tryz.prog 15 #[sysV s se, .int .i64 p, .int .i64 q] w (CmpDone s p q w (.iface 354 (.pointer (some a))) (.iface 354 (.pointer (some i))) (.iface 354 (.pointer (some b))) (.iface 354 (.pointer (some m)))) := by
  by_cases hgood : Sy.right s = true ∧ There s p q ∧ s.n ≤ 300
  · obtain ⟨hr, ht, h3⟩ := hgood
    obtain ⟨P, rfl⟩ : ∃ P : Nat, p = (P : Nat) := ⟨p.toNat, by unfold There at ht; omega⟩
    obtain ⟨Q, rfl⟩ : ∃ Q : Nat, q = (Q : Nat) := ⟨q.toNat, by unfold There at ht; omega⟩
    by_cases h0 : Rd.rank s P Q < 0
    · exact cmp_same s se P Q a b i n m _ _ _ _ w hT hG hs hC hl hr ht h3 h0
    · by_cases hlong : 5000 < (Dt.F s P Q).length
      · exact cmp_long s se P Q a b i n m _ _ _ w hT hG hs hC hl hr ht h3 (by omega) hlong
      · exact cmp_form s se P Q a b i n m _ _ _ _ w hT hG hs hC hl hr ht h3 (by omega) (by omega)
  · exact cmp_bad s se p q a b i n m w hT hG hs hC hl hgood

end Go.Proofs.YtkcdkfkgjjpaaaaGreatDoor

namespace Go.Proofs.YtkcdkfkgjjpaaaaGreatDoor
open Go.RowKit Go.Maps
set_option linter.unusedVariables false
set_option linter.unusedSimpArgs false

/-- The system of the first calls. -/
def liveD : Sy.Lts := ⟨4, 2, 0, [(0, 1, 1), (1, 1, 2), (3, 1, 2)]⟩
theorem liveD_right : Sy.right liveD = true := by decide
theorem liveD_rank1 : 0 ≤ Rd.rank liveD 0 1 := by decide +kernel
theorem liveD_rank2 : Rd.rank liveD 1 3 < 0 := by decide +kernel
theorem liveD_form : (Dt.F liveD 0 1).length = 3 := by decide +kernel

/-- The edges' cells. -/
def liveE : Array Value := #[.int .i64 0, .int .i64 1, .int .i64 1, .int .i64 1, .int .i64 1, .int .i64 2, .int .i64 3, .int .i64 1, .int .i64 2]

theorem liveD_ls {w W : World} (hu : Up (w.alloc (.cells liveE 67)) W) : Ls3 W (.slice (some ⟨w.heap.size, 0, none⟩) 3 3) liveD.es := by
  have h : Row (w.alloc (.cells liveE 67)) w.heap.size 67 9 (cells3 liveD.es) := Row.new w 67 (cells3 liveD.es)
  exact Ls3.up ⟨_, 3, w.heap.size, 0, rfl, fun _ => rfl, h.tris⟩ hu

theorem liveD_one {w W : World} {a b i n m : Addr} (hT : Tab w) (hG : ErrT w) (hC : CmpSent w a b i n m) (hu : Up (w.alloc (.cells liveE 67)) W) :
    Calls Tryz.prog 15 #[.agg #[.int .i64 4, .int .i64 2, .int .i64 0, .slice (some ⟨w.heap.size, 0, none⟩) 3 3], .int .i64 0, .int .i64 1] W fun r w' => (∃ ao cap, r = .returned (.tuple #[.agg #[.bool false, .slice none 0 0, .slice ao 3 cap], .nilIface])) ∧ Up W w' := by
  have hu0 : Up w W := ((Up.refl w).alloc _).trans hu
  have h := cmp_form liveD (.slice (some ⟨w.heap.size, 0, none⟩) 3 3) 0 1 a b i n m undef undef undef undef W (hT.up hu0) (hu0.cell hG) (liveD_ls hu) (hC.up hu0) (by unfold maxLen; decide) liveD_right (by unfold There liveD; decide) (by decide) liveD_rank1 (by rw [liveD_form]; decide)
  refine Calls.mono h ?_
  rintro r w' ⟨hu1, ⟨-, -, -, ⟨h1, -⟩ | ⟨-, -, ao, cap, rfl, -⟩⟩ | ⟨-, -, -, -, h1, -⟩ | ⟨e, rfl, hb⟩⟩
  · exact absurd h1 (by have := liveD_rank1; simp only [Int.toNat_natCast]; exact Int.not_lt.2 this)
  · refine ⟨⟨ao, cap, ?_⟩, hu1⟩
    rw [show (Dt.F liveD ((0 : Nat) : Int).toNat ((1 : Nat) : Int).toNat).length = 3 from liveD_form]
  · exact absurd h1 (by rw [show (Dt.F liveD ((0 : Nat) : Int).toNat ((1 : Nat) : Int).toNat).length = 3 from liveD_form]; decide)
  · rcases hb with ⟨_, _, k, _⟩ | ⟨_, k, _⟩ | ⟨k, _⟩
    · exact absurd k (by decide)
    · exact absurd (by unfold There liveD; decide) k
    · exact absurd (liveD_right.symm.trans k) (by decide)

theorem liveD_two {w W : World} {a b i n m : Addr} (hT : Tab w) (hG : ErrT w) (hC : CmpSent w a b i n m) (hu : Up (w.alloc (.cells liveE 67)) W) :
    Calls Tryz.prog 15 #[.agg #[.int .i64 4, .int .i64 2, .int .i64 0, .slice (some ⟨w.heap.size, 0, none⟩) 3 3], .int .i64 1, .int .i64 3] W fun r w' => (∃ ao cap, r = .returned (.tuple #[.agg #[.bool true, .slice ao 4 cap, .slice none 0 0], .nilIface])) ∧ Up W w' := by
  have hu0 : Up w W := ((Up.refl w).alloc _).trans hu
  have h := cmp_same liveD (.slice (some ⟨w.heap.size, 0, none⟩) 3 3) 1 3 a b i n m undef undef undef undef W (hT.up hu0) (hu0.cell hG) (liveD_ls hu) (hC.up hu0) (by unfold maxLen; decide) liveD_right (by unfold There liveD; decide) (by decide) liveD_rank2
  refine Calls.mono h ?_
  rintro r w' ⟨hu1, ⟨-, -, -, ⟨-, ao, cap, rfl, -⟩ | ⟨h1, -⟩⟩ | ⟨-, -, -, h1, -⟩ | ⟨e, rfl, hb⟩⟩
  · exact ⟨⟨ao, cap, rfl⟩, hu1⟩
  · exact absurd h1 (by have := liveD_rank2; simp only [Int.toNat_natCast]; exact Int.not_le.2 this)
  · exact absurd h1 (by have := liveD_rank2; simp only [Int.toNat_natCast]; exact Int.not_le.2 this)
  · rcases hb with ⟨_, _, k, _⟩ | ⟨_, k, _⟩ | ⟨k, _⟩
    · exact absurd k (by decide)
    · exact absurd (by unfold There liveD; decide) k
    · exact absurd (liveD_right.symm.trans k) (by decide)

theorem bound22 : (Dt.bound 2 2 : Nat) = 13 := by decide +kernel

set_option maxHeartbeats 4000000 in
set_option maxRecDepth 100000 in
theorem aliveD_any {w : World} {a b i n m : Addr} (hT : Tab w) (hG : ErrT w) (hC : CmpSent w a b i n m) :
    Calls Tryz.prog 9 #[] w fun r w' => r = .returned (.bool true) ∧ Up w w' := by
  have HA := Lib.hid (fun W hu => liveD_one (W := W) hT hG hC hu)
  have HK := Lib.hid (fun W hu => liveD_two (W := W) hT hG hC hu)
  have HB : Hid (∀ W, Calls Tryz.prog 10 #[.int .i64 2, .int .i64 2] W fun r w' => r = .returned (.int .i64 13) ∧ W = w') := Lib.hid (fun W => by
    have h := bound_any 2 2 W (by decide)
    rw [bound22] at h
    exact h)
  clear hT hG hC
  have hu1 : Up (w.alloc (.cells liveE 67)) ((w.alloc (.cells liveE 67)).alloc (.cells #[.int .i64 4, .int .i64 2, .int .i64 0, .slice (some ⟨w.heap.size, 0, none⟩) 3 3] 27)) := (Up.refl _).alloc _
  have hb1 := heap_alloc_new (w.alloc (.cells liveE 67)) (.cells #[.int .i64 4, .int .i64 2, .int .i64 0, .slice (some ⟨w.heap.size, 0, none⟩) 3 3] 27)
  rw [World.size_alloc] at hb1
  have HU0 := Lib.hid (((Up.refl w).alloc (.cells liveE 67)).trans hu1)
  have HB1 := Lib.hid hb1
  have HU1 := Lib.hid hu1
  clear hu1 hb1
  unfold liveE at HU0 HB1 HU1 HA HK
  go_enter Tryz.func9, Tryz.ntmps9
  go_upto_region 3 with (go_at_call 15; refine (HA.out _ HU1.out).mono ?_; rintro r w2 ⟨⟨ao, cap, rfl⟩, hu2⟩)
  have hu2' := hu2.alloc (.cells #[.bool false, .slice none 0 0, .slice ao 3 cap] 38)
  obtain ⟨⟨b0, b1, b2, b3⟩, -⟩ := four_cells ((hu2'.block _ (lt_of_block' HB1.out)).trans HB1.out)
  have hv2 := heap_alloc_new w2 (.cells #[.bool false, .slice none 0 0, .slice ao 3 cap] 38)
  have HU2 := Lib.hid hu2'
  have HV2 := Lib.hid hv2
  clear hu2 hu2' hv2
  go_upto_region 4 with (go_at_call 15; refine (HK.out _ (HU1.out.trans HU2.out)).mono ?_; rintro r w3 ⟨⟨ao', cap', rfl⟩, hu3⟩)
  have hu3' := hu3.alloc (.cells #[.bool true, .slice ao' 4 cap', .slice none 0 0] 38)
  obtain ⟨⟨v0, v1, v2⟩, -⟩ := verdict_cells ((hu3'.block _ (lt_of_block' HV2.out)).trans HV2.out)
  obtain ⟨⟨u0, u1, u2⟩, -⟩ := verdict_cells (heap_alloc_new w3 (.cells #[.bool true, .slice ao' 4 cap', .slice none 0 0] 38))
  have HU3 := Lib.hid hu3'
  clear hu3 hu3'
  go_wp2_with (go_at_call 10; refine (HB.out _).mono ?_; rintro r w4 ⟨rfl, rfl⟩)
  go_ret
  exact ⟨rfl, (HU0.out.trans HU2.out).trans HU3.out⟩

/-- What a statement leaves. -/
def GoodD (w : World) (r : Ending) (w' : World) : Prop := r = .returned (.bool true) ∧ Below w.heap.size w w'

end Go.Proofs.YtkcdkfkgjjpaaaaGreatDoor
