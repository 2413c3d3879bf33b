/- The document's own errors: a system that is none, handed on; what an error is told to be. What an error is told to be: none, a number that is not there, a system that is none; is a system light. The statement RoundsRank, walked. -/
import Derived.Test.YtpmdjicaefmbnaaGreatDoorRdTop
import Derived.Test.YtpmdjicaefmbnaaGreatDoorRfRight
import Derived.Test.YtpmdjicaefmbnaaGreatDoorQuiet
import Derived.Test.YtpmdjicaefmbnaaGreatDoorRdAlive
import Derived.Deep.QuietTactic
import Derived.Test.YtpmdjicaefmbnaaGreatDoorRfRounds
import Derived.Test.YtpmdjicaefmbnaaGreatDoorRdIsW

namespace Go.Proofs.YtpmdjicaefmbnaaGreatDoor
open Go.RowKit Go.Extern.Stop Go.Stop Go.Extern
set_option linter.unusedVariables false
set_option linter.unusedSimpArgs false

/-- "system ", "rounds ", "rounds system ". -/
def layersSystem : ByteArray := { data := #[115, 121, 115, 116, 101, 109, 32] }
def layersRounds : ByteArray := { data := #[114, 111, 117, 110, 100, 115, 32] }
def layersBoth : ByteArray := { data := #[114, 111, 117, 110, 100, 115, 32, 115, 121, 115, 116, 101, 109, 32] }

/-- An error's value by the document. -/
def errV (code : Int) (l : ByteArray) : Value := .agg #[.int .i64 code, .int .i64 0, .int .i64 0, .string l]
def noErr : Value := errV 0 { data := #[] }

set_option maxHeartbeats 1000000 in
theorem badS_any (k : Int) (w : World) :
    Calls Tryz.prog 24 #[.string layerSystem, .int .i64 k] w fun r w' => r = .returned (errV k layersSystem) ∧ Up w w' := by
  unfold layerSystem
  go_enter Tryz.func24, Tryz.ntmps24
  go_wp2_with fail
  apply bodyPost_ret
  · (simp [results, Tryz.results24, go_sem]; rfl)
  · rfl
  · exact ⟨rfl, by repeat (first | (with_reducible exact Up.refl _) | (with_reducible apply Up.drew) | (with_reducible apply Up.alloc))⟩

set_option maxHeartbeats 1000000 in
theorem badR_any (k : Int) (w : World) :
    Calls Tryz.prog 24 #[.string layerRounds, .int .i64 k] w fun r w' => r = .returned (errV k layersRounds) ∧ Up w w' := by
  unfold layerRounds
  go_enter Tryz.func24, Tryz.ntmps24
  go_wp2_with fail
  apply bodyPost_ret
  · (simp [results, Tryz.results24, go_sem]; rfl)
  · rfl
  · exact ⟨rfl, by repeat (first | (with_reducible exact Up.refl _) | (with_reducible apply Up.drew) | (with_reducible apply Up.alloc))⟩

theorem wrap_each {w : World} {v : Value} {a : Nat → Addr} (h : Wraps w v (a 13)) (S : Sts14 w a) : ∀ i, i < 13 →
    Calls Tryz.prog 27 #[v, .iface 299 (.pointer (some (a i)))] w fun e w' => e = .returned (.bool false) ∧ w = w' := fun i hi => by
  obtain ⟨c, t, hc⟩ := (S.sent 13 (by decide)).blk
  obtain ⟨c1, t1, hc1⟩ := (S.sent i (by omega)).blk
  exact is_other h (S.ne 13 i (by decide) (by omega) (by omega)) hc hc1

set_option maxHeartbeats 2000000 in
theorem rest_14w {w : World} {v : Value} {a : Nat → Addr} (h : Wraps w v (a 13)) (S : Sts14 w a) :
    Calls Tryz.prog 108 #[v] w fun r w' => r = .returned (.int .i64 14) ∧ w = w' := by
  have H := Lib.hid (wrap_each h S)
  have HT := Lib.hid (is_same h)
  have g10 : w.cell? ⟨11, 0, none⟩ = some (.iface 299 (.pointer (some (a 10)))) := (S.sent 10 (by decide)).var
  have g11 : w.cell? ⟨12, 0, none⟩ = some (.iface 299 (.pointer (some (a 11)))) := (S.sent 11 (by decide)).var
  have g12 : w.cell? ⟨13, 0, none⟩ = some (.iface 299 (.pointer (some (a 12)))) := (S.sent 12 (by decide)).var
  have g13 : w.cell? ⟨0, 0, none⟩ = some (.iface 299 (.pointer (some (a 13)))) := (S.sent 13 (by decide)).var
  obtain ⟨t, p, rfl⟩ := wraps_ne h
  clear S h
  go_enter Tryz.func108, Tryz.ntmps108
  go_wp2_with (first
    | (go_at_call 27; (with_reducible refine HT.out.mono ?_); rintro e w4 ⟨rfl, rfl⟩)
    | (go_at_call 27; (with_reducible refine (H.out _ (by decide)).mono ?_); rintro e w4 ⟨rfl, rfl⟩))
  go_ret
  exact ⟨rfl, rfl⟩

set_option maxHeartbeats 4000000 in
theorem code_14w {w : World} {v : Value} {a : Nat → Addr} (h : Wraps w v (a 13)) (S : Sts14 w a) :
    Calls Tryz.prog 28 #[v] w fun r w' => r = .returned (.int .i64 14) ∧ w = w' := by
  have H := Lib.hid (wrap_each h S)
  have HR := Lib.hid (rest_14w h S)
  have g0 : w.cell? ⟨3, 0, none⟩ = some (.iface 299 (.pointer (some (a 0)))) := (S.sent 0 (by decide)).var
  have g1 : w.cell? ⟨1, 0, none⟩ = some (.iface 299 (.pointer (some (a 1)))) := (S.sent 1 (by decide)).var
  have g2 : w.cell? ⟨2, 0, none⟩ = some (.iface 299 (.pointer (some (a 2)))) := (S.sent 2 (by decide)).var
  have g3 : w.cell? ⟨4, 0, none⟩ = some (.iface 299 (.pointer (some (a 3)))) := (S.sent 3 (by decide)).var
  have g4 : w.cell? ⟨5, 0, none⟩ = some (.iface 299 (.pointer (some (a 4)))) := (S.sent 4 (by decide)).var
  have g5 : w.cell? ⟨6, 0, none⟩ = some (.iface 299 (.pointer (some (a 5)))) := (S.sent 5 (by decide)).var
  have g6 : w.cell? ⟨7, 0, none⟩ = some (.iface 299 (.pointer (some (a 6)))) := (S.sent 6 (by decide)).var
  have g7 : w.cell? ⟨8, 0, none⟩ = some (.iface 299 (.pointer (some (a 7)))) := (S.sent 7 (by decide)).var
  have g8 : w.cell? ⟨9, 0, none⟩ = some (.iface 299 (.pointer (some (a 8)))) := (S.sent 8 (by decide)).var
  have g9 : w.cell? ⟨10, 0, none⟩ = some (.iface 299 (.pointer (some (a 9)))) := (S.sent 9 (by decide)).var
  obtain ⟨t, p, rfl⟩ := wraps_ne h
  clear S h
  go_enter Tryz.func28, Tryz.ntmps28
  go_wp2_with (first
    | (go_at_call 108; refine HR.out.mono ?_; rintro e w4 ⟨rfl, rfl⟩)
    | (go_at_call 27; (with_reducible refine (H.out _ (by decide)).mono ?_); rintro e w4 ⟨rfl, rfl⟩))
  go_ret
  exact ⟨rfl, rfl⟩

/-- The document's Check. -/
def checkV (s : Sy.Lts) : Value := if Sy.right s = true then noErr else errV 14 layersSystem
def handedV (s : Sy.Lts) : Value := if Sy.right s = true then noErr else errV 14 layersBoth

theorem res_new (w : World) (A : Obj) : ((w.alloc A).alloc (.cells #[.int .i64 0, .int .i64 0, .int .i64 0, .string { data := #[] }] 52)).heap[w.heap.size + 1]? = some (.cells #[.int .i64 0, .int .i64 0, .int .i64 0, .string { data := #[] }] 52 (0, 0)) := by
  have h := heap_alloc_new (w.alloc A) (.cells #[.int .i64 0, .int .i64 0, .int .i64 0, .string { data := #[] }] 52)
  rwa [World.size_alloc] at h

set_option maxHeartbeats 2000000 in
theorem refCheck_any (s : Sy.Lts) (se : Value) (w : World) (hs : Ls3 w se s.es) (hl : s.es.length ≤ maxLen) :
    Calls Tryz.prog 55 #[sysV s se] w fun r w' => r = .returned (checkV s) ∧ Up w w' := by
  have HR : Hid (∀ W, Up w W → Calls Tryz.prog 53 #[sysV s se] W fun r w' => r = .returned (.bool (Sy.right s)) ∧ Up W w') := Lib.hid (fun W hu => refRight_any s se W (hs.up hu) hl)
  have HB : Hid (∀ W, Calls Tryz.prog 24 #[.string { data := #[115, 121, 115, 116, 101, 109] }, .int .i64 14] W fun r w' => r = .returned (errV 14 layersSystem) ∧ Up W w') := Lib.hid (fun W => badS_any 14 W)
  obtain ⟨ao, cap, rfl⟩ := ls3_shape hs
  obtain ⟨L, hL⟩ : ∃ L, L = s.es.length := ⟨_, rfl⟩
  unfold checkV
  unfold sysV at HR ⊢
  rw [← hL] at HR ⊢
  clear hl hs hL
  have hu0 : Up w ((w.alloc (.cells #[.int .i64 s.n, .int .i64 s.m, .int .i64 s.start, .slice ao L cap] 24)).alloc (.cells #[.int .i64 0, .int .i64 0, .int .i64 0, .string { data := #[] }] 52)) := ((Up.refl w).alloc _).alloc _
  have HRN := Lib.hid (res_new w (.cells #[.int .i64 s.n, .int .i64 s.m, .int .i64 s.start, .slice ao L cap] 24))
  have HU0 := Lib.hid hu0
  clear hu0
  cases hr : Sy.right s
  · rw [hr] at HR
    clear hr
    simp only [Bool.false_eq_true, if_false]
    unfold errV at *
    go_enter Tryz.func55, Tryz.ntmps55
    go_wp2_with (first
      | (go_at_call 53; refine (HR.out _ HU0.out).mono ?_; rintro r w1 ⟨rfl, hu1⟩)
      | (go_at_call 24; refine (HB.out _).mono ?_; rintro r w2 ⟨rfl, hu2⟩; (have hbx := ((hu1.trans hu2).block _ (lt_of_block' HRN.out)).trans HRN.out); (obtain ⟨⟨e0, e1, e2, e3⟩, z0, z1, z2, z3⟩ := four_cells hbx)))
    obtain ⟨⟨y0, y1, y2, y3⟩, hT, -⟩ := four_set hbx (.int .i64 14) (.int .i64 0) (.int .i64 0) (.string layersSystem)
    refine bodyPost_ret (v := .agg #[.int .i64 14, .int .i64 0, .int .i64 0, .string layersSystem]) (by simp [results, Tryz.results55, go_sem, y0, y1, y2, y3]) rfl ⟨rfl, up_turned ((HU0.out.trans hu1).trans hu2) (by omega) hT⟩
  · rw [hr] at HR
    clear hr
    simp only [if_true]
    unfold noErr errV
    go_enter Tryz.func55, Tryz.ntmps55
    go_wp2_with (go_at_call 53; refine (HR.out _ HU0.out).mono ?_; rintro r w1 ⟨rfl, hu1⟩; (have hbx := (hu1.block _ (lt_of_block' HRN.out)).trans HRN.out); (obtain ⟨⟨e0, e1, e2, e3⟩, z0, z1, z2, z3⟩ := four_cells hbx))
    obtain ⟨⟨y0, y1, y2, y3⟩, hT, -⟩ := four_set hbx (.int .i64 0) (.int .i64 0) (.int .i64 0) (.string { data := #[] })
    refine bodyPost_ret (v := .agg #[.int .i64 0, .int .i64 0, .int .i64 0, .string { data := #[] }]) (by simp [results, Tryz.results55, go_sem, y0, y1, y2, y3]) rfl ⟨rfl, up_turned (HU0.out.trans hu1) (by omega) hT⟩

set_option maxHeartbeats 2000000 in
theorem refOn_no (l : ByteArray) (w : World) :
    Calls Tryz.prog 54 #[.string l, noErr] w fun r w' => r = .returned noErr ∧ Up w w' := by
  unfold noErr errV
  go_enter Tryz.func54, Tryz.ntmps54
  go_wp2_with fail
  apply bodyPost_ret
  · (simp [results, Tryz.results54, go_sem]; rfl)
  · rfl
  · exact ⟨rfl, ((Up.refl w).alloc _).alloc _⟩

set_option maxHeartbeats 2000000 in
theorem refOn_bad (w : World) :
    Calls Tryz.prog 54 #[.string { data := #[114, 111, 117, 110, 100, 115] }, errV 14 layersSystem] w fun r w' => r = .returned (errV 14 layersBoth) ∧ Up w w' := by
  unfold errV layersSystem layersBoth
  go_enter Tryz.func54, Tryz.ntmps54
  go_wp2_with fail
  apply bodyPost_ret
  · (simp [results, Tryz.results54, go_sem]; rfl)
  · rfl
  · exact ⟨rfl, ((Up.refl w).alloc _).alloc _⟩

set_option maxHeartbeats 2000000 in
theorem refHanded_any (s : Sy.Lts) (se : Value) (w : World) (hs : Ls3 w se s.es) (hl : s.es.length ≤ maxLen) :
    Calls Tryz.prog 17 #[.string { data := #[114, 111, 117, 110, 100, 115] }, sysV s se] w fun r w' => r = .returned (handedV s) ∧ Up w w' := by
  have HC : Hid (∀ W, Up w W → Calls Tryz.prog 55 #[sysV s se] W fun r w' => r = .returned (checkV s) ∧ Up W w') := Lib.hid (fun W hu => refCheck_any s se W (hs.up hu) hl)
  have HO : Hid (∀ W, Calls Tryz.prog 54 #[.string { data := #[114, 111, 117, 110, 100, 115] }, checkV s] W fun r w' => r = .returned (handedV s) ∧ Up W w') := Lib.hid (fun W => by
    unfold checkV handedV
    cases Sy.right s
    · exact refOn_bad W
    · exact refOn_no _ W)
  obtain ⟨ao, cap, rfl⟩ := ls3_shape hs
  obtain ⟨L, hL⟩ : ∃ L, L = s.es.length := ⟨_, rfl⟩
  unfold sysV at HC ⊢
  rw [← hL] at HC ⊢
  clear hl hs hL
  have hu0 : Up w ((w.alloc (.cells #[.int .i64 s.n, .int .i64 s.m, .int .i64 s.start, .slice ao L cap] 24)).alloc (.cells #[.int .i64 0, .int .i64 0, .int .i64 0, .string { data := #[] }] 52)) := ((Up.refl w).alloc _).alloc _
  have HRN := Lib.hid (res_new w (.cells #[.int .i64 s.n, .int .i64 s.m, .int .i64 s.start, .slice ao L cap] 24))
  have HU0 := Lib.hid hu0
  clear hu0
  unfold checkV handedV at *
  cases hr : Sy.right s
  · rw [hr] at HC HO
    clear hr
    simp only [Bool.false_eq_true, if_false] at *
    unfold errV at *
    go_enter Tryz.func17, Tryz.ntmps17
    go_wp2_with (first
      | (go_at_call 55; refine (HC.out _ HU0.out).mono ?_; rintro r w1 ⟨rfl, hu1⟩)
      | (go_at_call 54; refine (HO.out _).mono ?_; rintro r w2 ⟨rfl, hu2⟩; (have hbx := ((hu1.trans hu2).block _ (lt_of_block' HRN.out)).trans HRN.out); (obtain ⟨⟨e0, e1, e2, e3⟩, z0, z1, z2, z3⟩ := four_cells hbx)))
    obtain ⟨⟨y0, y1, y2, y3⟩, hT, -⟩ := four_set hbx (.int .i64 14) (.int .i64 0) (.int .i64 0) (.string layersBoth)
    refine bodyPost_ret (v := .agg #[.int .i64 14, .int .i64 0, .int .i64 0, .string layersBoth]) (by simp [results, Tryz.results17, go_sem, y0, y1, y2, y3]) rfl ⟨rfl, up_turned ((HU0.out.trans hu1).trans hu2) (by omega) hT⟩
  · rw [hr] at HC HO
    clear hr
    simp only [if_true] at *
    unfold noErr errV at *
    go_enter Tryz.func17, Tryz.ntmps17
    go_wp2_with (first
      | (go_at_call 55; refine (HC.out _ HU0.out).mono ?_; rintro r w1 ⟨rfl, hu1⟩)
      | (go_at_call 54; refine (HO.out _).mono ?_; rintro r w2 ⟨rfl, hu2⟩; (have hbx := ((hu1.trans hu2).block _ (lt_of_block' HRN.out)).trans HRN.out); (obtain ⟨⟨e0, e1, e2, e3⟩, z0, z1, z2, z3⟩ := four_cells hbx)))
    obtain ⟨⟨y0, y1, y2, y3⟩, hT, -⟩ := four_set hbx (.int .i64 0) (.int .i64 0) (.int .i64 0) (.string { data := #[] })
    refine bodyPost_ret (v := .agg #[.int .i64 0, .int .i64 0, .int .i64 0, .string { data := #[] }]) (by simp [results, Tryz.results17, go_sem, y0, y1, y2, y3]) rfl ⟨rfl, up_turned ((HU0.out.trans hu1).trans hu2) (by omega) hT⟩


end Go.Proofs.YtpmdjicaefmbnaaGreatDoor

namespace Go.Proofs.YtpmdjicaefmbnaaGreatDoor
open Go.RowKit Go.Maps
set_option linter.unusedVariables false
set_option linter.unusedSimpArgs false

theorem quiet_left {P : Program} {f : FuncId} {args : Array Value} {w : World} {n : Nat} {v : Value}
    (h : Calls P f args (w.drewN n) fun e w' => e = .returned v ∧ w.drewN n = w') : Calls P f args (w.drewN n) fun e w' => e = .returned v ∧ ∃ m, w' = w.drewN m :=
  h.mono fun _ _ ⟨he, hm⟩ => ⟨he, n, hm.symm⟩

theorem quiet_add_left {P : Program} {f : FuncId} {args : Array Value} {w : World} {a n : Nat} {v : Value}
    (h : Calls P f args (w.drewN (a + n)) fun e w' => e = .returned v ∧ w.drewN (a + n) = w') :
    Calls P f args (w.drewN (a + n)) fun e w'' => e = .returned v ∧ ∃ m, w'' = w.drewN (a + m) :=
  h.mono fun _ _ ⟨he, hm⟩ => ⟨he, n, hm.symm⟩

theorem Tryz.asFault (v : Value) (w : World) : (Instr.typeAssert (.iface 101 v) 28 101 true).run Tryz.prog w = .ok (.tuple #[v, .bool true]) w := by kernel_rfl
theorem Tryz.asNoFault (v : Value) (w : World) : (Instr.typeAssert (.iface 299 v) 28 101 true).run Tryz.prog w = .ok (.tuple #[.pointer none, .bool false]) w := by kernel_rfl

set_option maxHeartbeats 4000000 in
set_option maxRecDepth 100000 in
theorem told_index {w : World} {F : Nat} {a : Nat → Addr} (hF : FaultE w F layerRounds (.iface 299 (.pointer (some (a 2))))) (S : Sts14 w a) :
    Calls Tryz.prog 19 #[.iface 101 (.pointer (some ⟨F, 0, none⟩)), .agg #[.int .i64 3, .int .i64 0, .int .i64 0, .string layersRounds]] w fun r w' => r = .returned (.bool true) ∧ Up w w' := by
  obtain ⟨⟨c0, c1, c2, c3⟩, -⟩ := four_cells hF
  have HK1 : Hid (∀ w1, Up w w1 → Calls Tryz.prog 28 #[.iface 101 (.pointer (some ⟨F, 0, none⟩))] w1 fun r w' => r = .returned (.int .i64 3) ∧ w1 = w') := fun w1 hu => code_index (wraps_of (hF.up hu)) (S.up hu)
  have HK2 : Hid (∀ w1, Up w w1 → Calls Tryz.prog 28 #[.iface 299 (.pointer (some (a 2)))] w1 fun r w' => r = .returned (.int .i64 3) ∧ w1 = w') := fun w1 hu => code_index (.inl rfl) (S.up hu)
  have hFl := (Array.getElem?_eq_some_iff.1 hF).1
  unfold layerRounds at c0
  have aF := Tryz.asFault
  have aN := Tryz.asNoFault
  clear S hF
  go_enter Tryz.func19, Tryz.ntmps19
  go_wp2_with fail
  go_quiet ((go_at_call 28; exact quiet_left (HK1.out _ (by repeat (first | (with_reducible exact Up.refl _) | (with_reducible apply Up.drewN) | (with_reducible apply Up.drew) | (with_reducible apply Up.alloc))))))
  go_wp2_with fail
  refine wp_loop_rounds 2 ?_
  rw [rounds_succ]
  go_wp2_with fail
  go_quiet (fail)
  go_wp2_with fail
  rw [rounds_succ]
  go_wp2_with fail
  rw [show (({ data := #[] } : ByteArray) ++ { data := #[114, 111, 117, 110, 100, 115] } ++ { data := #[32] }) = layersRounds from by decide]
  have hq : (layersRounds == layersRounds) = true := by decide
  go_quiet ((go_at_call 28; exact quiet_add_left (HK2.out _ (by repeat (first | (with_reducible exact Up.refl _) | (with_reducible apply Up.drewN) | (with_reducible apply Up.drew) | (with_reducible apply Up.alloc))))))
  go_wp2_with fail
  go_ret
  exact ⟨rfl, by repeat (first | (with_reducible exact Up.refl _) | (with_reducible apply Up.drewN) | (with_reducible apply Up.drew) | (with_reducible apply Up.alloc))⟩

theorem quiet_add2_left {P : Program} {f : FuncId} {args : Array Value} {w : World} {a b n : Nat} {v : Value}
    (h : Calls P f args (w.drewN (a + b + n)) fun e w' => e = .returned v ∧ w.drewN (a + b + n) = w') :
    Calls P f args (w.drewN (a + b + n)) fun e w'' => e = .returned v ∧ ∃ m, w'' = w.drewN (a + b + m) :=
  h.mono fun _ _ ⟨he, hm⟩ => ⟨he, n, hm.symm⟩

set_option maxHeartbeats 4000000 in
set_option maxRecDepth 100000 in
theorem told_nest {w : World} {F G : Nat} {a : Nat → Addr} (hF : FaultE w F layerRounds (faultAt G)) (hG : FaultE w G layerSystem (.iface 299 (.pointer (some (a 13))))) (S : Sts14 w a) :
    Calls Tryz.prog 19 #[.iface 101 (.pointer (some ⟨F, 0, none⟩)), .agg #[.int .i64 14, .int .i64 0, .int .i64 0, .string layersBoth]] w fun r w' => r = .returned (.bool true) ∧ Up w w' := by
  obtain ⟨⟨c0, c1, c2, c3⟩, -⟩ := four_cells hF
  obtain ⟨⟨d0, d1, d2, d3⟩, -⟩ := four_cells hG
  have HK1 : Hid (∀ w1, Up w w1 → Calls Tryz.prog 28 #[.iface 101 (.pointer (some ⟨F, 0, none⟩))] w1 fun r w' => r = .returned (.int .i64 14) ∧ w1 = w') := fun w1 hu => code_14 (nests_of (hF.up hu) (hG.up hu)) (S.up hu)
  have HK2 : Hid (∀ w1, Up w w1 → Calls Tryz.prog 28 #[.iface 299 (.pointer (some (a 13)))] w1 fun r w' => r = .returned (.int .i64 14) ∧ w1 = w') := fun w1 hu => code_14w (.inl rfl) (S.up hu)
  have hFl := (Array.getElem?_eq_some_iff.1 hF).1
  have hGl := (Array.getElem?_eq_some_iff.1 hG).1
  unfold layerRounds at c0
  unfold layerSystem at d0
  unfold faultAt at c3
  have aF := Tryz.asFault
  have aN := Tryz.asNoFault
  clear S hF hG
  go_enter Tryz.func19, Tryz.ntmps19
  go_wp2_with fail
  go_quiet ((go_at_call 28; exact quiet_left (HK1.out _ (by repeat (first | (with_reducible exact Up.refl _) | (with_reducible apply Up.drewN) | (with_reducible apply Up.drew) | (with_reducible apply Up.alloc))))))
  go_wp2_with fail
  refine wp_loop_rounds 3 ?_
  rw [rounds_succ]
  go_wp2_with fail
  go_quiet (fail)
  go_wp2_with fail
  rw [rounds_succ]
  go_wp2_with fail
  go_quiet (fail)
  go_wp2_with fail
  rw [rounds_succ]
  go_wp2_with fail
  rw [show (({ data := #[] } : ByteArray) ++ { data := #[114, 111, 117, 110, 100, 115] } ++ { data := #[32] } ++ { data := #[115, 121, 115, 116, 101, 109] } ++ { data := #[32] }) = layersBoth from by decide]
  have hq : (layersBoth == layersBoth) = true := by decide
  go_quiet ((go_at_call 28; first
    | exact quiet_add_left (HK2.out _ (by repeat (first | (with_reducible exact Up.refl _) | (with_reducible apply Up.drewN) | (with_reducible apply Up.drew) | (with_reducible apply Up.alloc))))
    | exact quiet_add2_left (HK2.out _ (by repeat (first | (with_reducible exact Up.refl _) | (with_reducible apply Up.drewN) | (with_reducible apply Up.drew) | (with_reducible apply Up.alloc))))))
  go_wp2_with fail
  go_ret
  exact ⟨rfl, by repeat (first | (with_reducible exact Up.refl _) | (with_reducible apply Up.drewN) | (with_reducible apply Up.drew) | (with_reducible apply Up.alloc))⟩

/-- Is a system light? -/
def light (s : Sy.Lts) : Bool := decide (s.n ≤ 200) && decide (s.es.length ≤ 1500) || (!Sy.right s) && decide (s.es.length ≤ 11000)

set_option maxHeartbeats 4000000 in
theorem light_any (s : Sy.Lts) (se : Value) (w : World) (hs : Ls3 w se s.es) (hl : s.es.length ≤ maxLen) :
    Calls Tryz.prog 16 #[sysV s se] w fun r w' => r = .returned (.bool (light s)) ∧ Up w w' := by
  have HR : Hid (∀ W, Up w W → Calls Tryz.prog 53 #[sysV s se] W fun r w' => r = .returned (.bool (Sy.right s)) ∧ Up W w') := Lib.hid (fun W hu => refRight_any s se W (hs.up hu) hl)
  obtain ⟨ao, cap, rfl⟩ := ls3_shape hs
  obtain ⟨L, hL⟩ : ∃ L, L = s.es.length := ⟨_, rfl⟩
  unfold light
  unfold sysV at HR ⊢
  rw [← hL] at HR ⊢
  have hu0 : Up w (w.alloc (.cells #[.int .i64 s.n, .int .i64 s.m, .int .i64 s.start, .slice ao L cap] 24)) := (Up.refl w).alloc _
  have hb := heap_alloc_new w (.cells #[.int .i64 s.n, .int .i64 s.m, .int .i64 s.start, .slice ao L cap] 24)
  have HB := Lib.hid hb
  have HU0 := Lib.hid hu0
  clear hl hs hL hu0 hb
  have q1 : ∀ k : Nat, decide (L ≤ k) = decide ((L : Int) ≤ (k : Int)) := fun k => by simp
  obtain ⟨b1, hb1⟩ : ∃ b, decide (s.n ≤ 200) = b := ⟨_, rfl⟩
  obtain ⟨b2, hb2⟩ : ∃ b, decide ((L : Int) ≤ 1500) = b := ⟨_, rfl⟩
  obtain ⟨b3, hb3⟩ : ∃ b, Sy.right s = b := ⟨_, rfl⟩
  obtain ⟨b4, hb4⟩ : ∃ b, decide ((L : Int) ≤ 11000) = b := ⟨_, rfl⟩
  have e2 : decide (L ≤ 1500) = b2 := by rw [← hb2]; exact decide_eq_decide.2 (by omega)
  have e4 : decide (L ≤ 11000) = b4 := by rw [← hb4]; exact decide_eq_decide.2 (by omega)
  rw [hb3] at HR
  rw [hb1, hb3, e2, e4]
  clear hb3 q1
  cases b1 <;> cases b2 <;> cases b3 <;> cases b4
  all_goals
    simp only [Bool.and_true, Bool.true_and, Bool.and_false, Bool.false_and, Bool.or_false, Bool.or_true, Bool.not_true, Bool.not_false, Bool.true_or, Bool.false_or]
    go_enter Tryz.func16, Tryz.ntmps16
    go_wp2_with (go_at_call 53; refine (HR.out _ HU0.out).mono ?_; rintro r w1 ⟨rfl, hu1⟩; (obtain ⟨⟨k0, k1, k2, k3⟩, -⟩ := four_cells ((hu1.block _ (by simp)).trans HB.out)))
    go_ret
    first
      | exact ⟨rfl, HU0.out⟩
      | exact ⟨rfl, HU0.out.trans hu1⟩

end Go.Proofs.YtpmdjicaefmbnaaGreatDoor

namespace Go.Proofs.YtpmdjicaefmbnaaGreatDoor
open Go.RowKit Go.Maps
set_option linter.unusedVariables false
set_option linter.unusedSimpArgs false

set_option maxHeartbeats 4000000 in
set_option maxRecDepth 100000 in
theorem rankLaw_out (s : Sy.Lts) (se : Value) (p q : Int) (a : Nat → Addr) (w : World) (hg : light s = false) (hS : Set14 w s se a) :
    Calls Tryz.prog 6 #[sysV s se, .int .i64 p, .int .i64 q] w (Good w) := by
  obtain ⟨ao, cap, rfl⟩ := ls3_shape hS.arg
  have hA : ∀ W, Up w W → Calls Tryz.prog 10 #[] W fun r w' => r = .returned (.bool true) ∧ Up W w' := fun W hu => alive_any (hS.tab.up hu) (hu.cell hS.typ) (hu.cell hS.sys)
  have hLI : ∀ W, Up w W → Calls Tryz.prog 16 #[sysV s (.slice ao s.es.length cap)] W fun r w' => r = .returned (.bool (light s)) ∧ Up W w' := fun W hu => light_any s _ W (hS.arg.up hu) hS.len
  have hHA : ∀ W, Up w W → Calls Tryz.prog 17 #[.string { data := #[114, 111, 117, 110, 100, 115] }, sysV s (.slice ao s.es.length cap)] W fun r w' => r = .returned (handedV s) ∧ Up W w' := fun W hu => refHanded_any s _ W (hS.arg.up hu) hS.len
  have hRK : ∀ W, Up w W → Calls Tryz.prog 23 #[sysV s (.slice ao s.es.length cap), .int .i64 p, .int .i64 q] W (RankDone s p q W (.iface 299 (.pointer (some (a 13)))) (.iface 299 (.pointer (some (a 2))))) := fun W hu => rankTop_any s _ p q _ _ _ W (hS.tab.up hu) (hu.cell hS.typ) (hS.arg.up hu) (hu.cell hS.sys) (hu.cell hS.idx) hS.len
  rw [hg] at hLI
  obtain ⟨L, hL⟩ : ∃ L, L = s.es.length := ⟨_, rfl⟩
  unfold sysV at hLI hHA hRK ⊢
  rw [← hL] at hLI hHA hRK ⊢
  have HA := Lib.hid hA
  have HLI := Lib.hid hLI
  have HHA := Lib.hid hHA
  have hb0 := heap_alloc_new w (.cells #[.int .i64 s.n, .int .i64 s.m, .int .i64 s.start, .slice ao L cap] 24)
  have HB0 := Lib.hid hb0
  have HU0 : Hid (Up w (w.alloc (.cells #[.int .i64 s.n, .int .i64 s.m, .int .i64 s.start, .slice ao L cap] 24))) := Lib.hid ((Up.refl w).alloc _)
  clear hA hLI hHA hRK hS hL hb0
  go_enter Tryz.func6, Tryz.ntmps6
  go_wp2_with (first
    | (go_at_call 16; refine (HLI.out _ HU0.out).mono ?_; rintro r w1 ⟨rfl, hu1⟩; (obtain ⟨⟨k0, k1, k2, k3⟩, -⟩ := four_cells ((hu1.block _ (lt_of_block' HB0.out)).trans HB0.out)); (have HUB1 := Lib.hid hu1); clear hu1)
    | (go_at_call 10; refine (HA.out _ (HU0.out.trans HUB1.out)).mono ?_; rintro r w2 ⟨rfl, hu2⟩))
  go_ret
  exact ⟨rfl, (HU0.out.trans HUB1.out).trans hu2⟩

set_option maxHeartbeats 8000000 in
set_option maxRecDepth 100000 in
theorem rankLaw_bad (s : Sy.Lts) (se : Value) (p q : Int) (a : Nat → Addr) (w : World) (hg : light s = true) (hr : Sy.right s = false) (hS : Set14 w s se a) :
    Calls Tryz.prog 6 #[sysV s se, .int .i64 p, .int .i64 q] w (Good w) := by
  obtain ⟨ao, cap, rfl⟩ := ls3_shape hS.arg
  have hA : ∀ W, Up w W → Calls Tryz.prog 10 #[] W fun r w' => r = .returned (.bool true) ∧ Up W w' := fun W hu => alive_any (hS.tab.up hu) (hu.cell hS.typ) (hu.cell hS.sys)
  have hLI : ∀ W, Up w W → Calls Tryz.prog 16 #[sysV s (.slice ao s.es.length cap)] W fun r w' => r = .returned (.bool (light s)) ∧ Up W w' := fun W hu => light_any s _ W (hS.arg.up hu) hS.len
  have hHA : ∀ W, Up w W → Calls Tryz.prog 17 #[.string { data := #[114, 111, 117, 110, 100, 115] }, sysV s (.slice ao s.es.length cap)] W fun r w' => r = .returned (handedV s) ∧ Up W w' := fun W hu => refHanded_any s _ W (hS.arg.up hu) hS.len
  have hRK : ∀ W, Up w W → Calls Tryz.prog 23 #[sysV s (.slice ao s.es.length cap), .int .i64 p, .int .i64 q] W (RankDone s p q W (.iface 299 (.pointer (some (a 13)))) (.iface 299 (.pointer (some (a 2))))) := fun W hu => rankTop_any s _ p q _ _ _ W (hS.tab.up hu) (hu.cell hS.typ) (hS.arg.up hu) (hu.cell hS.sys) (hu.cell hS.idx) hS.len
  rw [hg] at hLI
  have hh : handedV s = errV 14 layersBoth := by unfold handedV; rw [hr]; rfl
  rw [hh] at hHA
  have HK : Hid (∀ W, Up w W → Calls Tryz.prog 23 #[sysV s (.slice ao s.es.length cap), .int .i64 p, .int .i64 q] W fun r w' => ∃ qb, r = .returned (.tuple #[.int .i64 0, faultAt qb]) ∧ Hid (∃ pb, FaultE w' qb layerRounds (faultAt pb) ∧ FaultE w' pb layerSystem (.iface 299 (.pointer (some (a 13))))) ∧ Up W w') := Lib.hid (fun W hu => by
    refine (hRK W hu).mono ?_
    rintro r w' ⟨hu1, ⟨h1, -⟩ | ⟨h1, -⟩ | ⟨-, qb, pb, rfl, -, -, hf1, hf2⟩⟩
    · exact absurd (hr.symm.trans h1) (by decide)
    · exact absurd (hr.symm.trans h1) (by decide)
    · exact ⟨qb, rfl, Lib.hid ⟨pb, hf1, hf2⟩, hu1⟩)
  have HST := Lib.hid hS
  obtain ⟨L, hL⟩ : ∃ L, L = s.es.length := ⟨_, rfl⟩
  unfold sysV at hLI hHA hRK HK ⊢
  rw [← hL] at hLI hHA hRK HK ⊢
  have HA := Lib.hid hA
  have HLI := Lib.hid hLI
  have HHA := Lib.hid hHA
  have hb0 := heap_alloc_new w (.cells #[.int .i64 s.n, .int .i64 s.m, .int .i64 s.start, .slice ao L cap] 24)
  have HB0 := Lib.hid hb0
  have HU0 : Hid (Up w (w.alloc (.cells #[.int .i64 s.n, .int .i64 s.m, .int .i64 s.start, .slice ao L cap] 24))) := Lib.hid ((Up.refl w).alloc _)
  unfold errV at HHA
  clear hA hLI hHA hRK hS hL hb0 hh
  go_enter Tryz.func6, Tryz.ntmps6
  go_wp2_with (first
    | (go_at_call 16; refine (HLI.out _ HU0.out).mono ?_; rintro r w1 ⟨rfl, hu1⟩; (obtain ⟨⟨k0, k1, k2, k3⟩, -⟩ := four_cells ((hu1.block _ (lt_of_block' HB0.out)).trans HB0.out)); (have HUB1 := Lib.hid hu1); clear hu1)
    | (go_at_call 23; refine (HK.out _ (HU0.out.trans HUB1.out)).mono ?_; rintro r w2 ⟨qb, rfl, HFF, hu2⟩; (obtain ⟨⟨m0, m1, m2, m3⟩, -⟩ := four_cells (((HUB1.out.trans hu2).block _ (lt_of_block' HB0.out)).trans HB0.out)); (have HUB2 := Lib.hid (HUB1.out.trans hu2)); clear hu2; unfold faultAt)
    | (go_at_call 17; refine (HHA.out _ (HU0.out.trans HUB2.out)).mono ?_; rintro r w3 ⟨rfl, hu3⟩; (have hbx3 := ((HUB2.out.trans hu3).block _ (lt_of_block' HB0.out)).trans HB0.out); (have HUB3 := Lib.hid (HUB2.out.trans hu3)); (have HU23 := Lib.hid hu3); (obtain ⟨⟨n0, n1, n2, n3⟩, -⟩ := four_cells hbx3); clear hu3)
    | (go_at_call 10; refine (HA.out _ ((HU0.out.trans HUB3.out).alloc _)).mono ?_; rintro r w4 ⟨rfl, hu4⟩; (have hbe := (hu4.block _ (by simp)).trans (heap_alloc_new w3 (.cells #[.int .i64 14, .int .i64 0, .int .i64 0, .string layersBoth] 52))); (obtain ⟨⟨p0, p1, p2, p3⟩, -⟩ := four_cells hbe); (have HU4 := Lib.hid (((Up.refl w3).alloc (.cells #[.int .i64 14, .int .i64 0, .int .i64 0, .string layersBoth] 52)).trans hu4)); clear hu4)
    | (go_at_call 19; refine Calls.mono (show Calls Tryz.prog 19 #[.iface 101 (.pointer (some ⟨qb, 0, none⟩)), .agg #[.int .i64 14, .int .i64 0, .int .i64 0, .string layersBoth]] w4 (fun r w' => r = .returned (.bool true) ∧ Up w4 w') from told_nest (HFF.out.choose_spec.1.up (HU23.out.trans HU4.out)) (HFF.out.choose_spec.2.up (HU23.out.trans HU4.out)) (HST.out.sts.up ((HU0.out.trans HUB3.out).trans HU4.out))) ?_; rintro r w5 ⟨rfl, hu5⟩))
  go_ret
  exact ⟨rfl, ((HU0.out.trans HUB3.out).trans HU4.out).trans hu5⟩


set_option maxHeartbeats 8000000 in
set_option maxRecDepth 100000 in
theorem rankLaw_off (s : Sy.Lts) (se : Value) (p q : Int) (a : Nat → Addr) (w : World) (hg : light s = true) (hr : Sy.right s = true) (ht : ¬ There s p q) (hS : Set14 w s se a) :
    Calls Tryz.prog 6 #[sysV s se, .int .i64 p, .int .i64 q] w (Good w) := by
  obtain ⟨ao, cap, rfl⟩ := ls3_shape hS.arg
  have hA : ∀ W, Up w W → Calls Tryz.prog 10 #[] W fun r w' => r = .returned (.bool true) ∧ Up W w' := fun W hu => alive_any (hS.tab.up hu) (hu.cell hS.typ) (hu.cell hS.sys)
  have hLI : ∀ W, Up w W → Calls Tryz.prog 16 #[sysV s (.slice ao s.es.length cap)] W fun r w' => r = .returned (.bool (light s)) ∧ Up W w' := fun W hu => light_any s _ W (hS.arg.up hu) hS.len
  have hHA : ∀ W, Up w W → Calls Tryz.prog 17 #[.string { data := #[114, 111, 117, 110, 100, 115] }, sysV s (.slice ao s.es.length cap)] W fun r w' => r = .returned (handedV s) ∧ Up W w' := fun W hu => refHanded_any s _ W (hS.arg.up hu) hS.len
  have hRK : ∀ W, Up w W → Calls Tryz.prog 23 #[sysV s (.slice ao s.es.length cap), .int .i64 p, .int .i64 q] W (RankDone s p q W (.iface 299 (.pointer (some (a 13)))) (.iface 299 (.pointer (some (a 2))))) := fun W hu => rankTop_any s _ p q _ _ _ W (hS.tab.up hu) (hu.cell hS.typ) (hS.arg.up hu) (hu.cell hS.sys) (hu.cell hS.idx) hS.len
  rw [hg] at hLI
  have hh : handedV s = errV 0 { data := #[] } := by unfold handedV noErr; rw [hr]; rfl
  rw [hh] at hHA
  have HK : Hid (∀ W, Up w W → Calls Tryz.prog 23 #[sysV s (.slice ao s.es.length cap), .int .i64 p, .int .i64 q] W fun r w' => ∃ qb, r = .returned (.tuple #[.int .i64 0, faultAt qb]) ∧ Hid (FaultE w' qb layerRounds (.iface 299 (.pointer (some (a 2))))) ∧ Up W w') := Lib.hid (fun W hu => by
    refine (hRK W hu).mono ?_
    rintro r w' ⟨hu1, ⟨-, h1, -⟩ | ⟨-, -, qb, rfl, -, hf⟩ | ⟨h1, -⟩⟩
    · exact absurd h1 ht
    · exact ⟨qb, rfl, Lib.hid hf, hu1⟩
    · exact absurd (hr.symm.trans h1) (by decide))
  have HST := Lib.hid hS
  have HBAD : Hid (∀ W, Calls Tryz.prog 24 #[.string { data := #[114, 111, 117, 110, 100, 115] }, .int .i64 3] W fun r w' => r = .returned (.agg #[.int .i64 3, .int .i64 0, .int .i64 0, .string layersRounds]) ∧ Up W w') := Lib.hid (fun W => badR_any 3 W)
  have hn0 := ((Sy.right_iff s).1 hr).n0
  have hcs : (decide (p < 0) = true) ∨ (decide (p < 0) = false ∧ decide (s.n ≤ p) = true) ∨ (decide (p < 0) = false ∧ decide (s.n ≤ p) = false ∧ decide (q < 0) = true) ∨ (decide (p < 0) = false ∧ decide (s.n ≤ p) = false ∧ decide (q < 0) = false ∧ decide (s.n ≤ q) = true) := by
    unfold There at ht
    simp only [decide_eq_true_eq, decide_eq_false_iff_not]
    omega
  obtain ⟨L, hL⟩ : ∃ L, L = s.es.length := ⟨_, rfl⟩
  unfold sysV at hLI hHA hRK HK ⊢
  rw [← hL] at hLI hHA hRK HK ⊢
  have HA := Lib.hid hA
  have HLI := Lib.hid hLI
  have HHA := Lib.hid hHA
  have hb0 := heap_alloc_new w (.cells #[.int .i64 s.n, .int .i64 s.m, .int .i64 s.start, .slice ao L cap] 24)
  have HB0 := Lib.hid hb0
  have HU0 : Hid (Up w (w.alloc (.cells #[.int .i64 s.n, .int .i64 s.m, .int .i64 s.start, .slice ao L cap] 24))) := Lib.hid ((Up.refl w).alloc _)
  unfold errV at HHA
  clear hA hLI hHA hRK hS hL hb0 hh ht hn0
  rcases hcs with q1 | ⟨q1, q2⟩ | ⟨q1, q2, q3⟩ | ⟨q1, q2, q3, q4⟩
  all_goals
    go_enter Tryz.func6, Tryz.ntmps6
    go_upto_region 7 with (first
      | (go_at_call 16; refine (HLI.out _ HU0.out).mono ?_; rintro r w1 ⟨rfl, hu1⟩; (obtain ⟨⟨k0, k1, k2, k3⟩, -⟩ := four_cells ((hu1.block _ (lt_of_block' HB0.out)).trans HB0.out)); (have HUB1 := Lib.hid hu1); clear hu1)
      | (go_at_call 23; refine (HK.out _ (HU0.out.trans HUB1.out)).mono ?_; rintro r w2 ⟨qb, rfl, HFF, hu2⟩; (obtain ⟨⟨m0, m1, m2, m3⟩, -⟩ := four_cells (((HUB1.out.trans hu2).block _ (lt_of_block' HB0.out)).trans HB0.out)); (have HUB2 := Lib.hid (HUB1.out.trans hu2)); clear hu2; unfold faultAt)
      | (go_at_call 17; refine (HHA.out _ (HU0.out.trans HUB2.out)).mono ?_; rintro r w3 ⟨rfl, hu3⟩; (have hbx3 := ((HUB2.out.trans hu3).block _ (lt_of_block' HB0.out)).trans HB0.out); (have HUB3 := Lib.hid (HUB2.out.trans hu3)); (have HU23 := Lib.hid hu3); (obtain ⟨⟨n0, n1, n2, n3⟩, -⟩ := four_cells hbx3); (have o0 := ((Up.refl w3).alloc (.cells #[.int .i64 0, .int .i64 0, .int .i64 0, .string { data := #[] }] 52)).cell n0); (have o1 := ((Up.refl w3).alloc (.cells #[.int .i64 0, .int .i64 0, .int .i64 0, .string { data := #[] }] 52)).cell n1); (have o2 := ((Up.refl w3).alloc (.cells #[.int .i64 0, .int .i64 0, .int .i64 0, .string { data := #[] }] 52)).cell n2); (have o3 := ((Up.refl w3).alloc (.cells #[.int .i64 0, .int .i64 0, .int .i64 0, .string { data := #[] }] 52)).cell n3); clear hu3 n0 n1 n2 n3 hbx3)
      | (go_at_call 24; refine (HBAD.out _).mono ?_; rintro r w4 ⟨rfl, hu4⟩; (have hbe := (hu4.block _ (by simp)).trans (heap_alloc_new w3 (.cells #[.int .i64 0, .int .i64 0, .int .i64 0, .string { data := #[] }] 52))); (obtain ⟨⟨p0, p1, p2, p3⟩, z0, z1, z2, z3⟩ := four_cells hbe); (have HU4 := Lib.hid (((Up.refl w3).alloc (.cells #[.int .i64 0, .int .i64 0, .int .i64 0, .string { data := #[] }] 52)).trans hu4)); (have HBE := Lib.hid hbe); clear hu4 hbe))
    obtain ⟨⟨y0, y1, y2, y3⟩, hT, hb5⟩ := four_set HBE.out (.int .i64 3) (.int .i64 0) (.int .i64 0) (.string layersRounds)
    have hu5 : Up w3 ((((w4.setCell ⟨w3.heap.size, 0, none⟩ (.int .i64 3)).setCell ⟨w3.heap.size, 1, none⟩ (.int .i64 0)).setCell ⟨w3.heap.size, 2, none⟩ (.int .i64 0)).setCell ⟨w3.heap.size, 3, none⟩ (.string layersRounds)) := up_turned HU4.out (Nat.le_refl _) hT
    obtain ⟨w5, hw5⟩ : ∃ w5, w5 = (((w4.setCell ⟨w3.heap.size, 0, none⟩ (.int .i64 3)).setCell ⟨w3.heap.size, 1, none⟩ (.int .i64 0)).setCell ⟨w3.heap.size, 2, none⟩ (.int .i64 0)).setCell ⟨w3.heap.size, 3, none⟩ (.string layersRounds) := ⟨_, rfl⟩
    rw [← hw5] at y0 y1 y2 y3 hb5 hu5 ⊢
    have HB5 := Lib.hid hb5
    have HU5 := Lib.hid hu5
    clear hw5 hT hb5 hu5 p0 p1 p2 p3 z0 z1 z2 z3
    go_wp2_with (first
      | (go_at_call 10; refine (HA.out _ ((HU0.out.trans HUB3.out).trans HU5.out)).mono ?_; rintro r w6 ⟨rfl, hu6⟩; (obtain ⟨⟨x0, x1, x2, x3⟩, -⟩ := four_cells ((hu6.block _ (lt_of_block' HB5.out)).trans HB5.out)); (have HU6 := Lib.hid (HU5.out.trans hu6)); clear hu6)
      | (go_at_call 19; refine Calls.mono (show Calls Tryz.prog 19 #[.iface 101 (.pointer (some ⟨qb, 0, none⟩)), .agg #[.int .i64 3, .int .i64 0, .int .i64 0, .string layersRounds]] w6 (fun r w' => r = .returned (.bool true) ∧ Up w6 w') from told_index (HFF.out.up (HU23.out.trans HU6.out)) (HST.out.sts.up ((HU0.out.trans HUB3.out).trans HU6.out))) ?_; rintro r w7 ⟨rfl, hu7⟩))
    go_ret
    exact ⟨rfl, ((HU0.out.trans HUB3.out).trans HU6.out).trans hu7⟩

set_option maxHeartbeats 8000000 in
set_option maxRecDepth 100000 in
theorem rankLaw_there (s : Sy.Lts) (se : Value) (p q : Nat) (a : Nat → Addr) (w : World) (hg : light s = true) (hr : Sy.right s = true) (hp : p < s.n.toNat) (hq : q < s.n.toNat) (hcp : CapOk se) (hS : Set14 w s se a) :
    Calls Tryz.prog 6 #[sysV s se, .int .i64 (p : Nat), .int .i64 (q : Nat)] w (Good w) := by
  obtain ⟨ao, cap, rfl⟩ := ls3_shape hS.arg
  have hA : ∀ W, Up w W → Calls Tryz.prog 10 #[] W fun r w' => r = .returned (.bool true) ∧ Up W w' := fun W hu => alive_any (hS.tab.up hu) (hu.cell hS.typ) (hu.cell hS.sys)
  have hLI : ∀ W, Up w W → Calls Tryz.prog 16 #[sysV s (.slice ao s.es.length cap)] W fun r w' => r = .returned (.bool (light s)) ∧ Up W w' := fun W hu => light_any s _ W (hS.arg.up hu) hS.len
  have hHA : ∀ W, Up w W → Calls Tryz.prog 17 #[.string { data := #[114, 111, 117, 110, 100, 115] }, sysV s (.slice ao s.es.length cap)] W fun r w' => r = .returned (handedV s) ∧ Up W w' := fun W hu => refHanded_any s _ W (hS.arg.up hu) hS.len
  have hRK : ∀ W, Up w W → Calls Tryz.prog 23 #[sysV s (.slice ao s.es.length cap), .int .i64 (p : Nat), .int .i64 (q : Nat)] W (RankDone s (p : Nat) (q : Nat) W (.iface 299 (.pointer (some (a 13)))) (.iface 299 (.pointer (some (a 2))))) := fun W hu => rankTop_any s _ (p : Nat) (q : Nat) _ _ _ W (hS.tab.up hu) (hu.cell hS.typ) (hS.arg.up hu) (hu.cell hS.sys) (hu.cell hS.idx) hS.len
  rw [hg] at hLI
  have hh : handedV s = errV 0 { data := #[] } := by unfold handedV noErr; rw [hr]; rfl
  rw [hh] at hHA
  have hR := (Sy.right_iff s).1 hr
  have ht : There s (p : Nat) (q : Nat) := by unfold There; omega
  have HK : Hid (∀ W, Up w W → Calls Tryz.prog 23 #[sysV s (.slice ao s.es.length cap), .int .i64 (p : Nat), .int .i64 (q : Nat)] W fun r w' => r = .returned (.tuple #[.int .i64 (Rd.rank s p q), .nilIface]) ∧ Up W w') := Lib.hid (fun W hu => by
    refine (hRK W hu).mono ?_
    rintro r w' ⟨hu1, ⟨-, -, rfl⟩ | ⟨-, h1, -⟩ | ⟨h1, -⟩⟩
    · exact ⟨by rw [Int.toNat_natCast, Int.toNat_natCast], hu1⟩
    · exact absurd ht h1
    · exact absurd (hr.symm.trans h1) (by decide))
  have HRD : Hid (∀ W, Up w W → Calls Tryz.prog 18 #[sysV s (.slice ao s.es.length cap)] W fun r w' => ∃ v, r = .returned v ∧ Hid (RowsRd w' v (Rd.rounds s)) ∧ Up W w') := Lib.hid (fun W hu => by
    refine (refRounds_any hR (hS.arg.up hu) hcp).mono ?_
    rintro r w' ⟨ao2, cap2, vs, rfl, hu1, ho, hrw⟩
    exact ⟨_, rfl, Lib.hid (RowsOf.at ho hrw (Rd.rounds_len s) (by omega)), hu1⟩)
  have HRR : Hid (∀ W v, RowsRd W v (Rd.rounds s) → Calls Tryz.prog 25 #[v, .int .i64 (p : Nat), .int .i64 (q : Nat)] W fun r w' => r = .returned (.int .i64 (Rd.rank s p q)) ∧ Up W w') := Lib.hid (fun W v hv => refRank_any hv (rounds_small hR) (fun c hc => by have := rounds_mem hc; have := hR.n1; omega))
  obtain ⟨k, hk⟩ : ∃ k, k = Rd.rank s p q := ⟨_, rfl⟩
  rw [← hk] at HK HRR
  have q1 : decide ((p : Int) < 0) = false := by simp
  have q2 : decide (s.n ≤ (p : Int)) = false := by simp; omega
  have q3 : decide ((q : Int) < 0) = false := by simp
  have q4 : decide (s.n ≤ (q : Int)) = false := by simp; omega
  obtain ⟨L, hL⟩ : ∃ L, L = s.es.length := ⟨_, rfl⟩
  unfold sysV at hLI hHA hRK HK HRD ⊢
  rw [← hL] at hLI hHA hRK HK HRD ⊢
  have HA := Lib.hid hA
  have HLI := Lib.hid hLI
  have HHA := Lib.hid hHA
  have hb0 := heap_alloc_new w (.cells #[.int .i64 s.n, .int .i64 s.m, .int .i64 s.start, .slice ao L cap] 24)
  have HB0 := Lib.hid hb0
  have HU0 : Hid (Up w (w.alloc (.cells #[.int .i64 s.n, .int .i64 s.m, .int .i64 s.start, .slice ao L cap] 24))) := Lib.hid ((Up.refl w).alloc _)
  unfold errV at HHA
  clear hA hLI hHA hRK hS hL hb0 hh ht hk hp hq hR
  go_enter Tryz.func6, Tryz.ntmps6
  go_wp2_with (first
    | (go_at_call 16; refine (HLI.out _ HU0.out).mono ?_; rintro r w1 ⟨rfl, hu1⟩; (obtain ⟨⟨k0, k1, k2, k3⟩, -⟩ := four_cells ((hu1.block _ (lt_of_block' HB0.out)).trans HB0.out)); (have HUB1 := Lib.hid hu1); clear hu1)
    | (go_at_call 23; refine (HK.out _ (HU0.out.trans HUB1.out)).mono ?_; rintro r w2 ⟨rfl, hu2⟩; (obtain ⟨⟨m0, m1, m2, m3⟩, -⟩ := four_cells (((HUB1.out.trans hu2).block _ (lt_of_block' HB0.out)).trans HB0.out)); (have HUB2 := Lib.hid (HUB1.out.trans hu2)); clear hu2)
    | (go_at_call 17; refine (HHA.out _ (HU0.out.trans HUB2.out)).mono ?_; rintro r w3 ⟨rfl, hu3⟩; (have hbx3 := ((HUB2.out.trans hu3).block _ (lt_of_block' HB0.out)).trans HB0.out); (have HUB3 := Lib.hid (HUB2.out.trans hu3)); (have HU23 := Lib.hid hu3); (obtain ⟨⟨n0, n1, n2, n3⟩, -⟩ := four_cells hbx3); (have o0 := ((Up.refl w3).alloc (.cells #[.int .i64 0, .int .i64 0, .int .i64 0, .string { data := #[] }] 52)).cell n0); (have o1 := ((Up.refl w3).alloc (.cells #[.int .i64 0, .int .i64 0, .int .i64 0, .string { data := #[] }] 52)).cell n1); (have o2 := ((Up.refl w3).alloc (.cells #[.int .i64 0, .int .i64 0, .int .i64 0, .string { data := #[] }] 52)).cell n2); (have o3 := ((Up.refl w3).alloc (.cells #[.int .i64 0, .int .i64 0, .int .i64 0, .string { data := #[] }] 52)).cell n3); clear hu3 n0 n1 n2 n3 hbx3)
    | (go_at_call 10; refine (HA.out _ ((HU0.out.trans HUB3.out).alloc _)).mono ?_; rintro r w4 ⟨rfl, hu4⟩; (have hb4 := (((HUB3.out.alloc (.cells #[.int .i64 0, .int .i64 0, .int .i64 0, .string { data := #[] }] 52)).trans hu4).block _ (lt_of_block' HB0.out)).trans HB0.out); (obtain ⟨⟨p0, p1, p2, p3⟩, -⟩ := four_cells hb4); (have HU4 := Lib.hid ((HUB3.out.alloc (.cells #[.int .i64 0, .int .i64 0, .int .i64 0, .string { data := #[] }] 52)).trans hu4)); clear hu4 hb4)
    | (go_at_call 18; refine (HRD.out _ (HU0.out.trans HU4.out)).mono ?_; rintro r w5 ⟨v5, rfl, HV5, hu5⟩)
    | (go_at_call 25; refine (HRR.out _ _ HV5.out).mono ?_; rintro r w6 ⟨rfl, hu6⟩))
  go_ret
  exact ⟨rfl, ((HU0.out.trans HU4.out).trans hu5).trans hu6⟩

/-- THE STATEMENT, WALKED. -/
theorem rankLaw_any {s : Sy.Lts} {se : Value} {a : Nat → Addr} {w : World} (hs : Ls3 w se s.es) (hl : s.es.length ≤ maxLen) (hcp : CapOk se) (p q : Int) (S : Sts14 w a) (hT : Tab w) (hG : ErrT w) :
    Calls Tryz.prog 6 #[sysV s se, .int .i64 p, .int .i64 q] w (Good w) := by
  have hS : Set14 w s se a := ⟨S, hT, hG, hs, hl⟩
  cases hg : light s
  · exact rankLaw_out s se p q a w hg hS
  · cases hr : Sy.right s
    · exact rankLaw_bad s se p q a w hg hr hS
    · by_cases ht : There s p q
      · obtain ⟨P, rfl⟩ : ∃ P : Nat, p = (P : Nat) := ⟨p.toNat, by unfold There at ht; omega⟩
        obtain ⟨Q, rfl⟩ : ∃ Q : Nat, q = (Q : Nat) := ⟨q.toNat, by unfold There at ht; omega⟩
        unfold There at ht
        exact rankLaw_there s se P Q a w hg hr (by omega) (by omega) hcp hS
      · exact rankLaw_off s se p q a w hg hr ht hS

end Go.Proofs.YtpmdjicaefmbnaaGreatDoor
