/- Walks: Bad, Told of a fault of term; told of the law. -/
import Derived.Test.YtiiieailimphnaaDoorTmW15
import Derived.Test.YtiiieailimphnaaDoorErrBare
import Derived.Test.YtiiieailimphnaaDoorQuiet
namespace Go.Proofs.YtiiieailimphnaaDoor
open Go.RowKit Go.Maps
set_option linter.unusedVariables false
set_option linter.unusedSimpArgs false

theorem quiet_left {P : Program} {f : FuncId} {args : Array Value} {w : World} {n : Nat} {v : Value}
    (h : Calls P f args (w.drewN n) fun e w' => e = .returned v ∧ w.drewN n = w') : Calls P f args (w.drewN n) fun e w' => e = .returned v ∧ ∃ m, w' = w.drewN m :=
  h.mono fun _ _ ⟨he, hm⟩ => ⟨he, n, hm.symm⟩

theorem quiet_add_left {P : Program} {f : FuncId} {args : Array Value} {w : World} {a n : Nat} {v : Value}
    (h : Calls P f args (w.drewN (a + n)) fun e w' => e = .returned v ∧ w.drewN (a + n) = w') :
    Calls P f args (w.drewN (a + n)) fun e w'' => e = .returned v ∧ ∃ m, w'' = w.drewN (a + m) :=
  h.mono fun _ _ ⟨he, hm⟩ => ⟨he, n, hm.symm⟩

theorem Tryd.asFault (v : Value) (w : World) : (Instr.typeAssert (.iface 83 v) 27 83 true).run Tryd.prog w = .ok (.tuple #[v, .bool true]) w := by kernel_rfl
theorem Tryd.asNoFault (v : Value) (w : World) : (Instr.typeAssert (.iface 129 v) 27 83 true).run Tryd.prog w = .ok (.tuple #[.pointer none, .bool false]) w := by kernel_rfl

/-- "refine " -/
def layersRef : ByteArray := { data := #[114, 101, 102, 105, 110, 101, 32] }

/-- "term " -/
def layersTerm : ByteArray := { data := #[116, 101, 114, 109, 32] }

set_option maxHeartbeats 1000000 in
theorem bad_any (k : Int) (w : World) :
    Calls Tryd.prog 36 #[.string layerTerm, .int .i64 k] w fun r w' => r = .returned (.agg #[.int .i64 k, .int .i64 0, .int .i64 0, .string layersTerm]) ∧ Up w w' := by
  unfold layerTerm
  go_enter Tryd.func36, Tryd.ntmps36
  go_wp2_with fail
  apply bodyPost_ret
  · (simp [results, Tryd.results36, go_sem]; rfl)
  · rfl
  · exact ⟨rfl, by repeat (first | (with_reducible exact Up.refl _) | (with_reducible apply Up.drew) | (with_reducible apply Up.alloc))⟩

set_option maxHeartbeats 4000000 in
set_option maxRecDepth 100000 in
theorem told_fault {w : World} (F : Nat) (a : Addr) (code : Int) (h0 : 1 ≤ code) (h1 : code ≤ 100) (hF : w.heap[F]? = some (.cells #[.string layerTerm, .int .i64 0, .int .i64 0, .iface 129 (.pointer (some a))] 85 (0, 0)))
    (hK : ∀ (w1 : World) (v : Value), Up w w1 → Wraps w1 v a → Calls Tryd.prog 12 #[v] w1 fun r w' => r = .returned (.int .i64 code) ∧ w1 = w') :
    Calls Tryd.prog 35 #[.iface 83 (.pointer (some ⟨F, 0, none⟩)), .agg #[.int .i64 code, .int .i64 0, .int .i64 0, .string layersTerm]] w fun r w' => r = .returned (.bool true) ∧ Up w w' := by
  have c0 : w.cell? ⟨F, 0, none⟩ = some (.string layerTerm) := by simp [World.cell?, hF]
  have c1 : w.cell? ⟨F, 1, none⟩ = some (.int .i64 0) := by simp [World.cell?, hF]
  have c2 : w.cell? ⟨F, 2, none⟩ = some (.int .i64 0) := by simp [World.cell?, hF]
  have c3 : w.cell? ⟨F, 3, none⟩ = some (.iface 129 (.pointer (some a))) := by simp [World.cell?, hF]
  have HK1 : Hid (∀ w1, Up w w1 → Calls Tryd.prog 12 #[.iface 83 (.pointer (some ⟨F, 0, none⟩))] w1 fun r w' => r = .returned (.int .i64 code) ∧ w1 = w') := fun w1 hu => hK w1 _ hu (.inr ⟨F, rfl, hu.cell c3⟩)
  have HK2 : Hid (∀ w1, Up w w1 → Calls Tryd.prog 12 #[.iface 129 (.pointer (some a))] w1 fun r w' => r = .returned (.int .i64 code) ∧ w1 = w') := fun w1 hu => hK w1 _ hu (.inl rfl)
  have hFl := (Array.getElem?_eq_some_iff.1 hF).1
  have q0 : (code == 0) = false := by simp; omega
  have qc : (code != code) = false := by simp
  have qd : (code == code) = true := by simp
  unfold layerTerm at c0
  have aF := Tryd.asFault
  have aN := Tryd.asNoFault
  clear hK hF
  go_enter Tryd.func35, Tryd.ntmps35
  go_wp2_with fail
  go_quiet ((go_at_call 12; exact quiet_left (HK1.out _ (by repeat (first | (with_reducible exact Up.refl _) | (with_reducible apply Up.drewN) | (with_reducible apply Up.drew) | (with_reducible apply Up.alloc))))))
  go_wp2_with fail
  refine wp_loop_rounds 2 ?_
  rw [rounds_succ]
  go_wp2_with fail
  go_quiet (fail)
  go_wp2_with fail
  rw [rounds_succ]
  go_wp2_with fail
  rw [show (({ data := #[] } : ByteArray) ++ { data := #[116, 101, 114, 109] } ++ { data := #[32] }) = layersTerm from by decide]
  have hq : (layersTerm == layersTerm) = true := by decide
  go_quiet ((go_at_call 12; exact quiet_add_left (HK2.out _ (by repeat (first | (with_reducible exact Up.refl _) | (with_reducible apply Up.drewN) | (with_reducible apply Up.drew) | (with_reducible apply Up.alloc))))))
  go_wp2_with fail
  go_ret
  exact ⟨rfl, by repeat (first | (with_reducible exact Up.refl _) | (with_reducible apply Up.drewN) | (with_reducible apply Up.drew) | (with_reducible apply Up.alloc))⟩


/-- The three sentinels, told apart. -/
structure Sts (w : World) (a1 a2 a3 : Addr) : Prop where
  s1 : Sent w 0 a1
  s2 : Sent w 1 a2
  s3 : Sent w 2 a3
  n1 : a3 ≠ a1
  n2 : a3 ≠ a2

theorem Sts.up {w w' : World} {a1 a2 a3 : Addr} (h : Sts w a1 a2 a3) (hu : Up w w') : Sts w' a1 a2 a3 := ⟨h.s1.below hu, h.s2.below hu, h.s3.below hu, h.n1, h.n2⟩

theorem told_none (w : World) : Calls Tryd.prog 16 #[.nilIface, .int .i64 0] w (Done w) := by
  go_enter Tryd.func16, Tryd.ntmps16
  go_wp2_with fail
  go_ret
  exact ⟨rfl, Up.refl _⟩

set_option maxHeartbeats 2000000 in
theorem told_term {w : World} {F : Nat} {a : Addr} (code : Int) (h0 : 1 ≤ code) (h1 : code ≤ 100) (hF : FaultT w F 129 (.pointer (some a)))
    (hK : ∀ (w1 : World) (v : Value), Up w w1 → Wraps w1 v a → Calls Tryd.prog 12 #[v] w1 fun r w' => r = .returned (.int .i64 code) ∧ w1 = w') :
    Calls Tryd.prog 16 #[.iface 83 (.pointer (some ⟨F, 0, none⟩)), .int .i64 code] w (Done w) := by
  have HT : Hid (∀ w1, Up w w1 → Calls Tryd.prog 35 #[.iface 83 (.pointer (some ⟨F, 0, none⟩)), .agg #[.int .i64 code, .int .i64 0, .int .i64 0, .string layersTerm]] w1 fun r w' => r = .returned (.bool true) ∧ Up w1 w') := fun w1 hu =>
    told_fault F a code h0 h1 (hF.up hu) (fun w2 v hu2 hv => hK w2 v (hu.trans hu2) hv)
  have HB := Lib.hid (bad_any code w)
  have q0 : (code == 0) = false := by simp; omega
  clear hF hK
  unfold layerTerm at HB
  go_enter Tryd.func16, Tryd.ntmps16
  go_wp2_with (first
    | (go_at_call 36; refine HB.out.mono ?_; rintro r w1 ⟨rfl, hu1⟩)
    | (go_at_call 35; refine (HT.out _ hu1).mono ?_; rintro r w2 ⟨rfl, hu2⟩))
  go_ret
  exact ⟨rfl, hu1.trans hu2⟩

theorem told_arg {w : World} {F : Nat} {a1 a2 a3 : Addr} (hF : FaultT w F 129 (.pointer (some a1))) (hS : Sts w a1 a2 a3) :
    Calls Tryd.prog 16 #[.iface 83 (.pointer (some ⟨F, 0, none⟩)), .int .i64 1] w (Done w) :=
  told_term 1 (by omega) (by omega) hF (fun w1 v hu hv => code_1 hv (hS.up hu).s1)

theorem told_index {w : World} {F : Nat} {a1 a2 a3 : Addr} (hF : FaultT w F 129 (.pointer (some a3))) (hS : Sts w a1 a2 a3) :
    Calls Tryd.prog 16 #[.iface 83 (.pointer (some ⟨F, 0, none⟩)), .int .i64 3] w (Done w) :=
  told_term 3 (by omega) (by omega) hF (fun w1 v hu hv => code_3 hv (hS.up hu).s1 (hS.up hu).s2 (hS.up hu).s3 hS.n1 hS.n2)

end Go.Proofs.YtiiieailimphnaaDoor
