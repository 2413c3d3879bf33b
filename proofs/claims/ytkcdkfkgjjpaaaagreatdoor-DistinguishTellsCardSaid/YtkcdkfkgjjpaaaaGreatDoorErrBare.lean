/- errors.Is at an error of errors.New's make itself, by its contracts; api.Code of an error, whether it is one of errors.New's make or a fault that wraps one. What the list of laid variables gives of sentinels that are told apart: two at a time, and a third. No function of the program is named. -/
import Derived.Test.YtkcdkfkgjjpaaaaGreatDoorErrIs
import Derived.Test.YtkcdkfkgjjpaaaaGreatDoorMem
import Derived.Stop.LaidErr
import Derived.Stop.LaidTwo

namespace Go.Proofs.YtkcdkfkgjjpaaaaGreatDoor
open Go.RowKit Go.Extern.Stop Go.Stop Go.Extern
set_option linter.unusedVariables false
set_option linter.unusedSimpArgs false

set_option maxHeartbeats 1000000 in
theorem is_bare_same (b : Addr) (w : World) :
    Calls Tryz.prog 16 #[.iface 354 (.pointer (some b)), .iface 354 (.pointer (some b))] w fun e w' => e = .returned (.bool true) ∧ w = w' := by
  obtain ⟨i, hi, hcmp⟩ := Option.map_eq_some_iff.1 Tryz.isComp
  obtain ⟨j, hj, hjs⟩ := Option.map_eq_some_iff.1 Tryz.isSize
  have h8 := @run_callFunc_extern Tryz.prog 48 _ Extern.ReflectliteType.typeOf Tryz.func48 (by kernel_rfl) (by kernel_rfl) (by kernel_rfl) (by kernel_rfl)
  have h32 := @run_callFunc_extern Tryz.prog 306 _ (Extern.ReflectliteType.method Tryz.cmpFn) Tryz.func306 (by kernel_rfl) (by kernel_rfl) (by kernel_rfl) (by kernel_rfl)
  have tT := Tryz.isTypeOf
  have cT := Tryz.isComparable
  have mR := Tryz.isMethodComparable
  have nE := Tryz.noIsE
  have uE := Tryz.noUnwrapE
  have vE := Tryz.noUnwrapsE
  have heq := run_eql_iface_ptr_same (P := Tryz.prog) w b Tryz.underlying31 Tryz.underlying354 hi hcmp hj
  go_enter Tryz.func16, Tryz.ntmps16
  go_wp2
  refine wp_loop_rounds 1 ?_
  rw [rounds_succ]
  go_wp2
  go_ret
  exact ⟨rfl, rfl⟩

set_option maxHeartbeats 1000000 in
theorem is_bare_other (b a : Addr) (ca cb : Array Value) (ta tb : TypeId) (w : World) (hne : a ≠ b) (ha : w.heap[a.block]? = some (.cells ca ta (0, 0))) (hb : w.heap[b.block]? = some (.cells cb tb (0, 0))) :
    Calls Tryz.prog 16 #[.iface 354 (.pointer (some a)), .iface 354 (.pointer (some b))] w fun e w' => e = .returned (.bool false) ∧ w = w' := by
  obtain ⟨i, hi, hcmp⟩ := Option.map_eq_some_iff.1 Tryz.isComp
  obtain ⟨j, hj, hjs⟩ := Option.map_eq_some_iff.1 Tryz.isSize
  have h8 := @run_callFunc_extern Tryz.prog 48 _ Extern.ReflectliteType.typeOf Tryz.func48 (by kernel_rfl) (by kernel_rfl) (by kernel_rfl) (by kernel_rfl)
  have h32 := @run_callFunc_extern Tryz.prog 306 _ (Extern.ReflectliteType.method Tryz.cmpFn) Tryz.func306 (by kernel_rfl) (by kernel_rfl) (by kernel_rfl) (by kernel_rfl)
  have tT := Tryz.isTypeOf
  have cT := Tryz.isComparable
  have mR := Tryz.isMethodComparable
  have nE := Tryz.noIsE
  have uE := Tryz.noUnwrapE
  have vE := Tryz.noUnwrapsE
  have heq := run_eql_iface_ptr_other (P := Tryz.prog) w Tryz.underlying31 Tryz.underlying354 hi hcmp hj (by rw [hjs]; decide) hne ha hb
  go_enter Tryz.func16, Tryz.ntmps16
  go_wp2
  refine wp_loop_rounds 1 ?_
  rw [rounds_succ]
  go_wp2
  go_ret
  exact ⟨rfl, rfl⟩

/-- An error that is the sentinel at a, or a fault that wraps it. -/
def Wraps (w : World) (v : Value) (a : Addr) : Prop :=
  v = .iface 354 (.pointer (some a)) ∨ ∃ pb, v = .iface 103 (.pointer (some ⟨pb, 0, none⟩)) ∧ w.cell? ⟨pb, 3, none⟩ = some (.iface 354 (.pointer (some a)))

theorem is_same {w : World} {v : Value} {a : Addr} (h : Wraps w v a) :
    Calls Tryz.prog 16 #[v, .iface 354 (.pointer (some a))] w fun e w' => e = .returned (.bool true) ∧ w = w' := by
  rcases h with rfl | ⟨pb, rfl, hc⟩
  · exact is_bare_same a w
  · exact is_fault_same pb a w hc

theorem is_other {w : World} {v : Value} {a b : Addr} {ca cb : Array Value} {ta tb : TypeId} (h : Wraps w v a) (hne : a ≠ b) (ha : w.heap[a.block]? = some (.cells ca ta (0, 0))) (hb : w.heap[b.block]? = some (.cells cb tb (0, 0))) :
    Calls Tryz.prog 16 #[v, .iface 354 (.pointer (some b))] w fun e w' => e = .returned (.bool false) ∧ w = w' := by
  rcases h with rfl | ⟨pb, rfl, hc⟩
  · exact is_bare_other b a ca cb ta tb w hne ha hb
  · exact is_fault_other pb b a ca cb ta tb w hc hne ha hb

/-- A sentinel's variable, and where its error lies. -/
structure Sent (w : World) (g : Nat) (a : Addr) : Prop where
  var : w.cell? ⟨g, 0, none⟩ = some (.iface 354 (.pointer (some a)))
  blk : ∃ ca ta, w.heap[a.block]? = some (.cells ca ta (0, 0))

theorem Sent.below {w w' : World} {g : Nat} {a : Addr} (h : Sent w g a) (hb : Below w.heap.size w w') : Sent w' g a := by
  obtain ⟨ca, ta, hc⟩ := h.blk
  have hl := (Array.getElem?_eq_some_iff.1 hc).1
  exact ⟨(hb.cell (World.block_lt_of_cell? w _ h.var)).trans h.var, ca, ta, (hb.block _ hl).trans hc⟩

theorem wraps_ne {w : World} {v : Value} {a : Addr} (h : Wraps w v a) : ∃ t p, v = .iface t p := by
  rcases h with rfl | ⟨pb, rfl, _⟩ <;> exact ⟨_, _, rfl⟩

set_option maxHeartbeats 1000000 in
theorem code_1 {w : World} {v : Value} {a : Addr} (h : Wraps w v a) (s1 : Sent w 6 a) :
    Calls Tryz.prog 53 #[v] w fun r w' => r = .returned (.int .i64 1) ∧ w = w' := by
  have H := Lib.hid (is_same h)
  obtain ⟨t, p, rfl⟩ := wraps_ne h
  have g1 := s1.var
  clear h s1
  go_enter Tryz.func53, Tryz.ntmps53
  go_wp2_with (go_at_call 16; refine H.out.mono ?_; rintro e w4 ⟨rfl, rfl⟩)
  go_ret
  exact ⟨rfl, rfl⟩

set_option maxHeartbeats 1000000 in
theorem code_3 {w : World} {v : Value} {a a1 a2 : Addr} (h : Wraps w v a) (s1 : Sent w 6 a1) (s2 : Sent w 4 a2) (s3 : Sent w 3 a) (n1 : a ≠ a1) (n2 : a ≠ a2) :
    Calls Tryz.prog 53 #[v] w fun r w' => r = .returned (.int .i64 3) ∧ w = w' := by
  obtain ⟨c, tc, hc⟩ := s3.blk
  obtain ⟨c1, t1, hc1⟩ := s1.blk
  obtain ⟨c2, t2, hc2⟩ := s2.blk
  have H := Lib.hid (is_same h)
  have H1 := Lib.hid (is_other h n1 hc hc1)
  have H2 := Lib.hid (is_other h n2 hc hc2)
  obtain ⟨t, p, rfl⟩ := wraps_ne h
  have g1 := s1.var
  have g2 := s2.var
  have g3 := s3.var
  clear h s1 s2 s3 hc hc1 hc2 n1 n2
  go_enter Tryz.func53, Tryz.ntmps53
  go_wp2_with (first
    | (go_at_call 16; (with_reducible refine H1.out.mono ?_); rintro e w4 ⟨rfl, rfl⟩)
    | (go_at_call 16; (with_reducible refine H2.out.mono ?_); rintro e w4 ⟨rfl, rfl⟩)
    | (go_at_call 16; (with_reducible refine H.out.mono ?_); rintro e w4 ⟨rfl, rfl⟩))
  go_ret
  exact ⟨rfl, rfl⟩

end Go.Proofs.YtkcdkfkgjjpaaaaGreatDoor

namespace Go.Proofs.YtkcdkfkgjjpaaaaGreatDoor
open Go.RowKit

theorem cell_string_inj {w : World} {a b : Addr} {s t : ByteArray} (ha : w.cell? a = some (.string s)) (hb : w.cell? b = some (.string t)) (h : s.data.toList ≠ t.data.toList) : a ≠ b := by
  rintro rfl
  rw [ha] at hb
  simp only [Option.some.injEq, Value.string.injEq] at hb
  exact h (by rw [hb])

theorem sent_of {P : Program} {W : World} {n : String} {g : Nat} {a : Addr} {c : Array Value} {t : TypeId} (hg : P.globalNamed n = some g) (hv : W.var? P n = some #[.iface 354 (.pointer (some a))]) (hb : W.heap[a.block]? = some (.cells c t (0, 0))) : Sent W g a :=
  ⟨by simpa using World.var?_cell hg hv 0, c, t, hb⟩

end Go.Proofs.YtkcdkfkgjjpaaaaGreatDoor
