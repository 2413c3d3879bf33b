/- errors.Is at a fault that wraps a fault. After gen/XErrIs. -/
import Derived.Test.YtkcdkfkgjjpaaaaGreatDoorErrIs
import Derived.Test.YtkcdkfkgjjpaaaaGreatDoorRdRank
namespace Go.Proofs.YtkcdkfkgjjpaaaaGreatDoor
open Go.RowKit Go.Extern.Stop Go.Stop Go.Extern
set_option linter.unusedVariables false
set_option linter.unusedSimpArgs false

set_option maxHeartbeats 1000000 in
theorem is_nest_same (qb pb : Nat) (b : Addr) (w : World) (h0 : w.cell? ⟨qb, 3, none⟩ = some (.iface 103 (.pointer (some ⟨pb, 0, none⟩)))) (h1 : w.cell? ⟨pb, 3, none⟩ = some (.iface 354 (.pointer (some b)))) :
    Calls Tryz.prog 16 #[.iface 103 (.pointer (some ⟨qb, 0, none⟩)), .iface 354 (.pointer (some b))] w fun e w' => e = .returned (.bool true) ∧ w = w' := by
  obtain ⟨i, hi, hcmp⟩ := Option.map_eq_some_iff.1 Tryz.isComp
  obtain ⟨j, hj, hjs⟩ := Option.map_eq_some_iff.1 Tryz.isSize
  have h8 := @run_callFunc_extern Tryz.prog 48 _ Extern.ReflectliteType.typeOf Tryz.func48 (by kernel_rfl) (by kernel_rfl) (by kernel_rfl) (by kernel_rfl)
  have h32 := @run_callFunc_extern Tryz.prog 306 _ (Extern.ReflectliteType.method Tryz.cmpFn) Tryz.func306 (by kernel_rfl) (by kernel_rfl) (by kernel_rfl) (by kernel_rfl)
  have tT := Tryz.isTypeOf
  have cT := Tryz.isComparable
  have mR := Tryz.isMethodComparable
  have nE := Tryz.noIsE
  have uE := Tryz.noUnwrapE
  have vE := Tryz.noUnwrapsE
  have nW := Tryz.noIsW
  have uW := Tryz.hasUnwrapW
  have mU := Tryz.methodUnwrap
  have heq := run_eql_iface_ptr_same (P := Tryz.prog) w b Tryz.underlying31 Tryz.underlying354 hi hcmp hj
  have hty := run_eql_iface_types (P := Tryz.prog) 103 354 (.pointer (some ⟨pb, 0, none⟩)) (.pointer (some b)) Tryz.underlying31 (by decide) w
  have hty2 := run_eql_iface_types (P := Tryz.prog) 103 354 (.pointer (some ⟨qb, 0, none⟩)) (.pointer (some b)) Tryz.underlying31 (by decide) w
  go_enter Tryz.func16, Tryz.ntmps16
  go_wp2
  refine wp_loop_rounds 3 ?_
  rw [rounds_succ]
  go_wp2
  rw [rounds_succ]
  go_wp2
  rw [rounds_succ]
  go_wp2
  go_ret
  exact ⟨rfl, rfl⟩

set_option maxHeartbeats 1000000 in
theorem is_nest_other (qb pb : Nat) (b a : Addr) (ca cb : Array Value) (ta tb : TypeId) (w : World) (h0 : w.cell? ⟨qb, 3, none⟩ = some (.iface 103 (.pointer (some ⟨pb, 0, none⟩)))) (h1 : w.cell? ⟨pb, 3, none⟩ = some (.iface 354 (.pointer (some a)))) (hne : a ≠ b) (ha : w.heap[a.block]? = some (.cells ca ta (0, 0))) (hb : w.heap[b.block]? = some (.cells cb tb (0, 0))) :
    Calls Tryz.prog 16 #[.iface 103 (.pointer (some ⟨qb, 0, none⟩)), .iface 354 (.pointer (some b))] w fun e w' => e = .returned (.bool false) ∧ w = w' := by
  obtain ⟨i, hi, hcmp⟩ := Option.map_eq_some_iff.1 Tryz.isComp
  obtain ⟨j, hj, hjs⟩ := Option.map_eq_some_iff.1 Tryz.isSize
  have h8 := @run_callFunc_extern Tryz.prog 48 _ Extern.ReflectliteType.typeOf Tryz.func48 (by kernel_rfl) (by kernel_rfl) (by kernel_rfl) (by kernel_rfl)
  have h32 := @run_callFunc_extern Tryz.prog 306 _ (Extern.ReflectliteType.method Tryz.cmpFn) Tryz.func306 (by kernel_rfl) (by kernel_rfl) (by kernel_rfl) (by kernel_rfl)
  have tT := Tryz.isTypeOf
  have cT := Tryz.isComparable
  have mR := Tryz.isMethodComparable
  have nE := Tryz.noIsE
  have uE := Tryz.noUnwrapE
  have vE := Tryz.noUnwrapsE
  have nW := Tryz.noIsW
  have uW := Tryz.hasUnwrapW
  have mU := Tryz.methodUnwrap
  have heq := run_eql_iface_ptr_other (P := Tryz.prog) w Tryz.underlying31 Tryz.underlying354 hi hcmp hj (by rw [hjs]; decide) hne ha hb
  have hty := run_eql_iface_types (P := Tryz.prog) 103 354 (.pointer (some ⟨pb, 0, none⟩)) (.pointer (some b)) Tryz.underlying31 (by decide) w
  have hty2 := run_eql_iface_types (P := Tryz.prog) 103 354 (.pointer (some ⟨qb, 0, none⟩)) (.pointer (some b)) Tryz.underlying31 (by decide) w
  go_enter Tryz.func16, Tryz.ntmps16
  go_wp2
  refine wp_loop_rounds 3 ?_
  rw [rounds_succ]
  go_wp2
  rw [rounds_succ]
  go_wp2
  rw [rounds_succ]
  go_wp2
  go_ret
  exact ⟨rfl, rfl⟩

end Go.Proofs.YtkcdkfkgjjpaaaaGreatDoor
