/- DistinguishCompares: whatever system and whatever two numbers are handed to it, it returns true: what Compare tells of the two states is what the document says, and the lists that were answered lie apart. It is shown where the listed package variables read as the program's text lays them, and, as the given statement asks, where what it reads is of bulk at most 1048576; no other condition. Printed by mkrow.py. -/
import Derived.Test.YtoaoajfjcfcmhaaGreatDoorP01
import Derived.Test.YtoaoajfjcfcmhaaGreatDoorP31
import Derived.Test.YtoaoajfjcfcmhaaGreatDoorCards
import Derived.Test.YtoaoajfjcfcmhaaGreatDoorTie
import Derived.SevenTiedAt
import Derived.ProofKit
import Derived.ChangeSame
import Derived.ChangeVars
import Derived.JoinedOf
import Derived.RowKit
import Derived.RowKitTokens
import Derived.LaidLaws
import Derived.LaidHandle
import Derived.Stop.Joined
import Derived.Stop.LaidErr
import Derived.Deep.DeepHandedRow
set_option linter.unusedVariables false
set_option linter.unusedSimpArgs false
set_option maxHeartbeats 16000000
set_option maxRecDepth 100000
open Go.Proofs.Tryz
namespace Go.Proofs.YtoaoajfjcfcmhaaGreatDoor.DistinguishCompares
open Go.ChangeShapes Go.WideShapes Go.ChangeAt Go.RowKit
theorem own : ownKnob prog.godebug = none := by kernel_rfl
theorem et : prog.globalNamed "errors.errorType" = some 4 := by kernel_rfl
theorem rt : (prog.cutTypes.find? (·.1 == "internal/reflectlite.rtype")).map (·.2) = some 207 := by kernel_rfl
theorem size : prog.types.size = 367 := by kernel_rfl
theorem zAt : ((List.range 367).filter fun t => prog.rowNamed t [101, 114, 114, 111, 114]) = [50] := by kernel_rfl
theorem zqb : prog.globalNamed "semblance/api.ErrArg" = some 5 := by kernel_rfl
theorem zxl : (prog.globals[5]?).map (·.type) = some 50 := by kernel_rfl
theorem znp : prog.globalNamed "semblance/api.ErrLong" = some 2 := by kernel_rfl
theorem zta : (prog.globals[2]?).map (·.type) = some 50 := by kernel_rfl
theorem zje : prog.globalNamed "semblance/api.ErrIndex" = some 1 := by kernel_rfl
theorem zrj : (prog.globals[1]?).map (·.type) = some 50 := by kernel_rfl
theorem znb : prog.globalNamed "semblance/api.ErrWord" = some 6 := by kernel_rfl
theorem zt3 : (prog.globals[6]?).map (·.type) = some 50 := by kernel_rfl
theorem zha : prog.globalNamed "semblance/api.ErrSyntax" = some 7 := by kernel_rfl
theorem zoa : (prog.globals[7]?).map (·.type) = some 50 := by kernel_rfl
theorem zmn : prog.globalNamed "semblance/api.ErrDeep" = some 8 := by kernel_rfl
theorem zt1 : (prog.globals[8]?).map (·.type) = some 50 := by kernel_rfl
theorem zji : prog.globalNamed "semblance/api.ErrTwice" = some 9 := by kernel_rfl
theorem zsh : (prog.globals[9]?).map (·.type) = some 50 := by kernel_rfl
theorem zgg : prog.globalNamed "semblance/api.ErrUnknown" = some 10 := by kernel_rfl
theorem zlz : (prog.globals[10]?).map (·.type) = some 50 := by kernel_rfl
theorem zhf : prog.globalNamed "semblance/api.ErrSilent" = some 11 := by kernel_rfl
theorem zo5 : (prog.globals[11]?).map (·.type) = some 50 := by kernel_rfl
theorem zeo : prog.globalNamed "semblance/api.ErrUnguarded" = some 12 := by kernel_rfl
theorem zir : (prog.globals[12]?).map (·.type) = some 50 := by kernel_rfl
theorem zjd : prog.globalNamed "semblance/api.ErrSteps" = some 14 := by kernel_rfl
theorem zs9 : (prog.globals[14]?).map (·.type) = some 50 := by kernel_rfl
theorem zhy : prog.globalNamed "semblance/api.ErrStates" = some 15 := by kernel_rfl
theorem zok : (prog.globals[15]?).map (·.type) = some 50 := by kernel_rfl
theorem zjo : prog.globalNamed "semblance/api.ErrEdges" = some 16 := by kernel_rfl
theorem zrq : (prog.globals[16]?).map (·.type) = some 50 := by kernel_rfl
theorem zi6 : prog.globalNamed "semblance/api.ErrSystem" = some 13 := by kernel_rfl
theorem zo6 : (prog.globals[13]?).map (·.type) = some 50 := by kernel_rfl
theorem zgi : prog.globalNamed "semblance/api.ErrClasses" = some 17 := by kernel_rfl
theorem znv : (prog.globals[17]?).map (·.type) = some 50 := by kernel_rfl
theorem zgo : prog.globalNamed "semblance/api.ErrFormula" = some 18 := by kernel_rfl
theorem zly : (prog.globals[18]?).map (·.type) = some 50 := by kernel_rfl
theorem zj3 : prog.globalNamed "semblance/api.ErrLimit" = some 3 := by kernel_rfl
theorem zqy : (prog.globals[3]?).map (·.type) = some 50 := by kernel_rfl
theorem zm7 : prog.globalNamed "semblance/api.ErrNone" = some 0 := by kernel_rfl
theorem ztb : (prog.globals[0]?).map (·.type) = some 50 := by kernel_rfl
theorem zC0 : prog.globalNamed "internal/strconv.uint64pow10" = some 20 := by kernel_rfl
theorem zBy : (prog.globals[20]?).map (·.type) = some 325 := by kernel_rfl
theorem cellsE : prog.cellsOf 355 = 1 := by kernel_rfl
theorem cellsS : prog.cellsOf 9 = 1 := by kernel_rfl
theorem star : "*" ++ "errors.errorString" = "*errors.errorString" := by decide
theorem zJ2 (u : TypeId) (h : prog.typeName? 3 u = some "*errors.errorString") : u = 335 :=
 typeName_ptr_named (nm := "errors.errorString") (by rw [star]; kernel_rfl) (by kernel_rfl) (by decide) u (by rw [star]; exact h)
def zvb : List (List UInt8) := [[97, 110, 32, 97, 114, 103, 117, 109, 101, 110, 116, 32, 116, 104, 97, 116, 32, 99, 97, 110, 39, 116, 32, 98, 101], [116, 111, 111, 32, 108, 111, 110, 103, 44, 32, 111, 114, 32, 116, 111, 111, 32, 109, 97, 110, 121], [97, 32, 110, 117, 109, 98, 101, 114, 32, 116, 104, 97, 116, 32, 105, 115, 32, 110, 111, 116, 32, 116, 104, 101, 114, 101], [97, 32, 99, 104, 97, 114, 97, 99, 116, 101, 114, 32, 116, 104, 97, 116, 32, 98, 101, 103, 105, 110, 115, 32, 110, 111, 32, 119, 111, 114, 100], [97, 32, 119, 111, 114, 100, 32, 116, 104, 97, 116, 32, 99, 97, 110, 39, 116, 32, 115, 116, 97, 110, 100, 32, 116, 104, 101, 114, 101], [98, 114, 97, 99, 107, 101, 116, 115, 32, 116, 104, 97, 116, 32, 115, 116, 97, 110, 100, 32, 116, 111, 111, 32, 100, 101, 101, 112], [115, 111, 109, 101, 116, 104, 105, 110, 103, 32, 116, 104, 97, 116, 32, 115, 116, 97, 110, 100, 115, 32, 116, 104, 101, 114, 101, 32, 97, 108, 114, 101, 97, 100, 121], [97, 32, 110, 97, 109, 101, 32, 116, 104, 97, 116, 32, 105, 115, 32, 110, 111, 116, 32, 116, 104, 101, 114, 101], [116, 104, 101, 32, 115, 105, 108, 101, 110, 116, 32, 97, 99, 116, 105, 111, 110, 44, 32, 119, 104, 101, 114, 101, 32, 105, 116, 32, 99, 97, 110, 39, 116, 32, 115, 116, 97, 110, 100], [97, 32, 99, 111, 110, 115, 116, 97, 110, 116, 32, 116, 104, 97, 116, 32, 110, 101, 101, 100, 115, 32, 105, 116, 115, 101, 108, 102, 32, 102, 105, 114, 115, 116], [97, 32, 116, 101, 114, 109, 32, 119, 105, 116, 104, 32, 116, 111, 111, 32, 109, 97, 110, 121, 32, 115, 116, 101, 112, 115], [116, 111, 111, 32, 109, 97, 110, 121, 32, 115, 116, 97, 116, 101, 115], [116, 111, 111, 32, 109, 97, 110, 121, 32, 101, 100, 103, 101, 115], [97, 32, 115, 121, 115, 116, 101, 109, 32, 116, 104, 97, 116, 32, 105, 115, 32, 110, 111, 110, 101], [99, 108, 97, 115, 115, 101, 115, 32, 116, 104, 97, 116, 32, 97, 114, 101, 32, 110, 111, 110, 101], [97, 32, 102, 111, 114, 109, 117, 108, 97, 32, 116, 104, 97, 116, 32, 105, 115, 32, 110, 111, 110, 101], [97, 32, 102, 111, 114, 109, 117, 108, 97, 32, 116, 104, 97, 116, 32, 119, 111, 117, 108, 100, 32, 98, 101, 32, 116, 111, 111, 32, 103, 114, 101, 97, 116], [116, 104, 101, 114, 101, 32, 105, 115, 32, 110, 111, 110, 101]]
theorem ztp : ((List.range 18).all fun i => (List.range 18).all fun j => i == j || zvb.getD i [] != zvb.getD j []) = true := by decide +kernel
theorem zwo (i j : Nat) (hi : i < 18) (hj : j < 18) (h : i ≠ j) : zvb.getD i [] ≠ zvb.getD j [] := by
 have h1 := List.all_eq_true.1 (List.all_eq_true.1 ztp i (List.mem_range.2 hi)) j (List.mem_range.2 hj)
 simpa [h] using h1
theorem zzz {W : World} (h : laidMetH prog Rows.distinguishComparesUptoRow.laid W) : ∃ a : Nat -> Addr, zF0 W a /\ Tab W /\ W.cell? ⟨4, 0, none⟩ = some (.iface 207 (.agg #[.pointer (some ⟨23, 50, none⟩)])) := by
 have h' : laidMet prog [("math/bits.deBruijn32tab", Rows.laid_math_bits_deBruijn32tab), ("math/bits.deBruijn64tab", Rows.laid_math_bits_deBruijn64tab), ("internal/strconv.uint64pow10", Rows.laid_internal_strconv_uint64pow10), ("semblance/api.ErrArg", Rows.laid_semblance_api_ErrArg), ("semblance/api.ErrLong", Rows.laid_semblance_api_ErrLong), ("semblance/api.ErrIndex", Rows.laid_semblance_api_ErrIndex), ("semblance/api.ErrWord", Rows.laid_semblance_api_ErrWord), ("semblance/api.ErrSyntax", Rows.laid_semblance_api_ErrSyntax), ("semblance/api.ErrDeep", Rows.laid_semblance_api_ErrDeep), ("semblance/api.ErrTwice", Rows.laid_semblance_api_ErrTwice), ("semblance/api.ErrUnknown", Rows.laid_semblance_api_ErrUnknown), ("semblance/api.ErrSilent", Rows.laid_semblance_api_ErrSilent), ("semblance/api.ErrUnguarded", Rows.laid_semblance_api_ErrUnguarded), ("semblance/api.ErrSteps", Rows.laid_semblance_api_ErrSteps), ("semblance/api.ErrStates", Rows.laid_semblance_api_ErrStates), ("semblance/api.ErrEdges", Rows.laid_semblance_api_ErrEdges), ("semblance/api.ErrSystem", Rows.laid_semblance_api_ErrSystem), ("semblance/api.ErrClasses", Rows.laid_semblance_api_ErrClasses), ("semblance/api.ErrFormula", Rows.laid_semblance_api_ErrFormula), ("semblance/api.ErrLimit", Rows.laid_semblance_api_ErrLimit), ("semblance/api.ErrNone", Rows.laid_semblance_api_ErrNone), ("semblance/api.ErrScript", Rows.laid_semblance_api_ErrScript)] W /\ handlesMet prog [("errors.errorType", Rows.laid_errors_errorType)] W := h
 obtain ⟨a0, a1, s0, s1, c0, c1, t0, t1, v0, v1, k0, e0, _, k1, e1, _, _, b0, b1⟩ := laid_sentinels2 h'.1.tail.tail.tail zqb zxl znp zta underlying50 zJ2 underlying335 underlying355 rfl rfl underlying9 cellsE cellsS
 obtain ⟨a2, a3, s2, s3, c2, c3, t2, t3, v2, v3, k2, e2, _, k3, e3, _, _, b2, b3⟩ := laid_sentinels2 h'.1.tail.tail.tail.tail.tail zje zrj znb zt3 underlying50 zJ2 underlying335 underlying355 rfl rfl underlying9 cellsE cellsS
 obtain ⟨a4, a5, s4, s5, c4, c5, t4, t5, v4, v5, k4, e4, _, k5, e5, _, _, b4, b5⟩ := laid_sentinels2 h'.1.tail.tail.tail.tail.tail.tail.tail zha zoa zmn zt1 underlying50 zJ2 underlying335 underlying355 rfl rfl underlying9 cellsE cellsS
 obtain ⟨a6, a7, s6, s7, c6, c7, t6, t7, v6, v7, k6, e6, _, k7, e7, _, _, b6, b7⟩ := laid_sentinels2 h'.1.tail.tail.tail.tail.tail.tail.tail.tail.tail zji zsh zgg zlz underlying50 zJ2 underlying335 underlying355 rfl rfl underlying9 cellsE cellsS
 obtain ⟨a8, a9, s8, s9, c8, c9, t8, t9, v8, v9, k8, e8, _, k9, e9, _, _, b8, b9⟩ := laid_sentinels2 h'.1.tail.tail.tail.tail.tail.tail.tail.tail.tail.tail.tail zhf zo5 zeo zir underlying50 zJ2 underlying335 underlying355 rfl rfl underlying9 cellsE cellsS
 obtain ⟨a10, a11, s10, s11, c10, c11, t10, t11, v10, v11, k10, e10, _, k11, e11, _, _, b10, b11⟩ := laid_sentinels2 h'.1.tail.tail.tail.tail.tail.tail.tail.tail.tail.tail.tail.tail.tail zjd zs9 zhy zok underlying50 zJ2 underlying335 underlying355 rfl rfl underlying9 cellsE cellsS
 obtain ⟨a12, a13, s12, s13, c12, c13, t12, t13, v12, v13, k12, e12, _, k13, e13, _, _, b12, b13⟩ := laid_sentinels2 h'.1.tail.tail.tail.tail.tail.tail.tail.tail.tail.tail.tail.tail.tail.tail.tail zjo zrq zi6 zo6 underlying50 zJ2 underlying335 underlying355 rfl rfl underlying9 cellsE cellsS
 obtain ⟨a14, a15, s14, s15, c14, c15, t14, t15, v14, v15, k14, e14, _, k15, e15, _, _, b14, b15⟩ := laid_sentinels2 h'.1.tail.tail.tail.tail.tail.tail.tail.tail.tail.tail.tail.tail.tail.tail.tail.tail.tail zgi znv zgo zly underlying50 zJ2 underlying335 underlying355 rfl rfl underlying9 cellsE cellsS
 obtain ⟨a16, a17, s16, s17, c16, c17, t16, t17, v16, v17, k16, e16, _, k17, e17, _, _, b16, b17⟩ := laid_sentinels2 h'.1.tail.tail.tail.tail.tail.tail.tail.tail.tail.tail.tail.tail.tail.tail.tail.tail.tail.tail.tail zj3 zqy zm7 ztb underlying50 zJ2 underlying335 underlying355 rfl rfl underlying9 cellsE cellsS
 have aa : ∀ i j, i < 18 -> j < 18 -> i ≠ j -> [a0, a1, a2, a3, a4, a5, a6, a7, a8, a9, a10, a11, a12, a13, a14, a15, a16, a17].getD i a0 ≠ [a0, a1, a2, a3, a4, a5, a6, a7, a8, a9, a10, a11, a12, a13, a14, a15, a16, a17].getD j a0 := by
  have hs : ∀ i, i < 18 -> W.cell? ([a0, a1, a2, a3, a4, a5, a6, a7, a8, a9, a10, a11, a12, a13, a14, a15, a16, a17].getD i a0) = some (.string ([s0, s1, s2, s3, s4, s5, s6, s7, s8, s9, s10, s11, s12, s13, s14, s15, s16, s17].getD i s0)) /\ ([s0, s1, s2, s3, s4, s5, s6, s7, s8, s9, s10, s11, s12, s13, s14, s15, s16, s17].getD i s0).data.toList = zvb.getD i [] := by
   intro i hi
   rcases i with _ | _ | _ | _ | _ | _ | _ | _ | _ | _ | _ | _ | _ | _ | _ | _ | _ | _ | i
   ·exact ⟨k0, e0⟩
   ·exact ⟨k1, e1⟩
   ·exact ⟨k2, e2⟩
   ·exact ⟨k3, e3⟩
   ·exact ⟨k4, e4⟩
   ·exact ⟨k5, e5⟩
   ·exact ⟨k6, e6⟩
   ·exact ⟨k7, e7⟩
   ·exact ⟨k8, e8⟩
   ·exact ⟨k9, e9⟩
   ·exact ⟨k10, e10⟩
   ·exact ⟨k11, e11⟩
   ·exact ⟨k12, e12⟩
   ·exact ⟨k13, e13⟩
   ·exact ⟨k14, e14⟩
   ·exact ⟨k15, e15⟩
   ·exact ⟨k16, e16⟩
   ·exact ⟨k17, e17⟩
   ·omega
  intro i j hi hj ab
  exact zi0 (hs i hi).1 (hs j hj).1 (by rw [(hs i hi).2, (hs j hj).2]; exact zwo i j hi hj ab)
 refine ⟨fun i => [a0, a1, a2, a3, a4, a5, a6, a7, a8, a9, a10, a11, a12, a13, a14, a15, a16, a17].getD i a0, ⟨fun i hi => ?_, aa⟩, Lib.tabIs_of_head zC0 zBy underlying325 underlying271 (by kernel_rfl) (by kernel_rfl) h'.1.tail.tail, ?_⟩
 ·rcases i with _ | _ | _ | _ | _ | _ | _ | _ | _ | _ | _ | _ | _ | _ | _ | _ | _ | _ | i
  ·exact zbi zqb v0 b0
  ·exact zbi znp v1 b1
  ·exact zbi zje v2 b2
  ·exact zbi znb v3 b3
  ·exact zbi zha v4 b4
  ·exact zbi zmn v5 b5
  ·exact zbi zji v6 b6
  ·exact zbi zgg v7 b7
  ·exact zbi zhf v8 b8
  ·exact zbi zeo v9 b9
  ·exact zbi zjd v10 b10
  ·exact zbi zhy v11 b11
  ·exact zbi zjo v12 b12
  ·exact zbi zi6 v13 b13
  ·exact zbi zgi v14 b14
  ·exact zbi zgo v15 b15
  ·exact zbi zj3 v16 b16
  ·exact zbi zm7 v17 b17
  ·omega
 obtain ⟨name, u, ty, e1, e2, e3, e4, e5⟩ := h'.2 _ (List.mem_singleton.2 rfl)
 have en : name = [101, 114, 114, 111, 114] := (Option.some.inj e1).symm
 subst en
 obtain rfl := Option.some.inj (rt.symm.trans e2)
 have hm : ty ∈ (List.range 367).filter fun t => prog.rowNamed t [101, 114, 114, 111, 114] := List.mem_filter.2 ⟨List.mem_range.2 (by rw [<- size]; exact e3), e4⟩
 rw [zAt] at hm
 obtain rfl := List.mem_singleton.1 hm
 have hh : typeHandle prog 50 = .pointer (some ⟨23, 50, none⟩) := by kernel_rfl
 rw [hh] at e5
 simpa using World.var?_cell et e5 0
noncomputable def low : Nat := (World.holding prog default ⟨#[], #[], []⟩).heap.size
def zbb (v : Value) : Obj -> Obj
 | .cells _ t frozen => .cells #[v] t frozen
 | o => o
def zvd (vs : Array Value) : Obj -> Obj
 | .cells _ t frozen => .cells vs t frozen
 | o => o
noncomputable def laidWorld (os : Os) : World :=
 let w0 := World.holding prog os ⟨#[.cells #[.string { data := #[97, 110, 32, 97, 114, 103, 117, 109, 101, 110, 116, 32, 116, 104, 97, 116, 32, 99, 97, 110, 39, 116, 32, 98, 101] }] 355, .cells #[.string { data := #[116, 111, 111, 32, 108, 111, 110, 103, 44, 32, 111, 114, 32, 116, 111, 111, 32, 109, 97, 110, 121] }] 355, .cells #[.string { data := #[97, 32, 110, 117, 109, 98, 101, 114, 32, 116, 104, 97, 116, 32, 105, 115, 32, 110, 111, 116, 32, 116, 104, 101, 114, 101] }] 355, .cells #[.string { data := #[97, 32, 99, 104, 97, 114, 97, 99, 116, 101, 114, 32, 116, 104, 97, 116, 32, 98, 101, 103, 105, 110, 115, 32, 110, 111, 32, 119, 111, 114, 100] }] 355, .cells #[.string { data := #[97, 32, 119, 111, 114, 100, 32, 116, 104, 97, 116, 32, 99, 97, 110, 39, 116, 32, 115, 116, 97, 110, 100, 32, 116, 104, 101, 114, 101] }] 355, .cells #[.string { data := #[98, 114, 97, 99, 107, 101, 116, 115, 32, 116, 104, 97, 116, 32, 115, 116, 97, 110, 100, 32, 116, 111, 111, 32, 100, 101, 101, 112] }] 355, .cells #[.string { data := #[115, 111, 109, 101, 116, 104, 105, 110, 103, 32, 116, 104, 97, 116, 32, 115, 116, 97, 110, 100, 115, 32, 116, 104, 101, 114, 101, 32, 97, 108, 114, 101, 97, 100, 121] }] 355, .cells #[.string { data := #[97, 32, 110, 97, 109, 101, 32, 116, 104, 97, 116, 32, 105, 115, 32, 110, 111, 116, 32, 116, 104, 101, 114, 101] }] 355, .cells #[.string { data := #[116, 104, 101, 32, 115, 105, 108, 101, 110, 116, 32, 97, 99, 116, 105, 111, 110, 44, 32, 119, 104, 101, 114, 101, 32, 105, 116, 32, 99, 97, 110, 39, 116, 32, 115, 116, 97, 110, 100] }] 355, .cells #[.string { data := #[97, 32, 99, 111, 110, 115, 116, 97, 110, 116, 32, 116, 104, 97, 116, 32, 110, 101, 101, 100, 115, 32, 105, 116, 115, 101, 108, 102, 32, 102, 105, 114, 115, 116] }] 355, .cells #[.string { data := #[97, 32, 116, 101, 114, 109, 32, 119, 105, 116, 104, 32, 116, 111, 111, 32, 109, 97, 110, 121, 32, 115, 116, 101, 112, 115] }] 355, .cells #[.string { data := #[116, 111, 111, 32, 109, 97, 110, 121, 32, 115, 116, 97, 116, 101, 115] }] 355, .cells #[.string { data := #[116, 111, 111, 32, 109, 97, 110, 121, 32, 101, 100, 103, 101, 115] }] 355, .cells #[.string { data := #[97, 32, 115, 121, 115, 116, 101, 109, 32, 116, 104, 97, 116, 32, 105, 115, 32, 110, 111, 110, 101] }] 355, .cells #[.string { data := #[99, 108, 97, 115, 115, 101, 115, 32, 116, 104, 97, 116, 32, 97, 114, 101, 32, 110, 111, 110, 101] }] 355, .cells #[.string { data := #[97, 32, 102, 111, 114, 109, 117, 108, 97, 32, 116, 104, 97, 116, 32, 105, 115, 32, 110, 111, 110, 101] }] 355, .cells #[.string { data := #[97, 32, 102, 111, 114, 109, 117, 108, 97, 32, 116, 104, 97, 116, 32, 119, 111, 117, 108, 100, 32, 98, 101, 32, 116, 111, 111, 32, 103, 114, 101, 97, 116] }] 355, .cells #[.string { data := #[116, 104, 101, 114, 101, 32, 105, 115, 32, 110, 111, 110, 101] }] 355, .cells #[.string { data := #[97, 32, 115, 99, 114, 105, 112, 116, 32, 116, 104, 97, 116, 32, 105, 115, 32, 110, 111, 110, 101] }] 355], #[], []⟩
 { w0 with heap := w0.heap.modify 4 (zbb (.iface 207 (.agg #[.pointer (some ⟨23, 50, none⟩)])))
   |>.modify 21 (zvd #[.int .u8 0, .int .u8 1, .int .u8 28, .int .u8 2, .int .u8 29, .int .u8 14, .int .u8 24, .int .u8 3, .int .u8 30, .int .u8 22, .int .u8 20, .int .u8 15, .int .u8 25, .int .u8 17, .int .u8 4, .int .u8 8, .int .u8 31, .int .u8 27, .int .u8 13, .int .u8 23, .int .u8 21, .int .u8 19, .int .u8 16, .int .u8 7, .int .u8 26, .int .u8 12, .int .u8 18, .int .u8 6, .int .u8 11, .int .u8 5, .int .u8 10, .int .u8 9])
   |>.modify 22 (zvd #[.int .u8 0, .int .u8 1, .int .u8 56, .int .u8 2, .int .u8 57, .int .u8 49, .int .u8 28, .int .u8 3, .int .u8 61, .int .u8 58, .int .u8 42, .int .u8 50, .int .u8 38, .int .u8 29, .int .u8 17, .int .u8 4, .int .u8 62, .int .u8 47, .int .u8 59, .int .u8 36, .int .u8 45, .int .u8 43, .int .u8 51, .int .u8 22, .int .u8 53, .int .u8 39, .int .u8 33, .int .u8 30, .int .u8 24, .int .u8 18, .int .u8 12, .int .u8 5, .int .u8 63, .int .u8 55, .int .u8 48, .int .u8 27, .int .u8 60, .int .u8 41, .int .u8 37, .int .u8 16, .int .u8 46, .int .u8 35, .int .u8 44, .int .u8 21, .int .u8 52, .int .u8 32, .int .u8 23, .int .u8 11, .int .u8 54, .int .u8 26, .int .u8 40, .int .u8 15, .int .u8 34, .int .u8 20, .int .u8 31, .int .u8 10, .int .u8 25, .int .u8 14, .int .u8 19, .int .u8 9, .int .u8 13, .int .u8 8, .int .u8 7, .int .u8 6])
   |>.modify 20 (zvd #[.int .u64 1, .int .u64 10, .int .u64 100, .int .u64 1000, .int .u64 10000, .int .u64 100000, .int .u64 1000000, .int .u64 10000000, .int .u64 100000000, .int .u64 1000000000, .int .u64 10000000000, .int .u64 100000000000, .int .u64 1000000000000, .int .u64 10000000000000, .int .u64 100000000000000, .int .u64 1000000000000000, .int .u64 10000000000000000, .int .u64 100000000000000000, .int .u64 1000000000000000000, .int .u64 10000000000000000000])
   |>.modify 5 (zbb (.iface 335 (.pointer (some ⟨low + 0, 0, none⟩))))
   |>.modify 2 (zbb (.iface 335 (.pointer (some ⟨low + 1, 0, none⟩))))
   |>.modify 1 (zbb (.iface 335 (.pointer (some ⟨low + 2, 0, none⟩))))
   |>.modify 6 (zbb (.iface 335 (.pointer (some ⟨low + 3, 0, none⟩))))
   |>.modify 7 (zbb (.iface 335 (.pointer (some ⟨low + 4, 0, none⟩))))
   |>.modify 8 (zbb (.iface 335 (.pointer (some ⟨low + 5, 0, none⟩))))
   |>.modify 9 (zbb (.iface 335 (.pointer (some ⟨low + 6, 0, none⟩))))
   |>.modify 10 (zbb (.iface 335 (.pointer (some ⟨low + 7, 0, none⟩))))
   |>.modify 11 (zbb (.iface 335 (.pointer (some ⟨low + 8, 0, none⟩))))
   |>.modify 12 (zbb (.iface 335 (.pointer (some ⟨low + 9, 0, none⟩))))
   |>.modify 14 (zbb (.iface 335 (.pointer (some ⟨low + 10, 0, none⟩))))
   |>.modify 15 (zbb (.iface 335 (.pointer (some ⟨low + 11, 0, none⟩))))
   |>.modify 16 (zbb (.iface 335 (.pointer (some ⟨low + 12, 0, none⟩))))
   |>.modify 13 (zbb (.iface 335 (.pointer (some ⟨low + 13, 0, none⟩))))
   |>.modify 17 (zbb (.iface 335 (.pointer (some ⟨low + 14, 0, none⟩))))
   |>.modify 18 (zbb (.iface 335 (.pointer (some ⟨low + 15, 0, none⟩))))
   |>.modify 3 (zbb (.iface 335 (.pointer (some ⟨low + 16, 0, none⟩))))
   |>.modify 0 (zbb (.iface 335 (.pointer (some ⟨low + 17, 0, none⟩))))
   |>.modify 19 (zbb (.iface 335 (.pointer (some ⟨low + 18, 0, none⟩)))) }
theorem zA0 : zAg prog (Rows.OpenSpec.upto Rows.distinguishComparesSpec).bare Rows.distinguishComparesUptoRow = true := by kernel_rfl
theorem closed2 : mapsRowed prog = true := by kernel_rfl
theorem zA5 : zz3 prog Tryz.f3 (Rows.OpenSpec.upto Rows.distinguishComparesSpec).bare Rows.distinguishComparesUptoRow = true := by kernel_rfl
theorem zvr : (Rows.distinguishComparesUptoRow.inPlace == prog.inPlace 3) = true := by kernel_rfl
theorem zw4 : (Rows.distinguishComparesUptoRow.unfollowed == prog.unfollowed 3) = true := by kernel_rfl
theorem zx6 : (Rows.distinguishComparesUptoRow.recurses == prog.recurses 3) = true := by kernel_rfl
theorem zvv : (Rows.distinguishComparesUptoRow.named == prog.varsNamed 3) = true := by kernel_rfl
theorem zyu : zzv prog Tryz.f3 (Rows.OpenSpec.upto Rows.distinguishComparesSpec).bare Rows.distinguishComparesUptoRow = true := by kernel_rfl
theorem zzy : zzx prog Rows.distinguishComparesUptoRow = true := by kernel_rfl
theorem zAj : prog.mayEnter = true := by kernel_rfl
theorem zzq : zzt prog Tryz.f3 (Rows.OpenSpec.upto Rows.distinguishComparesSpec).bare Rows.distinguishComparesUptoRow = true := by kernel_rfl
theorem closed : joinedFacts prog 3 Tryz.f3 (Rows.OpenSpec.upto Rows.distinguishComparesSpec).bare Rows.distinguishComparesUptoRow = true := zva zA0 closed2 zA5 zvr zw4 zx6 zvv zyu zzy zAj zzq
theorem zkx (os : Os) (args : Array Value) : laidMetH prog Rows.distinguishComparesUptoRow.laid ((laidWorld os).forCall (fun _ _ => 0) ⟨#[], args, []⟩).memory :=
 laidMetH_of_parts (laidMet_of_run' 8 (by kernel_rfl) (by kernel_rfl)) (by kernel_rfl)
theorem reads (os : Os) {H : Type} (enc : TypeId × Value -> H) : ∃ places, DataW.whole enc prog ((laidWorld os).forCall (fun _ _ => 0) ⟨#[], #[.agg #[.int .i64 0, .int .i64 0, .int .i64 0, .slice none 0 0], .int .i64 0, .int .i64 0], []⟩).memory Tryz.f3.params.toList Rows.distinguishComparesSpec.vars false #[.agg #[.int .i64 0, .int .i64 0, .int .i64 0, .slice none 0 0], .int .i64 0, .int .i64 0].toList 8 = some ([.agg [.lit (.int .i64 0), .lit (.int .i64 0), .lit (.int .i64 0), .nil], .lit (.int .i64 0), .lit (.int .i64 0)], [], places) :=
 ⟨[], by kernel_rfl⟩
theorem zse (os : Os) (started : os.Started) (H : Type) (enc : TypeId × Value -> H) (F : Stop.Interp) :
  ReturnsInHanded {} Tryz.checked os 3 .any ((Rows.OpenSpec.upto Rows.distinguishComparesSpec).preRow enc prog Tryz.f3 Rows.distinguishComparesUptoRow.domain false Rows.distinguishComparesUptoRow.laid) (((Rows.OpenSpec.upto Rows.distinguishComparesSpec).at F).post enc prog Tryz.f3 false true false false) := by
 obtain ⟨places, hx⟩ := reads os enc
 refine returnsInHanded_of_row (C := Tryz.checked) (s := Rows.OpenSpec.upto Rows.distinguishComparesSpec) own started (by kernel_rfl) func3
  (witness_row_at (enc := enc) (C := Tryz.checked) false (laidWorld os) #[.agg #[.int .i64 0, .int .i64 0, .int .i64 0, .slice none 0 0], .int .i64 0, .int .i64 0] rfl (by kernel_rfl) (by kernel_rfl) (by kernel_rfl)
   (OpenSpec.preRow_of_cond 8 hx (by kernel_rfl) (fun k hk => by cases hk; kernel_rfl) (by kernel_rfl) (zkx os _))) ?_
 intro W base args ds gs before ab hW _ _ _ hL _ _
 have aa : ∀ (j : Nat) t v, Tryz.f3.params[j]? = some t -> args[j]? = some v -> Value.okWide prog W .any base t v := ab
 have ae := hW
 obtain ⟨p, q, ac, hV, af, ak, al⟩ := hW
 have hA : DataW.TrodAll enc prog W 0 (fun _ => true) true Tryz.f3.params.toList args.toList ds p := ac
 rw [Tryz.params3] at hA aa
 obtain ⟨rfl, hq⟩ := trodVars_none hV
 obtain ⟨v0, v1, v2, d0, d1, d2, p0, p1, p2, rfl, rfl, am, h0, h1, h2⟩ := trodAll_three hA
 obtain ⟨s0, se0, rfl, ag, ah, wn0, wm0, ws0, ad⟩ := zuz underlying24 underlying3 underlying3 underlying3 underlying22 underlying60 underlying3 underlying3 underlying3 (by kernel_rfl) (by kernel_rfl) (by kernel_rfl) (by kernel_rfl) (aa 0 24 v0 rfl rfl) h0
 obtain ⟨n1, rfl, an, ao, ai⟩ := open_int underlying3 (aa 1 3 v1 rfl rfl) h1
 obtain ⟨n2, rfl, aq, au, aj⟩ := open_int underlying3 (aa 2 3 v2 rfl rfl) h2
 obtain ⟨a, c_sts, c_tab, c_typ⟩ := zzz hL
 refine (zr4 ag ah ad n1 n2 c_sts c_tab c_typ).mono fun r W' ⟨he, hb⟩ => ?_
 subst he
 exact ⟨_, rfl, zxb (P := prog) (f := Tryz.f3) (s := Rows.distinguishComparesSpec) (by kernel_rfl) (by kernel_rfl) (by kernel_rfl) (by kernel_rfl) rfl rfl underlying4 ae hb rfl⟩
theorem zyw : Rows.DistinguishComparesUptoSaid :=
 OpenClaim.holds_of_cond 3 Tryz.f3 rfl rfl rfl rfl rfl rfl rfl ⟨rfl, rfl, rfl, rfl, rfl⟩ rfl rfl rfl rfl rfl (by kernel_rfl) func3 closed
  (of_decide_eq_true (by kernel_rfl)) (by unfold Func.isWrapper; first | (rw [if_pos (by decide +kernel)]; kernel_rfl) | (rw [if_neg (by decide +kernel)]; exact ⟨rfl, rfl⟩))
  (fun os started H enc _ F => by rw [OpenClaim.pre_eq_preRow]; exact zse os started H enc F)
theorem card_holds : Rows.DistinguishComparesUptoCardSaid :=
 Claim7.holds_tied_plain_at .later [] [.data, .data, .data, .handle, .sentinel, .sentinel, .sentinel, .sentinel, .sentinel, .sentinel, .sentinel, .sentinel, .sentinel, .sentinel, .sentinel, .sentinel, .sentinel, .sentinel, .sentinel, .sentinel, .sentinel, .sentinel, .sentinel] true (true, "d999a1a22f8fc8b98bb044a0c91b4ed69eed867c67b86a745061c302fae87e2e") true
  zyw (fun _ h => by cases h) (by kernel_rfl) (fun _ h => by cases h) distinguishComparesUpto_row_tie rfl ⟨rfl, rfl⟩ (by kernel_rfl) rfl
  (fun f fn hf aa => by
   obtain rfl : f = 3 := Option.some.inj ((show prog.funcNamed "semblance/semblancelaw16.DistinguishCompares" = some 3 by kernel_rfl).symm.trans hf) |>.symm
   obtain rfl : fn = Tryz.f3 := (Option.some.inj (func3.symm.trans aa)).symm
   exact ⟨by kernel_rfl, fun j t ht => by
    rw [Tryz.params3] at ht
    have h3 : t = 24 \/ t = 3 := by
     rcases j with _ | _ | _ | j
     ·have h4 : 24 = t := by simpa using ht
      subst h4; simp
     ·have h4 : 3 = t := by simpa using ht
      subst h4; simp
     ·have h4 : 3 = t := by simpa using ht
      subst h4; simp
     ·simp at ht
    rcases h3 with rfl | rfl
    ·exact (show prog.wantsStandIn 24 = false by kernel_rfl)
    ·exact (show prog.wantsStandIn 3 = false by kernel_rfl)⟩)
  (by kernel_rfl)
end Go.Proofs.YtoaoajfjcfcmhaaGreatDoor.DistinguishCompares
