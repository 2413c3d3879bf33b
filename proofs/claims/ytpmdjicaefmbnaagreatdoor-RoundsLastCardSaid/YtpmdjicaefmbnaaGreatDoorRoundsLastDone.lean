/-
RoundsLast: whatever system is handed to it, it returns true: the last round is strong bisimilarity, each round parts more than the one ahead of it, and what is parted stays parted.
It is shown where the listed package variables read as the program's text lays them; no other condition. Printed by mkrow.py.
-/
import Derived.Test.YtpmdjicaefmbnaaGreatDoorClosed
import Derived.Test.YtpmdjicaefmbnaaGreatDoorSgLastW
import Derived.Test.YtpmdjicaefmbnaaGreatDoorSyOpen
import Derived.Test.YtpmdjicaefmbnaaGreatDoorOpen
import Derived.Test.YtpmdjicaefmbnaaGreatDoorCards
import Derived.Test.YtpmdjicaefmbnaaGreatDoorTie
import Derived.SevenTiedAt
import Derived.ProofKit
import Derived.ChangeSame
import Derived.ChangeVars
import Derived.JoinedOf
import Derived.RowKit
import Derived.RowKitTokens
import Derived.LaidLaws
import Derived.LaidHandle
import Derived.Stop.Joined
import Derived.Stop.LaidErr
import Derived.Deep.DeepHandedRow
namespace Go.Proofs.YtpmdjicaefmbnaaGreatDoor.RoundsLast
open Go.ChangeShapes Go.WideShapes Go.ChangeAt Go.RowKit

theorem own : ownKnob Tryz.prog.godebug = none := by kernel_rfl
theorem et : Tryz.prog.globalNamed "errors.errorType" = some 19 := by kernel_rfl
theorem rt : (Tryz.prog.cutTypes.find? (·.1 == "internal/reflectlite.rtype")).map (·.2) = some 189 := by kernel_rfl
theorem size : Tryz.prog.types.size = 331 := by kernel_rfl
theorem oneRow : ((List.range 331).filter fun t => Tryz.prog.rowNamed t [101, 114, 114, 111, 114]) = [28] := by kernel_rfl
theorem g_ErrArg : Tryz.prog.globalNamed "semblance/api.ErrArg" = some 3 := by kernel_rfl
theorem t_ErrArg : (Tryz.prog.globals[3]?).map (·.type) = some 28 := by kernel_rfl
theorem g_ErrLong : Tryz.prog.globalNamed "semblance/api.ErrLong" = some 1 := by kernel_rfl
theorem t_ErrLong : (Tryz.prog.globals[1]?).map (·.type) = some 28 := by kernel_rfl
theorem g_ErrIndex : Tryz.prog.globalNamed "semblance/api.ErrIndex" = some 2 := by kernel_rfl
theorem t_ErrIndex : (Tryz.prog.globals[2]?).map (·.type) = some 28 := by kernel_rfl
theorem g_ErrWord : Tryz.prog.globalNamed "semblance/api.ErrWord" = some 4 := by kernel_rfl
theorem t_ErrWord : (Tryz.prog.globals[4]?).map (·.type) = some 28 := by kernel_rfl
theorem g_ErrSyntax : Tryz.prog.globalNamed "semblance/api.ErrSyntax" = some 5 := by kernel_rfl
theorem t_ErrSyntax : (Tryz.prog.globals[5]?).map (·.type) = some 28 := by kernel_rfl
theorem g_ErrDeep : Tryz.prog.globalNamed "semblance/api.ErrDeep" = some 6 := by kernel_rfl
theorem t_ErrDeep : (Tryz.prog.globals[6]?).map (·.type) = some 28 := by kernel_rfl
theorem g_ErrTwice : Tryz.prog.globalNamed "semblance/api.ErrTwice" = some 7 := by kernel_rfl
theorem t_ErrTwice : (Tryz.prog.globals[7]?).map (·.type) = some 28 := by kernel_rfl
theorem g_ErrUnknown : Tryz.prog.globalNamed "semblance/api.ErrUnknown" = some 8 := by kernel_rfl
theorem t_ErrUnknown : (Tryz.prog.globals[8]?).map (·.type) = some 28 := by kernel_rfl
theorem g_ErrSilent : Tryz.prog.globalNamed "semblance/api.ErrSilent" = some 9 := by kernel_rfl
theorem t_ErrSilent : (Tryz.prog.globals[9]?).map (·.type) = some 28 := by kernel_rfl
theorem g_ErrUnguarded : Tryz.prog.globalNamed "semblance/api.ErrUnguarded" = some 10 := by kernel_rfl
theorem t_ErrUnguarded : (Tryz.prog.globals[10]?).map (·.type) = some 28 := by kernel_rfl
theorem g_ErrSteps : Tryz.prog.globalNamed "semblance/api.ErrSteps" = some 11 := by kernel_rfl
theorem t_ErrSteps : (Tryz.prog.globals[11]?).map (·.type) = some 28 := by kernel_rfl
theorem g_ErrStates : Tryz.prog.globalNamed "semblance/api.ErrStates" = some 12 := by kernel_rfl
theorem t_ErrStates : (Tryz.prog.globals[12]?).map (·.type) = some 28 := by kernel_rfl
theorem g_ErrEdges : Tryz.prog.globalNamed "semblance/api.ErrEdges" = some 13 := by kernel_rfl
theorem t_ErrEdges : (Tryz.prog.globals[13]?).map (·.type) = some 28 := by kernel_rfl
theorem g_ErrSystem : Tryz.prog.globalNamed "semblance/api.ErrSystem" = some 0 := by kernel_rfl
theorem t_ErrSystem : (Tryz.prog.globals[0]?).map (·.type) = some 28 := by kernel_rfl
theorem g_tab : Tryz.prog.globalNamed "internal/strconv.uint64pow10" = some 20 := by kernel_rfl
theorem t_tab : (Tryz.prog.globals[20]?).map (·.type) = some 292 := by kernel_rfl
theorem cellsE : Tryz.prog.cellsOf 319 = 1 := by kernel_rfl
theorem cellsS : Tryz.prog.cellsOf 9 = 1 := by kernel_rfl
theorem star : "*" ++ "errors.errorString" = "*errors.errorString" := by decide
theorem rowE (u : TypeId) (h : Tryz.prog.typeName? 3 u = some "*errors.errorString") : u = 299 :=
  typeName_ptr_named (nm := "errors.errorString") (by rw [star]; kernel_rfl) (by kernel_rfl) (by decide) u (by rw [star]; exact h)

/-- The texts of the sentinels, in the order of their numbers. -/
def sentT : List (List UInt8) := [[97, 110, 32, 97, 114, 103, 117, 109, 101, 110, 116, 32, 116, 104, 97, 116, 32, 99, 97, 110, 39, 116, 32, 98, 101], [116, 111, 111, 32, 108, 111, 110, 103, 44, 32, 111, 114, 32, 116, 111, 111, 32, 109, 97, 110, 121], [97, 32, 110, 117, 109, 98, 101, 114, 32, 116, 104, 97, 116, 32, 105, 115, 32, 110, 111, 116, 32, 116, 104, 101, 114, 101], [97, 32, 99, 104, 97, 114, 97, 99, 116, 101, 114, 32, 116, 104, 97, 116, 32, 98, 101, 103, 105, 110, 115, 32, 110, 111, 32, 119, 111, 114, 100], [97, 32, 119, 111, 114, 100, 32, 116, 104, 97, 116, 32, 99, 97, 110, 39, 116, 32, 115, 116, 97, 110, 100, 32, 116, 104, 101, 114, 101], [98, 114, 97, 99, 107, 101, 116, 115, 32, 116, 104, 97, 116, 32, 115, 116, 97, 110, 100, 32, 116, 111, 111, 32, 100, 101, 101, 112], [115, 111, 109, 101, 116, 104, 105, 110, 103, 32, 116, 104, 97, 116, 32, 115, 116, 97, 110, 100, 115, 32, 116, 104, 101, 114, 101, 32, 97, 108, 114, 101, 97, 100, 121], [97, 32, 110, 97, 109, 101, 32, 116, 104, 97, 116, 32, 105, 115, 32, 110, 111, 116, 32, 116, 104, 101, 114, 101], [116, 104, 101, 32, 115, 105, 108, 101, 110, 116, 32, 97, 99, 116, 105, 111, 110, 44, 32, 119, 104, 101, 114, 101, 32, 105, 116, 32, 99, 97, 110, 39, 116, 32, 115, 116, 97, 110, 100], [97, 32, 99, 111, 110, 115, 116, 97, 110, 116, 32, 116, 104, 97, 116, 32, 110, 101, 101, 100, 115, 32, 105, 116, 115, 101, 108, 102, 32, 102, 105, 114, 115, 116], [97, 32, 116, 101, 114, 109, 32, 119, 105, 116, 104, 32, 116, 111, 111, 32, 109, 97, 110, 121, 32, 115, 116, 101, 112, 115], [116, 111, 111, 32, 109, 97, 110, 121, 32, 115, 116, 97, 116, 101, 115], [116, 111, 111, 32, 109, 97, 110, 121, 32, 101, 100, 103, 101, 115], [97, 32, 115, 121, 115, 116, 101, 109, 32, 116, 104, 97, 116, 32, 105, 115, 32, 110, 111, 110, 101]]
theorem sentT_all : ((List.range 14).all fun i => (List.range 14).all fun j => i == j || sentT.getD i [] != sentT.getD j []) = true := by decide +kernel
theorem sentT_ne (i j : Nat) (hi : i < 14) (hj : j < 14) (h : i ≠ j) : sentT.getD i [] ≠ sentT.getD j [] := by
  have h1 := List.all_eq_true.1 (List.all_eq_true.1 sentT_all i (List.mem_range.2 hi)) j (List.mem_range.2 hj)
  simpa [h] using h1
/-- WHAT THE CONDITION GIVES A WALK. -/
theorem laid_of {W : World} (h : laidMetH Tryz.prog Rows.roundsLastRow.laid W) : ∃ a : Nat → Addr, Sts14 W a ∧ Tab W ∧ W.cell? ⟨19, 0, none⟩ = some (.iface 189 (.agg #[.pointer (some ⟨23, 28, none⟩)])) := by
  have h' : laidMet Tryz.prog [("math/bits.deBruijn32tab", Rows.laid_math_bits_deBruijn32tab), ("math/bits.deBruijn64tab", Rows.laid_math_bits_deBruijn64tab), ("internal/strconv.uint64pow10", Rows.laid_internal_strconv_uint64pow10), ("semblance/api.ErrArg", Rows.laid_semblance_api_ErrArg), ("semblance/api.ErrLong", Rows.laid_semblance_api_ErrLong), ("semblance/api.ErrIndex", Rows.laid_semblance_api_ErrIndex), ("semblance/api.ErrWord", Rows.laid_semblance_api_ErrWord), ("semblance/api.ErrSyntax", Rows.laid_semblance_api_ErrSyntax), ("semblance/api.ErrDeep", Rows.laid_semblance_api_ErrDeep), ("semblance/api.ErrTwice", Rows.laid_semblance_api_ErrTwice), ("semblance/api.ErrUnknown", Rows.laid_semblance_api_ErrUnknown), ("semblance/api.ErrSilent", Rows.laid_semblance_api_ErrSilent), ("semblance/api.ErrUnguarded", Rows.laid_semblance_api_ErrUnguarded), ("semblance/api.ErrSteps", Rows.laid_semblance_api_ErrSteps), ("semblance/api.ErrStates", Rows.laid_semblance_api_ErrStates), ("semblance/api.ErrEdges", Rows.laid_semblance_api_ErrEdges), ("semblance/api.ErrSystem", Rows.laid_semblance_api_ErrSystem), ("semblance/api.ErrClasses", Rows.laid_semblance_api_ErrClasses), ("semblance/api.ErrFormula", Rows.laid_semblance_api_ErrFormula), ("semblance/api.ErrLimit", Rows.laid_semblance_api_ErrLimit), ("semblance/api.ErrNone", Rows.laid_semblance_api_ErrNone), ("semblance/api.ErrScript", Rows.laid_semblance_api_ErrScript)] W ∧ handlesMet Tryz.prog [("errors.errorType", Rows.laid_errors_errorType)] W := h
  obtain ⟨a0, a1, s0, s1, c0, c1, t0, t1, v0, v1, k0, e0, _, k1, e1, _, _, b0, b1⟩ := laid_sentinels2 h'.1.tail.tail.tail g_ErrArg t_ErrArg g_ErrLong t_ErrLong Tryz.underlying28 rowE Tryz.underlying299 Tryz.underlying319 rfl rfl Tryz.underlying9 cellsE cellsS
  obtain ⟨a2, a3, s2, s3, c2, c3, t2, t3, v2, v3, k2, e2, _, k3, e3, _, _, b2, b3⟩ := laid_sentinels2 h'.1.tail.tail.tail.tail.tail g_ErrIndex t_ErrIndex g_ErrWord t_ErrWord Tryz.underlying28 rowE Tryz.underlying299 Tryz.underlying319 rfl rfl Tryz.underlying9 cellsE cellsS
  obtain ⟨a4, a5, s4, s5, c4, c5, t4, t5, v4, v5, k4, e4, _, k5, e5, _, _, b4, b5⟩ := laid_sentinels2 h'.1.tail.tail.tail.tail.tail.tail.tail g_ErrSyntax t_ErrSyntax g_ErrDeep t_ErrDeep Tryz.underlying28 rowE Tryz.underlying299 Tryz.underlying319 rfl rfl Tryz.underlying9 cellsE cellsS
  obtain ⟨a6, a7, s6, s7, c6, c7, t6, t7, v6, v7, k6, e6, _, k7, e7, _, _, b6, b7⟩ := laid_sentinels2 h'.1.tail.tail.tail.tail.tail.tail.tail.tail.tail g_ErrTwice t_ErrTwice g_ErrUnknown t_ErrUnknown Tryz.underlying28 rowE Tryz.underlying299 Tryz.underlying319 rfl rfl Tryz.underlying9 cellsE cellsS
  obtain ⟨a8, a9, s8, s9, c8, c9, t8, t9, v8, v9, k8, e8, _, k9, e9, _, _, b8, b9⟩ := laid_sentinels2 h'.1.tail.tail.tail.tail.tail.tail.tail.tail.tail.tail.tail g_ErrSilent t_ErrSilent g_ErrUnguarded t_ErrUnguarded Tryz.underlying28 rowE Tryz.underlying299 Tryz.underlying319 rfl rfl Tryz.underlying9 cellsE cellsS
  obtain ⟨a10, a11, s10, s11, c10, c11, t10, t11, v10, v11, k10, e10, _, k11, e11, _, _, b10, b11⟩ := laid_sentinels2 h'.1.tail.tail.tail.tail.tail.tail.tail.tail.tail.tail.tail.tail.tail g_ErrSteps t_ErrSteps g_ErrStates t_ErrStates Tryz.underlying28 rowE Tryz.underlying299 Tryz.underlying319 rfl rfl Tryz.underlying9 cellsE cellsS
  obtain ⟨a12, a13, s12, s13, c12, c13, t12, t13, v12, v13, k12, e12, _, k13, e13, _, _, b12, b13⟩ := laid_sentinels2 h'.1.tail.tail.tail.tail.tail.tail.tail.tail.tail.tail.tail.tail.tail.tail.tail g_ErrEdges t_ErrEdges g_ErrSystem t_ErrSystem Tryz.underlying28 rowE Tryz.underlying299 Tryz.underlying319 rfl rfl Tryz.underlying9 cellsE cellsS
  have hne : ∀ i j, i < 14 → j < 14 → i ≠ j → [a0, a1, a2, a3, a4, a5, a6, a7, a8, a9, a10, a11, a12, a13].getD i a0 ≠ [a0, a1, a2, a3, a4, a5, a6, a7, a8, a9, a10, a11, a12, a13].getD j a0 := by
    have hs : ∀ i, i < 14 → W.cell? ([a0, a1, a2, a3, a4, a5, a6, a7, a8, a9, a10, a11, a12, a13].getD i a0) = some (.string ([s0, s1, s2, s3, s4, s5, s6, s7, s8, s9, s10, s11, s12, s13].getD i s0)) ∧ ([s0, s1, s2, s3, s4, s5, s6, s7, s8, s9, s10, s11, s12, s13].getD i s0).data.toList = sentT.getD i [] := by
      intro i hi
      rcases i with _ | _ | _ | _ | _ | _ | _ | _ | _ | _ | _ | _ | _ | _ | i
      · exact ⟨k0, e0⟩
      · exact ⟨k1, e1⟩
      · exact ⟨k2, e2⟩
      · exact ⟨k3, e3⟩
      · exact ⟨k4, e4⟩
      · exact ⟨k5, e5⟩
      · exact ⟨k6, e6⟩
      · exact ⟨k7, e7⟩
      · exact ⟨k8, e8⟩
      · exact ⟨k9, e9⟩
      · exact ⟨k10, e10⟩
      · exact ⟨k11, e11⟩
      · exact ⟨k12, e12⟩
      · exact ⟨k13, e13⟩
      · omega
    intro i j hi hj hij
    exact cell_string_inj (hs i hi).1 (hs j hj).1 (by rw [(hs i hi).2, (hs j hj).2]; exact sentT_ne i j hi hj hij)
  refine ⟨fun i => [a0, a1, a2, a3, a4, a5, a6, a7, a8, a9, a10, a11, a12, a13].getD i a0, ⟨fun i hi => ?_, hne⟩, Lib.tabIs_of_head g_tab t_tab Tryz.underlying292 Tryz.underlying234 (by kernel_rfl) (by kernel_rfl) h'.1.tail.tail, ?_⟩
  · rcases i with _ | _ | _ | _ | _ | _ | _ | _ | _ | _ | _ | _ | _ | _ | i
    · exact sent_of g_ErrArg v0 b0
    · exact sent_of g_ErrLong v1 b1
    · exact sent_of g_ErrIndex v2 b2
    · exact sent_of g_ErrWord v3 b3
    · exact sent_of g_ErrSyntax v4 b4
    · exact sent_of g_ErrDeep v5 b5
    · exact sent_of g_ErrTwice v6 b6
    · exact sent_of g_ErrUnknown v7 b7
    · exact sent_of g_ErrSilent v8 b8
    · exact sent_of g_ErrUnguarded v9 b9
    · exact sent_of g_ErrSteps v10 b10
    · exact sent_of g_ErrStates v11 b11
    · exact sent_of g_ErrEdges v12 b12
    · exact sent_of g_ErrSystem v13 b13
    · omega
  obtain ⟨name, u, ty, e1, e2, e3, e4, e5⟩ := h'.2 _ (List.mem_singleton.2 rfl)
  have en : name = [101, 114, 114, 111, 114] := (Option.some.inj e1).symm
  subst en
  obtain rfl := Option.some.inj (rt.symm.trans e2)
  have hm : ty ∈ (List.range 331).filter fun t => Tryz.prog.rowNamed t [101, 114, 114, 111, 114] := List.mem_filter.2 ⟨List.mem_range.2 (by rw [← size]; exact e3), e4⟩
  rw [oneRow] at hm
  obtain rfl := List.mem_singleton.1 hm
  have hh : typeHandle Tryz.prog 28 = .pointer (some ⟨23, 28, none⟩) := by kernel_rfl
  rw [hh] at e5
  simpa using World.var?_cell et e5 0

/-- A world that meets the condition: the settled one, the listed variables laid. -/
noncomputable def low : Nat := (World.holding Tryz.prog default ⟨#[], #[], []⟩).heap.size
/-- A variable's one cell, written over. -/
def putCell (v : Value) : Obj → Obj
  | .cells _ t frozen => .cells #[v] t frozen
  | o => o
/-- A table's cells, written over. -/
def putTab (vs : Array Value) : Obj → Obj
  | .cells _ t frozen => .cells vs t frozen
  | o => o
noncomputable def laidWorld (os : Os) : World :=
  let w0 := World.holding Tryz.prog os ⟨#[.cells #[.string { data := #[97, 110, 32, 97, 114, 103, 117, 109, 101, 110, 116, 32, 116, 104, 97, 116, 32, 99, 97, 110, 39, 116, 32, 98, 101] }] 319, .cells #[.string { data := #[116, 111, 111, 32, 108, 111, 110, 103, 44, 32, 111, 114, 32, 116, 111, 111, 32, 109, 97, 110, 121] }] 319, .cells #[.string { data := #[97, 32, 110, 117, 109, 98, 101, 114, 32, 116, 104, 97, 116, 32, 105, 115, 32, 110, 111, 116, 32, 116, 104, 101, 114, 101] }] 319, .cells #[.string { data := #[97, 32, 99, 104, 97, 114, 97, 99, 116, 101, 114, 32, 116, 104, 97, 116, 32, 98, 101, 103, 105, 110, 115, 32, 110, 111, 32, 119, 111, 114, 100] }] 319, .cells #[.string { data := #[97, 32, 119, 111, 114, 100, 32, 116, 104, 97, 116, 32, 99, 97, 110, 39, 116, 32, 115, 116, 97, 110, 100, 32, 116, 104, 101, 114, 101] }] 319, .cells #[.string { data := #[98, 114, 97, 99, 107, 101, 116, 115, 32, 116, 104, 97, 116, 32, 115, 116, 97, 110, 100, 32, 116, 111, 111, 32, 100, 101, 101, 112] }] 319, .cells #[.string { data := #[115, 111, 109, 101, 116, 104, 105, 110, 103, 32, 116, 104, 97, 116, 32, 115, 116, 97, 110, 100, 115, 32, 116, 104, 101, 114, 101, 32, 97, 108, 114, 101, 97, 100, 121] }] 319, .cells #[.string { data := #[97, 32, 110, 97, 109, 101, 32, 116, 104, 97, 116, 32, 105, 115, 32, 110, 111, 116, 32, 116, 104, 101, 114, 101] }] 319, .cells #[.string { data := #[116, 104, 101, 32, 115, 105, 108, 101, 110, 116, 32, 97, 99, 116, 105, 111, 110, 44, 32, 119, 104, 101, 114, 101, 32, 105, 116, 32, 99, 97, 110, 39, 116, 32, 115, 116, 97, 110, 100] }] 319, .cells #[.string { data := #[97, 32, 99, 111, 110, 115, 116, 97, 110, 116, 32, 116, 104, 97, 116, 32, 110, 101, 101, 100, 115, 32, 105, 116, 115, 101, 108, 102, 32, 102, 105, 114, 115, 116] }] 319, .cells #[.string { data := #[97, 32, 116, 101, 114, 109, 32, 119, 105, 116, 104, 32, 116, 111, 111, 32, 109, 97, 110, 121, 32, 115, 116, 101, 112, 115] }] 319, .cells #[.string { data := #[116, 111, 111, 32, 109, 97, 110, 121, 32, 115, 116, 97, 116, 101, 115] }] 319, .cells #[.string { data := #[116, 111, 111, 32, 109, 97, 110, 121, 32, 101, 100, 103, 101, 115] }] 319, .cells #[.string { data := #[97, 32, 115, 121, 115, 116, 101, 109, 32, 116, 104, 97, 116, 32, 105, 115, 32, 110, 111, 110, 101] }] 319, .cells #[.string { data := #[99, 108, 97, 115, 115, 101, 115, 32, 116, 104, 97, 116, 32, 97, 114, 101, 32, 110, 111, 110, 101] }] 319, .cells #[.string { data := #[97, 32, 102, 111, 114, 109, 117, 108, 97, 32, 116, 104, 97, 116, 32, 105, 115, 32, 110, 111, 110, 101] }] 319, .cells #[.string { data := #[97, 32, 102, 111, 114, 109, 117, 108, 97, 32, 116, 104, 97, 116, 32, 119, 111, 117, 108, 100, 32, 98, 101, 32, 116, 111, 111, 32, 103, 114, 101, 97, 116] }] 319, .cells #[.string { data := #[116, 104, 101, 114, 101, 32, 105, 115, 32, 110, 111, 110, 101] }] 319, .cells #[.string { data := #[97, 32, 115, 99, 114, 105, 112, 116, 32, 116, 104, 97, 116, 32, 105, 115, 32, 110, 111, 110, 101] }] 319], #[], []⟩
  { w0 with heap := w0.heap.modify 19 (putCell (.iface 189 (.agg #[.pointer (some ⟨23, 28, none⟩)])))
      |>.modify 21 (putTab #[.int .u8 0, .int .u8 1, .int .u8 28, .int .u8 2, .int .u8 29, .int .u8 14, .int .u8 24, .int .u8 3, .int .u8 30, .int .u8 22, .int .u8 20, .int .u8 15, .int .u8 25, .int .u8 17, .int .u8 4, .int .u8 8, .int .u8 31, .int .u8 27, .int .u8 13, .int .u8 23, .int .u8 21, .int .u8 19, .int .u8 16, .int .u8 7, .int .u8 26, .int .u8 12, .int .u8 18, .int .u8 6, .int .u8 11, .int .u8 5, .int .u8 10, .int .u8 9])
      |>.modify 22 (putTab #[.int .u8 0, .int .u8 1, .int .u8 56, .int .u8 2, .int .u8 57, .int .u8 49, .int .u8 28, .int .u8 3, .int .u8 61, .int .u8 58, .int .u8 42, .int .u8 50, .int .u8 38, .int .u8 29, .int .u8 17, .int .u8 4, .int .u8 62, .int .u8 47, .int .u8 59, .int .u8 36, .int .u8 45, .int .u8 43, .int .u8 51, .int .u8 22, .int .u8 53, .int .u8 39, .int .u8 33, .int .u8 30, .int .u8 24, .int .u8 18, .int .u8 12, .int .u8 5, .int .u8 63, .int .u8 55, .int .u8 48, .int .u8 27, .int .u8 60, .int .u8 41, .int .u8 37, .int .u8 16, .int .u8 46, .int .u8 35, .int .u8 44, .int .u8 21, .int .u8 52, .int .u8 32, .int .u8 23, .int .u8 11, .int .u8 54, .int .u8 26, .int .u8 40, .int .u8 15, .int .u8 34, .int .u8 20, .int .u8 31, .int .u8 10, .int .u8 25, .int .u8 14, .int .u8 19, .int .u8 9, .int .u8 13, .int .u8 8, .int .u8 7, .int .u8 6])
      |>.modify 20 (putTab #[.int .u64 1, .int .u64 10, .int .u64 100, .int .u64 1000, .int .u64 10000, .int .u64 100000, .int .u64 1000000, .int .u64 10000000, .int .u64 100000000, .int .u64 1000000000, .int .u64 10000000000, .int .u64 100000000000, .int .u64 1000000000000, .int .u64 10000000000000, .int .u64 100000000000000, .int .u64 1000000000000000, .int .u64 10000000000000000, .int .u64 100000000000000000, .int .u64 1000000000000000000, .int .u64 10000000000000000000])
      |>.modify 3 (putCell (.iface 299 (.pointer (some ⟨low + 0, 0, none⟩))))
      |>.modify 1 (putCell (.iface 299 (.pointer (some ⟨low + 1, 0, none⟩))))
      |>.modify 2 (putCell (.iface 299 (.pointer (some ⟨low + 2, 0, none⟩))))
      |>.modify 4 (putCell (.iface 299 (.pointer (some ⟨low + 3, 0, none⟩))))
      |>.modify 5 (putCell (.iface 299 (.pointer (some ⟨low + 4, 0, none⟩))))
      |>.modify 6 (putCell (.iface 299 (.pointer (some ⟨low + 5, 0, none⟩))))
      |>.modify 7 (putCell (.iface 299 (.pointer (some ⟨low + 6, 0, none⟩))))
      |>.modify 8 (putCell (.iface 299 (.pointer (some ⟨low + 7, 0, none⟩))))
      |>.modify 9 (putCell (.iface 299 (.pointer (some ⟨low + 8, 0, none⟩))))
      |>.modify 10 (putCell (.iface 299 (.pointer (some ⟨low + 9, 0, none⟩))))
      |>.modify 11 (putCell (.iface 299 (.pointer (some ⟨low + 10, 0, none⟩))))
      |>.modify 12 (putCell (.iface 299 (.pointer (some ⟨low + 11, 0, none⟩))))
      |>.modify 13 (putCell (.iface 299 (.pointer (some ⟨low + 12, 0, none⟩))))
      |>.modify 0 (putCell (.iface 299 (.pointer (some ⟨low + 13, 0, none⟩))))
      |>.modify 14 (putCell (.iface 299 (.pointer (some ⟨low + 14, 0, none⟩))))
      |>.modify 15 (putCell (.iface 299 (.pointer (some ⟨low + 15, 0, none⟩))))
      |>.modify 16 (putCell (.iface 299 (.pointer (some ⟨low + 16, 0, none⟩))))
      |>.modify 17 (putCell (.iface 299 (.pointer (some ⟨low + 17, 0, none⟩))))
      |>.modify 18 (putCell (.iface 299 (.pointer (some ⟨low + 18, 0, none⟩)))) }

/-! The closed facts of the row, each by itself. -/
theorem closed1 : part1 Tryz.prog Rows.roundsLastSpec Rows.roundsLastRow = true := by kernel_rfl
theorem closed2 : mapsRowed Tryz.prog = true := by kernel_rfl
theorem closed3 : part3 Tryz.prog Tryz.f9 Rows.roundsLastSpec Rows.roundsLastRow = true := by kernel_rfl
theorem closedB1 : (Rows.roundsLastRow.inPlace == Tryz.prog.inPlace 9) = true := by kernel_rfl
theorem closedB2 : (Rows.roundsLastRow.unfollowed == Tryz.prog.unfollowed 9) = true := by kernel_rfl
theorem closedB3 : (Rows.roundsLastRow.recurses == Tryz.prog.recurses 9) = true := by kernel_rfl
theorem closedB4 : (Rows.roundsLastRow.named == Tryz.prog.varsNamed 9) = true := by kernel_rfl
theorem closed4 : part4 Tryz.prog Tryz.f9 Rows.roundsLastSpec Rows.roundsLastRow = true := by kernel_rfl
theorem closed5 : part5 Tryz.prog Rows.roundsLastRow = true := by kernel_rfl
theorem closed6 : Tryz.prog.mayEnter = true := by kernel_rfl
theorem closed7 : part7 Tryz.prog Tryz.f9 Rows.roundsLastSpec Rows.roundsLastRow = true := by kernel_rfl
theorem closed : joinedFacts Tryz.prog 9 Tryz.f9 Rows.roundsLastSpec Rows.roundsLastRow = true := joined_of closed1 closed2 closed3 closedB1 closedB2 closedB3 closedB4 closed4 closed5 closed6 closed7

theorem laidWorld_met (os : Os) (args : Array Value) : laidMetH Tryz.prog Rows.roundsLastRow.laid ((laidWorld os).forCall (fun _ _ => 0) ⟨#[], args, []⟩).memory :=
  laidMetH_of_parts (laidMet_of_run' 8 (by kernel_rfl) (by kernel_rfl)) (by kernel_rfl)

set_option maxRecDepth 100000 in
theorem law_lifted (os : Os) (started : os.Started) (H : Type) (enc : TypeId × Value → H) :
    ReturnsInHanded {} Tryz.checked os 9 .any (fun w args => (Rows.roundsLastSpec.pre enc Tryz.prog Tryz.f9 [] false w args ∧ laidMetH Tryz.prog Rows.roundsLastRow.laid w) ∧ sizedMet enc Tryz.prog Tryz.f9 (OpenSpec.ofChange Rows.roundsLastSpec) false w args)
      (Rows.roundsLastSpec.post enc Tryz.prog Tryz.f9 false true false false) := by
  refine returnsInHanded_of_change_and (C := Tryz.checked) (X := fun w _ => laidMetH Tryz.prog Rows.roundsLastRow.laid w) (fun _ _ _ hh h => h.of_heap hh) own started (by kernel_rfl) Tryz.func9
    (ChangeSpec.witness_at (enc := enc) (C := Tryz.checked) (os := os) (X := fun w _ => laidMetH Tryz.prog Rows.roundsLastRow.laid w) false (laidWorld os) #[.agg #[.int .i64 0, .int .i64 0, .int .i64 0, .slice none 0 0]] 8 rfl (by kernel_rfl) (by kernel_rfl) (by kernel_rfl) (by kernel_rfl) (by kernel_rfl) (laidWorld_met os _)) ?_
  intro W base args ds gs before hval0 hW _ _ hL _
  have hval : ∀ (j : Nat) t v, Tryz.f9.params[j]? = some t → args[j]? = some v → Value.okWide Tryz.prog W .any base t v := hval0
  have hW' := hW
  obtain ⟨p, q, hAll0, hV, hbef, hfz, hnd⟩ := hW
  have hA : DataW.TrodAll enc Tryz.prog W 0 (fun _ => true) true Tryz.f9.params.toList args.toList ds p := hAll0
  rw [Tryz.params9] at hA hval
  obtain ⟨rfl, hq⟩ := trodVars_none hV
  obtain ⟨v0, d0, rfl, rfl, h0⟩ := trodAll_one hA
  obtain ⟨s0, se0, rfl, hs0, hl0, wn0, wm0, ws0⟩ := open_sys Tryz.underlying24 Tryz.underlying3 Tryz.underlying3 Tryz.underlying3 Tryz.underlying22 Tryz.underlying72 Tryz.underlying3 Tryz.underlying3 Tryz.underlying3 (by kernel_rfl) (by kernel_rfl) (by kernel_rfl) (by kernel_rfl) (hval 0 24 v0 rfl rfl) h0
  obtain ⟨a, c_sts, c_tab, c_typ⟩ := laid_of hL
  refine (lastLaw_any hs0 hl0 c_sts c_tab c_typ).mono fun r W' ⟨he, hb⟩ => ?_
  subst he
  exact ⟨_, rfl, law_post (P := Tryz.prog) (f := Tryz.f9) (s := Rows.roundsLastSpec) (by kernel_rfl) (by kernel_rfl) (by kernel_rfl) (by kernel_rfl) rfl rfl Tryz.underlying4 hW' hb rfl⟩

theorem f_holds : Rows.RoundsLastSaid :=
  OpenClaim.holds_of_wide 9 Tryz.f9 rfl rfl rfl rfl rfl rfl rfl ⟨rfl, rfl, rfl, rfl, rfl⟩ rfl rfl rfl rfl rfl (by kernel_rfl) Tryz.func9 closed
    (of_decide_eq_true (by kernel_rfl)) (by unfold Func.isWrapper; first | (rw [if_pos (by decide +kernel)]; kernel_rfl) | (rw [if_neg (by decide +kernel)]; exact ⟨rfl, rfl⟩))
    (fun os started H enc _ => law_lifted os started H enc)

/-- THE TIED CARD. -/
theorem card_holds : Rows.RoundsLastCardSaid :=
  Claim7.holds_tied_plain_at .later [] [.data, .data, .data, .handle, .sentinel, .sentinel, .sentinel, .sentinel, .sentinel, .sentinel, .sentinel, .sentinel, .sentinel, .sentinel, .sentinel, .sentinel, .sentinel, .sentinel, .sentinel, .sentinel, .sentinel, .sentinel, .sentinel] true (true, "6c652a4988b4ee3ea5e898de09133d004616e12f2b923b066a5a25bf5caa31e1") true
    f_holds (fun _ h => by cases h) (by kernel_rfl) (fun _ h => by cases h) roundsLast_row_tie rfl ⟨rfl, rfl⟩ (by kernel_rfl) rfl
    (fun f fn hf hfn => by
      obtain rfl : f = 9 := Option.some.inj ((show Tryz.prog.funcNamed "semblance/semblancelaw10.RoundsLast" = some 9 by kernel_rfl).symm.trans hf) |>.symm
      obtain rfl : fn = Tryz.f9 := (Option.some.inj (Tryz.func9.symm.trans hfn)).symm
      exact ⟨by kernel_rfl, fun j t ht => by
        rw [Tryz.params9] at ht
        have h3 : t = 24 := by
          rcases j with _ | j
          · have h4 : 24 = t := by simpa using ht
            subst h4; simp
          · simp at ht
        rcases h3 with rfl
        · exact (show Tryz.prog.wantsStandIn 24 = false by kernel_rfl)⟩)
    (by kernel_rfl)
end Go.Proofs.YtpmdjicaefmbnaaGreatDoor.RoundsLast
