/-
  NARROWER THAN 'FOR EVERY INPUT', by the rows' own cells (each row's printed sentence says how): DistinguishCompares: laid.
  DERIVED. THE GIVEN ROWS OF THIS SEAT. 1 by the template 'for every input the law returns true; each argument reads behind the call as it read before'; 0 by the template 'total and deterministic' (their statements: YtoaoajfjcfcmhaaGreatDoorTotals.lean).
  GIVEN WITH THE SEED: the statements are not yours to turn. If you find one false, say at which input.
  Laid BY PROGRAM, IN A SANDBOX (cutbox-rows.mjs): the forced cells as the released guide's own fill.sh prints them over the translation f417f98d26cc49f8… (all of the seat's roots in one cut). By AI agents, Wed Nov 11 2026. No macro, syntax, notation, axiom, sorry.
-/
import Derived.Test.YtoaoajfjcfcmhaaGreatDoorChecked
import GoSem.Claim
import GoSem.ClaimJoined
import GoSem.ClaimMapViews
import Derived.JoinedTies
import Derived.KernelRfl
namespace Go.Proofs.YtoaoajfjcfcmhaaGreatDoor
/- THE CELL 'sum', in the pinned program and in every row, IS THE sha256 OF THE DUMP (.gsa) THAT YtoaoajfjcfcmhaaGreatDoorProg.lean LOADS. Nothing in Lean hashes anything: it is a label: what it is worth is what the hold of that sum in a sandbox is worth. -/
noncomputable def Tryz.pinned : Pinned := { name := "ytoaoajfjcfcmhaagreatdoor", sum := "f417f98d26cc49f8d6835999a442c4fddfd337c0291d5d2b2778dab2a3967113", checked := Tryz.checked }
namespace Rows
def none {H : Type} : Left H := { results := [], args := [] }

/- WHAT THE LISTED PACKAGE-LEVEL VARIABLES READ AS WHEN THE CALL BEGINS. Each datum BY PROGRAM (the guide's laid-datum.mjs) off the statement by which the dump's own 'gosem.cut.vars' lays the variable. In a bare row this is a premise. The card (YtoaoajfjcfcmhaaGreatDoorCards.lean) ties it to the program's text. -/
def laid_math_bits_deBruijn32tab {H : Type} : DataW H := .agg [.lit (.int .u8 0), .lit (.int .u8 1), .lit (.int .u8 28), .lit (.int .u8 2), .lit (.int .u8 29), .lit (.int .u8 14), .lit (.int .u8 24), .lit (.int .u8 3), .lit (.int .u8 30), .lit (.int .u8 22), .lit (.int .u8 20), .lit (.int .u8 15), .lit (.int .u8 25), .lit (.int .u8 17), .lit (.int .u8 4), .lit (.int .u8 8), .lit (.int .u8 31), .lit (.int .u8 27), .lit (.int .u8 13), .lit (.int .u8 23), .lit (.int .u8 21), .lit (.int .u8 19), .lit (.int .u8 16), .lit (.int .u8 7), .lit (.int .u8 26), .lit (.int .u8 12), .lit (.int .u8 18), .lit (.int .u8 6), .lit (.int .u8 11), .lit (.int .u8 5), .lit (.int .u8 10), .lit (.int .u8 9)]
def laid_math_bits_deBruijn64tab {H : Type} : DataW H := .agg [.lit (.int .u8 0), .lit (.int .u8 1), .lit (.int .u8 56), .lit (.int .u8 2), .lit (.int .u8 57), .lit (.int .u8 49), .lit (.int .u8 28), .lit (.int .u8 3), .lit (.int .u8 61), .lit (.int .u8 58), .lit (.int .u8 42), .lit (.int .u8 50), .lit (.int .u8 38), .lit (.int .u8 29), .lit (.int .u8 17), .lit (.int .u8 4), .lit (.int .u8 62), .lit (.int .u8 47), .lit (.int .u8 59), .lit (.int .u8 36), .lit (.int .u8 45), .lit (.int .u8 43), .lit (.int .u8 51), .lit (.int .u8 22), .lit (.int .u8 53), .lit (.int .u8 39), .lit (.int .u8 33), .lit (.int .u8 30), .lit (.int .u8 24), .lit (.int .u8 18), .lit (.int .u8 12), .lit (.int .u8 5), .lit (.int .u8 63), .lit (.int .u8 55), .lit (.int .u8 48), .lit (.int .u8 27), .lit (.int .u8 60), .lit (.int .u8 41), .lit (.int .u8 37), .lit (.int .u8 16), .lit (.int .u8 46), .lit (.int .u8 35), .lit (.int .u8 44), .lit (.int .u8 21), .lit (.int .u8 52), .lit (.int .u8 32), .lit (.int .u8 23), .lit (.int .u8 11), .lit (.int .u8 54), .lit (.int .u8 26), .lit (.int .u8 40), .lit (.int .u8 15), .lit (.int .u8 34), .lit (.int .u8 20), .lit (.int .u8 31), .lit (.int .u8 10), .lit (.int .u8 25), .lit (.int .u8 14), .lit (.int .u8 19), .lit (.int .u8 9), .lit (.int .u8 13), .lit (.int .u8 8), .lit (.int .u8 7), .lit (.int .u8 6)]
def laid_internal_strconv_uint64pow10 {H : Type} : DataW H := .agg [.lit (.int .u64 1), .lit (.int .u64 10), .lit (.int .u64 100), .lit (.int .u64 1000), .lit (.int .u64 10000), .lit (.int .u64 100000), .lit (.int .u64 1000000), .lit (.int .u64 10000000), .lit (.int .u64 100000000), .lit (.int .u64 1000000000), .lit (.int .u64 10000000000), .lit (.int .u64 100000000000), .lit (.int .u64 1000000000000), .lit (.int .u64 10000000000000), .lit (.int .u64 100000000000000), .lit (.int .u64 1000000000000000), .lit (.int .u64 10000000000000000), .lit (.int .u64 100000000000000000), .lit (.int .u64 1000000000000000000), .lit (.int .u64 10000000000000000000)]
def laid_errors_errorType {H : Type} : DataW H := .iface "internal/reflectlite.rtype" (.agg [.ptr (.lit (.string [101, 114, 114, 111, 114]))])
def laid_semblance_api_ErrArg {H : Type} : DataW H := .iface "*errors.errorString" (.ptr (.agg [.lit (.string [97, 110, 32, 97, 114, 103, 117, 109, 101, 110, 116, 32, 116, 104, 97, 116, 32, 99, 97, 110, 39, 116, 32, 98, 101])]))
def laid_semblance_api_ErrLong {H : Type} : DataW H := .iface "*errors.errorString" (.ptr (.agg [.lit (.string [116, 111, 111, 32, 108, 111, 110, 103, 44, 32, 111, 114, 32, 116, 111, 111, 32, 109, 97, 110, 121])]))
def laid_semblance_api_ErrIndex {H : Type} : DataW H := .iface "*errors.errorString" (.ptr (.agg [.lit (.string [97, 32, 110, 117, 109, 98, 101, 114, 32, 116, 104, 97, 116, 32, 105, 115, 32, 110, 111, 116, 32, 116, 104, 101, 114, 101])]))
def laid_semblance_api_ErrWord {H : Type} : DataW H := .iface "*errors.errorString" (.ptr (.agg [.lit (.string [97, 32, 99, 104, 97, 114, 97, 99, 116, 101, 114, 32, 116, 104, 97, 116, 32, 98, 101, 103, 105, 110, 115, 32, 110, 111, 32, 119, 111, 114, 100])]))
def laid_semblance_api_ErrSyntax {H : Type} : DataW H := .iface "*errors.errorString" (.ptr (.agg [.lit (.string [97, 32, 119, 111, 114, 100, 32, 116, 104, 97, 116, 32, 99, 97, 110, 39, 116, 32, 115, 116, 97, 110, 100, 32, 116, 104, 101, 114, 101])]))
def laid_semblance_api_ErrDeep {H : Type} : DataW H := .iface "*errors.errorString" (.ptr (.agg [.lit (.string [98, 114, 97, 99, 107, 101, 116, 115, 32, 116, 104, 97, 116, 32, 115, 116, 97, 110, 100, 32, 116, 111, 111, 32, 100, 101, 101, 112])]))
def laid_semblance_api_ErrTwice {H : Type} : DataW H := .iface "*errors.errorString" (.ptr (.agg [.lit (.string [115, 111, 109, 101, 116, 104, 105, 110, 103, 32, 116, 104, 97, 116, 32, 115, 116, 97, 110, 100, 115, 32, 116, 104, 101, 114, 101, 32, 97, 108, 114, 101, 97, 100, 121])]))
def laid_semblance_api_ErrUnknown {H : Type} : DataW H := .iface "*errors.errorString" (.ptr (.agg [.lit (.string [97, 32, 110, 97, 109, 101, 32, 116, 104, 97, 116, 32, 105, 115, 32, 110, 111, 116, 32, 116, 104, 101, 114, 101])]))
def laid_semblance_api_ErrSilent {H : Type} : DataW H := .iface "*errors.errorString" (.ptr (.agg [.lit (.string [116, 104, 101, 32, 115, 105, 108, 101, 110, 116, 32, 97, 99, 116, 105, 111, 110, 44, 32, 119, 104, 101, 114, 101, 32, 105, 116, 32, 99, 97, 110, 39, 116, 32, 115, 116, 97, 110, 100])]))
def laid_semblance_api_ErrUnguarded {H : Type} : DataW H := .iface "*errors.errorString" (.ptr (.agg [.lit (.string [97, 32, 99, 111, 110, 115, 116, 97, 110, 116, 32, 116, 104, 97, 116, 32, 110, 101, 101, 100, 115, 32, 105, 116, 115, 101, 108, 102, 32, 102, 105, 114, 115, 116])]))
def laid_semblance_api_ErrSteps {H : Type} : DataW H := .iface "*errors.errorString" (.ptr (.agg [.lit (.string [97, 32, 116, 101, 114, 109, 32, 119, 105, 116, 104, 32, 116, 111, 111, 32, 109, 97, 110, 121, 32, 115, 116, 101, 112, 115])]))
def laid_semblance_api_ErrStates {H : Type} : DataW H := .iface "*errors.errorString" (.ptr (.agg [.lit (.string [116, 111, 111, 32, 109, 97, 110, 121, 32, 115, 116, 97, 116, 101, 115])]))
def laid_semblance_api_ErrEdges {H : Type} : DataW H := .iface "*errors.errorString" (.ptr (.agg [.lit (.string [116, 111, 111, 32, 109, 97, 110, 121, 32, 101, 100, 103, 101, 115])]))
def laid_semblance_api_ErrSystem {H : Type} : DataW H := .iface "*errors.errorString" (.ptr (.agg [.lit (.string [97, 32, 115, 121, 115, 116, 101, 109, 32, 116, 104, 97, 116, 32, 105, 115, 32, 110, 111, 110, 101])]))
def laid_semblance_api_ErrClasses {H : Type} : DataW H := .iface "*errors.errorString" (.ptr (.agg [.lit (.string [99, 108, 97, 115, 115, 101, 115, 32, 116, 104, 97, 116, 32, 97, 114, 101, 32, 110, 111, 110, 101])]))
def laid_semblance_api_ErrFormula {H : Type} : DataW H := .iface "*errors.errorString" (.ptr (.agg [.lit (.string [97, 32, 102, 111, 114, 109, 117, 108, 97, 32, 116, 104, 97, 116, 32, 105, 115, 32, 110, 111, 110, 101])]))
def laid_semblance_api_ErrLimit {H : Type} : DataW H := .iface "*errors.errorString" (.ptr (.agg [.lit (.string [97, 32, 102, 111, 114, 109, 117, 108, 97, 32, 116, 104, 97, 116, 32, 119, 111, 117, 108, 100, 32, 98, 101, 32, 116, 111, 111, 32, 103, 114, 101, 97, 116])]))
def laid_semblance_api_ErrNone {H : Type} : DataW H := .iface "*errors.errorString" (.ptr (.agg [.lit (.string [116, 104, 101, 114, 101, 32, 105, 115, 32, 110, 111, 110, 101])]))
def laid_semblance_api_ErrScript {H : Type} : DataW H := .iface "*errors.errorString" (.ptr (.agg [.lit (.string [97, 32, 115, 99, 114, 105, 112, 116, 32, 116, 104, 97, 116, 32, 105, 115, 32, 110, 111, 110, 101])]))

/-- 'semblancelaw16.DistinguishCompares': WHATEVER THE INPUT: true; the input reads as it did. -/
def distinguishComparesSpec : ChangeSpec := { name := "distinguishCompares", fn := fun _ => fun
  | [d1, d2, d3] => { results := [.lit (.bool true)], args := [d1, d2, d3] }
  | _ => none }
def distinguishComparesRow : OpenClaim := { program := "ytoaoajfjcfcmhaagreatdoor", sum := "f417f98d26cc49f8d6835999a442c4fddfd337c0291d5d2b2778dab2a3967113", func := "semblance/semblancelaw16.DistinguishCompares", spec := "distinguishCompares", inPlace := ["internal/reflectlite.ValueOf", "(internal/reflectlite.Value).Type", "(internal/reflectlite.Value).IsNil", "internal/reflectlite.TypeOf", "(internal/reflectlite.Value).Elem", "(internal/reflectlite.Value).Set"], unfollowed := true, recurses := true, named := ["semblance/api.ErrNone", "semblance/api.ErrIndex", "semblance/api.ErrLong", "semblance/api.ErrSystem", "errors.errorType", "internal/strconv.uint64pow10", "math/bits.deBruijn32tab", "math/bits.deBruijn64tab", "semblance/api.ErrLimit", "semblance/api.ErrArg", "semblance/api.ErrWord", "semblance/api.ErrSyntax", "semblance/api.ErrDeep", "semblance/api.ErrTwice", "semblance/api.ErrUnknown", "semblance/api.ErrSilent", "semblance/api.ErrUnguarded", "semblance/api.ErrSteps", "semblance/api.ErrStates", "semblance/api.ErrEdges", "semblance/api.ErrClasses", "semblance/api.ErrFormula", "semblance/api.ErrScript"], plainKeys := false, apart := false, laid := [("math/bits.deBruijn32tab", laid_math_bits_deBruijn32tab), ("math/bits.deBruijn64tab", laid_math_bits_deBruijn64tab), ("internal/strconv.uint64pow10", laid_internal_strconv_uint64pow10), ("errors.errorType", laid_errors_errorType), ("semblance/api.ErrArg", laid_semblance_api_ErrArg), ("semblance/api.ErrLong", laid_semblance_api_ErrLong), ("semblance/api.ErrIndex", laid_semblance_api_ErrIndex), ("semblance/api.ErrWord", laid_semblance_api_ErrWord), ("semblance/api.ErrSyntax", laid_semblance_api_ErrSyntax), ("semblance/api.ErrDeep", laid_semblance_api_ErrDeep), ("semblance/api.ErrTwice", laid_semblance_api_ErrTwice), ("semblance/api.ErrUnknown", laid_semblance_api_ErrUnknown), ("semblance/api.ErrSilent", laid_semblance_api_ErrSilent), ("semblance/api.ErrUnguarded", laid_semblance_api_ErrUnguarded), ("semblance/api.ErrSteps", laid_semblance_api_ErrSteps), ("semblance/api.ErrStates", laid_semblance_api_ErrStates), ("semblance/api.ErrEdges", laid_semblance_api_ErrEdges), ("semblance/api.ErrSystem", laid_semblance_api_ErrSystem), ("semblance/api.ErrClasses", laid_semblance_api_ErrClasses), ("semblance/api.ErrFormula", laid_semblance_api_ErrFormula), ("semblance/api.ErrLimit", laid_semblance_api_ErrLimit), ("semblance/api.ErrNone", laid_semblance_api_ErrNone), ("semblance/api.ErrScript", laid_semblance_api_ErrScript)] }
def DistinguishComparesSaid : Prop := distinguishComparesRow.holds Tryz.pinned (OpenSpec.ofChange distinguishComparesSpec)

/-- ITS FALSE NEIGHBOUR: 'it returns false'. Refute it at one input. -/
def distinguishComparesWrong : ChangeSpec := { name := "distinguishCompares", fn := fun _ => fun
  | [d1, d2, d3] => { results := [.lit (.bool false)], args := [d1, d2, d3] }
  | _ => none }
def DistinguishComparesWrongFalsely : Prop := distinguishComparesRow.holds Tryz.pinned (OpenSpec.ofChange distinguishComparesWrong)

/- THE SECOND FORM. 'bulk': how many values and letters a reading holds, each counted each time it is reached (what is shared counts as often as it is met; a slice's spare places count too). A statement '..UptoSaid' is the law's where the arguments, and the package variables that the reading takes, are together of bulk at most 1048576: NARROWER than '..Said'. Prove '..Said' where nothing that the law and all that it calls make is longer than what came in: it says more and counts as full. Else prove '..UptoSaid'. A law counts once. -/
mutual
def uptoBulk {H : Type} : DataW H → Nat
  | .lit (.string bytes) => bytes.length + 1
  | .lit _ => 1
  | .nil => 1
  | .ptr d => uptoBulk d + 1
  | .slice elems spare => uptoBulkAll elems + uptoBulkAll spare + 1
  | .agg parts => uptoBulkAll parts + 1
  | .iface _ d => uptoBulk d + 1
  | .map entries => uptoBulkEntries entries + 1
  | .held _ => 1
def uptoBulkAll {H : Type} : List (DataW H) → Nat
  | [] => 0
  | d :: r => uptoBulk d + uptoBulkAll r
def uptoBulkEntries {H : Type} : List (Lit × DataW H) → Nat
  | [] => 0
  | x :: r => uptoBulkEntry x + uptoBulkEntries r
def uptoBulkEntry {H : Type} : Lit × DataW H → Nat
  | (.string bytes, d) => bytes.length + uptoBulk d + 1
  | (_, d) => uptoBulk d + 1
 end
def uptoSmall : (H : Type) → List (DataW H) → Bool := fun _ ds => decide (uptoBulkAll ds ≤ 1048576)
def OpenSpec.upto (s : _root_.Go.ChangeSpec) : _root_.Go.OpenSpec := { _root_.Go.OpenSpec.ofChange s with cond := some uptoSmall }

/-- 'semblancelaw16.DistinguishCompares', WHERE WHAT IT READS IS OF BULK AT MOST 1048576: true; the input reads as it did. -/
def distinguishComparesUptoRow : OpenClaim := { program := "ytoaoajfjcfcmhaagreatdoor", sum := "f417f98d26cc49f8d6835999a442c4fddfd337c0291d5d2b2778dab2a3967113", func := "semblance/semblancelaw16.DistinguishCompares", spec := "distinguishCompares", inPlace := ["internal/reflectlite.ValueOf", "(internal/reflectlite.Value).Type", "(internal/reflectlite.Value).IsNil", "internal/reflectlite.TypeOf", "(internal/reflectlite.Value).Elem", "(internal/reflectlite.Value).Set"], unfollowed := true, recurses := true, named := ["semblance/api.ErrNone", "semblance/api.ErrIndex", "semblance/api.ErrLong", "semblance/api.ErrSystem", "errors.errorType", "internal/strconv.uint64pow10", "math/bits.deBruijn32tab", "math/bits.deBruijn64tab", "semblance/api.ErrLimit", "semblance/api.ErrArg", "semblance/api.ErrWord", "semblance/api.ErrSyntax", "semblance/api.ErrDeep", "semblance/api.ErrTwice", "semblance/api.ErrUnknown", "semblance/api.ErrSilent", "semblance/api.ErrUnguarded", "semblance/api.ErrSteps", "semblance/api.ErrStates", "semblance/api.ErrEdges", "semblance/api.ErrClasses", "semblance/api.ErrFormula", "semblance/api.ErrScript"], plainKeys := false, apart := false, laid := [("math/bits.deBruijn32tab", laid_math_bits_deBruijn32tab), ("math/bits.deBruijn64tab", laid_math_bits_deBruijn64tab), ("internal/strconv.uint64pow10", laid_internal_strconv_uint64pow10), ("errors.errorType", laid_errors_errorType), ("semblance/api.ErrArg", laid_semblance_api_ErrArg), ("semblance/api.ErrLong", laid_semblance_api_ErrLong), ("semblance/api.ErrIndex", laid_semblance_api_ErrIndex), ("semblance/api.ErrWord", laid_semblance_api_ErrWord), ("semblance/api.ErrSyntax", laid_semblance_api_ErrSyntax), ("semblance/api.ErrDeep", laid_semblance_api_ErrDeep), ("semblance/api.ErrTwice", laid_semblance_api_ErrTwice), ("semblance/api.ErrUnknown", laid_semblance_api_ErrUnknown), ("semblance/api.ErrSilent", laid_semblance_api_ErrSilent), ("semblance/api.ErrUnguarded", laid_semblance_api_ErrUnguarded), ("semblance/api.ErrSteps", laid_semblance_api_ErrSteps), ("semblance/api.ErrStates", laid_semblance_api_ErrStates), ("semblance/api.ErrEdges", laid_semblance_api_ErrEdges), ("semblance/api.ErrSystem", laid_semblance_api_ErrSystem), ("semblance/api.ErrClasses", laid_semblance_api_ErrClasses), ("semblance/api.ErrFormula", laid_semblance_api_ErrFormula), ("semblance/api.ErrLimit", laid_semblance_api_ErrLimit), ("semblance/api.ErrNone", laid_semblance_api_ErrNone), ("semblance/api.ErrScript", laid_semblance_api_ErrScript)], narrowed := true }
def DistinguishComparesUptoSaid : Prop := distinguishComparesUptoRow.holds Tryz.pinned (OpenSpec.upto distinguishComparesSpec)

end Rows
end Go.Proofs.YtoaoajfjcfcmhaaGreatDoor
