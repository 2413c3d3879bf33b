/-
RefineAs: whatever two numbers are handed to it, it returns true: an element that is not there is told by a fault of refine, whose error is ErrIndex; one that is there is told without an error.
It is shown where the listed package variables read as the program's text lays them; no other condition. Printed by mkproof.py.
-/
import Derived.Test.YtfkhaldheclheaaDoorRefW14
import Derived.Test.YtfkhaldheclheaaDoorCards
import Derived.Test.YtfkhaldheclheaaDoorTie
import Derived.SevenTiedAt
import Derived.ProofKit
import Derived.ChangeSame
import Derived.ChangeVars
import Derived.JoinedOf
import Derived.RowKit
import Derived.RowKitTokens
import Derived.LaidLaws
import Derived.LaidHandle
import Derived.Stop.Joined
import Derived.Stop.LaidErr
namespace Go.Proofs.YtfkhaldheclheaaDoor.RefineAs
open Go.ChangeShapes Go.WideShapes Go.ChangeAt Go.RowKit

theorem own : ownKnob Tryd.prog.godebug = none := by kernel_rfl
theorem et : Tryd.prog.globalNamed "errors.errorType" = some 10 := by kernel_rfl
theorem rt : (Tryd.prog.cutTypes.find? (·.1 == "internal/reflectlite.rtype")).map (·.2) = some 83 := by kernel_rfl
theorem size : Tryd.prog.types.size = 158 := by kernel_rfl
theorem oneRow : ((List.range 158).filter fun t => Tryd.prog.rowNamed t [101, 114, 114, 111, 114]) = [24] := by kernel_rfl
theorem gArg : Tryd.prog.globalNamed "semblance/api.ErrArg" = some 1 := by kernel_rfl
theorem gIdx : Tryd.prog.globalNamed "semblance/api.ErrIndex" = some 0 := by kernel_rfl
theorem tArg : (Tryd.prog.globals[1]?).map (·.type) = some 24 := by kernel_rfl
theorem tIdx : (Tryd.prog.globals[0]?).map (·.type) = some 24 := by kernel_rfl
theorem cellsE : Tryd.prog.cellsOf 146 = 1 := by kernel_rfl
theorem cellsS : Tryd.prog.cellsOf 9 = 1 := by kernel_rfl
theorem star : "*" ++ "errors.errorString" = "*errors.errorString" := by decide
theorem rowE (u : TypeId) (h : Tryd.prog.typeName? 3 u = some "*errors.errorString") : u = 126 :=
  typeName_ptr_named (nm := "errors.errorString") (by rw [star]; kernel_rfl) (by kernel_rfl) (by decide) u (by rw [star]; exact h)

/-- WHAT THE CONDITION GIVES A WALK. -/
theorem laid_of {W : World} (h : laidMetH Tryd.prog Rows.refineAsRow.laid W) : ∃ a ai, Laid W a ai := by
  have h' : laidMet Tryd.prog [("semblance/api.ErrArg", Rows.laid_semblance_api_ErrArg), ("semblance/api.ErrLong", Rows.laid_semblance_api_ErrLong), ("semblance/api.ErrIndex", Rows.laid_semblance_api_ErrIndex), ("semblance/api.ErrWord", Rows.laid_semblance_api_ErrWord), ("semblance/api.ErrSyntax", Rows.laid_semblance_api_ErrSyntax), ("semblance/api.ErrDeep", Rows.laid_semblance_api_ErrDeep), ("semblance/api.ErrTwice", Rows.laid_semblance_api_ErrTwice), ("semblance/api.ErrUnknown", Rows.laid_semblance_api_ErrUnknown), ("semblance/api.ErrSilent", Rows.laid_semblance_api_ErrSilent), ("semblance/api.ErrUnguarded", Rows.laid_semblance_api_ErrUnguarded), ("semblance/api.ErrSteps", Rows.laid_semblance_api_ErrSteps), ("semblance/api.ErrStates", Rows.laid_semblance_api_ErrStates), ("semblance/api.ErrEdges", Rows.laid_semblance_api_ErrEdges), ("semblance/api.ErrSystem", Rows.laid_semblance_api_ErrSystem), ("semblance/api.ErrClasses", Rows.laid_semblance_api_ErrClasses), ("semblance/api.ErrFormula", Rows.laid_semblance_api_ErrFormula), ("semblance/api.ErrLimit", Rows.laid_semblance_api_ErrLimit), ("semblance/api.ErrNone", Rows.laid_semblance_api_ErrNone), ("semblance/api.ErrScript", Rows.laid_semblance_api_ErrScript)] W ∧ handlesMet Tryd.prog [("errors.errorType", Rows.laid_errors_errorType)] W := h
  obtain ⟨a, s1, va, _, _, _⟩ := laid_sentinel h'.1 gArg tArg Tryd.underlying24 rowE Tryd.underlying126 Tryd.underlying146 rfl rfl Tryd.underlying9 cellsE cellsS
  obtain ⟨ai, s2, vi, _, _, _⟩ := laid_sentinel h'.1.tail.tail gIdx tIdx Tryd.underlying24 rowE Tryd.underlying126 Tryd.underlying146 rfl rfl Tryd.underlying9 cellsE cellsS
  refine ⟨a, ai, by simpa using World.var?_cell gArg va 0, by simpa using World.var?_cell gIdx vi 0, ?_⟩
  obtain ⟨name, u, ty, e1, e2, e3, e4, e5⟩ := h'.2 _ (List.mem_singleton.2 rfl)
  have en : name = [101, 114, 114, 111, 114] := (Option.some.inj e1).symm
  subst en
  obtain rfl := Option.some.inj (rt.symm.trans e2)
  have hm : ty ∈ (List.range 158).filter fun t => Tryd.prog.rowNamed t [101, 114, 114, 111, 114] := List.mem_filter.2 ⟨List.mem_range.2 (by rw [← size]; exact e3), e4⟩
  rw [oneRow] at hm
  obtain rfl := List.mem_singleton.1 hm
  have hh : typeHandle Tryd.prog 24 = .pointer (some ⟨20, 24, none⟩) := by kernel_rfl
  rw [hh] at e5
  simpa using World.var?_cell et e5 0

/-- A world that meets the condition: the settled one, the listed variables laid. -/
noncomputable def low : Nat := (World.holding Tryd.prog default ⟨#[], #[], []⟩).heap.size
/-- A variable's one cell, written over. -/
def putCell (v : Value) : Obj → Obj
  | .cells _ t frozen => .cells #[v] t frozen
  | o => o
noncomputable def laidWorld (os : Os) : World :=
  let w0 := World.holding Tryd.prog os ⟨#[.cells #[.string { data := #[97, 110, 32, 97, 114, 103, 117, 109, 101, 110, 116, 32, 116, 104, 97, 116, 32, 99, 97, 110, 39, 116, 32, 98, 101] }] 146, .cells #[.string { data := #[116, 111, 111, 32, 108, 111, 110, 103, 44, 32, 111, 114, 32, 116, 111, 111, 32, 109, 97, 110, 121] }] 146, .cells #[.string { data := #[97, 32, 110, 117, 109, 98, 101, 114, 32, 116, 104, 97, 116, 32, 105, 115, 32, 110, 111, 116, 32, 116, 104, 101, 114, 101] }] 146, .cells #[.string { data := #[97, 32, 99, 104, 97, 114, 97, 99, 116, 101, 114, 32, 116, 104, 97, 116, 32, 98, 101, 103, 105, 110, 115, 32, 110, 111, 32, 119, 111, 114, 100] }] 146, .cells #[.string { data := #[97, 32, 119, 111, 114, 100, 32, 116, 104, 97, 116, 32, 99, 97, 110, 39, 116, 32, 115, 116, 97, 110, 100, 32, 116, 104, 101, 114, 101] }] 146, .cells #[.string { data := #[98, 114, 97, 99, 107, 101, 116, 115, 32, 116, 104, 97, 116, 32, 115, 116, 97, 110, 100, 32, 116, 111, 111, 32, 100, 101, 101, 112] }] 146, .cells #[.string { data := #[115, 111, 109, 101, 116, 104, 105, 110, 103, 32, 116, 104, 97, 116, 32, 115, 116, 97, 110, 100, 115, 32, 116, 104, 101, 114, 101, 32, 97, 108, 114, 101, 97, 100, 121] }] 146, .cells #[.string { data := #[97, 32, 110, 97, 109, 101, 32, 116, 104, 97, 116, 32, 105, 115, 32, 110, 111, 116, 32, 116, 104, 101, 114, 101] }] 146, .cells #[.string { data := #[116, 104, 101, 32, 115, 105, 108, 101, 110, 116, 32, 97, 99, 116, 105, 111, 110, 44, 32, 119, 104, 101, 114, 101, 32, 105, 116, 32, 99, 97, 110, 39, 116, 32, 115, 116, 97, 110, 100] }] 146, .cells #[.string { data := #[97, 32, 99, 111, 110, 115, 116, 97, 110, 116, 32, 116, 104, 97, 116, 32, 110, 101, 101, 100, 115, 32, 105, 116, 115, 101, 108, 102, 32, 102, 105, 114, 115, 116] }] 146, .cells #[.string { data := #[97, 32, 116, 101, 114, 109, 32, 119, 105, 116, 104, 32, 116, 111, 111, 32, 109, 97, 110, 121, 32, 115, 116, 101, 112, 115] }] 146, .cells #[.string { data := #[116, 111, 111, 32, 109, 97, 110, 121, 32, 115, 116, 97, 116, 101, 115] }] 146, .cells #[.string { data := #[116, 111, 111, 32, 109, 97, 110, 121, 32, 101, 100, 103, 101, 115] }] 146, .cells #[.string { data := #[97, 32, 115, 121, 115, 116, 101, 109, 32, 116, 104, 97, 116, 32, 105, 115, 32, 110, 111, 110, 101] }] 146, .cells #[.string { data := #[99, 108, 97, 115, 115, 101, 115, 32, 116, 104, 97, 116, 32, 97, 114, 101, 32, 110, 111, 110, 101] }] 146, .cells #[.string { data := #[97, 32, 102, 111, 114, 109, 117, 108, 97, 32, 116, 104, 97, 116, 32, 105, 115, 32, 110, 111, 110, 101] }] 146, .cells #[.string { data := #[97, 32, 102, 111, 114, 109, 117, 108, 97, 32, 116, 104, 97, 116, 32, 119, 111, 117, 108, 100, 32, 98, 101, 32, 116, 111, 111, 32, 103, 114, 101, 97, 116] }] 146, .cells #[.string { data := #[116, 104, 101, 114, 101, 32, 105, 115, 32, 110, 111, 110, 101] }] 146, .cells #[.string { data := #[97, 32, 115, 99, 114, 105, 112, 116, 32, 116, 104, 97, 116, 32, 105, 115, 32, 110, 111, 110, 101] }] 146], #[], []⟩
  { w0 with heap := w0.heap.modify 10 (putCell (.iface 83 (.agg #[.pointer (some ⟨20, 24, none⟩)])))
      |>.modify 1 (putCell (.iface 126 (.pointer (some ⟨low + 0, 0, none⟩))))
      |>.modify 2 (putCell (.iface 126 (.pointer (some ⟨low + 1, 0, none⟩))))
      |>.modify 0 (putCell (.iface 126 (.pointer (some ⟨low + 2, 0, none⟩))))
      |>.modify 3 (putCell (.iface 126 (.pointer (some ⟨low + 3, 0, none⟩))))
      |>.modify 4 (putCell (.iface 126 (.pointer (some ⟨low + 4, 0, none⟩))))
      |>.modify 5 (putCell (.iface 126 (.pointer (some ⟨low + 5, 0, none⟩))))
      |>.modify 6 (putCell (.iface 126 (.pointer (some ⟨low + 6, 0, none⟩))))
      |>.modify 7 (putCell (.iface 126 (.pointer (some ⟨low + 7, 0, none⟩))))
      |>.modify 8 (putCell (.iface 126 (.pointer (some ⟨low + 8, 0, none⟩))))
      |>.modify 9 (putCell (.iface 126 (.pointer (some ⟨low + 9, 0, none⟩))))
      |>.modify 11 (putCell (.iface 126 (.pointer (some ⟨low + 10, 0, none⟩))))
      |>.modify 12 (putCell (.iface 126 (.pointer (some ⟨low + 11, 0, none⟩))))
      |>.modify 13 (putCell (.iface 126 (.pointer (some ⟨low + 12, 0, none⟩))))
      |>.modify 14 (putCell (.iface 126 (.pointer (some ⟨low + 13, 0, none⟩))))
      |>.modify 15 (putCell (.iface 126 (.pointer (some ⟨low + 14, 0, none⟩))))
      |>.modify 16 (putCell (.iface 126 (.pointer (some ⟨low + 15, 0, none⟩))))
      |>.modify 17 (putCell (.iface 126 (.pointer (some ⟨low + 16, 0, none⟩))))
      |>.modify 18 (putCell (.iface 126 (.pointer (some ⟨low + 17, 0, none⟩))))
      |>.modify 19 (putCell (.iface 126 (.pointer (some ⟨low + 18, 0, none⟩)))) }

theorem laidWorld_met (os : Os) (args : Array Value) : laidMetH Tryd.prog Rows.refineAsRow.laid ((laidWorld os).forCall (fun _ _ => 0) ⟨#[], args, []⟩).memory :=
  laidMetH_of_parts (laidMet_of_run' 8 (by kernel_rfl) (by kernel_rfl)) (by kernel_rfl)

set_option maxRecDepth 100000 in
theorem law_lifted (os : Os) (started : os.Started) (H : Type) (enc : TypeId × Value → H) :
    ReturnsInHanded {} Tryd.checked os 3 .any (fun w args => (Rows.refineAsSpec.pre enc Tryd.prog Tryd.f3 [] false w args ∧ laidMetH Tryd.prog Rows.refineAsRow.laid w) ∧ sizedMet enc Tryd.prog Tryd.f3 (OpenSpec.ofChange Rows.refineAsSpec) false w args)
      (Rows.refineAsSpec.post enc Tryd.prog Tryd.f3 false true false false) := by
  refine returnsInHanded_of_change_and (C := Tryd.checked) (X := fun w _ => laidMetH Tryd.prog Rows.refineAsRow.laid w) (fun _ _ _ hh h => h.of_heap hh) own started (by kernel_rfl) Tryd.func3
    (ChangeSpec.witness_at (enc := enc) (C := Tryd.checked) (os := os) (X := fun w _ => laidMetH Tryd.prog Rows.refineAsRow.laid w) false (laidWorld os) #[.int .i64 0, .int .i64 0] 8 rfl (by kernel_rfl) (by kernel_rfl) (by kernel_rfl) (by kernel_rfl) (by kernel_rfl) (laidWorld_met os _)) ?_
  intro W base args ds gs before hval0 hW _ _ hL _
  have hval : ∀ (j : Nat) t v, Tryd.f3.params[j]? = some t → args[j]? = some v → Value.okWide Tryd.prog W .any base t v := hval0
  have hW' := hW
  obtain ⟨p, q, hA0, hV, rfl, hfz, hnd⟩ := hW
  have hA : DataW.TrodAll enc Tryd.prog W 0 (fun _ => true) true Tryd.f3.params.toList args.toList ds p := hA0
  rw [Tryd.params3] at hA hval
  obtain ⟨v0, v1, d0, d1, p0, p1, rfl, rfl, rfl, h0, h1⟩ := trodAll_two hA
  obtain ⟨rfl, rfl⟩ := trodVars_none hV
  obtain ⟨n, rfl, rfl, rfl, wa⟩ := open_int Tryd.underlying3 (hval 0 3 v0 rfl rfl) h0
  obtain ⟨e, rfl, rfl, rfl, wb⟩ := open_int Tryd.underlying3 (hval 1 3 v1 rfl rfl) h1
  clear hA0 hval0
  simp only [List.append_nil] at hW'
  obtain ⟨a, ai, hl⟩ := laid_of hL
  refine (refineAs_any n e a ai W hl).mono fun r W' ⟨he, hb⟩ => ?_
  subst he
  have e1 : Rows.refineAsSpec.fn H ([.lit (.int .i64 n), .lit (.int .i64 e)] ++ []) = { results := [.lit (.bool true)], args := [.lit (.int .i64 n), .lit (.int .i64 e)] } := by simp [Rows.refineAsSpec]
  refine ⟨_, rfl, _, _, _, [], [], [], hW', ?_, ?_, ?_, hb.frame _, fun h => by cases h⟩
  · rw [e1]; exact trodAll_mk1 (shut_bool Tryd.underlying4 true)
  · rw [e1]; exact trodAll_mk2 (shut_int Tryd.underlying3 wa) (shut_int Tryd.underlying3 wb)
  · rw [e1]; rfl

theorem f_holds : Rows.RefineAsSaid :=
  OpenClaim.holds_of_wide 3 Tryd.f3 rfl rfl rfl rfl rfl rfl rfl ⟨rfl, rfl, rfl, rfl, rfl⟩ rfl rfl rfl rfl rfl (by kernel_rfl) Tryd.func3 (by kernel_rfl)
    (of_decide_eq_true (by kernel_rfl)) (by unfold Func.isWrapper; first | (rw [if_pos (by decide +kernel)]; kernel_rfl) | (rw [if_neg (by decide +kernel)]; exact ⟨rfl, rfl⟩))
    (fun os started H enc _ => law_lifted os started H enc)

/-- THE TIED CARD. -/
theorem card_holds : Rows.RefineAsCardSaid :=
  Claim7.holds_tied_plain_at .later [] [.handle, .sentinel, .sentinel, .sentinel, .sentinel, .sentinel, .sentinel, .sentinel, .sentinel, .sentinel, .sentinel, .sentinel, .sentinel, .sentinel, .sentinel, .sentinel, .sentinel, .sentinel, .sentinel, .sentinel] true (true, "1e66a3270406fa25359c71b4599ddd46d61d5d5ecf6f1cd934c1512319a4734a") true
    f_holds (fun _ h => by cases h) (by kernel_rfl) (fun _ h => by cases h) refineAs_row_tie rfl ⟨rfl, rfl⟩ (by kernel_rfl) rfl
    (fun f fn hf hfn => by
      obtain rfl : f = 3 := Option.some.inj ((show Tryd.prog.funcNamed "semblance/semblancelaw8.RefineAs" = some 3 by kernel_rfl).symm.trans hf) |>.symm
      obtain rfl : fn = Tryd.f3 := (Option.some.inj (Tryd.func3.symm.trans hfn)).symm
      exact ⟨by kernel_rfl, fun j t ht => by
        rw [Tryd.params3] at ht
        have h3 : t = 3 := by
          rcases j with _ | _ | j
          · simpa using ht.symm
          · simpa using ht.symm
          · simp at ht
        subst h3
        exact (show Tryd.prog.wantsStandIn 3 = false by kernel_rfl)⟩)
    (by kernel_rfl)
end Go.Proofs.YtfkhaldheclheaaDoor.RefineAs
