/-
RefineHalves: whatever number and whatever script are handed to it, it returns true: a new block has at most half of the block that was split, what was marked is parted from what was not, and no other block is touched.
It is shown where the listed package variables read as the program's text lays them; no other condition. Printed by mkrow.py.
-/
import Derived.Test.YtfkhaldheclheaaDoorRefW20
import Derived.Test.YtfkhaldheclheaaDoorOpen
import Derived.Test.YtfkhaldheclheaaDoorCards
import Derived.Test.YtfkhaldheclheaaDoorTie
import Derived.SevenTiedAt
import Derived.ProofKit
import Derived.ChangeSame
import Derived.ChangeVars
import Derived.JoinedOf
import Derived.RowKit
import Derived.RowKitTokens
import Derived.LaidLaws
import Derived.LaidHandle
import Derived.Stop.Joined
import Derived.Stop.LaidErr
namespace Go.Proofs.YtfkhaldheclheaaDoor.RefineHalves
open Go.ChangeShapes Go.WideShapes Go.ChangeAt Go.RowKit

theorem own : ownKnob Tryd.prog.godebug = none := by kernel_rfl
theorem et : Tryd.prog.globalNamed "errors.errorType" = some 10 := by kernel_rfl
theorem rt : (Tryd.prog.cutTypes.find? (·.1 == "internal/reflectlite.rtype")).map (·.2) = some 83 := by kernel_rfl
theorem size : Tryd.prog.types.size = 158 := by kernel_rfl
theorem oneRow : ((List.range 158).filter fun t => Tryd.prog.rowNamed t [101, 114, 114, 111, 114]) = [24] := by kernel_rfl
theorem g_ErrIndex : Tryd.prog.globalNamed "semblance/api.ErrIndex" = some 0 := by kernel_rfl
theorem t_ErrIndex : (Tryd.prog.globals[0]?).map (·.type) = some 24 := by kernel_rfl
theorem cellsE : Tryd.prog.cellsOf 146 = 1 := by kernel_rfl
theorem cellsS : Tryd.prog.cellsOf 9 = 1 := by kernel_rfl
theorem star : "*" ++ "errors.errorString" = "*errors.errorString" := by decide
theorem rowE (u : TypeId) (h : Tryd.prog.typeName? 3 u = some "*errors.errorString") : u = 126 :=
  typeName_ptr_named (nm := "errors.errorString") (by rw [star]; kernel_rfl) (by kernel_rfl) (by decide) u (by rw [star]; exact h)

/-- WHAT THE CONDITION GIVES A WALK. -/
theorem laid_of {W : World} (h : laidMetH Tryd.prog Rows.refineHalvesRow.laid W) : ∃ a_ErrIndex : Addr, W.cell? ⟨0, 0, none⟩ = some (.iface 126 (.pointer (some a_ErrIndex))) ∧ W.cell? ⟨10, 0, none⟩ = some (.iface 83 (.agg #[.pointer (some ⟨20, 24, none⟩)])) := by
  have h' : laidMet Tryd.prog [("semblance/api.ErrArg", Rows.laid_semblance_api_ErrArg), ("semblance/api.ErrIndex", Rows.laid_semblance_api_ErrIndex)] W ∧ handlesMet Tryd.prog [("errors.errorType", Rows.laid_errors_errorType)] W := h
  obtain ⟨a_ErrIndex, s_ErrIndex, v_ErrIndex, _, _, _⟩ := laid_sentinel h'.1.tail g_ErrIndex t_ErrIndex Tryd.underlying24 rowE Tryd.underlying126 Tryd.underlying146 rfl rfl Tryd.underlying9 cellsE cellsS
  refine ⟨a_ErrIndex, by simpa using World.var?_cell g_ErrIndex v_ErrIndex 0, ?_⟩
  obtain ⟨name, u, ty, e1, e2, e3, e4, e5⟩ := h'.2 _ (List.mem_singleton.2 rfl)
  have en : name = [101, 114, 114, 111, 114] := (Option.some.inj e1).symm
  subst en
  obtain rfl := Option.some.inj (rt.symm.trans e2)
  have hm : ty ∈ (List.range 158).filter fun t => Tryd.prog.rowNamed t [101, 114, 114, 111, 114] := List.mem_filter.2 ⟨List.mem_range.2 (by rw [← size]; exact e3), e4⟩
  rw [oneRow] at hm
  obtain rfl := List.mem_singleton.1 hm
  have hh : typeHandle Tryd.prog 24 = .pointer (some ⟨20, 24, none⟩) := by kernel_rfl
  rw [hh] at e5
  simpa using World.var?_cell et e5 0

/-- A world that meets the condition: the settled one, the listed variables laid. -/
noncomputable def low : Nat := (World.holding Tryd.prog default ⟨#[], #[], []⟩).heap.size
/-- A variable's one cell, written over. -/
def putCell (v : Value) : Obj → Obj
  | .cells _ t frozen => .cells #[v] t frozen
  | o => o
noncomputable def laidWorld (os : Os) : World :=
  let w0 := World.holding Tryd.prog os ⟨#[.cells #[.string { data := #[97, 110, 32, 97, 114, 103, 117, 109, 101, 110, 116, 32, 116, 104, 97, 116, 32, 99, 97, 110, 39, 116, 32, 98, 101] }] 146, .cells #[.string { data := #[97, 32, 110, 117, 109, 98, 101, 114, 32, 116, 104, 97, 116, 32, 105, 115, 32, 110, 111, 116, 32, 116, 104, 101, 114, 101] }] 146], #[], []⟩
  { w0 with heap := w0.heap.modify 10 (putCell (.iface 83 (.agg #[.pointer (some ⟨20, 24, none⟩)])))
      |>.modify 1 (putCell (.iface 126 (.pointer (some ⟨low + 0, 0, none⟩))))
      |>.modify 0 (putCell (.iface 126 (.pointer (some ⟨low + 1, 0, none⟩)))) }

theorem laidWorld_met (os : Os) (args : Array Value) : laidMetH Tryd.prog Rows.refineHalvesRow.laid ((laidWorld os).forCall (fun _ _ => 0) ⟨#[], args, []⟩).memory :=
  laidMetH_of_parts (laidMet_of_run' 8 (by kernel_rfl) (by kernel_rfl)) (by kernel_rfl)

set_option maxRecDepth 100000 in
theorem law_lifted (os : Os) (started : os.Started) (H : Type) (enc : TypeId × Value → H) :
    ReturnsInHanded {} Tryd.checked os 4 .any (fun w args => (Rows.refineHalvesSpec.pre enc Tryd.prog Tryd.f4 [] false w args ∧ laidMetH Tryd.prog Rows.refineHalvesRow.laid w) ∧ sizedMet enc Tryd.prog Tryd.f4 (OpenSpec.ofChange Rows.refineHalvesSpec) false w args)
      (Rows.refineHalvesSpec.post enc Tryd.prog Tryd.f4 false true false false) := by
  refine returnsInHanded_of_change_and (C := Tryd.checked) (X := fun w _ => laidMetH Tryd.prog Rows.refineHalvesRow.laid w) (fun _ _ _ hh h => h.of_heap hh) own started (by kernel_rfl) Tryd.func4
    (ChangeSpec.witness_at (enc := enc) (C := Tryd.checked) (os := os) (X := fun w _ => laidMetH Tryd.prog Rows.refineHalvesRow.laid w) false (laidWorld os) #[.int .i64 0, .slice none 0 0] 8 rfl (by kernel_rfl) (by kernel_rfl) (by kernel_rfl) (by kernel_rfl) (by kernel_rfl) (laidWorld_met os _)) ?_
  intro W base args ds gs before hval0 hW _ _ hL _
  have hval : ∀ (j : Nat) t v, Tryd.f4.params[j]? = some t → args[j]? = some v → Value.okWide Tryd.prog W .any base t v := hval0
  have hW' := hW
  obtain ⟨p, q, hA0, hV, hbef, hfz, hnd⟩ := hW
  have hA : DataW.TrodAll enc Tryd.prog W 0 (fun _ => true) true Tryd.f4.params.toList args.toList ds p := hA0
  rw [Tryd.params4] at hA hval
  obtain ⟨rfl, hq⟩ := trodVars_none hV
  obtain ⟨v0, v1, d0, d1, p0, p1, rfl, rfl, hps, h0, h1⟩ := trodAll_two hA
  obtain ⟨n0, rfl, hd0, hp0, hwf0⟩ := open_int Tryd.underlying3 (hval 0 3 v0 rfl rfl) h0
  obtain ⟨m1, cap1, g1, off1, ao1, l1, rfl, hm1, hl1, ha1, hc01, hc11, hwf1⟩ := open_ops Tryd.underlying37 Tryd.underlying40 Tryd.underlying3 Tryd.underlying3 (by kernel_rfl) (by kernel_rfl) (hval 1 37 v1 rfl rfl) h1
  obtain ⟨a_ErrIndex, c_ErrIndex, c_typ⟩ := laid_of hL
  refine (halves_any n0 m1 cap1 g1 off1 ao1 l1 _ W hm1 hl1 ha1 ⟨c_ErrIndex, c_typ⟩ ⟨fun i hi => hc01 i (by omega), fun i hi => hc11 i (by omega)⟩).mono fun r W' ⟨he, hb⟩ => ?_
  subst he
  exact ⟨_, rfl, law_post (P := Tryd.prog) (f := Tryd.f4) (s := Rows.refineHalvesSpec) (by kernel_rfl) (by kernel_rfl) (by kernel_rfl) (by kernel_rfl) rfl rfl Tryd.underlying4 hW' hb rfl⟩

theorem f_holds : Rows.RefineHalvesSaid :=
  OpenClaim.holds_of_wide 4 Tryd.f4 rfl rfl rfl rfl rfl rfl rfl ⟨rfl, rfl, rfl, rfl, rfl⟩ rfl rfl rfl rfl rfl (by kernel_rfl) Tryd.func4 (by kernel_rfl)
    (of_decide_eq_true (by kernel_rfl)) (by unfold Func.isWrapper; first | (rw [if_pos (by decide +kernel)]; kernel_rfl) | (rw [if_neg (by decide +kernel)]; exact ⟨rfl, rfl⟩))
    (fun os started H enc _ => law_lifted os started H enc)

/-- THE TIED CARD. -/
theorem card_holds : Rows.RefineHalvesCardSaid :=
  Claim7.holds_tied_plain_at .later [] [.handle, .sentinel, .sentinel] true (true, "1e66a3270406fa25359c71b4599ddd46d61d5d5ecf6f1cd934c1512319a4734a") true
    f_holds (fun _ h => by cases h) (by kernel_rfl) (fun _ h => by cases h) refineHalves_row_tie rfl ⟨rfl, rfl⟩ (by kernel_rfl) rfl
    (fun f fn hf hfn => by
      obtain rfl : f = 4 := Option.some.inj ((show Tryd.prog.funcNamed "semblance/semblancelaw8.RefineHalves" = some 4 by kernel_rfl).symm.trans hf) |>.symm
      obtain rfl : fn = Tryd.f4 := (Option.some.inj (Tryd.func4.symm.trans hfn)).symm
      exact ⟨by kernel_rfl, fun j t ht => by
        rw [Tryd.params4] at ht
        have h3 : t = 37 ∨ t = 3 := by
          rcases j with _ | _ | j
          · have h4 : 3 = t := by simpa using ht
            subst h4; simp
          · have h4 : 37 = t := by simpa using ht
            subst h4; simp
          · simp at ht
        rcases h3 with rfl | rfl
        · exact (show Tryd.prog.wantsStandIn 37 = false by kernel_rfl)
        · exact (show Tryd.prog.wantsStandIn 3 = false by kernel_rfl)⟩)
    (by kernel_rfl)
end Go.Proofs.YtfkhaldheclheaaDoor.RefineHalves
