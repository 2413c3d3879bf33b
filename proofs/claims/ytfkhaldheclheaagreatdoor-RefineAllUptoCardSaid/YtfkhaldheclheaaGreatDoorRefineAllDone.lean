/-
RefineAll: whatever number, whatever classes and whatever script are handed to it, it returns true: every call of two partitions, in every order, answers as the document says, both are looked at behind every step, and the lists that were answered lie apart.
It is shown where the listed package variables read as the program's text lays them, and, as the given statement asks, where what it reads is of bulk at most 1048576; no other condition. Printed by mkrow.py.
-/
import Derived.Test.YtfkhaldheclheaaGreatDoorRefA9
import Derived.Test.YtfkhaldheclheaaGreatDoorOpen
import Derived.Test.YtfkhaldheclheaaGreatDoorCards
import Derived.Test.YtfkhaldheclheaaGreatDoorTie
import Derived.SevenTiedAt
import Derived.ProofKit
import Derived.ChangeSame
import Derived.ChangeVars
import Derived.JoinedOf
import Derived.RowKit
import Derived.RowKitTokens
import Derived.LaidLaws
import Derived.LaidHandle
import Derived.Stop.Joined
import Derived.Stop.LaidErr
import Derived.Deep.DeepHandedRow
namespace Go.Proofs.YtfkhaldheclheaaGreatDoor.RefineAll
open Go.ChangeShapes Go.WideShapes Go.ChangeAt Go.RowKit

theorem own : ownKnob Tryz.prog.godebug = none := by kernel_rfl
theorem et : Tryz.prog.globalNamed "errors.errorType" = some 10 := by kernel_rfl
theorem rt : (Tryz.prog.cutTypes.find? (·.1 == "internal/reflectlite.rtype")).map (·.2) = some 182 := by kernel_rfl
theorem size : Tryz.prog.types.size = 251 := by kernel_rfl
theorem oneRow : ((List.range 251).filter fun t => Tryz.prog.rowNamed t [101, 114, 114, 111, 114]) = [43] := by kernel_rfl
theorem g_ErrArg : Tryz.prog.globalNamed "semblance/api.ErrArg" = some 0 := by kernel_rfl
theorem t_ErrArg : (Tryz.prog.globals[0]?).map (·.type) = some 43 := by kernel_rfl
theorem g_ErrLong : Tryz.prog.globalNamed "semblance/api.ErrLong" = some 1 := by kernel_rfl
theorem t_ErrLong : (Tryz.prog.globals[1]?).map (·.type) = some 43 := by kernel_rfl
theorem g_ErrIndex : Tryz.prog.globalNamed "semblance/api.ErrIndex" = some 2 := by kernel_rfl
theorem t_ErrIndex : (Tryz.prog.globals[2]?).map (·.type) = some 43 := by kernel_rfl
theorem cellsE : Tryz.prog.cellsOf 239 = 1 := by kernel_rfl
theorem cellsS : Tryz.prog.cellsOf 9 = 1 := by kernel_rfl
theorem star : "*" ++ "errors.errorString" = "*errors.errorString" := by decide
theorem rowE (u : TypeId) (h : Tryz.prog.typeName? 3 u = some "*errors.errorString") : u = 219 :=
  typeName_ptr_named (nm := "errors.errorString") (by rw [star]; kernel_rfl) (by kernel_rfl) (by decide) u (by rw [star]; exact h)

/-- WHAT THE CONDITION GIVES A WALK. -/
theorem laid_of {W : World} (h : laidMetH Tryz.prog Rows.refineAllUptoRow.laid W) : ∃ a_ErrArg a_ErrLong a_ErrIndex : Addr, Sts W a_ErrArg a_ErrLong a_ErrIndex := by
  have h' : laidMet Tryz.prog [("semblance/api.ErrArg", Rows.laid_semblance_api_ErrArg), ("semblance/api.ErrLong", Rows.laid_semblance_api_ErrLong), ("semblance/api.ErrIndex", Rows.laid_semblance_api_ErrIndex), ("semblance/api.ErrWord", Rows.laid_semblance_api_ErrWord), ("semblance/api.ErrSyntax", Rows.laid_semblance_api_ErrSyntax), ("semblance/api.ErrDeep", Rows.laid_semblance_api_ErrDeep), ("semblance/api.ErrTwice", Rows.laid_semblance_api_ErrTwice), ("semblance/api.ErrUnknown", Rows.laid_semblance_api_ErrUnknown), ("semblance/api.ErrSilent", Rows.laid_semblance_api_ErrSilent), ("semblance/api.ErrUnguarded", Rows.laid_semblance_api_ErrUnguarded), ("semblance/api.ErrSteps", Rows.laid_semblance_api_ErrSteps), ("semblance/api.ErrStates", Rows.laid_semblance_api_ErrStates), ("semblance/api.ErrEdges", Rows.laid_semblance_api_ErrEdges), ("semblance/api.ErrSystem", Rows.laid_semblance_api_ErrSystem), ("semblance/api.ErrClasses", Rows.laid_semblance_api_ErrClasses), ("semblance/api.ErrFormula", Rows.laid_semblance_api_ErrFormula), ("semblance/api.ErrLimit", Rows.laid_semblance_api_ErrLimit), ("semblance/api.ErrNone", Rows.laid_semblance_api_ErrNone), ("semblance/api.ErrScript", Rows.laid_semblance_api_ErrScript)] W ∧ handlesMet Tryz.prog [("errors.errorType", Rows.laid_errors_errorType)] W := h
  obtain ⟨a1, a2, s1, s2, c1, c2, t1, t2, v1, v2, k1, e1, _, k2, e2, _, _, b1, b2⟩ := laid_sentinels2 h'.1 g_ErrArg t_ErrArg g_ErrLong t_ErrLong Tryz.underlying43 rowE Tryz.underlying219 Tryz.underlying239 rfl rfl Tryz.underlying9 cellsE cellsS
  obtain ⟨a3, a4, s3, s4, c3, c4, t3, t4, v3, v4, k3, e3, _, k4, e4, _, _, b3, b4⟩ := laid_sentinels2 h'.1.tail g_ErrLong t_ErrLong g_ErrIndex t_ErrIndex Tryz.underlying43 rowE Tryz.underlying219 Tryz.underlying239 rfl rfl Tryz.underlying9 cellsE cellsS
  refine ⟨a1, a2, a4, sent_of g_ErrArg v1 b1, sent_of g_ErrLong v2 b2, sent_of g_ErrIndex v4 b4, cell_string_inj k4 k1 (by rw [e4, e1]; decide), cell_string_inj k4 k2 (by rw [e4, e2]; decide), ?_⟩
  obtain ⟨name, u, ty, e1, e2, e3, e4, e5⟩ := h'.2 _ (List.mem_singleton.2 rfl)
  have en : name = [101, 114, 114, 111, 114] := (Option.some.inj e1).symm
  subst en
  obtain rfl := Option.some.inj (rt.symm.trans e2)
  have hm : ty ∈ (List.range 251).filter fun t => Tryz.prog.rowNamed t [101, 114, 114, 111, 114] := List.mem_filter.2 ⟨List.mem_range.2 (by rw [← size]; exact e3), e4⟩
  rw [oneRow] at hm
  obtain rfl := List.mem_singleton.1 hm
  have hh : typeHandle Tryz.prog 43 = .pointer (some ⟨20, 43, none⟩) := by kernel_rfl
  rw [hh] at e5
  simpa using World.var?_cell et e5 0

/-- A world that meets the condition: the settled one, the listed variables laid. -/
noncomputable def low : Nat := (World.holding Tryz.prog default ⟨#[], #[], []⟩).heap.size
/-- A variable's one cell, written over. -/
def putCell (v : Value) : Obj → Obj
  | .cells _ t frozen => .cells #[v] t frozen
  | o => o
noncomputable def laidWorld (os : Os) : World :=
  let w0 := World.holding Tryz.prog os ⟨#[.cells #[.string { data := #[97, 110, 32, 97, 114, 103, 117, 109, 101, 110, 116, 32, 116, 104, 97, 116, 32, 99, 97, 110, 39, 116, 32, 98, 101] }] 239, .cells #[.string { data := #[116, 111, 111, 32, 108, 111, 110, 103, 44, 32, 111, 114, 32, 116, 111, 111, 32, 109, 97, 110, 121] }] 239, .cells #[.string { data := #[97, 32, 110, 117, 109, 98, 101, 114, 32, 116, 104, 97, 116, 32, 105, 115, 32, 110, 111, 116, 32, 116, 104, 101, 114, 101] }] 239, .cells #[.string { data := #[97, 32, 99, 104, 97, 114, 97, 99, 116, 101, 114, 32, 116, 104, 97, 116, 32, 98, 101, 103, 105, 110, 115, 32, 110, 111, 32, 119, 111, 114, 100] }] 239, .cells #[.string { data := #[97, 32, 119, 111, 114, 100, 32, 116, 104, 97, 116, 32, 99, 97, 110, 39, 116, 32, 115, 116, 97, 110, 100, 32, 116, 104, 101, 114, 101] }] 239, .cells #[.string { data := #[98, 114, 97, 99, 107, 101, 116, 115, 32, 116, 104, 97, 116, 32, 115, 116, 97, 110, 100, 32, 116, 111, 111, 32, 100, 101, 101, 112] }] 239, .cells #[.string { data := #[115, 111, 109, 101, 116, 104, 105, 110, 103, 32, 116, 104, 97, 116, 32, 115, 116, 97, 110, 100, 115, 32, 116, 104, 101, 114, 101, 32, 97, 108, 114, 101, 97, 100, 121] }] 239, .cells #[.string { data := #[97, 32, 110, 97, 109, 101, 32, 116, 104, 97, 116, 32, 105, 115, 32, 110, 111, 116, 32, 116, 104, 101, 114, 101] }] 239, .cells #[.string { data := #[116, 104, 101, 32, 115, 105, 108, 101, 110, 116, 32, 97, 99, 116, 105, 111, 110, 44, 32, 119, 104, 101, 114, 101, 32, 105, 116, 32, 99, 97, 110, 39, 116, 32, 115, 116, 97, 110, 100] }] 239, .cells #[.string { data := #[97, 32, 99, 111, 110, 115, 116, 97, 110, 116, 32, 116, 104, 97, 116, 32, 110, 101, 101, 100, 115, 32, 105, 116, 115, 101, 108, 102, 32, 102, 105, 114, 115, 116] }] 239, .cells #[.string { data := #[97, 32, 116, 101, 114, 109, 32, 119, 105, 116, 104, 32, 116, 111, 111, 32, 109, 97, 110, 121, 32, 115, 116, 101, 112, 115] }] 239, .cells #[.string { data := #[116, 111, 111, 32, 109, 97, 110, 121, 32, 115, 116, 97, 116, 101, 115] }] 239, .cells #[.string { data := #[116, 111, 111, 32, 109, 97, 110, 121, 32, 101, 100, 103, 101, 115] }] 239, .cells #[.string { data := #[97, 32, 115, 121, 115, 116, 101, 109, 32, 116, 104, 97, 116, 32, 105, 115, 32, 110, 111, 110, 101] }] 239, .cells #[.string { data := #[99, 108, 97, 115, 115, 101, 115, 32, 116, 104, 97, 116, 32, 97, 114, 101, 32, 110, 111, 110, 101] }] 239, .cells #[.string { data := #[97, 32, 102, 111, 114, 109, 117, 108, 97, 32, 116, 104, 97, 116, 32, 105, 115, 32, 110, 111, 110, 101] }] 239, .cells #[.string { data := #[97, 32, 102, 111, 114, 109, 117, 108, 97, 32, 116, 104, 97, 116, 32, 119, 111, 117, 108, 100, 32, 98, 101, 32, 116, 111, 111, 32, 103, 114, 101, 97, 116] }] 239, .cells #[.string { data := #[116, 104, 101, 114, 101, 32, 105, 115, 32, 110, 111, 110, 101] }] 239, .cells #[.string { data := #[97, 32, 115, 99, 114, 105, 112, 116, 32, 116, 104, 97, 116, 32, 105, 115, 32, 110, 111, 110, 101] }] 239], #[], []⟩
  { w0 with heap := w0.heap.modify 10 (putCell (.iface 182 (.agg #[.pointer (some ⟨20, 43, none⟩)])))
      |>.modify 0 (putCell (.iface 219 (.pointer (some ⟨low + 0, 0, none⟩))))
      |>.modify 1 (putCell (.iface 219 (.pointer (some ⟨low + 1, 0, none⟩))))
      |>.modify 2 (putCell (.iface 219 (.pointer (some ⟨low + 2, 0, none⟩))))
      |>.modify 3 (putCell (.iface 219 (.pointer (some ⟨low + 3, 0, none⟩))))
      |>.modify 4 (putCell (.iface 219 (.pointer (some ⟨low + 4, 0, none⟩))))
      |>.modify 5 (putCell (.iface 219 (.pointer (some ⟨low + 5, 0, none⟩))))
      |>.modify 6 (putCell (.iface 219 (.pointer (some ⟨low + 6, 0, none⟩))))
      |>.modify 7 (putCell (.iface 219 (.pointer (some ⟨low + 7, 0, none⟩))))
      |>.modify 8 (putCell (.iface 219 (.pointer (some ⟨low + 8, 0, none⟩))))
      |>.modify 9 (putCell (.iface 219 (.pointer (some ⟨low + 9, 0, none⟩))))
      |>.modify 11 (putCell (.iface 219 (.pointer (some ⟨low + 10, 0, none⟩))))
      |>.modify 12 (putCell (.iface 219 (.pointer (some ⟨low + 11, 0, none⟩))))
      |>.modify 13 (putCell (.iface 219 (.pointer (some ⟨low + 12, 0, none⟩))))
      |>.modify 14 (putCell (.iface 219 (.pointer (some ⟨low + 13, 0, none⟩))))
      |>.modify 15 (putCell (.iface 219 (.pointer (some ⟨low + 14, 0, none⟩))))
      |>.modify 16 (putCell (.iface 219 (.pointer (some ⟨low + 15, 0, none⟩))))
      |>.modify 17 (putCell (.iface 219 (.pointer (some ⟨low + 16, 0, none⟩))))
      |>.modify 18 (putCell (.iface 219 (.pointer (some ⟨low + 17, 0, none⟩))))
      |>.modify 19 (putCell (.iface 219 (.pointer (some ⟨low + 18, 0, none⟩)))) }

theorem laidWorld_met (os : Os) (args : Array Value) : laidMetH Tryz.prog Rows.refineAllUptoRow.laid ((laidWorld os).forCall (fun _ _ => 0) ⟨#[], args, []⟩).memory :=
  laidMetH_of_parts (laidMet_of_run' 8 (by kernel_rfl) (by kernel_rfl)) (by kernel_rfl)

set_option maxRecDepth 100000 in
theorem reads (os : Os) {H : Type} (enc : TypeId × Value → H) : ∃ places, DataW.whole enc Tryz.prog ((laidWorld os).forCall (fun _ _ => 0) ⟨#[], #[.int .i64 0, .slice none 0 0, .slice none 0 0], []⟩).memory Tryz.f4.params.toList Rows.refineAllSpec.vars false #[.int .i64 0, .slice none 0 0, .slice none 0 0].toList 8 = some ([.lit (.int .i64 0), .nil, .nil], [], places) :=
  ⟨[], by kernel_rfl⟩

set_option maxRecDepth 100000 in
theorem law_lifted (os : Os) (started : os.Started) (H : Type) (enc : TypeId × Value → H) (F : Stop.Interp) :
    ReturnsInHanded {} Tryz.checked os 4 .any ((Rows.OpenSpec.upto Rows.refineAllSpec).preRow enc Tryz.prog Tryz.f4 Rows.refineAllUptoRow.domain false Rows.refineAllUptoRow.laid) (((Rows.OpenSpec.upto Rows.refineAllSpec).at F).post enc Tryz.prog Tryz.f4 false true false false) := by
  obtain ⟨places, hx⟩ := reads os enc
  refine returnsInHanded_of_row (C := Tryz.checked) (s := Rows.OpenSpec.upto Rows.refineAllSpec) own started (by kernel_rfl) Tryz.func4
    (witness_row_at (enc := enc) (C := Tryz.checked) false (laidWorld os) #[.int .i64 0, .slice none 0 0, .slice none 0 0] rfl (by kernel_rfl) (by kernel_rfl) (by kernel_rfl)
      (OpenSpec.preRow_of_cond 8 hx (by kernel_rfl) (fun k hk => by cases hk; kernel_rfl) (by kernel_rfl) (laidWorld_met os _))) ?_
  intro W base args ds gs before hval0 hW _ _ _ hL _ _
  have hval : ∀ (j : Nat) t v, Tryz.f4.params[j]? = some t → args[j]? = some v → Value.okWide Tryz.prog W .any base t v := hval0
  have hW' := hW
  obtain ⟨p, q, hA0, hV, hbef, hfz, hnd⟩ := hW
  have hA : DataW.TrodAll enc Tryz.prog W 0 (fun _ => true) true Tryz.f4.params.toList args.toList ds p := hA0
  rw [Tryz.params4] at hA hval
  obtain ⟨rfl, hq⟩ := trodVars_none hV
  obtain ⟨v0, v1, v2, d0, d1, d2, p0, p1, p2, rfl, rfl, hps, h0, h1, h2⟩ := trodAll_three hA
  obtain ⟨n0, rfl, hd0, hp0, hwf0⟩ := open_int Tryz.underlying3 (hval 0 3 v0 rfl rfl) h0
  obtain ⟨cap1, g1, off1, ao1, l1, rfl, hl1, ha1, hc1, hwf1⟩ := open_intl Tryz.underlying22 Tryz.underlying3 (by kernel_rfl) (hval 1 22 v1 rfl rfl) h1
  obtain ⟨m2, cap2, g2, off2, ao2, l2, rfl, hm2, hl2, ha2, hc02, hc12, hwf2⟩ := open_ops Tryz.underlying23 Tryz.underlying65 Tryz.underlying3 Tryz.underlying3 (by kernel_rfl) (by kernel_rfl) (hval 2 23 v2 rfl rfl) h2
  obtain ⟨a_ErrArg, a_ErrLong, a_ErrIndex, c_sts⟩ := laid_of hL
  refine (all_any ⟨by unfold maxLen at hl1; omega, ha1, hc1, hwf1, by unfold maxLen at hm2; omega, ha2, fun i hi => hc02 i (by omega), fun i hi => hc12 i (by omega)⟩ c_sts).mono fun r W' ⟨he, hb⟩ => ?_
  subst he
  exact ⟨_, rfl, law_post (P := Tryz.prog) (f := Tryz.f4) (s := Rows.refineAllSpec) (by kernel_rfl) (by kernel_rfl) (by kernel_rfl) (by kernel_rfl) rfl rfl Tryz.underlying4 hW' hb rfl⟩

theorem f_holds : Rows.RefineAllUptoSaid :=
  OpenClaim.holds_of_cond 4 Tryz.f4 rfl rfl rfl rfl rfl rfl rfl ⟨rfl, rfl, rfl, rfl, rfl⟩ rfl rfl rfl rfl rfl (by kernel_rfl) Tryz.func4 (by kernel_rfl)
    (of_decide_eq_true (by kernel_rfl)) (by unfold Func.isWrapper; first | (rw [if_pos (by decide +kernel)]; kernel_rfl) | (rw [if_neg (by decide +kernel)]; exact ⟨rfl, rfl⟩))
    (fun os started H enc _ F => by rw [OpenClaim.pre_eq_preRow]; exact law_lifted os started H enc F)

/-- THE TIED CARD. -/
theorem card_holds : Rows.RefineAllUptoCardSaid :=
  Claim7.holds_tied_plain_at .later [] [.handle, .sentinel, .sentinel, .sentinel, .sentinel, .sentinel, .sentinel, .sentinel, .sentinel, .sentinel, .sentinel, .sentinel, .sentinel, .sentinel, .sentinel, .sentinel, .sentinel, .sentinel, .sentinel, .sentinel] true (true, "8c62c9bfe6499f8ff7d2f83f93dbb8dfebb0024dedbc0e0fb6ed561ebb40c922") true
    f_holds (fun _ h => by cases h) (by kernel_rfl) (fun _ h => by cases h) refineAllUpto_row_tie rfl ⟨rfl, rfl⟩ (by kernel_rfl) rfl
    (fun f fn hf hfn => by
      obtain rfl : f = 4 := Option.some.inj ((show Tryz.prog.funcNamed "semblance/semblancelaw8.RefineAll" = some 4 by kernel_rfl).symm.trans hf) |>.symm
      obtain rfl : fn = Tryz.f4 := (Option.some.inj (Tryz.func4.symm.trans hfn)).symm
      exact ⟨by kernel_rfl, fun j t ht => by
        rw [Tryz.params4] at ht
        have h3 : t = 22 ∨ t = 23 ∨ t = 3 := by
          rcases j with _ | _ | _ | j
          · have h4 : 3 = t := by simpa using ht
            subst h4; simp
          · have h4 : 22 = t := by simpa using ht
            subst h4; simp
          · have h4 : 23 = t := by simpa using ht
            subst h4; simp
          · simp at ht
        rcases h3 with rfl | rfl | rfl
        · exact (show Tryz.prog.wantsStandIn 22 = false by kernel_rfl)
        · exact (show Tryz.prog.wantsStandIn 23 = false by kernel_rfl)
        · exact (show Tryz.prog.wantsStandIn 3 = false by kernel_rfl)⟩)
    (by kernel_rfl)
end Go.Proofs.YtfkhaldheclheaaGreatDoor.RefineAll
