/-
DistinguishTells: whatever system and whatever two numbers are handed to it, it returns true: of two states that are apart the formula holds at the first one and not at the second one, and is as deep as their rank; of two that are together Compare tells so, with the classes of strong bisimilarity.
It is shown where the listed package variables read as the program's text lays them; no other condition. Printed by mkrow.py.
-/
import Derived.Test.YtkcdkfkgjjpaaaaGreatDoorClosed
import Derived.Test.YtkcdkfkgjjpaaaaGreatDoorDtTellsW
import Derived.Test.YtkcdkfkgjjpaaaaGreatDoorSyOpen
import Derived.Test.YtkcdkfkgjjpaaaaGreatDoorOpen
import Derived.Test.YtkcdkfkgjjpaaaaGreatDoorCards
import Derived.Test.YtkcdkfkgjjpaaaaGreatDoorTie
import Derived.SevenTiedAt
import Derived.ProofKit
import Derived.ChangeSame
import Derived.ChangeVars
import Derived.JoinedOf
import Derived.RowKit
import Derived.RowKitTokens
import Derived.LaidLaws
import Derived.LaidHandle
import Derived.Stop.Joined
import Derived.Stop.LaidErr
import Derived.Deep.DeepHandedRow
namespace Go.Proofs.YtkcdkfkgjjpaaaaGreatDoor.DistinguishTells
open Go.ChangeShapes Go.WideShapes Go.ChangeAt Go.RowKit

theorem own : ownKnob Tryz.prog.godebug = none := by kernel_rfl
theorem et : Tryz.prog.globalNamed "errors.errorType" = some 5 := by kernel_rfl
theorem rt : (Tryz.prog.cutTypes.find? (·.1 == "internal/reflectlite.rtype")).map (·.2) = some 176 := by kernel_rfl
theorem size : Tryz.prog.types.size = 386 := by kernel_rfl
theorem oneRow : ((List.range 386).filter fun t => Tryz.prog.rowNamed t [101, 114, 114, 111, 114]) = [31] := by kernel_rfl
theorem g_ErrSystem : Tryz.prog.globalNamed "semblance/api.ErrSystem" = some 2 := by kernel_rfl
theorem t_ErrSystem : (Tryz.prog.globals[2]?).map (·.type) = some 31 := by kernel_rfl
theorem g_ErrLong : Tryz.prog.globalNamed "semblance/api.ErrLong" = some 4 := by kernel_rfl
theorem t_ErrLong : (Tryz.prog.globals[4]?).map (·.type) = some 31 := by kernel_rfl
theorem g_ErrIndex : Tryz.prog.globalNamed "semblance/api.ErrIndex" = some 3 := by kernel_rfl
theorem t_ErrIndex : (Tryz.prog.globals[3]?).map (·.type) = some 31 := by kernel_rfl
theorem g_ErrLimit : Tryz.prog.globalNamed "semblance/api.ErrLimit" = some 0 := by kernel_rfl
theorem t_ErrLimit : (Tryz.prog.globals[0]?).map (·.type) = some 31 := by kernel_rfl
theorem g_ErrNone : Tryz.prog.globalNamed "semblance/api.ErrNone" = some 1 := by kernel_rfl
theorem t_ErrNone : (Tryz.prog.globals[1]?).map (·.type) = some 31 := by kernel_rfl
theorem g_tab : Tryz.prog.globalNamed "internal/strconv.uint64pow10" = some 20 := by kernel_rfl
theorem t_tab : (Tryz.prog.globals[20]?).map (·.type) = some 348 := by kernel_rfl
theorem cellsE : Tryz.prog.cellsOf 374 = 1 := by kernel_rfl
theorem cellsS : Tryz.prog.cellsOf 9 = 1 := by kernel_rfl
theorem star : "*" ++ "errors.errorString" = "*errors.errorString" := by decide
theorem rowE (u : TypeId) (h : Tryz.prog.typeName? 3 u = some "*errors.errorString") : u = 354 :=
  typeName_ptr_named (nm := "errors.errorString") (by rw [star]; kernel_rfl) (by kernel_rfl) (by decide) u (by rw [star]; exact h)

/-- WHAT THE CONDITION GIVES A WALK. -/
theorem laid_of {W : World} (h : laidMetH Tryz.prog Rows.distinguishTellsRow.laid W) : ∃ a_ErrSystem a_ErrLong a_ErrIndex a_ErrLimit a_ErrNone : Addr, TellSent W a_ErrSystem a_ErrLong a_ErrIndex a_ErrNone a_ErrLimit ∧ Tab W ∧ W.cell? ⟨5, 0, none⟩ = some (.iface 176 (.agg #[.pointer (some ⟨23, 31, none⟩)])) := by
  have h' : laidMet Tryz.prog [("math/bits.deBruijn32tab", Rows.laid_math_bits_deBruijn32tab), ("math/bits.deBruijn64tab", Rows.laid_math_bits_deBruijn64tab), ("internal/strconv.uint64pow10", Rows.laid_internal_strconv_uint64pow10), ("semblance/api.ErrArg", Rows.laid_semblance_api_ErrArg), ("semblance/api.ErrLong", Rows.laid_semblance_api_ErrLong), ("semblance/api.ErrIndex", Rows.laid_semblance_api_ErrIndex), ("semblance/api.ErrSystem", Rows.laid_semblance_api_ErrSystem), ("semblance/api.ErrFormula", Rows.laid_semblance_api_ErrFormula), ("semblance/api.ErrLimit", Rows.laid_semblance_api_ErrLimit), ("semblance/api.ErrNone", Rows.laid_semblance_api_ErrNone)] W ∧ handlesMet Tryz.prog [("errors.errorType", Rows.laid_errors_errorType)] W := h
  obtain ⟨a_ErrLimit, a_ErrNone, s_l, s_n, c_l, c_n, y_l, y_n, v_ErrLimit, v_ErrNone, k_l, e_l, _, _, _, _, ne_ln, b_ErrLimit, b_ErrNone⟩ := laid_sentinels2 h'.1.tail.tail.tail.tail.tail.tail.tail.tail g_ErrLimit t_ErrLimit g_ErrNone t_ErrNone Tryz.underlying31 rowE Tryz.underlying354 Tryz.underlying374 rfl rfl Tryz.underlying9 cellsE cellsS
  obtain ⟨a_ErrIndex, a_ErrSystem, s_i, s_s, c_i, c_s, y_i, y_s, v_ErrIndex, v_ErrSystem, k_i, e_i, _, k_s, e_s, _, _, b_ErrIndex, b_ErrSystem⟩ := laid_sentinels2 h'.1.tail.tail.tail.tail.tail g_ErrIndex t_ErrIndex g_ErrSystem t_ErrSystem Tryz.underlying31 rowE Tryz.underlying354 Tryz.underlying374 rfl rfl Tryz.underlying9 cellsE cellsS
  obtain ⟨a_ErrLong, s_ErrLong, v_ErrLong, _, _, _⟩ := laid_sentinel h'.1.tail.tail.tail.tail g_ErrLong t_ErrLong Tryz.underlying31 rowE Tryz.underlying354 Tryz.underlying374 rfl rfl Tryz.underlying9 cellsE cellsS
  refine ⟨a_ErrSystem, a_ErrLong, a_ErrIndex, a_ErrLimit, a_ErrNone, ⟨⟨by simpa using World.var?_cell g_ErrSystem v_ErrSystem 0, by simpa using World.var?_cell g_ErrLong v_ErrLong 0, by simpa using World.var?_cell g_ErrIndex v_ErrIndex 0, by simpa using World.var?_cell g_ErrNone v_ErrNone 0, by simpa using World.var?_cell g_ErrLimit v_ErrLimit 0, ne_ln, ⟨_, _, b_ErrNone⟩, ⟨_, _, b_ErrLimit⟩⟩, cell_string_inj k_i k_l (by rw [e_i, e_l]; decide), cell_string_inj k_s k_l (by rw [e_s, e_l]; decide), ⟨_, _, b_ErrIndex⟩, ⟨_, _, b_ErrSystem⟩⟩, Lib.tabIs_of_head g_tab t_tab Tryz.underlying348 Tryz.underlying251 (by kernel_rfl) (by kernel_rfl) h'.1.tail.tail, ?_⟩
  obtain ⟨name, u, ty, e1, e2, e3, e4, e5⟩ := h'.2 _ (List.mem_singleton.2 rfl)
  have en : name = [101, 114, 114, 111, 114] := (Option.some.inj e1).symm
  subst en
  obtain rfl := Option.some.inj (rt.symm.trans e2)
  have hm : ty ∈ (List.range 386).filter fun t => Tryz.prog.rowNamed t [101, 114, 114, 111, 114] := List.mem_filter.2 ⟨List.mem_range.2 (by rw [← size]; exact e3), e4⟩
  rw [oneRow] at hm
  obtain rfl := List.mem_singleton.1 hm
  have hh : typeHandle Tryz.prog 31 = .pointer (some ⟨23, 31, none⟩) := by kernel_rfl
  rw [hh] at e5
  simpa using World.var?_cell et e5 0

/-- A world that meets the condition: the settled one, the listed variables laid. -/
noncomputable def low : Nat := (World.holding Tryz.prog default ⟨#[], #[], []⟩).heap.size
/-- A variable's one cell, written over. -/
def putCell (v : Value) : Obj → Obj
  | .cells _ t frozen => .cells #[v] t frozen
  | o => o
/-- A table's cells, written over. -/
def putTab (vs : Array Value) : Obj → Obj
  | .cells _ t frozen => .cells vs t frozen
  | o => o
noncomputable def laidWorld (os : Os) : World :=
  let w0 := World.holding Tryz.prog os ⟨#[.cells #[.string { data := #[97, 110, 32, 97, 114, 103, 117, 109, 101, 110, 116, 32, 116, 104, 97, 116, 32, 99, 97, 110, 39, 116, 32, 98, 101] }] 374, .cells #[.string { data := #[116, 111, 111, 32, 108, 111, 110, 103, 44, 32, 111, 114, 32, 116, 111, 111, 32, 109, 97, 110, 121] }] 374, .cells #[.string { data := #[97, 32, 110, 117, 109, 98, 101, 114, 32, 116, 104, 97, 116, 32, 105, 115, 32, 110, 111, 116, 32, 116, 104, 101, 114, 101] }] 374, .cells #[.string { data := #[97, 32, 115, 121, 115, 116, 101, 109, 32, 116, 104, 97, 116, 32, 105, 115, 32, 110, 111, 110, 101] }] 374, .cells #[.string { data := #[97, 32, 102, 111, 114, 109, 117, 108, 97, 32, 116, 104, 97, 116, 32, 105, 115, 32, 110, 111, 110, 101] }] 374, .cells #[.string { data := #[97, 32, 102, 111, 114, 109, 117, 108, 97, 32, 116, 104, 97, 116, 32, 119, 111, 117, 108, 100, 32, 98, 101, 32, 116, 111, 111, 32, 103, 114, 101, 97, 116] }] 374, .cells #[.string { data := #[116, 104, 101, 114, 101, 32, 105, 115, 32, 110, 111, 110, 101] }] 374], #[], []⟩
  { w0 with heap := w0.heap.modify 5 (putCell (.iface 176 (.agg #[.pointer (some ⟨23, 31, none⟩)])))
      |>.modify 21 (putTab #[.int .u8 0, .int .u8 1, .int .u8 28, .int .u8 2, .int .u8 29, .int .u8 14, .int .u8 24, .int .u8 3, .int .u8 30, .int .u8 22, .int .u8 20, .int .u8 15, .int .u8 25, .int .u8 17, .int .u8 4, .int .u8 8, .int .u8 31, .int .u8 27, .int .u8 13, .int .u8 23, .int .u8 21, .int .u8 19, .int .u8 16, .int .u8 7, .int .u8 26, .int .u8 12, .int .u8 18, .int .u8 6, .int .u8 11, .int .u8 5, .int .u8 10, .int .u8 9])
      |>.modify 22 (putTab #[.int .u8 0, .int .u8 1, .int .u8 56, .int .u8 2, .int .u8 57, .int .u8 49, .int .u8 28, .int .u8 3, .int .u8 61, .int .u8 58, .int .u8 42, .int .u8 50, .int .u8 38, .int .u8 29, .int .u8 17, .int .u8 4, .int .u8 62, .int .u8 47, .int .u8 59, .int .u8 36, .int .u8 45, .int .u8 43, .int .u8 51, .int .u8 22, .int .u8 53, .int .u8 39, .int .u8 33, .int .u8 30, .int .u8 24, .int .u8 18, .int .u8 12, .int .u8 5, .int .u8 63, .int .u8 55, .int .u8 48, .int .u8 27, .int .u8 60, .int .u8 41, .int .u8 37, .int .u8 16, .int .u8 46, .int .u8 35, .int .u8 44, .int .u8 21, .int .u8 52, .int .u8 32, .int .u8 23, .int .u8 11, .int .u8 54, .int .u8 26, .int .u8 40, .int .u8 15, .int .u8 34, .int .u8 20, .int .u8 31, .int .u8 10, .int .u8 25, .int .u8 14, .int .u8 19, .int .u8 9, .int .u8 13, .int .u8 8, .int .u8 7, .int .u8 6])
      |>.modify 20 (putTab #[.int .u64 1, .int .u64 10, .int .u64 100, .int .u64 1000, .int .u64 10000, .int .u64 100000, .int .u64 1000000, .int .u64 10000000, .int .u64 100000000, .int .u64 1000000000, .int .u64 10000000000, .int .u64 100000000000, .int .u64 1000000000000, .int .u64 10000000000000, .int .u64 100000000000000, .int .u64 1000000000000000, .int .u64 10000000000000000, .int .u64 100000000000000000, .int .u64 1000000000000000000, .int .u64 10000000000000000000])
      |>.modify 6 (putCell (.iface 354 (.pointer (some ⟨low + 0, 0, none⟩))))
      |>.modify 4 (putCell (.iface 354 (.pointer (some ⟨low + 1, 0, none⟩))))
      |>.modify 3 (putCell (.iface 354 (.pointer (some ⟨low + 2, 0, none⟩))))
      |>.modify 2 (putCell (.iface 354 (.pointer (some ⟨low + 3, 0, none⟩))))
      |>.modify 14 (putCell (.iface 354 (.pointer (some ⟨low + 4, 0, none⟩))))
      |>.modify 0 (putCell (.iface 354 (.pointer (some ⟨low + 5, 0, none⟩))))
      |>.modify 1 (putCell (.iface 354 (.pointer (some ⟨low + 6, 0, none⟩)))) }

/-! The closed facts of the row, each by itself. -/
theorem closed1 : part1 Tryz.prog Rows.distinguishTellsSpec Rows.distinguishTellsRow = true := by kernel_rfl
theorem closed2 : mapsRowed Tryz.prog = true := by kernel_rfl
theorem closed3 : part3 Tryz.prog Tryz.f8 Rows.distinguishTellsSpec Rows.distinguishTellsRow = true := by kernel_rfl
theorem closedB1 : (Rows.distinguishTellsRow.inPlace == Tryz.prog.inPlace 8) = true := by kernel_rfl
theorem closedB2 : (Rows.distinguishTellsRow.unfollowed == Tryz.prog.unfollowed 8) = true := by kernel_rfl
theorem closedB3 : (Rows.distinguishTellsRow.recurses == Tryz.prog.recurses 8) = true := by kernel_rfl
theorem closedB4 : (Rows.distinguishTellsRow.named == Tryz.prog.varsNamed 8) = true := by kernel_rfl
theorem closed4 : part4 Tryz.prog Tryz.f8 Rows.distinguishTellsSpec Rows.distinguishTellsRow = true := by kernel_rfl
theorem closed5 : part5 Tryz.prog Rows.distinguishTellsRow = true := by kernel_rfl
theorem closed6 : Tryz.prog.mayEnter = true := by kernel_rfl
theorem closed7 : part7 Tryz.prog Tryz.f8 Rows.distinguishTellsSpec Rows.distinguishTellsRow = true := by kernel_rfl
theorem closed : joinedFacts Tryz.prog 8 Tryz.f8 Rows.distinguishTellsSpec Rows.distinguishTellsRow = true := joined_of closed1 closed2 closed3 closedB1 closedB2 closedB3 closedB4 closed4 closed5 closed6 closed7

theorem laidWorld_met (os : Os) (args : Array Value) : laidMetH Tryz.prog Rows.distinguishTellsRow.laid ((laidWorld os).forCall (fun _ _ => 0) ⟨#[], args, []⟩).memory :=
  laidMetH_of_parts (laidMet_of_run' 8 (by kernel_rfl) (by kernel_rfl)) (by kernel_rfl)

set_option maxRecDepth 100000 in
theorem law_lifted (os : Os) (started : os.Started) (H : Type) (enc : TypeId × Value → H) :
    ReturnsInHanded {} Tryz.checked os 8 .any (fun w args => (Rows.distinguishTellsSpec.pre enc Tryz.prog Tryz.f8 [] false w args ∧ laidMetH Tryz.prog Rows.distinguishTellsRow.laid w) ∧ sizedMet enc Tryz.prog Tryz.f8 (OpenSpec.ofChange Rows.distinguishTellsSpec) false w args)
      (Rows.distinguishTellsSpec.post enc Tryz.prog Tryz.f8 false true false false) := by
  refine returnsInHanded_of_change_and (C := Tryz.checked) (X := fun w _ => laidMetH Tryz.prog Rows.distinguishTellsRow.laid w) (fun _ _ _ hh h => h.of_heap hh) own started (by kernel_rfl) Tryz.func8
    (ChangeSpec.witness_at (enc := enc) (C := Tryz.checked) (os := os) (X := fun w _ => laidMetH Tryz.prog Rows.distinguishTellsRow.laid w) false (laidWorld os) #[.agg #[.int .i64 0, .int .i64 0, .int .i64 0, .slice none 0 0], .int .i64 0, .int .i64 0] 8 rfl (by kernel_rfl) (by kernel_rfl) (by kernel_rfl) (by kernel_rfl) (by kernel_rfl) (laidWorld_met os _)) ?_
  intro W base args ds gs before hval0 hW _ _ hL _
  have hval : ∀ (j : Nat) t v, Tryz.f8.params[j]? = some t → args[j]? = some v → Value.okWide Tryz.prog W .any base t v := hval0
  have hW' := hW
  obtain ⟨p, q, hAll0, hV, hbef, hfz, hnd⟩ := hW
  have hA : DataW.TrodAll enc Tryz.prog W 0 (fun _ => true) true Tryz.f8.params.toList args.toList ds p := hAll0
  rw [Tryz.params8] at hA hval
  obtain ⟨rfl, hq⟩ := trodVars_none hV
  obtain ⟨v0, v1, v2, d0, d1, d2, p0, p1, p2, rfl, rfl, hps, h0, h1, h2⟩ := trodAll_three hA
  obtain ⟨s0, se0, rfl, hs0, hl0, wn0, wm0, ws0⟩ := open_sys Tryz.underlying27 Tryz.underlying3 Tryz.underlying3 Tryz.underlying3 Tryz.underlying25 Tryz.underlying67 Tryz.underlying3 Tryz.underlying3 Tryz.underlying3 (by kernel_rfl) (by kernel_rfl) (by kernel_rfl) (by kernel_rfl) (hval 0 27 v0 rfl rfl) h0
  obtain ⟨n1, rfl, hd1, hp1, hwf1⟩ := open_int Tryz.underlying3 (hval 1 3 v1 rfl rfl) h1
  obtain ⟨n2, rfl, hd2, hp2, hwf2⟩ := open_int Tryz.underlying3 (hval 2 3 v2 rfl rfl) h2
  obtain ⟨a_ErrSystem, a_ErrLong, a_ErrIndex, a_ErrLimit, a_ErrNone, c_tell, c_tab, c_typ⟩ := laid_of hL
  refine (tellsLaw_any hs0 hl0 n1 n2 c_tell c_tab c_typ).mono fun r W' ⟨he, hb⟩ => ?_
  subst he
  exact ⟨_, rfl, law_post (P := Tryz.prog) (f := Tryz.f8) (s := Rows.distinguishTellsSpec) (by kernel_rfl) (by kernel_rfl) (by kernel_rfl) (by kernel_rfl) rfl rfl Tryz.underlying4 hW' hb rfl⟩

theorem f_holds : Rows.DistinguishTellsSaid :=
  OpenClaim.holds_of_wide 8 Tryz.f8 rfl rfl rfl rfl rfl rfl rfl ⟨rfl, rfl, rfl, rfl, rfl⟩ rfl rfl rfl rfl rfl (by kernel_rfl) Tryz.func8 closed
    (of_decide_eq_true (by kernel_rfl)) (by unfold Func.isWrapper; first | (rw [if_pos (by decide +kernel)]; kernel_rfl) | (rw [if_neg (by decide +kernel)]; exact ⟨rfl, rfl⟩))
    (fun os started H enc _ => law_lifted os started H enc)

/-- THE TIED CARD. -/
theorem card_holds : Rows.DistinguishTellsCardSaid :=
  Claim7.holds_tied_plain_at .later [] [.data, .data, .data, .handle, .sentinel, .sentinel, .sentinel, .sentinel, .sentinel, .sentinel, .sentinel] true (true, "640783b8a95bee0a1a9ea958b4aebd2626a11cf09f7687271e982e8569d1b72f") true
    f_holds (fun _ h => by cases h) (by kernel_rfl) (fun _ h => by cases h) distinguishTells_row_tie rfl ⟨rfl, rfl⟩ (by kernel_rfl) rfl
    (fun f fn hf hfn => by
      obtain rfl : f = 8 := Option.some.inj ((show Tryz.prog.funcNamed "semblance/semblancelaw16.DistinguishTells" = some 8 by kernel_rfl).symm.trans hf) |>.symm
      obtain rfl : fn = Tryz.f8 := (Option.some.inj (Tryz.func8.symm.trans hfn)).symm
      exact ⟨by kernel_rfl, fun j t ht => by
        rw [Tryz.params8] at ht
        have h3 : t = 27 ∨ t = 3 := by
          rcases j with _ | _ | _ | j
          · have h4 : 27 = t := by simpa using ht
            subst h4; simp
          · have h4 : 3 = t := by simpa using ht
            subst h4; simp
          · have h4 : 3 = t := by simpa using ht
            subst h4; simp
          · simp at ht
        rcases h3 with rfl | rfl
        · exact (show Tryz.prog.wantsStandIn 27 = false by kernel_rfl)
        · exact (show Tryz.prog.wantsStandIn 3 = false by kernel_rfl)⟩)
    (by kernel_rfl)
end Go.Proofs.YtkcdkfkgjjpaaaaGreatDoor.DistinguishTells
