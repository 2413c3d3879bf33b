/-
TermAll: whatever terms are handed to it, it returns true: the lists that Get and Consts answered lie apart, and what is put does not change.
It is shown where the listed package variables read as the program's text lays them, and, as the given statement asks, where what it reads is of bulk at most 1048576; no other condition. Printed by mkrow.py.
-/
import Derived.Test.YtiiieailimphnaaGreatDoorTmAll
import Derived.Test.YtiiieailimphnaaGreatDoorTmOpen2
import Derived.Test.YtiiieailimphnaaGreatDoorOpen
import Derived.Test.YtiiieailimphnaaGreatDoorCards
import Derived.Test.YtiiieailimphnaaGreatDoorTie
import Derived.SevenTiedAt
import Derived.ProofKit
import Derived.ChangeSame
import Derived.ChangeVars
import Derived.JoinedOf
import Derived.RowKit
import Derived.RowKitTokens
import Derived.LaidLaws
import Derived.LaidHandle
import Derived.Stop.Joined
import Derived.Stop.LaidErr
import Derived.Deep.DeepHandedRow
namespace Go.Proofs.YtiiieailimphnaaGreatDoor.TermAll
open Go.ChangeShapes Go.WideShapes Go.ChangeAt Go.RowKit

theorem own : ownKnob Tryz.prog.godebug = none := by kernel_rfl
theorem g_ErrArg : Tryz.prog.globalNamed "semblance/api.ErrArg" = some 0 := by kernel_rfl
theorem t_ErrArg : (Tryz.prog.globals[0]?).map (·.type) = some 51 := by kernel_rfl
theorem g_ErrLong : Tryz.prog.globalNamed "semblance/api.ErrLong" = some 2 := by kernel_rfl
theorem t_ErrLong : (Tryz.prog.globals[2]?).map (·.type) = some 51 := by kernel_rfl
theorem g_ErrIndex : Tryz.prog.globalNamed "semblance/api.ErrIndex" = some 1 := by kernel_rfl
theorem t_ErrIndex : (Tryz.prog.globals[1]?).map (·.type) = some 51 := by kernel_rfl
theorem g_tab : Tryz.prog.globalNamed "internal/strconv.uint64pow10" = some 19 := by kernel_rfl
theorem t_tab : (Tryz.prog.globals[19]?).map (·.type) = some 210 := by kernel_rfl
theorem cellsE : Tryz.prog.cellsOf 238 = 1 := by kernel_rfl
theorem cellsS : Tryz.prog.cellsOf 9 = 1 := by kernel_rfl
theorem star : "*" ++ "errors.errorString" = "*errors.errorString" := by decide
theorem rowE (u : TypeId) (h : Tryz.prog.typeName? 3 u = some "*errors.errorString") : u = 214 :=
  typeName_ptr_named (nm := "errors.errorString") (by rw [star]; kernel_rfl) (by kernel_rfl) (by decide) u (by rw [star]; exact h)

/-- WHAT THE CONDITION GIVES A WALK. -/
theorem laid_of {W : World} (h : laidMetH Tryz.prog Rows.termAllUptoRow.laid W) : ∃ a_ErrArg a_ErrLong a_ErrIndex : Addr, Sts W a_ErrArg a_ErrLong a_ErrIndex ∧ Tab W := by
  have h' : laidMet Tryz.prog [("math/bits.deBruijn32tab", Rows.laid_math_bits_deBruijn32tab), ("math/bits.deBruijn64tab", Rows.laid_math_bits_deBruijn64tab), ("internal/strconv.uint64pow10", Rows.laid_internal_strconv_uint64pow10), ("semblance/api.ErrArg", Rows.laid_semblance_api_ErrArg), ("semblance/api.ErrLong", Rows.laid_semblance_api_ErrLong), ("semblance/api.ErrIndex", Rows.laid_semblance_api_ErrIndex), ("semblance/api.ErrWord", Rows.laid_semblance_api_ErrWord), ("semblance/api.ErrSyntax", Rows.laid_semblance_api_ErrSyntax), ("semblance/api.ErrDeep", Rows.laid_semblance_api_ErrDeep), ("semblance/api.ErrTwice", Rows.laid_semblance_api_ErrTwice), ("semblance/api.ErrUnknown", Rows.laid_semblance_api_ErrUnknown), ("semblance/api.ErrSilent", Rows.laid_semblance_api_ErrSilent), ("semblance/api.ErrUnguarded", Rows.laid_semblance_api_ErrUnguarded), ("semblance/api.ErrSteps", Rows.laid_semblance_api_ErrSteps), ("semblance/api.ErrStates", Rows.laid_semblance_api_ErrStates), ("semblance/api.ErrEdges", Rows.laid_semblance_api_ErrEdges), ("semblance/api.ErrSystem", Rows.laid_semblance_api_ErrSystem), ("semblance/api.ErrClasses", Rows.laid_semblance_api_ErrClasses), ("semblance/api.ErrFormula", Rows.laid_semblance_api_ErrFormula), ("semblance/api.ErrLimit", Rows.laid_semblance_api_ErrLimit), ("semblance/api.ErrNone", Rows.laid_semblance_api_ErrNone), ("semblance/api.ErrScript", Rows.laid_semblance_api_ErrScript)] W ∧ True := ⟨h, trivial⟩
  obtain ⟨a1, a2, s1, s2, c1, c2, t1, t2, v1, v2, k1, e1, _, k2, e2, _, _, b1, b2⟩ := laid_sentinels2 h'.1.tail.tail.tail g_ErrArg t_ErrArg g_ErrLong t_ErrLong Tryz.underlying51 rowE Tryz.underlying214 Tryz.underlying238 rfl rfl Tryz.underlying9 cellsE cellsS
  obtain ⟨a3, a4, s3, s4, c3, c4, t3, t4, v3, v4, k3, e3, _, k4, e4, _, _, b3, b4⟩ := laid_sentinels2 h'.1.tail.tail.tail.tail g_ErrLong t_ErrLong g_ErrIndex t_ErrIndex Tryz.underlying51 rowE Tryz.underlying214 Tryz.underlying238 rfl rfl Tryz.underlying9 cellsE cellsS
  refine ⟨a1, a2, a4, ⟨sent_of g_ErrArg v1 b1, sent_of g_ErrLong v2 b2, sent_of g_ErrIndex v4 b4, cell_string_inj k4 k1 (by rw [e4, e1]; decide), cell_string_inj k4 k2 (by rw [e4, e2]; decide)⟩, Lib.tabIs_of_head g_tab t_tab Tryz.underlying210 Tryz.underlying176 (by kernel_rfl) (by kernel_rfl) h'.1.tail.tail⟩
/-- A world that meets the condition: the settled one, the listed variables laid. -/
noncomputable def low : Nat := (World.holding Tryz.prog default ⟨#[], #[], []⟩).heap.size
/-- A variable's one cell, written over. -/
def putCell (v : Value) : Obj → Obj
  | .cells _ t frozen => .cells #[v] t frozen
  | o => o
/-- A table's cells, written over. -/
def putTab (vs : Array Value) : Obj → Obj
  | .cells _ t frozen => .cells vs t frozen
  | o => o
noncomputable def laidWorld (os : Os) : World :=
  let w0 := World.holding Tryz.prog os ⟨#[.cells #[.string { data := #[97, 110, 32, 97, 114, 103, 117, 109, 101, 110, 116, 32, 116, 104, 97, 116, 32, 99, 97, 110, 39, 116, 32, 98, 101] }] 238, .cells #[.string { data := #[116, 111, 111, 32, 108, 111, 110, 103, 44, 32, 111, 114, 32, 116, 111, 111, 32, 109, 97, 110, 121] }] 238, .cells #[.string { data := #[97, 32, 110, 117, 109, 98, 101, 114, 32, 116, 104, 97, 116, 32, 105, 115, 32, 110, 111, 116, 32, 116, 104, 101, 114, 101] }] 238, .cells #[.string { data := #[97, 32, 99, 104, 97, 114, 97, 99, 116, 101, 114, 32, 116, 104, 97, 116, 32, 98, 101, 103, 105, 110, 115, 32, 110, 111, 32, 119, 111, 114, 100] }] 238, .cells #[.string { data := #[97, 32, 119, 111, 114, 100, 32, 116, 104, 97, 116, 32, 99, 97, 110, 39, 116, 32, 115, 116, 97, 110, 100, 32, 116, 104, 101, 114, 101] }] 238, .cells #[.string { data := #[98, 114, 97, 99, 107, 101, 116, 115, 32, 116, 104, 97, 116, 32, 115, 116, 97, 110, 100, 32, 116, 111, 111, 32, 100, 101, 101, 112] }] 238, .cells #[.string { data := #[115, 111, 109, 101, 116, 104, 105, 110, 103, 32, 116, 104, 97, 116, 32, 115, 116, 97, 110, 100, 115, 32, 116, 104, 101, 114, 101, 32, 97, 108, 114, 101, 97, 100, 121] }] 238, .cells #[.string { data := #[97, 32, 110, 97, 109, 101, 32, 116, 104, 97, 116, 32, 105, 115, 32, 110, 111, 116, 32, 116, 104, 101, 114, 101] }] 238, .cells #[.string { data := #[116, 104, 101, 32, 115, 105, 108, 101, 110, 116, 32, 97, 99, 116, 105, 111, 110, 44, 32, 119, 104, 101, 114, 101, 32, 105, 116, 32, 99, 97, 110, 39, 116, 32, 115, 116, 97, 110, 100] }] 238, .cells #[.string { data := #[97, 32, 99, 111, 110, 115, 116, 97, 110, 116, 32, 116, 104, 97, 116, 32, 110, 101, 101, 100, 115, 32, 105, 116, 115, 101, 108, 102, 32, 102, 105, 114, 115, 116] }] 238, .cells #[.string { data := #[97, 32, 116, 101, 114, 109, 32, 119, 105, 116, 104, 32, 116, 111, 111, 32, 109, 97, 110, 121, 32, 115, 116, 101, 112, 115] }] 238, .cells #[.string { data := #[116, 111, 111, 32, 109, 97, 110, 121, 32, 115, 116, 97, 116, 101, 115] }] 238, .cells #[.string { data := #[116, 111, 111, 32, 109, 97, 110, 121, 32, 101, 100, 103, 101, 115] }] 238, .cells #[.string { data := #[97, 32, 115, 121, 115, 116, 101, 109, 32, 116, 104, 97, 116, 32, 105, 115, 32, 110, 111, 110, 101] }] 238, .cells #[.string { data := #[99, 108, 97, 115, 115, 101, 115, 32, 116, 104, 97, 116, 32, 97, 114, 101, 32, 110, 111, 110, 101] }] 238, .cells #[.string { data := #[97, 32, 102, 111, 114, 109, 117, 108, 97, 32, 116, 104, 97, 116, 32, 105, 115, 32, 110, 111, 110, 101] }] 238, .cells #[.string { data := #[97, 32, 102, 111, 114, 109, 117, 108, 97, 32, 116, 104, 97, 116, 32, 119, 111, 117, 108, 100, 32, 98, 101, 32, 116, 111, 111, 32, 103, 114, 101, 97, 116] }] 238, .cells #[.string { data := #[116, 104, 101, 114, 101, 32, 105, 115, 32, 110, 111, 110, 101] }] 238, .cells #[.string { data := #[97, 32, 115, 99, 114, 105, 112, 116, 32, 116, 104, 97, 116, 32, 105, 115, 32, 110, 111, 110, 101] }] 238], #[], []⟩
  { w0 with heap := w0.heap
      |>.modify 20 (putTab #[.int .u8 0, .int .u8 1, .int .u8 28, .int .u8 2, .int .u8 29, .int .u8 14, .int .u8 24, .int .u8 3, .int .u8 30, .int .u8 22, .int .u8 20, .int .u8 15, .int .u8 25, .int .u8 17, .int .u8 4, .int .u8 8, .int .u8 31, .int .u8 27, .int .u8 13, .int .u8 23, .int .u8 21, .int .u8 19, .int .u8 16, .int .u8 7, .int .u8 26, .int .u8 12, .int .u8 18, .int .u8 6, .int .u8 11, .int .u8 5, .int .u8 10, .int .u8 9])
      |>.modify 21 (putTab #[.int .u8 0, .int .u8 1, .int .u8 56, .int .u8 2, .int .u8 57, .int .u8 49, .int .u8 28, .int .u8 3, .int .u8 61, .int .u8 58, .int .u8 42, .int .u8 50, .int .u8 38, .int .u8 29, .int .u8 17, .int .u8 4, .int .u8 62, .int .u8 47, .int .u8 59, .int .u8 36, .int .u8 45, .int .u8 43, .int .u8 51, .int .u8 22, .int .u8 53, .int .u8 39, .int .u8 33, .int .u8 30, .int .u8 24, .int .u8 18, .int .u8 12, .int .u8 5, .int .u8 63, .int .u8 55, .int .u8 48, .int .u8 27, .int .u8 60, .int .u8 41, .int .u8 37, .int .u8 16, .int .u8 46, .int .u8 35, .int .u8 44, .int .u8 21, .int .u8 52, .int .u8 32, .int .u8 23, .int .u8 11, .int .u8 54, .int .u8 26, .int .u8 40, .int .u8 15, .int .u8 34, .int .u8 20, .int .u8 31, .int .u8 10, .int .u8 25, .int .u8 14, .int .u8 19, .int .u8 9, .int .u8 13, .int .u8 8, .int .u8 7, .int .u8 6])
      |>.modify 19 (putTab #[.int .u64 1, .int .u64 10, .int .u64 100, .int .u64 1000, .int .u64 10000, .int .u64 100000, .int .u64 1000000, .int .u64 10000000, .int .u64 100000000, .int .u64 1000000000, .int .u64 10000000000, .int .u64 100000000000, .int .u64 1000000000000, .int .u64 10000000000000, .int .u64 100000000000000, .int .u64 1000000000000000, .int .u64 10000000000000000, .int .u64 100000000000000000, .int .u64 1000000000000000000, .int .u64 10000000000000000000])
      |>.modify 0 (putCell (.iface 214 (.pointer (some ⟨low + 0, 0, none⟩))))
      |>.modify 2 (putCell (.iface 214 (.pointer (some ⟨low + 1, 0, none⟩))))
      |>.modify 1 (putCell (.iface 214 (.pointer (some ⟨low + 2, 0, none⟩))))
      |>.modify 3 (putCell (.iface 214 (.pointer (some ⟨low + 3, 0, none⟩))))
      |>.modify 4 (putCell (.iface 214 (.pointer (some ⟨low + 4, 0, none⟩))))
      |>.modify 5 (putCell (.iface 214 (.pointer (some ⟨low + 5, 0, none⟩))))
      |>.modify 6 (putCell (.iface 214 (.pointer (some ⟨low + 6, 0, none⟩))))
      |>.modify 7 (putCell (.iface 214 (.pointer (some ⟨low + 7, 0, none⟩))))
      |>.modify 8 (putCell (.iface 214 (.pointer (some ⟨low + 8, 0, none⟩))))
      |>.modify 9 (putCell (.iface 214 (.pointer (some ⟨low + 9, 0, none⟩))))
      |>.modify 10 (putCell (.iface 214 (.pointer (some ⟨low + 10, 0, none⟩))))
      |>.modify 11 (putCell (.iface 214 (.pointer (some ⟨low + 11, 0, none⟩))))
      |>.modify 12 (putCell (.iface 214 (.pointer (some ⟨low + 12, 0, none⟩))))
      |>.modify 13 (putCell (.iface 214 (.pointer (some ⟨low + 13, 0, none⟩))))
      |>.modify 14 (putCell (.iface 214 (.pointer (some ⟨low + 14, 0, none⟩))))
      |>.modify 15 (putCell (.iface 214 (.pointer (some ⟨low + 15, 0, none⟩))))
      |>.modify 16 (putCell (.iface 214 (.pointer (some ⟨low + 16, 0, none⟩))))
      |>.modify 17 (putCell (.iface 214 (.pointer (some ⟨low + 17, 0, none⟩))))
      |>.modify 18 (putCell (.iface 214 (.pointer (some ⟨low + 18, 0, none⟩)))) }

theorem laidWorld_met (os : Os) (args : Array Value) : laidMetH Tryz.prog Rows.termAllUptoRow.laid ((laidWorld os).forCall (fun _ _ => 0) ⟨#[], args, []⟩).memory :=
  laidMetH_of_parts (laidMet_of_run' 8 (by kernel_rfl) (by kernel_rfl)) (by kernel_rfl)

set_option maxRecDepth 100000 in
theorem reads (os : Os) {H : Type} (enc : TypeId × Value → H) : ∃ places, DataW.whole enc Tryz.prog ((laidWorld os).forCall (fun _ _ => 0) ⟨#[], #[.slice none 0 0], []⟩).memory Tryz.f4.params.toList Rows.termAllSpec.vars false #[.slice none 0 0].toList 8 = some ([.nil], [], places) :=
  ⟨[], by kernel_rfl⟩

set_option maxRecDepth 100000 in
theorem law_lifted (os : Os) (started : os.Started) (H : Type) (enc : TypeId × Value → H) (F : Stop.Interp) :
    ReturnsInHanded {} Tryz.checked os 4 .any ((Rows.OpenSpec.upto Rows.termAllSpec).preRow enc Tryz.prog Tryz.f4 Rows.termAllUptoRow.domain false Rows.termAllUptoRow.laid) (((Rows.OpenSpec.upto Rows.termAllSpec).at F).post enc Tryz.prog Tryz.f4 false true false false) := by
  obtain ⟨places, hx⟩ := reads os enc
  refine returnsInHanded_of_row (C := Tryz.checked) (s := Rows.OpenSpec.upto Rows.termAllSpec) own started (by kernel_rfl) Tryz.func4
    (witness_row_at (enc := enc) (C := Tryz.checked) false (laidWorld os) #[.slice none 0 0] rfl (by kernel_rfl) (by kernel_rfl) (by kernel_rfl)
      (OpenSpec.preRow_of_cond 8 hx (by kernel_rfl) (fun k hk => by cases hk; kernel_rfl) (by kernel_rfl) (laidWorld_met os _))) ?_
  intro W base args ds gs before hval0 hW _ _ hwt hL _ _
  have hval : ∀ (j : Nat) t v, Tryz.f4.params[j]? = some t → args[j]? = some v → Value.okWide Tryz.prog W .any base t v := hval0
  have hsz : ∀ (j : Nat) t d, Tryz.f4.params.toList[j]? = some t → ds[j]? = some d → ∀ k ∈ d.weights Tryz.prog t, k ≤ reachBytes := fun j t d ht hd k hk =>
    of_decide_eq_true (List.all_eq_true.1 hwt k (DataW.weights_mem_each (j := j) (by rw [List.getElem?_append_left (List.getElem?_eq_some_iff.1 ht).1]; exact ht) (by rw [List.getElem?_append_left (List.getElem?_eq_some_iff.1 hd).1]; exact hd) k hk))
  have hW' := hW
  obtain ⟨p, q, hAll0, hV, hbef, hfz, hnd⟩ := hW
  have hA : DataW.TrodAll enc Tryz.prog W 0 (fun _ => true) true Tryz.f4.params.toList args.toList ds p := hAll0
  rw [Tryz.params4] at hA hval hsz
  obtain ⟨rfl, hq⟩ := trodVars_none hV
  obtain ⟨v0, d0, rfl, rfl, h0⟩ := trodAll_one hA
  obtain ⟨cap0, g0, off0, ao0, l0, rfl, hl0, ha0, hA0, hF0⟩ := open_terms_fit Tryz.underlying22 Tryz.underlying35 Tryz.underlying3 Tryz.underlying3 Tryz.underlying3 Tryz.underlying3 Tryz.underlying29 Tryz.underlying3 (by kernel_rfl) Tryz.underlying33 Tryz.underlying75 Tryz.underlying3 Tryz.underlying3 (by kernel_rfl) (by kernel_rfl) (by kernel_rfl) (by kernel_rfl) (by kernel_rfl) (by kernel_rfl) (hval 0 22 v0 rfl rfl) h0 (hsz 0 _ _ rfl rfl)
  obtain ⟨a_ErrArg, a_ErrLong, a_ErrIndex, c_sts, c_tab⟩ := laid_of hL
  refine (all_any ha0 hA0 hF0 hl0 c_tab c_sts).mono fun r W' ⟨he, hb⟩ => ?_
  subst he
  exact ⟨_, rfl, law_post (P := Tryz.prog) (f := Tryz.f4) (s := Rows.termAllSpec) (by kernel_rfl) (by kernel_rfl) (by kernel_rfl) (by kernel_rfl) rfl rfl Tryz.underlying4 hW' hb rfl⟩

theorem f_holds : Rows.TermAllUptoSaid :=
  OpenClaim.holds_of_cond 4 Tryz.f4 rfl rfl rfl rfl rfl rfl rfl ⟨rfl, rfl, rfl, rfl, rfl⟩ rfl rfl rfl rfl rfl (by kernel_rfl) Tryz.func4 (by kernel_rfl)
    (of_decide_eq_true (by kernel_rfl)) (by unfold Func.isWrapper; first | (rw [if_pos (by decide +kernel)]; kernel_rfl) | (rw [if_neg (by decide +kernel)]; exact ⟨rfl, rfl⟩))
    (fun os started H enc _ F => by rw [OpenClaim.pre_eq_preRow]; exact law_lifted os started H enc F)

/-- THE TIED CARD. -/
theorem card_holds : Rows.TermAllUptoCardSaid :=
  Claim7.holds_tied_plain_at .later [] [.data, .data, .data, .sentinel, .sentinel, .sentinel, .sentinel, .sentinel, .sentinel, .sentinel, .sentinel, .sentinel, .sentinel, .sentinel, .sentinel, .sentinel, .sentinel, .sentinel, .sentinel, .sentinel, .sentinel, .sentinel] true (true, "14f1b25c184eb9c38fd008047c3831a0a19883112b410c08e4c4ea925e75f850") true
    f_holds (fun _ h => by cases h) (by kernel_rfl) (fun _ h => by cases h) termAllUpto_row_tie rfl ⟨rfl, rfl⟩ (by kernel_rfl) rfl
    (fun f fn hf hfn => by
      obtain rfl : f = 4 := Option.some.inj ((show Tryz.prog.funcNamed "semblance/semblancelaw3.TermAll" = some 4 by kernel_rfl).symm.trans hf) |>.symm
      obtain rfl : fn = Tryz.f4 := (Option.some.inj (Tryz.func4.symm.trans hfn)).symm
      exact ⟨by kernel_rfl, fun j t ht => by
        rw [Tryz.params4] at ht
        have h3 : t = 22 := by
          rcases j with _ | j
          · have h4 : 22 = t := by simpa using ht
            subst h4; simp
          · simp at ht
        rcases h3 with rfl
        · exact (show Tryz.prog.wantsStandIn 22 = false by kernel_rfl)⟩)
    (by kernel_rfl)
end Go.Proofs.YtiiieailimphnaaGreatDoor.TermAll
