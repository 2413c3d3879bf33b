/-
TermCopied: whatever terms are handed to it, it returns true: a store into which all terms of another one are put in order has the same terms by the same numbers.
It is shown where the listed package variables read as the program's text lays them; no other condition. Printed by mkrow.py.
-/
import Derived.Test.YtiiieailimphnaaDoorTmW18
import Derived.Test.YtiiieailimphnaaDoorTmOpen
import Derived.Test.YtiiieailimphnaaDoorOpen
import Derived.Test.YtiiieailimphnaaDoorCards
import Derived.Test.YtiiieailimphnaaDoorTie
import Derived.SevenTiedAt
import Derived.ProofKit
import Derived.ChangeSame
import Derived.ChangeVars
import Derived.JoinedOf
import Derived.RowKit
import Derived.RowKitTokens
import Derived.LaidLaws
import Derived.LaidHandle
import Derived.Stop.Joined
import Derived.Stop.LaidErr
import Derived.Deep.DeepHandedRow
namespace Go.Proofs.YtiiieailimphnaaDoor.TermCopied
open Go.ChangeShapes Go.WideShapes Go.ChangeAt Go.RowKit

theorem own : ownKnob Tryd.prog.godebug = none := by kernel_rfl
theorem g_ErrArg : Tryd.prog.globalNamed "semblance/api.ErrArg" = some 0 := by kernel_rfl
theorem t_ErrArg : (Tryd.prog.globals[0]?).map (·.type) = some 27 := by kernel_rfl
theorem g_tab : Tryd.prog.globalNamed "internal/strconv.uint64pow10" = some 19 := by kernel_rfl
theorem t_tab : (Tryd.prog.globals[19]?).map (·.type) = some 121 := by kernel_rfl
theorem cellsE : Tryd.prog.cellsOf 153 = 1 := by kernel_rfl
theorem cellsS : Tryd.prog.cellsOf 9 = 1 := by kernel_rfl
theorem star : "*" ++ "errors.errorString" = "*errors.errorString" := by decide
theorem rowE (u : TypeId) (h : Tryd.prog.typeName? 3 u = some "*errors.errorString") : u = 129 :=
  typeName_ptr_named (nm := "errors.errorString") (by rw [star]; kernel_rfl) (by kernel_rfl) (by decide) u (by rw [star]; exact h)

/-- WHAT THE CONDITION GIVES A WALK. -/
theorem laid_of {W : World} (h : laidMetH Tryd.prog Rows.termCopiedRow.laid W) : ∃ a_ErrArg : Addr, W.cell? ⟨0, 0, none⟩ = some (.iface 129 (.pointer (some a_ErrArg))) ∧ Tab W := by
  have h' : laidMet Tryd.prog [("math/bits.deBruijn32tab", Rows.laid_math_bits_deBruijn32tab), ("math/bits.deBruijn64tab", Rows.laid_math_bits_deBruijn64tab), ("internal/strconv.uint64pow10", Rows.laid_internal_strconv_uint64pow10), ("semblance/api.ErrArg", Rows.laid_semblance_api_ErrArg), ("semblance/api.ErrIndex", Rows.laid_semblance_api_ErrIndex)] W ∧ True := ⟨h, trivial⟩
  obtain ⟨a_ErrArg, s_ErrArg, v_ErrArg, _, _, _⟩ := laid_sentinel h'.1.tail.tail.tail g_ErrArg t_ErrArg Tryd.underlying27 rowE Tryd.underlying129 Tryd.underlying153 rfl rfl Tryd.underlying9 cellsE cellsS
  refine ⟨a_ErrArg, by simpa using World.var?_cell g_ErrArg v_ErrArg 0, Lib.tabIs_of_head g_tab t_tab Tryd.underlying121 Tryd.underlying112 (by kernel_rfl) (by kernel_rfl) h'.1.tail.tail⟩
/-- A world that meets the condition: the settled one, the listed variables laid. -/
noncomputable def low : Nat := (World.holding Tryd.prog default ⟨#[], #[], []⟩).heap.size
/-- A variable's one cell, written over. -/
def putCell (v : Value) : Obj → Obj
  | .cells _ t frozen => .cells #[v] t frozen
  | o => o
/-- A table's cells, written over. -/
def putTab (vs : Array Value) : Obj → Obj
  | .cells _ t frozen => .cells vs t frozen
  | o => o
noncomputable def laidWorld (os : Os) : World :=
  let w0 := World.holding Tryd.prog os ⟨#[.cells #[.string { data := #[97, 110, 32, 97, 114, 103, 117, 109, 101, 110, 116, 32, 116, 104, 97, 116, 32, 99, 97, 110, 39, 116, 32, 98, 101] }] 153, .cells #[.string { data := #[97, 32, 110, 117, 109, 98, 101, 114, 32, 116, 104, 97, 116, 32, 105, 115, 32, 110, 111, 116, 32, 116, 104, 101, 114, 101] }] 153], #[], []⟩
  { w0 with heap := w0.heap
      |>.modify 20 (putTab #[.int .u8 0, .int .u8 1, .int .u8 28, .int .u8 2, .int .u8 29, .int .u8 14, .int .u8 24, .int .u8 3, .int .u8 30, .int .u8 22, .int .u8 20, .int .u8 15, .int .u8 25, .int .u8 17, .int .u8 4, .int .u8 8, .int .u8 31, .int .u8 27, .int .u8 13, .int .u8 23, .int .u8 21, .int .u8 19, .int .u8 16, .int .u8 7, .int .u8 26, .int .u8 12, .int .u8 18, .int .u8 6, .int .u8 11, .int .u8 5, .int .u8 10, .int .u8 9])
      |>.modify 21 (putTab #[.int .u8 0, .int .u8 1, .int .u8 56, .int .u8 2, .int .u8 57, .int .u8 49, .int .u8 28, .int .u8 3, .int .u8 61, .int .u8 58, .int .u8 42, .int .u8 50, .int .u8 38, .int .u8 29, .int .u8 17, .int .u8 4, .int .u8 62, .int .u8 47, .int .u8 59, .int .u8 36, .int .u8 45, .int .u8 43, .int .u8 51, .int .u8 22, .int .u8 53, .int .u8 39, .int .u8 33, .int .u8 30, .int .u8 24, .int .u8 18, .int .u8 12, .int .u8 5, .int .u8 63, .int .u8 55, .int .u8 48, .int .u8 27, .int .u8 60, .int .u8 41, .int .u8 37, .int .u8 16, .int .u8 46, .int .u8 35, .int .u8 44, .int .u8 21, .int .u8 52, .int .u8 32, .int .u8 23, .int .u8 11, .int .u8 54, .int .u8 26, .int .u8 40, .int .u8 15, .int .u8 34, .int .u8 20, .int .u8 31, .int .u8 10, .int .u8 25, .int .u8 14, .int .u8 19, .int .u8 9, .int .u8 13, .int .u8 8, .int .u8 7, .int .u8 6])
      |>.modify 19 (putTab #[.int .u64 1, .int .u64 10, .int .u64 100, .int .u64 1000, .int .u64 10000, .int .u64 100000, .int .u64 1000000, .int .u64 10000000, .int .u64 100000000, .int .u64 1000000000, .int .u64 10000000000, .int .u64 100000000000, .int .u64 1000000000000, .int .u64 10000000000000, .int .u64 100000000000000, .int .u64 1000000000000000, .int .u64 10000000000000000, .int .u64 100000000000000000, .int .u64 1000000000000000000, .int .u64 10000000000000000000])
      |>.modify 0 (putCell (.iface 129 (.pointer (some ⟨low + 0, 0, none⟩))))
      |>.modify 2 (putCell (.iface 129 (.pointer (some ⟨low + 1, 0, none⟩)))) }

theorem laidWorld_met (os : Os) (args : Array Value) : laidMetH Tryd.prog Rows.termCopiedRow.laid ((laidWorld os).forCall (fun _ _ => 0) ⟨#[], args, []⟩).memory :=
  laidMetH_of_parts (laidMet_of_run' 8 (by kernel_rfl) (by kernel_rfl)) (by kernel_rfl)

set_option maxRecDepth 100000 in
theorem law_lifted (os : Os) (started : os.Started) (H : Type) (enc : TypeId × Value → H) :
    ReturnsInHanded {} Tryd.checked os 3 .any (fun w args => (Rows.termCopiedSpec.pre enc Tryd.prog Tryd.f3 [] false w args ∧ laidMetH Tryd.prog Rows.termCopiedRow.laid w) ∧ sizedMet enc Tryd.prog Tryd.f3 (OpenSpec.ofChange Rows.termCopiedSpec) false w args)
      (Rows.termCopiedSpec.post enc Tryd.prog Tryd.f3 false true false false) := by
  refine returnsInHanded_of_change_and (C := Tryd.checked) (X := fun w _ => laidMetH Tryd.prog Rows.termCopiedRow.laid w) (fun _ _ _ hh h => h.of_heap hh) own started (by kernel_rfl) Tryd.func3
    (ChangeSpec.witness_at (enc := enc) (C := Tryd.checked) (os := os) (X := fun w _ => laidMetH Tryd.prog Rows.termCopiedRow.laid w) false (laidWorld os) #[.slice none 0 0] 8 rfl (by kernel_rfl) (by kernel_rfl) (by kernel_rfl) (by kernel_rfl) (by kernel_rfl) (laidWorld_met os _)) ?_
  intro W base args ds gs before hval0 hW _ _ hL _
  have hval : ∀ (j : Nat) t v, Tryd.f3.params[j]? = some t → args[j]? = some v → Value.okWide Tryd.prog W .any base t v := hval0
  have hW' := hW
  obtain ⟨p, q, hA0, hV, hbef, hfz, hnd⟩ := hW
  have hA : DataW.TrodAll enc Tryd.prog W 0 (fun _ => true) true Tryd.f3.params.toList args.toList ds p := hA0
  rw [Tryd.params3] at hA hval
  obtain ⟨rfl, hq⟩ := trodVars_none hV
  obtain ⟨v0, d0, rfl, rfl, h0⟩ := trodAll_one hA
  obtain ⟨cap0, g0, off0, ao0, l0, rfl, hl0, ha0, hA0⟩ := open_terms Tryd.underlying22 Tryd.underlying33 Tryd.underlying3 Tryd.underlying3 Tryd.underlying3 Tryd.underlying3 Tryd.underlying30 Tryd.underlying3 (by kernel_rfl) Tryd.underlying31 Tryd.underlying69 Tryd.underlying3 Tryd.underlying3 (by kernel_rfl) (by kernel_rfl) (by kernel_rfl) (by kernel_rfl) (hval 0 22 v0 rfl rfl) h0
  obtain ⟨a_ErrArg, c_ErrArg, c_tab⟩ := laid_of hL
  refine (copied_any g0 off0 cap0 ao0 l0 _ W c_tab c_ErrArg ha0 hA0 hl0).mono fun r W' ⟨he, hb⟩ => ?_
  subst he
  exact ⟨_, rfl, law_post (P := Tryd.prog) (f := Tryd.f3) (s := Rows.termCopiedSpec) (by kernel_rfl) (by kernel_rfl) (by kernel_rfl) (by kernel_rfl) rfl rfl Tryd.underlying4 hW' hb rfl⟩

theorem f_holds : Rows.TermCopiedSaid :=
  OpenClaim.holds_of_wide 3 Tryd.f3 rfl rfl rfl rfl rfl rfl rfl ⟨rfl, rfl, rfl, rfl, rfl⟩ rfl rfl rfl rfl rfl (by kernel_rfl) Tryd.func3 (by kernel_rfl)
    (of_decide_eq_true (by kernel_rfl)) (by unfold Func.isWrapper; first | (rw [if_pos (by decide +kernel)]; kernel_rfl) | (rw [if_neg (by decide +kernel)]; exact ⟨rfl, rfl⟩))
    (fun os started H enc _ => law_lifted os started H enc)

/-- THE TIED CARD. -/
theorem card_holds : Rows.TermCopiedCardSaid :=
  Claim7.holds_tied_plain_at .later [] [.data, .data, .data, .sentinel, .sentinel] true (true, "fcb1c9c7160853ab743a187fccc8e870eae7d93cc31b34df30030b0b212ab55b") true
    f_holds (fun _ h => by cases h) (by kernel_rfl) (fun _ h => by cases h) termCopied_row_tie rfl ⟨rfl, rfl⟩ (by kernel_rfl) rfl
    (fun f fn hf hfn => by
      obtain rfl : f = 3 := Option.some.inj ((show Tryd.prog.funcNamed "semblance/semblancelaw3.TermCopied" = some 3 by kernel_rfl).symm.trans hf) |>.symm
      obtain rfl : fn = Tryd.f3 := (Option.some.inj (Tryd.func3.symm.trans hfn)).symm
      exact ⟨by kernel_rfl, fun j t ht => by
        rw [Tryd.params3] at ht
        have h3 : t = 22 := by
          rcases j with _ | j
          · have h4 : 22 = t := by simpa using ht
            subst h4; simp
          · simp at ht
        rcases h3 with rfl
        · exact (show Tryd.prog.wantsStandIn 22 = false by kernel_rfl)⟩)
    (by kernel_rfl)
end Go.Proofs.YtiiieailimphnaaDoor.TermCopied
