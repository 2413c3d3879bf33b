/- Walks: alive; the code of a fault. -/
import Derived.Test.YtfkhaldheclheaaDoorRefW12
import Derived.Test.YtfkhaldheclheaaDoorRefW7
import Derived.Test.YtfkhaldheclheaaDoorErrIs
namespace Go.Proofs.YtfkhaldheclheaaDoor
open Go.RowKit
set_option linter.unusedVariables false
set_option linter.unusedSimpArgs false

theorem Turned.newOnly {S : Nat → Prop} {w w' : World} {n : Nat} (h : Turned S w w') (hS : ∀ k, S k → n ≤ k) (hn : n ≤ w.heap.size) : Below n w w' :=
  ⟨h.os, h.tape, h.output, h.size, fun i hi => h.block i (by omega) (fun hs => by have := hS i hs; omega)⟩

def five : Rf.St := Rf.ofSt (List.replicate 5 0)

theorem five_inv : Rf.Inv five 5 := Rf.of_inv (List.replicate 5 0)
theorem five_mark : (five.mark 1).1 = true := by decide
theorem five_len : 0 < (five.mark 1).2.blocks.length := by decide
theorem five_split : ((five.mark 1).2.split 0).1 = some 1 := by decide
theorem five_blocks : ((five.mark 1).2.split 0).2.blocks.length = 2 := by decide

set_option maxHeartbeats 4000000 in
set_option maxRecDepth 100000 in
theorem alive_true (w : World) :
    Calls Tryd.prog 7 #[] w fun r w' => r = .returned (.bool true) ∧ Below w.heap.size w w' := by
  go_enter Tryd.func7, Tryd.ntmps7
  go_upto_region 2 with (go_at_call 6; refine (new_ok 5 _ (by omega)).mono ?_; rintro e w1 ⟨B, ve, vp, vi, vb, rfl, hP, hF, hb⟩)
  go_upto_region 3 with (go_at_call 11; refine (mark_any (e := 1) hP five_inv (by omega) (by omega)).mono ?_; rintro e w2 ⟨he, hP2, hT2, hs2⟩; rw [show ((Rf.ofSt (List.replicate 5 0)).mark 1).1 = true from five_mark] at he; subst he)
  go_upto_region 4 with (go_at_call 14; refine (split_any (b := 0) hP2 (Rf.mark_inv five_inv (by omega)) (by omega) five_len).mono ?_; rintro e w3 ⟨he, vb3, hP3, hn3, hT3⟩; rw [show (((Rf.ofSt (List.replicate 5 0)).mark 1).2.split 0).1 = some 1 from five_split] at he; subst he)
  have hB := blocks_any hP3
  rw [show (((Rf.ofSt (List.replicate 5 0)).mark 1).2.split 0).2.blocks.length = 2 from five_blocks] at hB
  have h3 : Below w.heap.size w w3 := by
    have h2 : Below w.heap.size w w2 := hb.trans (hT2.newOnly hF hb.size)
    exact h2.trans (hT3.newOnly hF h2.size)
  clear hP hP2 hP3 hF hb hT2 hT3 hn3 hs2
  have HB := Lib.hid hB
  clear hB
  go_wp2_with (go_at_call 16; refine HB.out.mono ?_; rintro e w4 ⟨rfl, rfl⟩)
  go_ret
  exact ⟨rfl, h3⟩

/-- The code of a fault that wraps ErrArg. -/
theorem code_arg (pb : Nat) (b : Addr) (w : World) (h1 : w.cell? ⟨pb, 3, none⟩ = some (.iface 126 (.pointer (some b)))) (hg : w.cell? ⟨1, 0, none⟩ = some (.iface 126 (.pointer (some b)))) :
    Calls Tryd.prog 8 #[.iface 31 (.pointer (some ⟨pb, 0, none⟩))] w fun r w' => r = .returned (.int .i64 1) ∧ w = w' := by
  go_enter Tryd.func8, Tryd.ntmps8
  go_wp2_with (go_at_call 20; refine (is_fault_same pb b _ h1).mono ?_; rintro e w4 ⟨rfl, rfl⟩)
  go_ret
  exact ⟨rfl, rfl⟩

end Go.Proofs.YtfkhaldheclheaaDoor
