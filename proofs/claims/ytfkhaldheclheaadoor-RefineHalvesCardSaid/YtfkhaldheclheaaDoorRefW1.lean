/- Walks of the small functions of package refine. -/
import Derived.Test.YtfkhaldheclheaaDoorRows
import Derived.WalkKit
import Derived.WalkSpells
import Derived.WalkLawsBesides
import Derived.Lib.Hide
namespace Go.Proofs.YtfkhaldheclheaaDoor
open Go.RowKit
set_option linter.unusedVariables false
set_option linter.unusedSimpArgs false

set_option maxHeartbeats 400000 in
theorem faultNew (layer : ByteArray) (xt : TypeId) (xv : Value) (w : World) :
    Calls Tryd.prog 18 #[.string layer, .iface xt xv] w fun e w' =>
      e = .returned (.iface 31 (.pointer (some ⟨w.heap.size, 0, none⟩))) ∧ w.alloc (.cells #[.string layer, .int .i64 0, .int .i64 0, .iface xt xv] 35) = w' := by
  go_enter Tryd.func18, Tryd.ntmps18
  go_wp2
  go_ret
  exact ⟨rfl, rfl⟩

set_option maxHeartbeats 400000 in
theorem own_some (b : Addr) (w : World) :
    Calls Tryd.prog 29 #[.pointer (some b)] w fun e w' => e = .returned (.pointer (some b)) ∧ w = w' := by
  go_enter Tryd.func29, Tryd.ntmps29
  go_wp2
  go_ret
  exact ⟨rfl, rfl⟩

set_option maxHeartbeats 400000 in
theorem size_some (B : Nat) (ao : Option Addr) (n cap : Nat) (w : World) (c0 : w.cell? ⟨B, 0, none⟩ = some (.slice ao n cap)) :
    Calls Tryd.prog 17 #[.pointer (some ⟨B, 0, none⟩)] w fun e w' => e = .returned (.int .i64 n) ∧ w = w' := by
  go_enter Tryd.func17, Tryd.ntmps17
  go_wp2_with (go_at_call 29; refine (own_some _ _).mono ?_; rintro e w' ⟨rfl, rfl⟩)
  go_ret
  exact ⟨rfl, rfl⟩

set_option maxHeartbeats 400000 in
theorem blocks_some (B : Nat) (ao : Option Addr) (n cap : Nat) (w : World) (c3 : w.cell? ⟨B, 3, none⟩ = some (.slice ao n cap)) :
    Calls Tryd.prog 16 #[.pointer (some ⟨B, 0, none⟩)] w fun e w' => e = .returned (.int .i64 n) ∧ w = w' := by
  go_enter Tryd.func16, Tryd.ntmps16
  go_wp2_with (go_at_call 29; refine (own_some _ _).mono ?_; rintro e w' ⟨rfl, rfl⟩)
  go_ret
  exact ⟨rfl, rfl⟩

set_option maxHeartbeats 400000 in
theorem asked_in (b : Addr) (i n : Int) (w : World) (h0 : 0 ≤ i) (h1 : i < n) :
    Calls Tryd.prog 22 #[.pointer (some b), .int .i64 i, .int .i64 n] w fun e w' => e = .returned .nilIface ∧ w = w' := by
  go_enter Tryd.func22, Tryd.ntmps22
  go_wp2_with fail
  go_ret
  exact ⟨rfl, rfl⟩

/-- The layer's name, as the program has it. -/
def layerRef : ByteArray := { data := #[114, 101, 102, 105, 110, 101] }

set_option maxHeartbeats 400000 in
theorem asked_out (b : Addr) (i n : Int) (xt : TypeId) (xv : Value) (w : World) (h : i < 0 ∨ n ≤ i) (hg : w.cell? ⟨0, 0, none⟩ = some (.iface xt xv)) :
    Calls Tryd.prog 22 #[.pointer (some b), .int .i64 i, .int .i64 n] w fun e w' =>
      e = .returned (.iface 31 (.pointer (some ⟨w.heap.size, 0, none⟩))) ∧ w.alloc (.cells #[.string layerRef, .int .i64 0, .int .i64 0, .iface xt xv] 35) = w' := by
  by_cases h0 : i < 0
  · go_enter Tryd.func22, Tryd.ntmps22
    go_wp2_with (go_at_call 18; refine (faultNew _ _ _ _).mono ?_; rintro e w' ⟨rfl, rfl⟩)
    go_ret
    exact ⟨rfl, rfl⟩
  · have h1 : n ≤ i := by omega
    have h2 : 0 ≤ i := by omega
    clear h
    go_enter Tryd.func22, Tryd.ntmps22
    go_wp2_with (go_at_call 18; refine (faultNew _ _ _ _).mono ?_; rintro e w' ⟨rfl, rfl⟩)
    go_ret
    exact ⟨rfl, rfl⟩

end Go.Proofs.YtfkhaldheclheaaDoor
