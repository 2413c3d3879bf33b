/- Walks: the statement RefinePlays. -/
import Derived.Test.YtfkhaldheclheaaGreatDoorRefG12
namespace Go.Proofs.YtfkhaldheclheaaGreatDoor
open Go.RowKit
set_option linter.unusedVariables false
set_option linter.unusedSimpArgs false

theorem plays_any {w : World} {n : Int} {ao bo : Option Addr} {l : List Int} {os : List (Int × Int)} {m g off g2 off2 c1 c2 : Nat} {a1 a2 ai : Addr} (h : Handed w ao bo l os m g off g2 off2) (hS : Sts w a1 a2 ai) :
    Calls Tryz.prog 3 #[.int .i64 n, .slice ao l.length c1, .slice bo m c2] w (PlayDone w) := by
  have HP : Hid (Calls Tryz.prog 5 #[.int .i64 n, .slice ao l.length c1, .slice bo m c2, .bool false] w (PlayDone w)) := by
    by_cases hb : 400 < m ∨ 1100 < l.length
    · exact play_long false h hb
    · exact play_short h hS (by omega) (by omega)
  obtain ⟨nl, hnl⟩ : ∃ k, k = l.length := ⟨_, rfl⟩
  rw [← hnl] at HP ⊢
  clear h hS hnl
  go_enter Tryz.func3, Tryz.ntmps3
  go_wp2_with (go_at_call 5; refine HP.out.mono ?_; rintro r w1 ⟨rfl, hb⟩)
  go_ret
  exact ⟨rfl, hb⟩

end Go.Proofs.YtfkhaldheclheaaGreatDoor
