/- The statement RoundsNext, whole. -/
import Derived.Test.YtpmdjicaefmbnaaGreatDoorRdNextW
namespace Go.Proofs.YtpmdjicaefmbnaaGreatDoor
open Go.RowKit

theorem next_any {s : Sy.Lts} {se : Value} {a : Addr} {w : World} (hs : Ls3 w se s.es) (hl : s.es.length ≤ maxLen) (hE : w.cell? ⟨0, 0, none⟩ = some (.iface 299 (.pointer (some a)))) (hT : Tab w) (hG : ErrT w) :
    Calls Tryz.prog 3 #[sysV s se] w (Good w) := by
  by_cases hg : 40 < s.n ∨ 300 < s.es.length
  · exact next_out s se a w hg hT hG hs hE hl
  · cases hr : Sy.right s
    · exact next_bad s se a w (by omega) (by omega) hr hT hG hs hE hl
    · exact next_ok s se a w (by omega) (by omega) hr hT hG hs hE hl

end Go.Proofs.YtpmdjicaefmbnaaGreatDoor
