/- Walks: a block's row. -/
import Derived.Test.YtfkhaldheclheaaDoorRefW3
import Derived.Test.YtfkhaldheclheaaDoorRefMem
namespace Go.Proofs.YtfkhaldheclheaaDoor
open Go.RowKit
set_option linter.unusedVariables false
set_option linter.unusedSimpArgs false

set_option maxHeartbeats 1000000 in
set_option maxRecDepth 100000 in
theorem row_some (B nb c0n c3n ge gb n b f t m : Nat) (w : World) (hb : b < nb) (hft : f < t) (htn : t ≤ n) (hn : n ≤ 1000) (hcn : n ≤ c0n)
    (c0 : w.cell? ⟨B, 0, none⟩ = some (.slice (some ⟨ge, 0, none⟩) n c0n)) (c3 : w.cell? ⟨B, 3, none⟩ = some (.slice (some ⟨gb, 0, none⟩) nb c3n))
    (cf : w.cell? ⟨gb, b * 3, none⟩ = some (.int .i64 f)) (ct : w.cell? ⟨gb, b * 3 + 1, none⟩ = some (.int .i64 t)) (cm : w.cell? ⟨gb, b * 3 + 2, none⟩ = some (.int .i64 m)) :
    Calls Tryd.prog 31 #[.pointer (some ⟨B, 0, none⟩), .int .i64 b] w fun r w' =>
      r = .returned (.slice (some ⟨ge, f, none⟩) (t - f) (t - f)) ∧ ∃ q, (w.alloc (.cells #[.int .i64 f, .int .i64 t, .int .i64 m] 73)).drewN q = w' := by
  have hBl : B < w.heap.size := World.block_lt_of_cell? w ⟨B, 0, none⟩ c0
  have h1 : (0 : Int) ≤ (f : Int) := by omega
  have h2 : (f : Int) ≤ (t : Int) := by omega
  have h3 : (t : Int) ≤ (c0n : Int) := by omega
  go_enter Tryd.func31, Tryd.ntmps31
  go_wp2_with fail
  have c0' : (w.alloc (.cells #[.int .i64 (f : Int), .int .i64 (t : Int), .int .i64 (m : Int)] 73)).cell? ⟨B, 0, none⟩ = some (.slice (some ⟨ge, 0, none⟩) n c0n) := by
    rw [World.cell?_alloc_lt _ _ _ hBl]; exact c0
  clear c0 c3 cf ct cm
  go_quiet (fail)
  go_wp2_with fail
  go_ret
  exact ⟨rfl, _, rfl⟩

end Go.Proofs.YtfkhaldheclheaaDoor
