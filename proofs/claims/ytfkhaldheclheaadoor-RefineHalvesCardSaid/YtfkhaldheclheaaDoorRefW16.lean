/- Walks: Members. -/
import Derived.Test.YtfkhaldheclheaaDoorRefW15
namespace Go.Proofs.YtfkhaldheclheaaDoor
open Go.RowKit
set_option linter.unusedVariables false
set_option linter.unusedSimpArgs false

/-- What Members leaves. -/
def MembersDone (w : World) (s : Rf.St) (b : Nat) (r : Ending) (w' : World) : Prop :=
  ∃ g cap, r = .returned (.tuple #[.slice (some ⟨g, 0, none⟩) (s.mem b).length cap, .nilIface]) ∧
    w'.ownsRow w.heap.size 3 1 (.slice (some ⟨g, 0, none⟩) (s.mem b).length cap) (s.mem b).length ((s.mem b).map (Value.int .i64)) ∧ Below w.heap.size w w'

/-- slices.Clone of a whole slice with an address: where the new one lies. -/
theorem clone_at (b off n c : Nat) (zs : List Int) (w : World) (hz : zs.length = n) (hbig : n * 8 ≤ 140737488355328) (hc : ∀ j, j < zs.length → w.cell? ⟨b, off + j, none⟩ = some (.int .i64 (zs.getD j 0))) :
    Calls Tryd.prog 30 #[.slice (some ⟨b, off, none⟩) n c] w fun e w' => ∃ g cap, e = .returned (.slice (some ⟨g, 0, none⟩) zs.length cap) ∧
      w'.ownsRow w.heap.size 3 1 (.slice (some ⟨g, 0, none⟩) zs.length cap) zs.length (zs.map (Value.int .i64)) ∧ Below w.heap.size w w' := by
  refine (clone_int b off n c zs w (by omega) hbig hc).mono ?_
  rintro e w' ⟨v, rfl, hown, hnn, hb⟩
  rw [List.take_of_length_le (by omega)] at hown
  rcases hown.2 with ⟨h0, _⟩ | ⟨g, cap, cur, rfl, _⟩
  · exact absurd h0 hnn
  · subst hz; exact ⟨g, cap, rfl, hown, hb⟩

set_option maxHeartbeats 4000000 in
set_option maxRecDepth 100000 in
theorem members_any {w : World} {B n b : Nat} {ve vp vi vb : Value} {s : Rf.St} (h : PartAt w B ve vp vi vb s) (hI : Rf.Inv s n) (hn : n ≤ 1000) (hb : b < s.blocks.length) :
    Calls Tryd.prog 13 #[.pointer (some ⟨B, 0, none⟩), .int .i64 b] w (MembersDone w s b) := by
  have hrl := Rf.row_len hI hb
  have hml := Rf.mem_len hI hb
  have bb := hI.b1 b hb
  have HB := Lib.hid (blocks_any h)
  have HR := Lib.hid (row_any h hI hn hb)
  obtain ⟨k, hk⟩ : ∃ k, k = s.T b - s.F b := ⟨_, rfl⟩
  have hk1 : k ≤ 1000 := by omega
  rw [← hk] at hrl hml
  obtain ⟨f, hf⟩ : ∃ f, f = s.F b := ⟨_, rfl⟩
  rw [← hk, ← hf] at HR
  obtain ⟨nb, hnb⟩ : ∃ nb, nb = s.blocks.length := ⟨_, rfl⟩
  rw [← hnb] at HB hb
  obtain ⟨zs, hzs⟩ : ∃ zs : List Int, zs = (s.row b).map Int.ofNat := ⟨_, rfl⟩
  have hzl : zs.length = k := by rw [hzs, List.length_map, hrl]
  have hM : s.mem b = zs.mergeSort fun x y => decide (x ≤ y) := by rw [hzs]; rfl
  have HM := Lib.hid hM
  have HC : Hid (∀ (w1 : World) (ge : Nat), (∀ j, j < k → w1.cell? ⟨ge, f + j, none⟩ = some (.int .i64 ((s.row b).getD j 0 : Nat))) → ∀ j, j < zs.length → w1.cell? ⟨ge, f + j, none⟩ = some (.int .i64 (zs.getD j 0))) := by
    intro w1 ge hc j hj
    rw [hc j (by omega), hzs]
    simp [List.getD, hrl, show j < k by omega]
  have HZ := Lib.hid hzl
  have hzk : zs.length ≤ k := by omega
  clear hM hzs hf hk hnb hrl h hI bb hzl
  go_enter Tryd.func13, Tryd.ntmps13
  go_wp2_with (first
    | (go_at_call 16; refine HB.out.mono ?_; rintro e w' ⟨rfl, rfl⟩)
    | (go_at_call 22; refine (asked_in _ _ _ _ (by omega) (by omega)).mono ?_; rintro e w' ⟨rfl, rfl⟩)
    | (go_at_call 31; refine HR.out.mono ?_; rintro e w1 ⟨ge, rfl, hc, hb1⟩; replace hc := Lib.hid (HC.out w1 ge hc))
    | (go_at_call 30; refine (clone_at ge f k k zs w1 HZ.out (by omega) hc.out).mono ?_; rintro e w2 ⟨g2, c2, rfl, hown2, hb2⟩; replace hown2 := Lib.hid hown2)
    | (go_at_call 32; refine (sort_int hown2.out (by omega)).mono ?_; rintro e w3 ⟨rfl, hown3, hg3⟩))
  go_ret2
  have hlm : (s.mem b).length = zs.length := by rw [HM.out, List.length_mergeSort]
  have hg2 : w1.heap.size ≤ g2 := (hown2.out.lt g2 rfl).1
  refine ⟨g2, c2, by rw [hlm]; rfl, ?_, ?_⟩
  · rw [hlm, HM.out]
    exact owns_base hown3 hb1.size
  · exact (hb1.trans (hb2.mono hb1.size)).grown hg3 (by have := hb1.size; have := hb2.size; omega) (by intro k hk; cases hk; have := hb1.size; omega)

end Go.Proofs.YtfkhaldheclheaaDoor
