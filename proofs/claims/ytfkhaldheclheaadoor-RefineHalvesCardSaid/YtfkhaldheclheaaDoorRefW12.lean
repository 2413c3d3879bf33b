/- Split, by its contract; Block, Size, Blocks by theirs. -/
import Derived.Test.YtfkhaldheclheaaDoorRefW11
namespace Go.Proofs.YtfkhaldheclheaaDoor
open Go.RowKit
set_option linter.unusedVariables false
set_option linter.unusedSimpArgs false

/-- The blocks that a partition may have after a split: its own, or its own and a new one in the place of its row of blocks. -/
def SplitDone (w : World) (B : Nat) (ve vp vi vb : Value) (s : Rf.St) (b : Nat) (r : Ending) (w' : World) : Prop :=
  r = .returned (.tuple #[.int .i64 (((s.split b).1.getD 0 : Nat) : Int), .bool (s.split b).1.isSome, .nilIface]) ∧
    ∃ vb', PartAt w' B ve vp vi vb' (s.split b).2 ∧ (∀ k, vb'.ownBlock = some k → vb.ownBlock = some k ∨ w.heap.size ≤ k) ∧ Turned (Foot B ve vp vi vb) w w'

theorem blocks_le {s : Rf.St} {n : Nat} (hI : Rf.Inv s n) : s.blocks.length ≤ n := by
  have hE : ∀ b, b < s.blocks.length → s.I (s.E (s.F b)) = b := fun b hb => hI.in2 b hb _ (Nat.le_refl _) (hI.b1 b hb).1
  have hF : ∀ b, b < s.blocks.length → s.E (s.F b) < n := fun b hb => (hI.e1 _ (by have := hI.b1 b hb; omega)).1
  have hnd : ((List.range s.blocks.length).map fun b => s.E (s.F b)).Nodup := by
    rw [List.nodup_iff_pairwise_ne, List.pairwise_map]
    refine (List.nodup_range (n := s.blocks.length)).imp_of_mem ?_
    intro a c ha hc hne e
    have ha' := List.mem_range.1 ha
    have hc' := List.mem_range.1 hc
    apply hne
    rw [← hE a ha', ← hE c hc', e]
  have := hnd.length_le_of_subset (l₂ := List.range n) (by
    intro x hx
    obtain ⟨b, hb, rfl⟩ := List.mem_map.1 hx
    exact List.mem_range.2 (hF b (List.mem_range.1 hb)))
  simpa using this

set_option maxHeartbeats 1000000 in
theorem split_any {w : World} {B n b : Nat} {ve vp vi vb : Value} {s : Rf.St} (h : PartAt w B ve vp vi vb s) (hI : Rf.Inv s n) (hn : n ≤ 1000) (hb : b < s.blocks.length) :
    Calls Tryd.prog 14 #[.pointer (some ⟨B, 0, none⟩), .int .i64 b] w (SplitDone w B ve vp vi vb s b) := by
  have bb := hI.b1 b hb
  have hle := blocks_le hI
  obtain ⟨ge, ce, gp, cp, gi, ci, gb, cb, rfl, rfl, rfl, rfl, o⟩ := h.ob hI (by omega)
  have fe : ∀ k, k = B ∨ k = gi ∨ k = gb → Foot B (.slice (some ⟨ge, 0, none⟩) n ce) (.slice (some ⟨gp, 0, none⟩) n cp) (.slice (some ⟨gi, 0, none⟩) n ci) (.slice (some ⟨gb, 0, none⟩) s.blocks.length cb) k := by
    intro k hk
    rcases hk with rfl | rfl | rfl
    · exact .inl rfl
    · exact .inr (.inr (.inr (.inl rfl)))
    · exact .inr (.inr (.inr (.inr rfl)))
  by_cases hz : s.M b = 0 ∨ s.T b - s.F b - s.M b = 0
  · refine (split_flat B b n s.blocks.length ge ce gp cp gi ci gb cb (s.F b) (s.T b) (s.M b) s w o hb rfl rfl rfl rfl bb.1 bb.2.1 bb.2.2 hn hz).mono ?_
    rintro r w' ⟨rfl, q, rfl⟩
    have hs : s.split b = (none, s.bare b) := by unfold Rf.St.split; rw [if_pos hz]
    rw [SplitDone, hs]
    refine ⟨rfl, .slice (some ⟨gb, 0, none⟩) s.blocks.length cb, ?_, fun k hk => .inl hk, ?_⟩
    · have h2 := ((o.alloc (.cells #[.pointer none] 31)).drewN q).setB (b * 3 + 2) (.int .i64 0) _ (cellsB_set2 s.blocks b 0 hb) (by simp)
      have h3 := h2.part hI.le hI.lp hI.li
      simpa [Rf.St.bare, Rf.St.F, Rf.St.T] using h3
    · exact (((Turned.refl _ _).alloc _).drewN q).setCell (.inl (fe _ (.inr (.inr rfl)))) _
  · have hm0 : 0 < s.M b := by omega
    have hfm : s.F b + s.M b < s.T b := by omega
    by_cases hmo : s.M b ≤ s.T b - s.F b - s.M b
    · refine (split_small B b n s.blocks.length ge ce gp cp gi ci gb cb (s.F b) (s.T b) (s.M b) s w o hb rfl rfl rfl rfl bb.1 bb.2.1 hfm hn (by omega) hm0 hmo hI.le hI.li (fun i hi => (hI.e1 i hi).1)).mono ?_
      rintro r w' ⟨rfl, gb', cb', h2, hg, hT⟩
      have hs : s.split b = (some s.blocks.length, s.cut b (s.F b) (s.F b + s.M b) (s.F b + s.M b) (s.T b)) := by unfold Rf.St.split; rw [if_neg hz, if_pos hmo]
      rw [SplitDone, hs]
      refine ⟨rfl, _, h2.part hI.le hI.lp (by show (Rf.setAll _ _ _).length = n; rw [setAll_len, hI.li]), ?_, hT.mono (fun k _ hk => fe k hk)⟩
      intro k hk
      simp only [Value.ownBlock, Option.some.injEq] at hk ⊢
      rcases hg with rfl | hg
      · exact .inl hk
      · right; omega
    · refine (split_large B b n s.blocks.length ge ce gp cp gi ci gb cb (s.F b) (s.T b) (s.M b) s w o hb rfl rfl rfl rfl bb.1 bb.2.1 hfm hn (by omega) hm0 (by omega) hI.le hI.li (fun i hi => (hI.e1 i hi).1)).mono ?_
      rintro r w' ⟨rfl, gb', cb', h2, hg, hT⟩
      have hs : s.split b = (some s.blocks.length, s.cut b (s.F b + s.M b) (s.T b) (s.F b) (s.F b + s.M b)) := by unfold Rf.St.split; rw [if_neg hz, if_neg hmo]
      rw [SplitDone, hs]
      refine ⟨rfl, _, h2.part hI.le hI.lp (by show (Rf.setAll _ _ _).length = n; rw [setAll_len, hI.li]), ?_, hT.mono (fun k _ hk => fe k hk)⟩
      intro k hk
      simp only [Value.ownBlock, Option.some.injEq] at hk ⊢
      rcases hg with rfl | hg
      · exact .inl hk
      · right; omega

theorem size_any {w : World} {B : Nat} {ve vp vi vb : Value} {s : Rf.St} (h : PartAt w B ve vp vi vb s) :
    Calls Tryd.prog 17 #[.pointer (some ⟨B, 0, none⟩)] w fun e w' => e = .returned (.int .i64 (s.elems.length : Nat)) ∧ w = w' := by
  obtain ⟨ao, cap, rfl⟩ := owns_shape h.re
  exact size_some B ao _ cap w (by simp [World.cell?, h.box])

theorem blocks_any {w : World} {B : Nat} {ve vp vi vb : Value} {s : Rf.St} (h : PartAt w B ve vp vi vb s) :
    Calls Tryd.prog 16 #[.pointer (some ⟨B, 0, none⟩)] w fun e w' => e = .returned (.int .i64 (s.blocks.length : Nat)) ∧ w = w' := by
  obtain ⟨ao, cap, rfl⟩ := owns_shape h.rb
  exact blocks_some B ao _ cap w (by simp [World.cell?, h.box])

end Go.Proofs.YtfkhaldheclheaaDoor
