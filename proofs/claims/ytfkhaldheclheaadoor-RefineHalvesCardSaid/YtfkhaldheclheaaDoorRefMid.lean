/- Split, by its contract; Block, Size, Blocks by theirs. Walks: alive; the code of a fault. What stands in a class of worlds; the lexical walk of a quiet region, shut; Block by its contract. -/
import Derived.Test.YtfkhaldheclheaaDoorRefW11
import Derived.Test.YtfkhaldheclheaaDoorRefW7
import Derived.Test.YtfkhaldheclheaaDoorErrIs
import Derived.LaidEql
import Derived.Deep.Quiet

namespace Go.Proofs.YtfkhaldheclheaaDoor
open Go.RowKit
set_option linter.unusedVariables false
set_option linter.unusedSimpArgs false

/-- The blocks that a partition may have after a split: its own, or its own and a new one in the place of its row of blocks. -/
def SplitDone (w : World) (B : Nat) (ve vp vi vb : Value) (s : Rf.St) (b : Nat) (r : Ending) (w' : World) : Prop :=
  r = .returned (.tuple #[.int .i64 (((s.split b).1.getD 0 : Nat) : Int), .bool (s.split b).1.isSome, .nilIface]) ∧
    ∃ vb', PartAt w' B ve vp vi vb' (s.split b).2 ∧ (∀ k, vb'.ownBlock = some k → vb.ownBlock = some k ∨ w.heap.size ≤ k) ∧ Turned (Foot B ve vp vi vb) w w'

theorem blocks_le {s : Rf.St} {n : Nat} (hI : Rf.Inv s n) : s.blocks.length ≤ n := by
  have hE : ∀ b, b < s.blocks.length → s.I (s.E (s.F b)) = b := fun b hb => hI.in2 b hb _ (Nat.le_refl _) (hI.b1 b hb).1
  have hF : ∀ b, b < s.blocks.length → s.E (s.F b) < n := fun b hb => (hI.e1 _ (by have := hI.b1 b hb; omega)).1
  have hnd : ((List.range s.blocks.length).map fun b => s.E (s.F b)).Nodup := by
    rw [List.nodup_iff_pairwise_ne, List.pairwise_map]
    refine (List.nodup_range (n := s.blocks.length)).imp_of_mem ?_
    intro a c ha hc hne e
    have ha' := List.mem_range.1 ha
    have hc' := List.mem_range.1 hc
    apply hne
    rw [← hE a ha', ← hE c hc', e]
  have := hnd.length_le_of_subset (l₂ := List.range n) (by
    intro x hx
    obtain ⟨b, hb, rfl⟩ := List.mem_map.1 hx
    exact List.mem_range.2 (hF b (List.mem_range.1 hb)))
  simpa using this

set_option maxHeartbeats 1000000 in
theorem split_any {w : World} {B n b : Nat} {ve vp vi vb : Value} {s : Rf.St} (h : PartAt w B ve vp vi vb s) (hI : Rf.Inv s n) (hn : n ≤ 1000) (hb : b < s.blocks.length) :
    Calls Tryd.prog 14 #[.pointer (some ⟨B, 0, none⟩), .int .i64 b] w (SplitDone w B ve vp vi vb s b) := by
  have bb := hI.b1 b hb
  have hle := blocks_le hI
  obtain ⟨ge, ce, gp, cp, gi, ci, gb, cb, rfl, rfl, rfl, rfl, o⟩ := h.ob hI (by omega)
  have fe : ∀ k, k = B ∨ k = gi ∨ k = gb → Foot B (.slice (some ⟨ge, 0, none⟩) n ce) (.slice (some ⟨gp, 0, none⟩) n cp) (.slice (some ⟨gi, 0, none⟩) n ci) (.slice (some ⟨gb, 0, none⟩) s.blocks.length cb) k := by
    intro k hk
    rcases hk with rfl | rfl | rfl
    · exact .inl rfl
    · exact .inr (.inr (.inr (.inl rfl)))
    · exact .inr (.inr (.inr (.inr rfl)))
  by_cases hz : s.M b = 0 ∨ s.T b - s.F b - s.M b = 0
  · refine (split_flat B b n s.blocks.length ge ce gp cp gi ci gb cb (s.F b) (s.T b) (s.M b) s w o hb rfl rfl rfl rfl bb.1 bb.2.1 bb.2.2 hn hz).mono ?_
    rintro r w' ⟨rfl, q, rfl⟩
    have hs : s.split b = (none, s.bare b) := by unfold Rf.St.split; rw [if_pos hz]
    rw [SplitDone, hs]
    refine ⟨rfl, .slice (some ⟨gb, 0, none⟩) s.blocks.length cb, ?_, fun k hk => .inl hk, ?_⟩
    · have h2 := ((o.alloc (.cells #[.pointer none] 31)).drewN q).setB (b * 3 + 2) (.int .i64 0) _ (cellsB_set2 s.blocks b 0 hb) (by simp)
      have h3 := h2.part hI.le hI.lp hI.li
      simpa [Rf.St.bare, Rf.St.F, Rf.St.T] using h3
    · exact (((Turned.refl _ _).alloc _).drewN q).setCell (.inl (fe _ (.inr (.inr rfl)))) _
  · have hm0 : 0 < s.M b := by omega
    have hfm : s.F b + s.M b < s.T b := by omega
    by_cases hmo : s.M b ≤ s.T b - s.F b - s.M b
    · refine (split_small B b n s.blocks.length ge ce gp cp gi ci gb cb (s.F b) (s.T b) (s.M b) s w o hb rfl rfl rfl rfl bb.1 bb.2.1 hfm hn (by omega) hm0 hmo hI.le hI.li (fun i hi => (hI.e1 i hi).1)).mono ?_
      rintro r w' ⟨rfl, gb', cb', h2, hg, hT⟩
      have hs : s.split b = (some s.blocks.length, s.cut b (s.F b) (s.F b + s.M b) (s.F b + s.M b) (s.T b)) := by unfold Rf.St.split; rw [if_neg hz, if_pos hmo]
      rw [SplitDone, hs]
      refine ⟨rfl, _, h2.part hI.le hI.lp (by show (Rf.setAll _ _ _).length = n; rw [setAll_len, hI.li]), ?_, hT.mono (fun k _ hk => fe k hk)⟩
      intro k hk
      simp only [Value.ownBlock, Option.some.injEq] at hk ⊢
      rcases hg with rfl | hg
      · exact .inl hk
      · right; omega
    · refine (split_large B b n s.blocks.length ge ce gp cp gi ci gb cb (s.F b) (s.T b) (s.M b) s w o hb rfl rfl rfl rfl bb.1 bb.2.1 hfm hn (by omega) hm0 (by omega) hI.le hI.li (fun i hi => (hI.e1 i hi).1)).mono ?_
      rintro r w' ⟨rfl, gb', cb', h2, hg, hT⟩
      have hs : s.split b = (some s.blocks.length, s.cut b (s.F b + s.M b) (s.T b) (s.F b) (s.F b + s.M b)) := by unfold Rf.St.split; rw [if_neg hz, if_neg hmo]
      rw [SplitDone, hs]
      refine ⟨rfl, _, h2.part hI.le hI.lp (by show (Rf.setAll _ _ _).length = n; rw [setAll_len, hI.li]), ?_, hT.mono (fun k _ hk => fe k hk)⟩
      intro k hk
      simp only [Value.ownBlock, Option.some.injEq] at hk ⊢
      rcases hg with rfl | hg
      · exact .inl hk
      · right; omega

theorem size_any {w : World} {B : Nat} {ve vp vi vb : Value} {s : Rf.St} (h : PartAt w B ve vp vi vb s) :
    Calls Tryd.prog 17 #[.pointer (some ⟨B, 0, none⟩)] w fun e w' => e = .returned (.int .i64 (s.elems.length : Nat)) ∧ w = w' := by
  obtain ⟨ao, cap, rfl⟩ := owns_shape h.re
  exact size_some B ao _ cap w (by simp [World.cell?, h.box])

theorem blocks_any {w : World} {B : Nat} {ve vp vi vb : Value} {s : Rf.St} (h : PartAt w B ve vp vi vb s) :
    Calls Tryd.prog 16 #[.pointer (some ⟨B, 0, none⟩)] w fun e w' => e = .returned (.int .i64 (s.blocks.length : Nat)) ∧ w = w' := by
  obtain ⟨ao, cap, rfl⟩ := owns_shape h.rb
  exact blocks_some B ao _ cap w (by simp [World.cell?, h.box])

end Go.Proofs.YtfkhaldheclheaaDoor

namespace Go.Proofs.YtfkhaldheclheaaDoor
open Go.RowKit
set_option linter.unusedVariables false
set_option linter.unusedSimpArgs false

theorem Turned.newOnly {S : Nat → Prop} {w w' : World} {n : Nat} (h : Turned S w w') (hS : ∀ k, S k → n ≤ k) (hn : n ≤ w.heap.size) : Below n w w' :=
  ⟨h.os, h.tape, h.output, h.size, fun i hi => h.block i (by omega) (fun hs => by have := hS i hs; omega)⟩

def five : Rf.St := Rf.ofSt (List.replicate 5 0)

theorem five_inv : Rf.Inv five 5 := Rf.of_inv (List.replicate 5 0)
theorem five_mark : (five.mark 1).1 = true := by decide
theorem five_len : 0 < (five.mark 1).2.blocks.length := by decide
theorem five_split : ((five.mark 1).2.split 0).1 = some 1 := by decide
theorem five_blocks : ((five.mark 1).2.split 0).2.blocks.length = 2 := by decide

set_option maxHeartbeats 4000000 in
set_option maxRecDepth 100000 in
theorem alive_true (w : World) :
    Calls Tryd.prog 7 #[] w fun r w' => r = .returned (.bool true) ∧ Below w.heap.size w w' := by
  go_enter Tryd.func7, Tryd.ntmps7
  go_upto_region 2 with (go_at_call 6; refine (new_ok 5 _ (by omega)).mono ?_; rintro e w1 ⟨B, ve, vp, vi, vb, rfl, hP, hF, hb⟩)
  go_upto_region 3 with (go_at_call 11; refine (mark_any (e := 1) hP five_inv (by omega) (by omega)).mono ?_; rintro e w2 ⟨he, hP2, hT2, hs2⟩; rw [show ((Rf.ofSt (List.replicate 5 0)).mark 1).1 = true from five_mark] at he; subst he)
  go_upto_region 4 with (go_at_call 14; refine (split_any (b := 0) hP2 (Rf.mark_inv five_inv (by omega)) (by omega) five_len).mono ?_; rintro e w3 ⟨he, vb3, hP3, hn3, hT3⟩; rw [show (((Rf.ofSt (List.replicate 5 0)).mark 1).2.split 0).1 = some 1 from five_split] at he; subst he)
  have hB := blocks_any hP3
  rw [show (((Rf.ofSt (List.replicate 5 0)).mark 1).2.split 0).2.blocks.length = 2 from five_blocks] at hB
  have h3 : Below w.heap.size w w3 := by
    have h2 : Below w.heap.size w w2 := hb.trans (hT2.newOnly hF hb.size)
    exact h2.trans (hT3.newOnly hF h2.size)
  clear hP hP2 hP3 hF hb hT2 hT3 hn3 hs2
  have HB := Lib.hid hB
  clear hB
  go_wp2_with (go_at_call 16; refine HB.out.mono ?_; rintro e w4 ⟨rfl, rfl⟩)
  go_ret
  exact ⟨rfl, h3⟩

/-- The code of a fault that wraps ErrArg. -/
theorem code_arg (pb : Nat) (b : Addr) (w : World) (h1 : w.cell? ⟨pb, 3, none⟩ = some (.iface 126 (.pointer (some b)))) (hg : w.cell? ⟨1, 0, none⟩ = some (.iface 126 (.pointer (some b)))) :
    Calls Tryd.prog 8 #[.iface 31 (.pointer (some ⟨pb, 0, none⟩))] w fun r w' => r = .returned (.int .i64 1) ∧ w = w' := by
  go_enter Tryd.func8, Tryd.ntmps8
  go_wp2_with (go_at_call 20; refine (is_fault_same pb b _ h1).mono ?_; rintro e w4 ⟨rfl, rfl⟩)
  go_ret
  exact ⟨rfl, rfl⟩

end Go.Proofs.YtfkhaldheclheaaDoor

namespace Go.Proofs.YtfkhaldheclheaaDoor
open Go.RowKit
set_option linter.unusedVariables false
set_option linter.unusedSimpArgs false

theorem cell_lt {w : World} {p : Addr} {v : Value} (h : w.cell? p = some v) : p.block < w.heap.size := World.block_lt_of_cell? w p h

theorem Below.cellUp {w w' : World} {n : Nat} {p : Addr} {v : Value} (hb : Below n w w') (hp : p.block < n) (h : w.cell? p = some v) : w'.cell? p = some v := (hb.cell hp).trans h

/-- The lexical walk of a quiet region, shut: so that no tactic lays it open ahead of its time. -/
structure WQ (P : Program) (ops : Array Oper) (C : World → Prop) (Q : Act → Prop) (l : List Oper) (a : Act) : Prop where
  out : wpQuiet P ops C Q l a

/-- A region that draws its order, every operation quiet in a class of worlds. -/
theorem wp_region_quiet_in {P : Program} {id : Nat} {Q : Exit → Act → World → Prop} {a : Act} {w : World} {l : List Oper} (C : World → Prop) (hm : P.follows .mixedOrders = true) (hB : Region.lexB .any l.toArray = true) (hC : C w.drew)
    (h : WQ P l.toArray C (fun a' => ∀ w', C w' → Q .normal a' w') l a) : (Code.region id l.toArray true).wp P Q a w :=
  wp_region_quiet (C := C) hm hB hC (by simpa using h.out)

section
variable {P : Program} {ops : Array Oper} {C : World → Prop} {Q : Act → Prop} {a : Act} {o : Oper} {rest : List Oper}

theorem WQ.nil (h : Q a) : WQ P ops C Q [] a := ⟨h⟩

theorem WQ.step (h : ∀ K : Act → Prop, (∀ a, WQ P ops C Q rest a → K a) → if Region.wanted o (yielded ops a.tmps) then o.quiet P a C K else K (a.put o.dst undef)) : WQ P ops C Q (o :: rest) a :=
  ⟨wpQuiet_step (fun K hK => h K (fun a h => hK a h.out))⟩

theorem WQ.skip (h : Region.wanted o (yielded ops a.tmps) = false) (hr : WQ P ops C Q rest (a.put o.dst undef)) : WQ P ops C Q (o :: rest) a := by
  refine ⟨?_⟩
  unfold wpQuiet; rw [if_neg (by rw [h]; simp)]; exact hr.out

theorem WQ.want (v : Value) (h : Region.wanted o (yielded ops a.tmps) = true) (hq : ∀ w, C w → o.quietAt P a C w v) (hr : WQ P ops C Q rest (a.put o.dst v)) : WQ P ops C Q (o :: rest) a := by
  refine ⟨?_⟩
  unfold wpQuiet; rw [if_pos h]; exact ⟨v, hq, hr.out⟩
end

theorem block_at {w : World} {B n e : Nat} {ve vp vi vb : Value} {s : Rf.St} (h : PartAt w B ve vp vi vb s) (hI : Rf.Inv s n) (he : e < n) :
    Calls Tryd.prog 9 #[.pointer (some ⟨B, 0, none⟩), .int .i64 e] w fun r w' => r = .returned (.tuple #[.int .i64 (s.I e : Nat), .nilIface]) ∧ w = w' := by
  obtain ⟨ge, ce, gp, cp, gi, ci, gb, cb, rfl, rfl, rfl, rfl, o⟩ := h.ob hI (by omega)
  exact block_in B n ce n ci gi e _ _ w he he o.c0 o.c2 (o.o.ri.cell (ints_get (l := s.inn) (i := e) (by rw [hI.li]; exact he)))

theorem block_off {w : World} {B n : Nat} {e : Int} {ve vp vi vb : Value} {s : Rf.St} {xt : TypeId} {xv : Value} (h : PartAt w B ve vp vi vb s) (hI : Rf.Inv s n) (he : e < 0 ∨ (n : Int) ≤ e) (hg : w.cell? ⟨0, 0, none⟩ = some (.iface xt xv)) :
    Calls Tryd.prog 9 #[.pointer (some ⟨B, 0, none⟩), .int .i64 e] w fun r w' =>
      r = .returned (.tuple #[.int .i64 0, .iface 31 (.pointer (some ⟨w.heap.size, 0, none⟩))]) ∧ w.alloc (.cells #[.string layerRef, .int .i64 0, .int .i64 0, .iface xt xv] 35) = w' := by
  obtain ⟨ao, cap, rfl⟩ := owns_shape h.re
  have c0 : w.cell? ⟨B, 0, none⟩ = some (.slice ao n cap) := by simp [World.cell?, h.box, hI.le]
  exact block_out B n cap e ao xt xv w he c0 hg

end Go.Proofs.YtfkhaldheclheaaDoor
