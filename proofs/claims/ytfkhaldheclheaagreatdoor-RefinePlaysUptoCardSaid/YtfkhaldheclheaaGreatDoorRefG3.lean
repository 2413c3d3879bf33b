/- A step of the game, in memory: what a mark and a split of the player leave. -/
import Derived.Test.YtfkhaldheclheaaGreatDoorRefG1
namespace Go.Proofs.YtfkhaldheclheaaGreatDoor
open Go.RowKit
set_option linter.unusedVariables false
set_option linter.unusedSimpArgs false

section
variable {w0 W w' : World} {ab n bk B : Nat} {ve vp vi vb vB vM : Value} {s s' : Rf.St} {F BF : Nat → Prop}

/-- The player has turned, nothing else. -/
theorem Team.turn (h : Team w0 W ab n bk s F BF) (hI : Rf.Inv s' n) (hp : PlayAt w' ab B bk n ve vp vi vb vB vM s') (hF : ∀ k, PlFoot ab B ve vp vi vb vB vM k → F k ∨ W.heap.size ≤ k) (hT : Turned F W w') :
    TeamTo w0 W ab n bk s' F BF w' := by
  obtain ⟨vi', vw, es, hb, hl, hBF⟩ := h.bo
  have hd : ∀ k, BF k → ¬ F k := fun k hb hf => h.dis k hf hb
  refine ⟨PlFoot ab B ve vp vi vb vB vM, BF, ⟨hI, h.hn, ⟨_, _, _, _, _, _, _, hp, fun k => Iff.rfl⟩, ⟨vi', vw, es, hb.keep (fun k hk => hT.block k (hb.foot_lt hk) (hd k ((hBF k).2 hk))), hl, hBF⟩, ?_, ?_, h.newb, h.bel.trans (hT.newOnly h.new h.bel.size)⟩, hF, fun k hk => .inl hk, hT.mono (fun k _ hk => .inl hk)⟩
  · intro k hk hb2
    rcases hF k hk with h1 | h1
    · exact h.dis k h1 hb2
    · have := h.BF_lt hb2; omega
  · intro k hk
    rcases hF k hk with h1 | h1
    · exact h.new k h1
    · have := h.bel.size; omega

theorem own_ne {w : World} {g : Nat} {e e' : TypeId} {base size m base' size' m' : Nat} {v v' : Value} {xs xs' : List Value} (h : w.ownsRow base e size v m xs) (h' : w.ownsRow base' e' size' v' m' xs') (he : e ≠ e') (hg : v.ownBlock = some g) : v'.ownBlock ≠ some g := owns_type_ne h h' he hg

/-- Behind a turn of the partition alone the reference's part reads as it did. -/
theorem PlayAt.refT {x x2 : World} (h : PlayAt W ab B bk n ve vp vi vb vB vM s) (hu : Up W x) (hT : Turned (Foot B ve vp vi vb) x x2) : RefAt x2 ab 1 vB vM n s.inn (s.marks n) s.blocks.length := by
  have hx := h.up hu
  have hr := hx.ref
  have hl := hu.size
  have ha : x2.heap[ab]? = x.heap[ab]? := hT.block ab (lt_of_block hx.box) h.apA
  have hc : ∀ i, x2.cell? ⟨ab, i, none⟩ = x.cell? ⟨ab, i, none⟩ := fun i => World.cell?_of_block (w := x) (w' := x2) (a := ⟨ab, i, none⟩) ha
  exact ⟨(hc _).trans hr.c0, (hc _).trans hr.c1, (hc _).trans hr.c2, owns_keep hr.rB (fun g hg => hT.block g (owns_lt hr.rB hg) (h.ap g hg)), owns_keep hr.rM (fun g hg => hT.block g (owns_lt hr.rM hg) (h.apM hg)), hr.nB, hr.nM⟩

theorem PlayAt.boxT {x x2 : World} (h : PlayAt W ab B bk n ve vp vi vb vB vM s) (hu : Up W x) (hT : Turned (Foot B ve vp vi vb) x x2) :
    x2.heap[ab]? = some (.cells #[.pointer (some ⟨B, 0, none⟩), vB, vM, .int .i64 (s.blocks.length : Nat), .pointer (some ⟨bk, 0, none⟩)] 62 (0, 0)) :=
  (hT.block ab (lt_of_block (h.up hu).box) h.apA).trans (h.up hu).box

theorem Rf.mark_len (s : Rf.St) (e : Nat) : (s.mark e).2.blocks.length = s.blocks.length ∧ (s.mark e).2.inn = s.inn := by
  unfold Rf.St.mark
  split
  · exact ⟨rfl, rfl⟩
  · exact ⟨by rw [Rf.markIn_len]; rfl, rfl⟩

theorem Rf.mark_did {s : Rf.St} {n e : Nat} (he : e < n) : (s.mark e).1 = !((s.marks n).getD e false) := by
  rw [Rf.marks_get _ _ _ he]
  unfold Rf.St.mark Rf.St.marked
  split <;> rename_i h <;> simp [h]

/-- Behind Mark, and behind the reference's mark. -/
theorem Team.marked {x x2 : World} {gM cM e : Nat} (h : Team w0 W ab n bk s F BF) (hp : PlayAt W ab B bk n ve vp vi vb vB (.slice (some ⟨gM, 0, none⟩) n cM) s) (hF : ∀ k, F k ↔ PlFoot ab B ve vp vi vb vB (.slice (some ⟨gM, 0, none⟩) n cM) k)
    (he : e < n) (hu : Up W x) (hP : PartAt x2 B ve vp vi vb (s.mark e).2) (hT : Turned (Foot B ve vp vi vb) x x2) (q : Nat) :
    TeamTo w0 W ab n bk (s.mark e).2 F BF ((x2.drewN q).setCell ⟨gM, e, none⟩ (.bool true)) := by
  obtain ⟨hlen, hinn⟩ := Rf.mark_len s e
  have hr := ((hp.refT hu hT).up ((Up.refl x2).drewN q)).setM e true
  have hgM : ¬ Foot B ve vp vi vb gM := hp.apM rfl
  have hneA : ab ≠ gM := fun hh => hp.ref.nM gM rfl hh.symm
  have tW : Turned F W x := ⟨hu.os, hu.tape, hu.output, hu.size, fun k hk _ => hu.block k hk⟩
  have t2 : Turned F W x2 := tW.trans hT (fun k _ hk => (hF k).2 (.inr (.inl hk)))
  have t3 : Turned F W ((x2.drewN q).setCell ⟨gM, e, none⟩ (.bool true)) := (t2.drewN q).setCell (p := ⟨gM, e, none⟩) (.inl ((hF _).2 (.inr (.inr (.inr rfl))))) _
  refine h.turn (Rf.mark_inv h.inv he) (B := B) (ve := ve) (vp := vp) (vi := vi) (vb := vb) (vB := vB) (vM := .slice (some ⟨gM, 0, none⟩) n cM) ⟨?_, ?_, ?_, ?_, hp.ap⟩ (fun k hk => .inl ((hF k).2 hk)) t3
  · refine hP.keep (fun k hk => Below.heap_setCell _ _ _ _ ?_)
    rintro rfl; exact hgM hk
  · rw [Below.heap_setCell _ _ _ _ hneA, hlen]
    show x2.heap[ab]? = _
    exact hp.boxT hu hT
  · rw [hinn]; exact hr.rB
  · rw [Rf.marks_mark h.inv he]; exact hr.rM

/-- Behind Split, and behind the reference's split. -/
theorem Team.parted {x x2 x2' x3 : World} {vb' : Value} {b : Nat} (h : Team w0 W ab n bk s F BF) (hp : PlayAt W ab B bk n ve vp vi vb vB vM s) (hF : ∀ k, F k ↔ PlFoot ab B ve vp vi vb vB vM k) (hb : b < s.blocks.length)
    (hu : Up W x) (hP : PartAt x2 B ve vp vi vb' (s.split b).2) (hvb : ∀ k, vb'.ownBlock = some k → vb.ownBlock = some k ∨ x.heap.size ≤ k) (hT : Turned (Foot B ve vp vi vb) x x2) (hu2 : Up x2 x2')
    (hR : RefAt x3 ab 1 vB vM n (s.split b).2.inn ((s.split b).2.marks n) (s.split b).2.blocks.length) (hT3 : Turned (RFoot ab vB vM) x2' x3)
    (hx : x3.heap[ab]? = (if (s.split b).1.isSome then (x2'.setCell ⟨ab, 1 + 2, none⟩ (.int .i64 ((s.blocks.length + 1 : Nat) : Int))).heap[ab]? else x2'.heap[ab]?)) :
    TeamTo w0 W ab n bk (s.split b).2 F BF x3 := by
  have hxs := hu.size
  have hlB : ∀ g, vB.ownBlock = some g → g < W.heap.size := fun g hg => owns_lt hp.rB hg
  have hlM : ∀ g, vM.ownBlock = some g → g < W.heap.size := fun g hg => owns_lt hp.rM hg
  have hlA : ab < W.heap.size := lt_of_block hp.box
  have tW : Turned F W x := ⟨hu.os, hu.tape, hu.output, hu.size, fun k hk _ => hu.block k hk⟩
  have t2 : Turned F W x2 := tW.trans hT (fun k _ hk => (hF k).2 (.inr (.inl hk)))
  have t2' : Turned F W x2' := t2.trans (T := fun _ => False) ⟨hu2.os, hu2.tape, hu2.output, hu2.size, fun k hk _ => hu2.block k hk⟩ (fun _ _ h => h.elim)
  have t3 : Turned F W x3 := t2'.trans hT3 (fun k _ hk => (hF k).2 (by
    rcases hk with h | h | h
    · exact .inl h
    · exact .inr (.inr (.inl h))
    · exact .inr (.inr (.inr h))))
  have hfoot : ∀ k, Foot B ve vp vi vb' k → Foot B ve vp vi vb k ∨ W.heap.size ≤ k := by
    intro k hk
    rcases hk with h | h | h | h | h
    · exact .inl (.inl h)
    · exact .inl (.inr (.inl h))
    · exact .inl (.inr (.inr (.inl h)))
    · exact .inl (.inr (.inr (.inr (.inl h))))
    · rcases hvb k h with h | h
      · exact .inl (.inr (.inr (.inr (.inr h))))
      · right; omega
  have hsplit := (Rf.split_ref h.inv hb).2.2.2
  have hbx0 := hp.boxT hu hT
  have hbx := (hu2.block ab (lt_of_block hbx0)).trans hbx0
  refine h.turn (Rf.split_inv h.inv hb) (B := B) (ve := ve) (vp := vp) (vi := vi) (vb := vb') (vB := vB) (vM := vM) ⟨?_, ?_, hR.rB, hR.rM, ?_⟩ ?_ t3
  · refine hP.keep (fun k hk => (hT3.block k (Nat.lt_of_lt_of_le (hP.foot_lt hk) hu2.size) ?_).trans (hu2.block k (hP.foot_lt hk)))
    rintro (rfl | hh | hh)
    · rcases hfoot _ hk with h1 | h1
      · exact hp.apA h1
      · omega
    · rcases hfoot _ hk with h1 | h1
      · exact hp.ap k hh h1
      · have := hlB k hh; omega
    · rcases hfoot _ hk with h1 | h1
      · exact hp.apM hh h1
      · have := hlM k hh; omega
  · rw [hx, hsplit]
    cases hsp : (s.split b).1.isSome
    · exact hbx
    · simp [World.setCell, Array.getElem?_modify, hbx]
  · intro g hg hf
    rcases hfoot g hf with h1 | h1
    · exact hp.ap g hg h1
    · have := hlB g hg; omega
  · intro k hk
    rcases hk with h1 | h1 | h1 | h1
    · exact .inl ((hF k).2 (.inl h1))
    · rcases hfoot k h1 with h2 | h2
      · exact .inl ((hF k).2 (.inr (.inl h2)))
      · exact .inr h2
    · exact .inl ((hF k).2 (.inr (.inr (.inl h1))))
    · exact .inl ((hF k).2 (.inr (.inr (.inr h1))))

theorem TeamTo.of_up {x : World} (hu : Up W x) (h : TeamTo w0 x ab n bk s' F BF w') : TeamTo w0 W ab n bk s' F BF w' := by
  obtain ⟨F', BF', hT, h1, h2, h3⟩ := h
  have hs := hu.size
  refine ⟨F', BF', hT, fun k hk => (h1 k hk).imp_right (fun h => by omega), fun k hk => (h2 k hk).imp_right (fun h => by omega), ?_⟩
  have t0 : Turned (fun k => F k ∨ BF k) W x := ⟨hu.os, hu.tape, hu.output, hu.size, fun k hk _ => hu.block k hk⟩
  exact t0.trans h3 (fun _ _ h => h)

/-- Ints of a list that is new in this step. -/
theorem Team.intsTo {x : World} {v : Value} {xs : List Int} (h : Team w0 W ab n bk s F BF) (hu : Up W x) (hv : x.ownsRow 0 3 1 v xs.length (xs.map (Value.int .i64))) (hx : xs.length ≤ 900000) (hN : ∀ g, v.ownBlock = some g → W.heap.size ≤ g) :
    Calls Tryz.prog 29 #[.pointer (some ⟨bk, 0, none⟩), v] x fun r w' => r = .returned (.tuple #[]) ∧ TeamTo w0 W ab n bk s F BF w' ∧ Turned BF x w' := by
  have hs := hu.size
  have hb0 := h.bel.size
  refine ((h.up hu).ints (B := fun k => v.ownBlock = some k) hv hx (fun g hg => ⟨fun hf => by have := h.F_lt hf; have := hN g hg; omega, fun hf => by have := h.BF_lt hf; have := hN g hg; omega, by have := hN g hg; omega⟩) (fun g hg => hg)).mono ?_
  rintro r w' ⟨rfl, BF', hT, hb, ht, _⟩
  refine ⟨rfl, ⟨F, BF', hT, fun k hk => .inl hk, fun k hk => ?_, ?_⟩, ht⟩
  · rcases hb k hk with h1 | h1 | h1
    · exact .inl h1
    · exact .inr (hN k h1)
    · right; omega
  · have t0 : Turned (fun k => F k ∨ BF k) W x := ⟨hu.os, hu.tape, hu.output, hu.size, fun k hk _ => hu.block k hk⟩
    exact t0.trans ht (fun _ _ h => .inr h)
end

theorem fault_index {W x1 w' : World} {a1 a2 ai : Addr} {f : Nat} (hS : Sts W a1 a2 ai) (hu : Up W x1) (hf : FaultAt x1 w' f layerRef (.iface 219 (.pointer (some ai)))) :
    ∀ w2, Up w' w2 → Calls Tryz.prog 25 #[.iface 77 (.pointer (some ⟨f, 0, none⟩)), .bool false] w2 (IndexDone w2) := by
  intro w2 hu2
  have h2 := hS.below (hu.trans (Up.trans hf.bel hu2))
  exact index_bad f ai a1 a2 ((hu2.block f (lt_of_block hf.cell)).trans hf.cell) h2.arg h2.lng h2.idx h2.n1 h2.n2

end Go.Proofs.YtfkhaldheclheaaGreatDoor
