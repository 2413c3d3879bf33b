/- A step of the game, whatever it asks; two players and the book, in a game. Walks: the game. -/
import Derived.Test.YtfkhaldheclheaaGreatDoorRefG5
import Derived.Test.YtfkhaldheclheaaGreatDoorRefG6
import Derived.Test.YtfkhaldheclheaaGreatDoorRefG7
import Derived.Test.YtfkhaldheclheaaGreatDoorRefG8
import Derived.Test.YtfkhaldheclheaaGreatDoorRefG9

namespace Go.Proofs.YtfkhaldheclheaaGreatDoor
open Go.RowKit
set_option linter.unusedVariables false
set_option linter.unusedSimpArgs false

theorem step_any {w0 W : World} {ab n bk : Nat} {s : Rf.St} {F BF : Nat → Prop} {a1 a2 ai : Addr} (kd N : Int) (h : Team w0 W ab n bk s F BF) (hS : Sts w0 a1 a2 ai) :
    Calls Tryz.prog 13 #[.pointer (some ⟨ab, 0, none⟩), .agg #[.int .i64 kd, .int .i64 N]] W (StepDone w0 W ab n bk F BF) := by
  by_cases h1 : kd = 1
  · subst h1; exact step_mark N h hS
  by_cases h2 : kd = 2
  · subst h2; exact step_split N h hS
  by_cases h3 : kd = 3
  · subst h3; exact step_block N h hS
  by_cases h4 : kd = 4
  · subst h4; exact step_members N h hS
  by_cases h5 : kd = 5
  · subst h5; exact step_marks N h hS
  exact step_look kd N h hS h1 h2 h3 h4 h5

/-- Two players, one book. -/
structure Game (w0 W : World) (a na b nb bk : Nat) (sa sb : Rf.St) (Fa Fb BF : Nat → Prop) : Prop where
  ta : Team w0 W a na bk sa Fa BF
  tb : Team w0 W b nb bk sb Fb BF
  dis : ∀ k, Fa k → ¬ Fb k

section
variable {w0 W w' : World} {a na b nb bk : Nat} {sa sb sa' : Rf.St} {Fa Fb BF : Nat → Prop}

theorem Game.swap (h : Game w0 W a na b nb bk sa sb Fa Fb BF) : Game w0 W b nb a na bk sb sa Fb Fa BF := ⟨h.tb, h.ta, fun k hk hh => h.dis k hh hk⟩

theorem Game.left (h : Game w0 W a na b nb bk sa sb Fa Fb BF) (hT : TeamTo w0 W a na bk sa' Fa BF w') : ∃ Fa' BF', Game w0 w' a na b nb bk sa' sb Fa' Fb BF' := by
  obtain ⟨Fa', BF', ht, h1, h2, h3⟩ := hT
  obtain ⟨B, ve, vp, vi, vb, vB, vM, hp, hF⟩ := h.tb.pl
  refine ⟨Fa', BF', ht, ⟨h.tb.inv, h.tb.hn, ⟨B, ve, vp, vi, vb, vB, vM, hp.keep (fun k hk => h3.block k (hp.foot_lt hk) ?_), hF⟩, ht.bo, ?_, h.tb.new, ht.newb, ht.bel⟩, ?_⟩
  · rintro (hh | hh)
    · exact h.dis k hh ((hF k).2 hk)
    · exact h.tb.dis k ((hF k).2 hk) hh
  · intro k hk hb
    rcases h2 k hb with h4 | h4
    · exact h.tb.dis k hk h4
    · have := h.tb.F_lt hk; omega
  · intro k hk hb
    rcases h1 k hk with h4 | h4
    · exact h.dis k h4 hb
    · have := h.tb.F_lt hb; omega
end

/-- The game goes on. -/
def InGame (w0 W : World) (a na b nb bk : Nat) : Prop := ∃ sa sb Fa Fb BF, Game w0 W a na b nb bk sa sb Fa Fb BF

section
variable {w0 W : World} {a na b nb bk : Nat} {a1 a2 ai : Addr}

theorem InGame.swap (h : InGame w0 W a na b nb bk) : InGame w0 W b nb a na bk := by
  obtain ⟨sa, sb, Fa, Fb, BF, hG⟩ := h
  exact ⟨sb, sa, Fb, Fa, BF, hG.swap⟩

theorem InGame.up {w' : World} (h : InGame w0 W a na b nb bk) (hu : Up W w') : InGame w0 w' a na b nb bk := by
  obtain ⟨sa, sb, Fa, Fb, BF, hG⟩ := h
  exact ⟨sa, sb, Fa, Fb, BF, hG.ta.up hu, hG.tb.up hu, hG.dis⟩

theorem InGame.bel (h : InGame w0 W a na b nb bk) : Below w0.heap.size w0 W := by
  obtain ⟨sa, sb, Fa, Fb, BF, hG⟩ := h
  exact hG.ta.bel

theorem InGame.step (kd N : Int) (hS : Sts w0 a1 a2 ai) (h : InGame w0 W a na b nb bk) :
    Calls Tryz.prog 13 #[.pointer (some ⟨a, 0, none⟩), .agg #[.int .i64 kd, .int .i64 N]] W fun r w' => r = .returned (.bool true) ∧ InGame w0 w' a na b nb bk := by
  obtain ⟨sa, sb, Fa, Fb, BF, hG⟩ := h
  refine (step_any kd N hG.ta hS).mono ?_
  rintro r w' ⟨rfl, s', hT⟩
  obtain ⟨Fa', BF', hG'⟩ := hG.left hT
  exact ⟨rfl, _, _, _, _, _, hG'⟩

theorem InGame.looks (h : InGame w0 W a na b nb bk) :
    Calls Tryz.prog 14 #[.pointer (some ⟨a, 0, none⟩)] W fun r w' => r = .returned (.bool true) ∧ InGame w0 w' a na b nb bk := by
  obtain ⟨sa, sb, Fa, Fb, BF, hG⟩ := h
  refine (looks_ok hG.ta).mono ?_
  rintro r w' ⟨rfl, hT⟩
  obtain ⟨Fa', BF', hG'⟩ := hG.left hT
  exact ⟨rfl, _, _, _, _, _, hG'⟩

theorem InGame.stepB (kd N : Int) (hS : Sts w0 a1 a2 ai) (h : InGame w0 W a na b nb bk) :
    Calls Tryz.prog 13 #[.pointer (some ⟨b, 0, none⟩), .agg #[.int .i64 kd, .int .i64 N]] W fun r w' => r = .returned (.bool true) ∧ InGame w0 w' a na b nb bk :=
  (InGame.step kd N hS h.swap).mono fun r w' hh => ⟨hh.1, hh.2.swap⟩

theorem InGame.looksB (h : InGame w0 W a na b nb bk) :
    Calls Tryz.prog 14 #[.pointer (some ⟨b, 0, none⟩)] W fun r w' => r = .returned (.bool true) ∧ InGame w0 w' a na b nb bk :=
  (InGame.looks h.swap).mono fun r w' hh => ⟨hh.1, hh.2.swap⟩
end

theorem Rf.outer_M (inn : List Nat) (n : Nat) : ∀ b, ∀ x ∈ (Rf.outer inn n b).2, x.2.2 = 0 := by
  intro b
  induction b with
  | zero => intro x hx; simp [Rf.outer] at hx
  | succ b ih =>
    intro x hx
    simp only [Rf.outer, List.mem_append, List.mem_singleton] at hx
    rcases hx with hx | rfl
    · exact ih x hx
    · rfl

theorem Rf.of_M (l : List Int) (b : Nat) : (Rf.ofSt l).M b = 0 := by
  unfold Rf.St.M
  by_cases hb : b < (Rf.ofSt l).blocks.length
  · have h2 : (Rf.ofSt l).blocks.getD b (0, 0, 0) = (Rf.ofSt l).blocks[b] := by simp [List.getD, hb]
    rw [h2]
    exact Rf.outer_M _ _ _ _ (List.getElem_mem hb)
  · have h2 : (Rf.ofSt l).blocks.getD b (0, 0, 0) = (0, 0, 0) := by simp [List.getD, hb]
    rw [h2]

theorem Rf.of_marks (l : List Int) : (Rf.ofSt l).marks l.length = List.replicate l.length false := by
  refine Rf.bools_ext (by rw [Rf.marks_len]; simp) (fun x hx => ?_)
  rw [Rf.marks_len] at hx
  rw [Rf.marks_get _ _ _ hx]
  have h1 := (Rf.of_inv l).in1 x hx
  have : (Rf.ofSt l).marked x = false := by
    simp only [Rf.St.marked, Rf.of_M]; simp; omega
  rw [this]; simp [List.getD, hx]

/-- A partition and the reference's, not yet joined: where all of it lies. -/
structure Pl (w' : World) (n : Nat) (s : Rf.St) (B rb : Nat) (ve vp vi vb vB vM : Value) : Prop where
  part : PartAt w' B ve vp vi vb s
  box : w'.heap[rb]? = some (.cells #[vB, vM, .int .i64 (s.blocks.length : Nat)] 48 (0, 0))
  rB : w'.ownsRow 0 3 1 vB n (ints s.inn)
  rM : w'.ownsRow 0 4 1 vM n (bools (s.marks n))

/-- A partition lies where v says, its blocks in S. -/
def HasP (s : Rf.St) (S : Nat → Prop) (v : Value) (w' : World) : Prop := ∃ B ve vp vi vb, v = .pointer (some ⟨B, 0, none⟩) ∧ PartAt w' B ve vp vi vb s ∧ ∀ k, Foot B ve vp vi vb k → S k

/-- The reference's partition lies in the variable at rb, its lists in S. -/
def HasR (n : Nat) (s : Rf.St) (S : Nat → Prop) (rb : Nat) (w' : World) : Prop := ∃ vB vM, w'.heap[rb]? = some (.cells #[vB, vM, .int .i64 (s.blocks.length : Nat)] 48 (0, 0)) ∧
  w'.ownsRow 0 3 1 vB n (ints s.inn) ∧ w'.ownsRow 0 4 1 vM n (bools (s.marks n)) ∧ ∀ g, vB.ownBlock = some g ∨ vM.ownBlock = some g → S g

theorem HasP.up {s : Rf.St} {S : Nat → Prop} {v : Value} {w w' : World} (h : HasP s S v w) (hu : Up w w') : HasP s S v w' := by
  obtain ⟨B, ve, vp, vi, vb, rfl, hp, hF⟩ := h
  exact ⟨B, ve, vp, vi, vb, rfl, hp.below hu, hF⟩

theorem HasP.mono {s : Rf.St} {S T : Nat → Prop} {v : Value} {w : World} (h : HasP s S v w) (hS : ∀ k, k < w.heap.size → S k → T k) : HasP s T v w := by
  obtain ⟨B, ve, vp, vi, vb, rfl, hp, hF⟩ := h
  exact ⟨B, ve, vp, vi, vb, rfl, hp, fun k hk => hS k (hp.foot_lt hk) (hF k hk)⟩

theorem HasR.up {n : Nat} {s : Rf.St} {S : Nat → Prop} {rb : Nat} {w w' : World} (h : HasR n s S rb w) (hu : Up w w') : HasR n s S rb w' := by
  obtain ⟨vB, vM, hb, h1, h2, hS⟩ := h
  exact ⟨vB, vM, (hu.block rb (lt_of_block hb)).trans hb, hu.owns h1, hu.owns h2, hS⟩

theorem HasR.mono {n : Nat} {s : Rf.St} {S T : Nat → Prop} {rb : Nat} {w : World} (h : HasR n s S rb w) (hS : ∀ k, k < w.heap.size → S k → T k) : HasR n s T rb w := by
  obtain ⟨vB, vM, hb, h1, h2, hSS⟩ := h
  exact ⟨vB, vM, hb, h1, h2, fun g hg => hS g (by rcases hg with hg | hg; exact owns_lt h1 hg; exact owns_lt h2 hg) (hSS g hg)⟩

/-- What the two answers of New, or of Of, are. -/
def NewR (W : World) (ai : Addr) (ok : Bool) (s : Rf.St) (v e : Value) (w' : World) : Prop :=
  Up W w' ∧ ((ok = true ∧ e = .nilIface ∧ HasP s (fun k => W.heap.size ≤ k) v w') ∨ (ok = false ∧ v = .pointer none ∧ ∃ f, e = .iface 77 (.pointer (some ⟨f, 0, none⟩)) ∧ FaultAt W w' f layerRef (.iface 219 (.pointer (some ai)))))

/-- What the two answers of the reference's New, or of Of, are, the first in a variable. -/
def RefR (W : World) (ok : Bool) (n : Nat) (s : Rf.St) (v e : Value) (w' : World) : Prop :=
  Up W w' ∧ e = .bool ok ∧ ∃ rb, v = .pointer (some ⟨rb, 0, none⟩) ∧ W.heap.size ≤ rb ∧ HasR n s (fun k => W.heap.size ≤ k) rb w'

/-- Behind the game's head: a partition and the reference's. -/
def PlR (W : World) (n : Nat) (s : Rf.St) (S : Nat → Prop) (rb : Nat) (v : Value) (w' : World) : Prop :=
  Up W w' ∧ HasP s (fun k => S k ∨ W.heap.size ≤ k) v w' ∧ HasR n s S rb w'


end Go.Proofs.YtfkhaldheclheaaGreatDoor

namespace Go.Proofs.YtfkhaldheclheaaGreatDoor
open Go.RowKit
set_option linter.unusedVariables false
set_option linter.unusedSimpArgs false

/-- A book that keeps nothing. -/
def BookNil (W : World) (bk : Nat) : Prop := W.heap[bk]? = some (.cells #[.slice none 0 0, .slice none 0 0, .slice none 0 0, .slice none 0 0, .slice none 0 0, .slice none 0 0, .slice none 0 0, .slice none 0 0, .slice none 0 0, .slice none 0 0, .slice none 0 0, .slice none 0 0, .slice none 0 0, .slice none 0 0, .slice none 0 0, .slice none 0 0, .slice none 0 0, .slice none 0 0, .slice none 0 0, .slice none 0 0, .slice none 0 0, .slice none 0 0] 40 (0, 0))

theorem BookNil.up {w w' : World} {bk : Nat} (h : BookNil w bk) (hu : Up w w') : BookNil w' bk := (hu.block bk (lt_of_block h)).trans h

theorem BookNil.book {w : World} {bk : Nat} (h : BookNil w bk) : BookAt w bk (.slice none 0 0) (.slice none 0 0) [] :=
  ⟨h, World.ownsRow_nil _ _ _ _, World.ownsRow_nil _ _ _ _, fun g hg => (by cases hg), fun e he => (by cases he), List.nodup_nil, fun e he => (by cases he)⟩

theorem team_begins {w0 x W : World} {a n bk B : Nat} {s : Rf.St} {ve vp vi vb vB vM : Value} {P R : Nat → Prop} (hI : Rf.Inv s n) (hn : n ≤ 1000) (hx : Up x W) (h0 : Below w0.heap.size w0 W)
    (hp : PartAt x B ve vp vi vb s) (hP : ∀ k, Foot B ve vp vi vb k → P k) (hB : x.ownsRow 0 3 1 vB n (ints s.inn)) (hM : x.ownsRow 0 4 1 vM n (bools (s.marks n))) (hR : ∀ g, vB.ownBlock = some g ∨ vM.ownBlock = some g → R g)
    (bx : W.heap[a]? = some (.cells #[.pointer (some ⟨B, 0, none⟩), vB, vM, .int .i64 (s.blocks.length : Nat), .pointer (some ⟨bk, 0, none⟩)] 62 (0, 0)))
    (ha : x.heap.size ≤ a) (hbook : BookNil x bk) (hPR : ∀ k, P k → ¬ R k) (hPn : ∀ k, P k → w0.heap.size ≤ k ∧ k ≠ bk) (hRn : ∀ k, R k → w0.heap.size ≤ k ∧ k ≠ bk) (hbk : w0.heap.size ≤ bk) :
    ∃ F, Team w0 W a n bk s F (BkFoot bk (.slice none 0 0) (.slice none 0 0) []) ∧ ∀ k, F k → k = a ∨ P k ∨ R k := by
  have hbl := lt_of_block hbook
  have hf : ∀ k, PlFoot a B ve vp vi vb vB vM k → k = a ∨ P k ∨ R k := by
    intro k hk
    rcases hk with h | h | h | h
    · exact .inl h
    · exact .inr (.inl (hP k h))
    · exact .inr (.inr (hR k (.inl h)))
    · exact .inr (.inr (hR k (.inr h)))
  refine ⟨PlFoot a B ve vp vi vb vB vM, ⟨hI, hn, ⟨B, ve, vp, vi, vb, vB, vM, ⟨hp.below hx, bx, hx.owns hB, hx.owns hM, fun g hg hh => hPR g (hP g hh) (hR g (.inl hg))⟩, fun k => Iff.rfl⟩,
    ⟨_, _, _, (hbook.up hx).book, by simp, fun k => Iff.rfl⟩, ?_, ?_, ?_, h0⟩, hf⟩
  · intro k hk hb
    have hkb : k = bk := by
      rcases hb with h | h | h | h
      · exact h
      · cases h
      · cases h
      · simp [entBlocks] at h
    rcases hf k hk with h | h | h
    · omega
    · exact (hPn k h).2 hkb
    · exact (hRn k h).2 hkb
  · intro k hk
    rcases hf k hk with h | h | h
    · have := h0.size; omega
    · exact (hPn k h).1
    · exact (hRn k h).1
  · intro k hb
    rcases hb with h | h | h | h
    · omega
    · cases h
    · cases h
    · simp [entBlocks] at h

theorem HasR.cells {n : Nat} {s : Rf.St} {S : Nat → Prop} {rb : Nat} {w : World} (h : HasR n s S rb w) : ∃ vB vM, w.cell? ⟨rb, 0, none⟩ = some vB ∧ w.cell? ⟨rb, 1, none⟩ = some vM ∧ w.cell? ⟨rb, 2, none⟩ = some (.int .i64 (s.blocks.length : Nat)) ∧
    w.ownsRow 0 3 1 vB n (ints s.inn) ∧ w.ownsRow 0 4 1 vM n (bools (s.marks n)) ∧ ∀ g, vB.ownBlock = some g ∨ vM.ownBlock = some g → S g := by
  obtain ⟨vB, vM, hb, h1, h2, h3⟩ := h
  exact ⟨vB, vM, by simp [World.cell?, hb], by simp [World.cell?, hb], by simp [World.cell?, hb], h1, h2, h3⟩

/-- What the game is handed. -/
structure Handed (w : World) (ao bo : Option Addr) (l : List Int) (os : List (Int × Int)) (m g off g2 off2 : Nat) : Prop where
  hl : l.length ≤ 9223372036854775807
  hao : 0 < l.length → ao = some ⟨g, off, none⟩
  hcl : ∀ k, k < l.length → w.cell? ⟨g, off + k, none⟩ = some (.int .i64 (l.getD k 0))
  hwf : ∀ k, k < l.length → (Lit.int .i64 (l.getD k 0)).wf = true
  hm : m ≤ 9223372036854775807
  hbo : 0 < m → bo = some ⟨g2, off2, none⟩
  ho0 : ∀ i, i < m → w.cell? ⟨g2, off2 + i * 2, none⟩ = some (.int .i64 (os.getD i (0, 0)).1)
  ho1 : ∀ i, i < m → w.cell? ⟨g2, off2 + i * 2 + 1, none⟩ = some (.int .i64 (os.getD i (0, 0)).2)

def PlayDone (w : World) (r : Ending) (w' : World) : Prop := r = .returned (.bool true) ∧ Below w.heap.size w w'

set_option maxHeartbeats 1000000 in
theorem play_long {w : World} {n : Int} {ao bo : Option Addr} {l : List Int} {os : List (Int × Int)} {m g off g2 off2 c1 c2 : Nat} (each : Bool) (h : Handed w ao bo l os m g off g2 off2) (hbig : 400 < m ∨ 1100 < l.length) :
    Calls Tryz.prog 5 #[.int .i64 n, .slice ao l.length c1, .slice bo m c2, .bool each] w (PlayDone w) := by
  have hl := h.hl
  have hm := h.hm
  obtain ⟨nl, hnl⟩ : ∃ k, k = l.length := ⟨_, rfl⟩
  rw [← hnl] at hl hbig ⊢
  clear h hnl
  by_cases h4 : 400 < m
  · have q4 : decide ((400 : Int) < (m : Int)) = true := by simp; omega
    clear hbig
    go_enter Tryz.func5, Tryz.ntmps5
    go_wp2_with (go_at_call 6; refine (alive_true _).mono ?_; rintro r w1 ⟨rfl, hb⟩)
    go_ret
    exact ⟨rfl, hb⟩
  · have q4 : decide ((400 : Int) < (m : Int)) = false := by simp; omega
    have q5 : decide ((1100 : Int) < (nl : Int)) = true := by simp; omega
    clear hbig
    go_enter Tryz.func5, Tryz.ntmps5
    go_wp2_with (go_at_call 6; refine (alive_true _).mono ?_; rintro r w1 ⟨rfl, hb⟩)
    go_ret
    exact ⟨rfl, hb⟩

theorem refR_of {W x3 : World} {n : Nat} {s : Rf.St} {vB vM c : Value} (ok : Bool) (hu : Up W x3) (hB : x3.ownsRow W.heap.size 3 1 vB n (ints s.inn)) (hM : x3.ownsRow W.heap.size 4 1 vM n (bools (s.marks n))) (hc : c = .int .i64 (s.blocks.length : Nat)) :
    RefR W ok n s (.pointer (some ⟨x3.heap.size, 0, none⟩)) (.bool ok) (x3.alloc (.cells #[vB, vM, c] 48)) := by
  subst hc
  refine ⟨hu.alloc _, rfl, x3.heap.size, rfl, hu.size, vB, vM, heap_alloc_new _ _, ?_, ?_, ?_⟩
  · exact ((Up.refl x3).alloc _).owns (owns_base hB (Nat.zero_le _))
  · exact ((Up.refl x3).alloc _).owns (owns_base hM (Nat.zero_le _))
  · rintro g (hg | hg)
    · exact (hB.lt g hg).1
    · exact (hM.lt g hg).1

/-- Told of a fault of refine that wraps ErrArg. -/
theorem fault_told {W x1 w' : World} {a1 a2 ai : Addr} {f : Nat} (hS : Sts W a1 a2 ai) (hu : Up W x1) (hf : FaultAt x1 w' f layerRef (.iface 219 (.pointer (some a1)))) :
    ∀ w2, Up w' w2 → Calls Tryz.prog 12 #[.iface 77 (.pointer (some ⟨f, 0, none⟩)), .agg #[.int .i64 1, .int .i64 0, .int .i64 0, .string layersRef]] w2 fun r w' => r = .returned (.bool true) ∧ Up w2 w' := by
  intro w2 hu2
  have h2 := hS.below (hu.trans (Up.trans hf.bel hu2))
  exact told_fault f a1 1 (by omega) (by omega) ((hu2.block f (lt_of_block hf.cell)).trans hf.cell) (fun w3 v hu3 hv => code_1 hv (h2.below hu3).arg)

theorem HasP.keepT {s : Rf.St} {S T : Nat → Prop} {v : Value} {w w' : World} (h : HasP s S v w) (hT : Turned T w w') (hd : ∀ k, k < w.heap.size → S k → ¬ T k) : HasP s S v w' := by
  obtain ⟨B, ve, vp, vi, vb, rfl, hp, hF⟩ := h
  exact ⟨B, ve, vp, vi, vb, rfl, hp.keep (fun k hk => hT.block k (hp.foot_lt hk) (hd k (hp.foot_lt hk) (hF k hk))), hF⟩

theorem HasR.keepT {n : Nat} {s : Rf.St} {S T : Nat → Prop} {rb : Nat} {w w' : World} (h : HasR n s S rb w) (hT : Turned T w w') (hr : ¬ T rb) (hd : ∀ k, k < w.heap.size → S k → ¬ T k) : HasR n s S rb w' := by
  obtain ⟨vB, vM, hb, h1, h2, hS⟩ := h
  exact ⟨vB, vM, (hT.block rb (lt_of_block hb) hr).trans hb, owns_keep h1 (fun g hg => hT.block g (owns_lt h1 hg) (hd g (owns_lt h1 hg) (hS g (.inl hg)))), owns_keep h2 (fun g hg => hT.block g (owns_lt h2 hg) (hd g (owns_lt h2 hg) (hS g (.inr hg)))), hS⟩

/-- Behind the game's head: a partition and the reference's. -/
def PlT (W : World) (n : Nat) (s : Rf.St) (P R : Nat → Prop) (rb : Nat) (v : Value) (w' : World) : Prop :=
  Turned (fun k => k = rb) W w' ∧ HasP s (fun k => P k ∨ W.heap.size ≤ k) v w' ∧ HasR n s R rb w'

theorem plT_yes {W : World} {n : Nat} {s : Rf.St} {P R : Nat → Prop} {rb : Nat} {v : Value} (h : HasP s P v W) (hr : HasR n s R rb W) : PlT W n s P R rb v W :=
  ⟨Turned.refl _ _, h.mono (fun k _ hk => .inl hk), hr⟩

theorem plT_no {W : World} {P R : Nat → Prop} {rb : Nat} {vB vM c : Value} (hb : W.heap[rb]? = some (.cells #[vB, vM, c] 48 (0, 0))) :
    PlT W 0 noSt P R rb (.pointer (some ⟨W.heap.size, 0, none⟩)) ((((W.setCell ⟨rb, 0, none⟩ (.slice none 0 0)).setCell ⟨rb, 1, none⟩ (.slice none 0 0)).setCell ⟨rb, 2, none⟩ (.int .i64 0)).alloc (.cells #[.slice none 0 0, .slice none 0 0, .slice none 0 0, .slice none 0 0] 59)) := by
  have hl := lt_of_block hb
  have t0 := Turned.refl (fun k => k = rb) W
  have t1 := ((t0.setCell (p := ⟨rb, 0, none⟩) (.inl rfl) (.slice none 0 0)).setCell (p := ⟨rb, 1, none⟩) (.inl rfl) (.slice none 0 0)).setCell (p := ⟨rb, 2, none⟩) (.inl rfl) (.int .i64 0)
  have hc : (((W.setCell ⟨rb, 0, none⟩ (.slice none 0 0)).setCell ⟨rb, 1, none⟩ (.slice none 0 0)).setCell ⟨rb, 2, none⟩ (.int .i64 0)).heap[rb]? = some (.cells #[.slice none 0 0, .slice none 0 0, .int .i64 0] 48 (0, 0)) := by
    simp [World.setCell, Array.getElem?_modify, hb]
  have hs : (((W.setCell ⟨rb, 0, none⟩ (.slice none 0 0)).setCell ⟨rb, 1, none⟩ (.slice none 0 0)).setCell ⟨rb, 2, none⟩ (.int .i64 0)).heap.size = W.heap.size := by simp
  obtain ⟨X, hX⟩ : ∃ X, ((W.setCell ⟨rb, 0, none⟩ (.slice none 0 0)).setCell ⟨rb, 1, none⟩ (.slice none 0 0)).setCell ⟨rb, 2, none⟩ (.int .i64 0) = X := ⟨_, rfl⟩
  rw [hX] at t1 hc hs ⊢
  refine ⟨t1.alloc _, ?_, ?_⟩
  · refine ⟨W.heap.size, _, _, _, _, rfl, noSt_part ?_, ?_⟩
    · rw [← hs]; exact heap_alloc_new _ _
    · rintro k (h | h | h | h | h)
      · right; omega
      · cases h
      · cases h
      · cases h
      · cases h
  · refine ⟨.slice none 0 0, .slice none 0 0, ?_, World.ownsRow_nil _ _ _ _, World.ownsRow_nil _ _ _ _, ?_⟩
    · exact (Below.heap_alloc X _ rb (by omega)).trans hc
    · rintro g (h | h) <;> cases h

theorem HasP.open {s : Rf.St} {S : Nat → Prop} {v : Value} {w : World} (h : HasP s S v w) : ∃ B, v = .pointer (some ⟨B, 0, none⟩) := by
  obtain ⟨B, ve, vp, vi, vb, rfl, hp, hF⟩ := h
  exact ⟨B, rfl⟩

theorem game_begins {w0 x W : World} {a na b nb bk A B : Nat} {sa sb : Rf.St} {vBa vMa vBb vMb : Value} {PA RA PB RB : Nat → Prop} (ia : Rf.Inv sa na ∧ na ≤ 1000) (ib : Rf.Inv sb nb ∧ nb ≤ 1000) (hx : Up x W) (h0 : Below w0.heap.size w0 W)
    (pa : HasP sa PA (.pointer (some ⟨A, 0, none⟩)) x) (oa : x.ownsRow 0 3 1 vBa na (ints sa.inn)) (ma : x.ownsRow 0 4 1 vMa na (bools (sa.marks na))) (qa : ∀ g, vBa.ownBlock = some g ∨ vMa.ownBlock = some g → RA g)
    (pb : HasP sb PB (.pointer (some ⟨B, 0, none⟩)) x) (ob : x.ownsRow 0 3 1 vBb nb (ints sb.inn)) (mb : x.ownsRow 0 4 1 vMb nb (bools (sb.marks nb))) (qb : ∀ g, vBb.ownBlock = some g ∨ vMb.ownBlock = some g → RB g)
    (bxa : W.heap[a]? = some (.cells #[.pointer (some ⟨A, 0, none⟩), vBa, vMa, .int .i64 (sa.blocks.length : Nat), .pointer (some ⟨bk, 0, none⟩)] 62 (0, 0)))
    (bxb : W.heap[b]? = some (.cells #[.pointer (some ⟨B, 0, none⟩), vBb, vMb, .int .i64 (sb.blocks.length : Nat), .pointer (some ⟨bk, 0, none⟩)] 62 (0, 0)))
    (ha : x.heap.size ≤ a) (hb : x.heap.size ≤ b) (hab : a ≠ b) (hbook : BookNil x bk) (hbk : w0.heap.size ≤ bk)
    (hall : ∀ k, k < x.heap.size → (PA k → ¬ RA k ∧ ¬ PB k ∧ ¬ RB k ∧ w0.heap.size ≤ k ∧ k ≠ bk) ∧ (RA k → ¬ PB k ∧ ¬ RB k ∧ w0.heap.size ≤ k ∧ k ≠ bk) ∧ (PB k → ¬ RB k ∧ w0.heap.size ≤ k ∧ k ≠ bk) ∧ (RB k → w0.heap.size ≤ k ∧ k ≠ bk)) :
    InGame w0 W a na b nb bk := by
  obtain ⟨A', ve, vp, vi, vb, hA, hpa, hfa⟩ := pa
  simp only [Value.pointer.injEq, Option.some.injEq, Addr.mk.injEq, and_true] at hA
  subst hA
  obtain ⟨B', ve2, vp2, vi2, vb2, hB, hpb, hfb⟩ := pb
  simp only [Value.pointer.injEq, Option.some.injEq, Addr.mk.injEq, and_true] at hB
  subst hB
  have rl1 : ∀ g, vBa.ownBlock = some g ∨ vMa.ownBlock = some g → g < x.heap.size := fun g hg => by rcases hg with hg | hg; exact owns_lt oa hg; exact owns_lt ma hg
  have rl2 : ∀ g, vBb.ownBlock = some g ∨ vMb.ownBlock = some g → g < x.heap.size := fun g hg => by rcases hg with hg | hg; exact owns_lt ob hg; exact owns_lt mb hg
  obtain ⟨Fa, ta, hFa⟩ := team_begins (P := fun k => PA k ∧ k < x.heap.size) (R := fun k => RA k ∧ k < x.heap.size) ia.1 ia.2 hx h0 hpa (fun k hk => ⟨hfa k hk, hpa.foot_lt hk⟩) oa ma (fun g hg => ⟨qa g hg, rl1 g hg⟩) bxa ha hbook
    (fun k hk hr => ((hall k hk.2).1 hk.1).1 hr.1) (fun k hk => ((hall k hk.2).1 hk.1).2.2.2) (fun k hk => ((hall k hk.2).2.1 hk.1).2.2) hbk
  obtain ⟨Fb, tb, hFb⟩ := team_begins (P := fun k => PB k ∧ k < x.heap.size) (R := fun k => RB k ∧ k < x.heap.size) ib.1 ib.2 hx h0 hpb (fun k hk => ⟨hfb k hk, hpb.foot_lt hk⟩) ob mb (fun g hg => ⟨qb g hg, rl2 g hg⟩) bxb hb hbook
    (fun k hk hr => ((hall k hk.2).2.2.1 hk.1).1 hr.1) (fun k hk => ((hall k hk.2).2.2.1 hk.1).2) (fun k hk => (hall k hk.2).2.2.2 hk.1) hbk
  refine ⟨sa, sb, Fa, Fb, _, ta, tb, fun k h1 h2 => ?_⟩
  rcases hFa k h1 with h1 | h1 | h1
  · rcases hFb k h2 with h2 | h2 | h2
    · omega
    · have := h2.2; omega
    · have := h2.2; omega
  · rcases hFb k h2 with h2 | h2 | h2
    · have := h1.2; omega
    · exact ((hall k h1.2).1 h1.1).2.1 h2.1
    · exact ((hall k h1.2).1 h1.1).2.2.1 h2.1
  · rcases hFb k h2 with h2 | h2 | h2
    · have := h1.2; omega
    · exact ((hall k h1.2).2.1 h1.1).1 h2.1
    · exact ((hall k h1.2).2.1 h1.1).2.1 h2.1

/-- Ahead of the two boxes. -/
structure Ready (w x : World) (na nb bk ra rb : Nat) (sa sb : Rf.St) (va vb : Value) (A B : Nat) (y0 y2 y4 y6 : Option Addr) (y1 y3 y5 y7 : Nat) : Prop where
  va : va = .pointer (some ⟨A, 0, none⟩)
  vb : vb = .pointer (some ⟨B, 0, none⟩)
  ca0 : x.cell? ⟨ra, 0, none⟩ = some (.slice y0 na y1)
  ca1 : x.cell? ⟨ra, 1, none⟩ = some (.slice y2 na y3)
  ca2 : x.cell? ⟨ra, 2, none⟩ = some (.int .i64 (sa.blocks.length : Nat))
  cb0 : x.cell? ⟨rb, 0, none⟩ = some (.slice y4 nb y5)
  cb1 : x.cell? ⟨rb, 1, none⟩ = some (.slice y6 nb y7)
  cb2 : x.cell? ⟨rb, 2, none⟩ = some (.int .i64 (sb.blocks.length : Nat))
  go : ∀ a b W, Up x W → W.heap[a]? = some (.cells #[.pointer (some ⟨A, 0, none⟩), .slice y0 na y1, .slice y2 na y3, .int .i64 (sa.blocks.length : Nat), .pointer (some ⟨bk, 0, none⟩)] 62 (0, 0)) →
      W.heap[b]? = some (.cells #[.pointer (some ⟨B, 0, none⟩), .slice y4 nb y5, .slice y6 nb y7, .int .i64 (sb.blocks.length : Nat), .pointer (some ⟨bk, 0, none⟩)] 62 (0, 0)) → x.heap.size ≤ a → x.heap.size ≤ b → a ≠ b → InGame w W a na b nb bk

theorem game_ready {w x8 x9 x10 : World} {na nb bk ra rb l1 l2 l3 l4 l5 : Nat} {sa sb : Rf.St} {va vb : Value} (ia : Rf.Inv sa na ∧ na ≤ 1000) (ib : Rf.Inv sb nb ∧ nb ≤ 1000) (hu : Up w x8) (hw : w.heap.size ≤ l1) (s2 : l1 ≤ l2) (s3 : l2 ≤ l3) (s4 : l3 ≤ l4) (s5 : l4 ≤ l5) (s8 : l5 ≤ x8.heap.size)
    (ra1 : l2 ≤ ra) (ra2 : ra < l3) (rb1 : l4 ≤ rb) (rb2 : rb < l5) (hbook8 : BookNil x8 bk) (hbk : w.heap.size ≤ bk) (hkl : bk < l1)
    (hA : PlT x8 na sa (fun k => l1 ≤ k ∧ k < l2) (fun k => l2 ≤ k ∧ k < l3) ra va x9) (hB : PlT x9 nb sb (fun k => l3 ≤ k ∧ k < l4) (fun k => l4 ≤ k ∧ k < l5) rb vb x10) :
    ∃ A B y0 y2 y4 y6 y1 y3 y5 y7, Ready w x10 na nb bk ra rb sa sb va vb A B y0 y2 y4 y6 y1 y3 y5 y7 := by
  obtain ⟨tA, pA, rA⟩ := hA
  obtain ⟨tB, pB, rB⟩ := hB
  have s9 := tA.size
  have s10 := tB.size
  have pA2 : HasP sa (fun k => (l1 ≤ k ∧ k < l2) ∨ (x8.heap.size ≤ k ∧ k < x9.heap.size)) va x10 := (pA.mono (T := fun k => (l1 ≤ k ∧ k < l2) ∨ (x8.heap.size ≤ k ∧ k < x9.heap.size)) (fun k h1 h2 => h2.imp_right (fun h => ⟨h, h1⟩))).keepT tB (fun k _ hk => by omega)
  have rA2 := rA.keepT tB (by omega) (fun k _ hk => by omega)
  have hb9 : Below w.heap.size x8 x9 := tA.newOnly (fun k hk => by omega) hu.size
  have hb10 : Below w.heap.size x9 x10 := tB.newOnly (fun k hk => by omega) (by have := hu.size; omega)
  have hbel : Below w.heap.size w x10 := (Below.trans hu hb9).trans hb10
  have hbook9 : BookNil x9 bk := (tA.block bk (lt_of_block hbook8) (by omega)).trans hbook8
  have hbook : BookNil x10 bk := (tB.block bk (lt_of_block hbook9) (by omega)).trans hbook9
  obtain ⟨A, rfl⟩ := pA2.open
  obtain ⟨B, rfl⟩ := pB.open
  obtain ⟨vBa, vMa, ca0, ca1, ca2, oa, ma, qa⟩ := rA2.cells
  obtain ⟨vBb, vMb, cb0, cb1, cb2, ob, mb, qb⟩ := rB.cells
  obtain ⟨y0, y1, rfl⟩ := owns_shape' oa
  obtain ⟨y2, y3, rfl⟩ := owns_shape' ma
  obtain ⟨y4, y5, rfl⟩ := owns_shape' ob
  obtain ⟨y6, y7, rfl⟩ := owns_shape' mb
  refine ⟨A, B, y0, y2, y4, y6, y1, y3, y5, y7, rfl, rfl, ca0, ca1, ca2, cb0, cb1, cb2, ?_⟩
  intro a b W hx h1 h2 h3 h4 h5
  refine game_begins (PA := fun k => (l1 ≤ k ∧ k < l2) ∨ (x8.heap.size ≤ k ∧ k < x9.heap.size)) (RA := fun k => l2 ≤ k ∧ k < l3) (PB := fun k => (l3 ≤ k ∧ k < l4) ∨ x9.heap.size ≤ k) (RB := fun k => l4 ≤ k ∧ k < l5) ia ib hx (hbel.trans (Below.mono hx hbel.size)) pA2 oa ma qa pB ob mb qb h1 h2 h3 h4 h5 hbook hbk ?_
  clear h1 h2 h3 h4 h5 oa ma ob mb qa qb ca0 ca1 ca2 cb0 cb1 cb2 hbook hbook9 hbook8 pA2 pB rA2 rB rA pA tA tB hb9 hb10 hx hbel ia ib hu
  intro k hk
  refine ⟨fun h => ?_, fun h => ?_, fun h => ?_, fun h => ?_⟩
  · refine ⟨?_, ?_, ?_, ?_, ?_⟩ <;> omega
  · refine ⟨?_, ?_, ?_, ?_⟩ <;> omega
  · refine ⟨?_, ?_, ?_⟩ <;> omega
  · refine ⟨?_, ?_⟩ <;> omega

end Go.Proofs.YtfkhaldheclheaaGreatDoor
