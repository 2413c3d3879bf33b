/- A player: a partition and the reference's, side by side; the book; what stays while one of them turns. -/
import Derived.Test.YtfkhaldheclheaaGreatDoorRefP2
import Derived.Test.YtfkhaldheclheaaGreatDoorRefR4
import Derived.Test.YtfkhaldheclheaaGreatDoorBookInts
namespace Go.Proofs.YtfkhaldheclheaaGreatDoor
open Go.RowKit
set_option linter.unusedVariables false
set_option linter.unusedSimpArgs false

/-- The variables that a game reaches. -/
structure Sts (w : World) (a1 a2 ai : Addr) : Prop where
  arg : Sent w 0 a1
  lng : Sent w 1 a2
  idx : Sent w 2 ai
  n1 : ai ≠ a1
  n2 : ai ≠ a2
  typ : w.cell? ⟨10, 0, none⟩ = some (.iface 182 (.agg #[.pointer (some ⟨20, 43, none⟩)]))

theorem Sts.below {w w' : World} {a1 a2 ai : Addr} (h : Sts w a1 a2 ai) (hb : Below w.heap.size w w') : Sts w' a1 a2 ai :=
  ⟨h.arg.below hb, h.lng.below hb, h.idx.below hb, h.n1, h.n2, Below.cellUp hb (cell_lt h.typ) h.typ⟩

/-- A player's blocks, named. -/
structure PlayAt (wr : World) (ab B bk n : Nat) (ve vp vi vb vB vM : Value) (s : Rf.St) : Prop where
  part : PartAt wr B ve vp vi vb s
  box : wr.heap[ab]? = some (.cells #[.pointer (some ⟨B, 0, none⟩), vB, vM, .int .i64 (s.blocks.length : Nat), .pointer (some ⟨bk, 0, none⟩)] 62 (0, 0))
  rB : wr.ownsRow 0 3 1 vB n (ints s.inn)
  rM : wr.ownsRow 0 4 1 vM n (bools (s.marks n))
  ap : ∀ g, vB.ownBlock = some g → ¬ Foot B ve vp vi vb g

def PlFoot (ab B : Nat) (ve vp vi vb vB vM : Value) (k : Nat) : Prop := k = ab ∨ Foot B ve vp vi vb k ∨ vB.ownBlock = some k ∨ vM.ownBlock = some k

section
variable {wr w' : World} {ab B bk n : Nat} {ve vp vi vb vB vM : Value} {s : Rf.St}

theorem PlayAt.keep (h : PlayAt wr ab B bk n ve vp vi vb vB vM s) (hk : ∀ k, PlFoot ab B ve vp vi vb vB vM k → w'.heap[k]? = wr.heap[k]?) : PlayAt w' ab B bk n ve vp vi vb vB vM s :=
  ⟨h.part.keep (fun k hf => hk k (.inr (.inl hf))), (hk ab (.inl rfl)).trans h.box, owns_keep h.rB (fun g hg => hk g (.inr (.inr (.inl hg)))), owns_keep h.rM (fun g hg => hk g (.inr (.inr (.inr hg)))), h.ap⟩

theorem PlayAt.foot_lt (h : PlayAt wr ab B bk n ve vp vi vb vB vM s) {k : Nat} (hk : PlFoot ab B ve vp vi vb vB vM k) : k < wr.heap.size := by
  rcases hk with rfl | hk | hk | hk
  · exact lt_of_block h.box
  · exact h.part.foot_lt hk
  · exact owns_lt h.rB hk
  · exact owns_lt h.rM hk

theorem PlayAt.up (h : PlayAt wr ab B bk n ve vp vi vb vB vM s) (hu : Up wr w') : PlayAt w' ab B bk n ve vp vi vb vB vM s := h.keep (fun k hk => hu.block k (h.foot_lt hk))

theorem PlayAt.ref (h : PlayAt wr ab B bk n ve vp vi vb vB vM s) : RefAt wr ab 1 vB vM n s.inn (s.marks n) s.blocks.length := by
  refine ⟨by simp [World.cell?, h.box], by simp [World.cell?, h.box], by simp [World.cell?, h.box], h.rB, h.rM, ?_, ?_⟩
  · rintro g hg rfl
    obtain ⟨cur, hh⟩ := owns_type h.rB hg
    have := h.box; rw [hh] at this; simp at this
  · rintro g hg rfl
    obtain ⟨cur, hh⟩ := owns_type h.rM hg
    have := h.box; rw [hh] at this; simp at this

theorem PlayAt.c0 (h : PlayAt wr ab B bk n ve vp vi vb vB vM s) : wr.cell? ⟨ab, 0, none⟩ = some (.pointer (some ⟨B, 0, none⟩)) := by simp [World.cell?, h.box]
theorem PlayAt.c1 (h : PlayAt wr ab B bk n ve vp vi vb vB vM s) : wr.cell? ⟨ab, 1, none⟩ = some vB := by simp [World.cell?, h.box]
theorem PlayAt.c2 (h : PlayAt wr ab B bk n ve vp vi vb vB vM s) : wr.cell? ⟨ab, 2, none⟩ = some vM := by simp [World.cell?, h.box]
theorem PlayAt.c3 (h : PlayAt wr ab B bk n ve vp vi vb vB vM s) : wr.cell? ⟨ab, 3, none⟩ = some (.int .i64 (s.blocks.length : Nat)) := by simp [World.cell?, h.box]
theorem PlayAt.c4 (h : PlayAt wr ab B bk n ve vp vi vb vB vM s) : wr.cell? ⟨ab, 4, none⟩ = some (.pointer (some ⟨bk, 0, none⟩)) := by simp [World.cell?, h.box]

/-- The marks' row is no block of the partition; neither is the player's own block. -/
theorem PlayAt.apM (h : PlayAt wr ab B bk n ve vp vi vb vB vM s) {g : Nat} (hg : vM.ownBlock = some g) : ¬ Foot B ve vp vi vb g := by
  obtain ⟨cur, hh⟩ := owns_type h.rM hg
  intro hf
  rcases hf with rfl | hf | hf | hf | hf
  · have := h.part.box; rw [hh] at this; simp at this
  · obtain ⟨c2, h2⟩ := owns_type h.part.re hf; rw [hh] at h2; simp at h2
  · obtain ⟨c2, h2⟩ := owns_type h.part.rp hf; rw [hh] at h2; simp at h2
  · obtain ⟨c2, h2⟩ := owns_type h.part.ri hf; rw [hh] at h2; simp at h2
  · obtain ⟨c2, h2⟩ := owns_type h.part.rb hf; rw [hh] at h2; simp at h2

theorem PlayAt.apA (h : PlayAt wr ab B bk n ve vp vi vb vB vM s) : ¬ Foot B ve vp vi vb ab := by
  have hh := h.box
  intro hf
  rcases hf with rfl | hf | hf | hf | hf
  · have := h.part.box; rw [hh] at this; simp at this
  · obtain ⟨c2, h2⟩ := owns_type h.part.re hf; rw [hh] at h2; simp at h2
  · obtain ⟨c2, h2⟩ := owns_type h.part.rp hf; rw [hh] at h2; simp at h2
  · obtain ⟨c2, h2⟩ := owns_type h.part.ri hf; rw [hh] at h2; simp at h2
  · obtain ⟨c2, h2⟩ := owns_type h.part.rb hf; rw [hh] at h2; simp at h2
end

/-- A player and the book, in a game that began at w0. -/
structure Team (w0 wr : World) (ab n bk : Nat) (s : Rf.St) (F BF : Nat → Prop) : Prop where
  inv : Rf.Inv s n
  hn : n ≤ 1000
  pl : ∃ B ve vp vi vb vB vM, PlayAt wr ab B bk n ve vp vi vb vB vM s ∧ ∀ k, F k ↔ PlFoot ab B ve vp vi vb vB vM k
  bo : ∃ vi vw es, BookAt wr bk vi vw es ∧ es.length ≤ 400 ∧ ∀ k, BF k ↔ BkFoot bk vi vw es k
  dis : ∀ k, F k → ¬ BF k
  new : ∀ k, F k → w0.heap.size ≤ k
  newb : ∀ k, BF k → w0.heap.size ≤ k
  bel : Below w0.heap.size w0 wr

section
variable {w0 wr w' : World} {ab n bk : Nat} {s : Rf.St} {F BF : Nat → Prop}

theorem Team.up (h : Team w0 wr ab n bk s F BF) (hu : Up wr w') : Team w0 w' ab n bk s F BF := by
  obtain ⟨B, ve, vp, vi, vb, vB, vM, hp, hF⟩ := h.pl
  obtain ⟨vi', vw, es, hb, hl, hBF⟩ := h.bo
  exact ⟨h.inv, h.hn, ⟨B, ve, vp, vi, vb, vB, vM, hp.up hu, hF⟩, ⟨vi', vw, es, hb.up hu, hl, hBF⟩, h.dis, h.new, h.newb, h.bel.trans (Below.mono hu h.bel.size)⟩

theorem Team.F_lt (h : Team w0 wr ab n bk s F BF) {k : Nat} (hk : F k) : k < wr.heap.size := by
  obtain ⟨B, ve, vp, vi, vb, vB, vM, hp, hF⟩ := h.pl
  exact hp.foot_lt ((hF k).1 hk)

theorem Team.BF_lt (h : Team w0 wr ab n bk s F BF) {k : Nat} (hk : BF k) : k < wr.heap.size := by
  obtain ⟨vi', vw, es, hb, hl, hBF⟩ := h.bo
  exact hb.foot_lt ((hBF k).1 hk)

/-- What a call of the game leaves: the player (his state told), the book, and nothing else that was there has turned. -/
def TeamTo (w0 wr : World) (ab n bk : Nat) (s' : Rf.St) (F BF : Nat → Prop) (w' : World) : Prop :=
  ∃ F' BF', Team w0 w' ab n bk s' F' BF' ∧ (∀ k, F' k → F k ∨ wr.heap.size ≤ k) ∧ (∀ k, BF' k → BF k ∨ wr.heap.size ≤ k) ∧ Turned (fun k => F k ∨ BF k) wr w'

theorem TeamTo.refl (h : Team w0 wr ab n bk s F BF) : TeamTo w0 wr ab n bk s F BF wr := ⟨F, BF, h, fun k hk => .inl hk, fun k hk => .inl hk, Turned.refl _ _⟩

theorem TeamTo.up (h : TeamTo w0 wr ab n bk s F BF w') {w2 : World} (hu : Up w' w2) : TeamTo w0 wr ab n bk s F BF w2 := by
  obtain ⟨F', BF', hT, h1, h2, h3⟩ := h
  exact ⟨F', BF', hT.up hu, h1, h2, h3.trans (T := fun _ => False) ⟨hu.os, hu.tape, hu.output, hu.size, fun k hk _ => hu.block k hk⟩ (fun _ _ h => h.elim)⟩

theorem TeamTo.trans {s1 s2 : Rf.St} {w1 w2 : World} (h : TeamTo w0 wr ab n bk s1 F BF w1) (k : ∀ F1 BF1, Team w0 w1 ab n bk s1 F1 BF1 → TeamTo w0 w1 ab n bk s2 F1 BF1 w2) : TeamTo w0 wr ab n bk s2 F BF w2 := by
  obtain ⟨F1, BF1, hT, h1, h2, h3⟩ := h
  obtain ⟨F2, BF2, hT2, k1, k2, k3⟩ := k F1 BF1 hT
  have hs := h3.size
  refine ⟨F2, BF2, hT2, fun i hi => ?_, fun i hi => ?_, h3.trans k3 (fun i hi hh => ?_)⟩
  · rcases k1 i hi with h | h
    · exact h1 i h
    · right; omega
  · rcases k2 i hi with h | h
    · exact h2 i h
    · right; omega
  · rcases hh with h | h
    · rcases h1 i h with h | h
      · exact .inl h
      · omega
    · rcases h2 i h with h | h
      · exact .inr h
      · omega

/-- Rows of integers stay. -/
def KeepI (w w' : World) : Prop := ∀ (g : Nat) (cur : Array Value), w.heap[g]? = some (.cells cur 3 (0, 0)) → w'.heap[g]? = w.heap[g]?

theorem KeepI.up {w w1 w2 : World} (h : KeepI w w1) (hu : Up w1 w2) : KeepI w w2 := fun g cur hc => (hu.block g (Array.getElem?_eq_some_iff.1 ((h g cur hc).trans hc)).1).trans (h g cur hc)
theorem KeepI.of_up {w w1 : World} (hu : Up w w1) : KeepI w w1 := fun g cur hc => hu.block g (Array.getElem?_eq_some_iff.1 hc).1
theorem KeepI.trans {w w1 w2 : World} (h : KeepI w w1) (k : KeepI w1 w2) : KeepI w w2 := fun g cur hc => (k g cur ((h g cur hc).trans hc)).trans (h g cur hc)
theorem KeepI.owns {w w1 : World} (h : KeepI w w1) {base n : Nat} {v : Value} {xs : List Value} (hr : w.ownsRow base 3 1 v n xs) : w1.ownsRow base 3 1 v n xs :=
  owns_keep hr (fun g hg => by obtain ⟨cur, hc⟩ := owns_type hr hg; exact h g cur hc)

/-- Ints of a list that lies apart from the player. -/
theorem Team.ints {v : Value} {xs : List Int} (h : Team w0 wr ab n bk s F BF) (hv : wr.ownsRow 0 3 1 v xs.length (xs.map (Value.int .i64))) (hx : xs.length ≤ 900000) (hN : ∀ g, v.ownBlock = some g → ¬ F g ∧ ¬ BF g ∧ w0.heap.size ≤ g) {B : Nat → Prop} (hB : ∀ g, v.ownBlock = some g → B g) :
    Calls Tryz.prog 29 #[.pointer (some ⟨bk, 0, none⟩), v] wr fun r w' => r = .returned (.tuple #[]) ∧
      ∃ BF', Team w0 w' ab n bk s F BF' ∧ (∀ k, BF' k → BF k ∨ B k ∨ wr.heap.size ≤ k) ∧ Turned BF wr w' ∧ KeepI wr w' := by
  obtain ⟨Bp, ve, vp, vi, vb, vB, vM, hp, hF⟩ := h.pl
  obtain ⟨vi', vw, es, hb, hl, hBF⟩ := h.bo
  refine (bookInts hb hl hv hx (fun g hg hm => (hN g hg).2.1 ((hBF g).2 (.inr (.inr (.inr hm)))))).mono ?_
  rintro r w' ⟨rfl, vi2, vw2, es2, hb2, hl2, hes, hft, hT⟩
  have hT' : Turned BF wr w' := hT.mono (fun k _ hk => (hBF k).2 (by
    rcases hk with h | h | h
    · exact .inl h
    · exact .inr (.inl h)
    · exact .inr (.inr (.inl h))))
  have hft' : ∀ k, BkFoot bk vi2 vw2 es2 k → BF k ∨ v.ownBlock = some k ∨ wr.heap.size ≤ k := by
    intro k hk
    rcases hft k hk with h | h | h
    · exact .inl ((hBF k).2 h)
    · exact .inr (.inl h)
    · exact .inr (.inr h)
  refine ⟨rfl, fun k => BkFoot bk vi2 vw2 es2 k, ⟨h.inv, h.hn, ⟨Bp, ve, vp, vi, vb, vB, vM, hp.keep (fun k hk => hT'.block k (hp.foot_lt hk) (h.dis k ((hF k).2 hk))), hF⟩, ⟨vi2, vw2, es2, hb2, hl2, fun k => Iff.rfl⟩, ?_, h.new, ?_, ?_⟩, ?_, hT', ?_⟩
  · intro k hk hk2
    rcases hft' k hk2 with h1 | h1 | h1
    · exact h.dis k hk h1
    · exact (hN k h1).1 hk
    · have := h.F_lt hk; omega
  · intro k hk
    rcases hft' k hk with h1 | h1 | h1
    · exact h.newb k h1
    · exact (hN k h1).2.2
    · have := h.bel.size; omega
  · exact h.bel.trans (hT'.newOnly h.newb h.bel.size)
  · intro k hk
    rcases hft' k hk with h1 | h1 | h1
    · exact .inl h1
    · exact .inr (.inl (hB k h1))
    · exact .inr (.inr h1)
  · intro g cur hc
    refine hT.block g (Array.getElem?_eq_some_iff.1 hc).1 ?_
    rintro (rfl | h1 | h1)
    · have := hb.box; rw [hc] at this; simp at this
    · obtain ⟨c2, h2⟩ := owns_type hb.ri h1; rw [hc] at h2; simp at h2
    · obtain ⟨c2, h2⟩ := owns_type hb.rw h1; rw [hc] at h2; simp at h2
end

end Go.Proofs.YtfkhaldheclheaaGreatDoor
