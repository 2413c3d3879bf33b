/- A partition in memory, opened; Mark, by its contract. -/
import Derived.Test.YtfkhaldheclheaaGreatDoorRefW4
import Derived.Test.YtfkhaldheclheaaGreatDoorRefMem
namespace Go.Proofs.YtfkhaldheclheaaGreatDoor
open Go.RowKit
set_option linter.unusedVariables false
set_option linter.unusedSimpArgs false

/-- The rows of a partition that has an element. -/
structure Opened (w : World) (B : Nat) (ve vp vi vb : Value) (s : Rf.St) (n ge ce gp cp gi ci gb cb : Nat) : Prop where
  ve : ve = .slice (some ⟨ge, 0, none⟩) n ce
  vp : vp = .slice (some ⟨gp, 0, none⟩) n cp
  vi : vi = .slice (some ⟨gi, 0, none⟩) n ci
  vb : vb = .slice (some ⟨gb, 0, none⟩) s.blocks.length cb
  re : Row w ge 3 ce (ints s.elems)
  rp : Row w gp 3 cp (ints s.place)
  ri : Row w gi 3 ci (ints s.inn)
  rb : Row w gb 75 (cb * 3) (cellsB s.blocks)
  le : n ≤ ce ∧ ce ≤ maxLen
  lp : n ≤ cp ∧ cp ≤ maxLen
  li : n ≤ ci ∧ ci ≤ maxLen
  lb : s.blocks.length ≤ cb ∧ cb ≤ maxLen
  nep : ge ≠ gp
  nei : ge ≠ gi
  npi : gp ≠ gi
  neb : ge ≠ gb
  npb : gp ≠ gb
  nib : gi ≠ gb
  nBe : B ≠ ge
  nBp : B ≠ gp
  nBi : B ≠ gi
  nBb : B ≠ gb

theorem row_ne {w : World} {g g' c c' : Nat} {e e' : TypeId} {xs ys : List Value} (h : Row w g e c xs) (h' : Row w g' e' c' ys) (he : e ≠ e') : g ≠ g' := by
  rintro rfl
  obtain ⟨cur, h1, _⟩ := h
  obtain ⟨cur', h2, _⟩ := h'
  rw [h1] at h2
  simp only [Option.some.injEq, Obj.cells.injEq] at h2
  exact he h2.2.1

theorem box_ne {w : World} {B g c : Nat} {e e' : TypeId} {xs : List Value} {cs : Array Value} (h : w.heap[B]? = some (.cells cs e' (0, 0))) (h' : Row w g e c xs) (he : e' ≠ e) : B ≠ g := by
  rintro rfl
  obtain ⟨cur, h1, _⟩ := h'
  rw [h1] at h
  simp only [Option.some.injEq, Obj.cells.injEq] at h
  exact he h.2.1.symm

theorem owns_pos {w : World} {n size base : Nat} {e : TypeId} {v : Value} {xs : List Value} (h : w.ownsRow base e size v n xs) (hn : 0 < n) :
    ∃ g cap, v = .slice (some ⟨g, 0, none⟩) n cap ∧ Row w g e (cap * size) xs ∧ n ≤ cap ∧ cap ≤ maxLen := by
  rcases owns_cases h with ⟨_, h0, _⟩ | ⟨g, cap, hv, hr, h1, h2, _⟩
  · omega
  · exact ⟨g, cap, hv, hr, h1, h2⟩

theorem PartAt.opened {w : World} {B n : Nat} {ve vp vi vb : Value} {s : Rf.St} (h : PartAt w B ve vp vi vb s) (hI : Rf.Inv s n) (hn : 0 < n) :
    ∃ ge ce gp cp gi ci gb cb, Opened w B ve vp vi vb s n ge ce gp cp gi ci gb cb := by
  have re := h.re
  have rp := h.rp
  have ri := h.ri
  rw [hI.le] at re
  rw [hI.lp] at rp
  rw [hI.li] at ri
  obtain ⟨ge, ce, h1, r1, a1, b1⟩ := owns_pos re hn
  obtain ⟨gp, cp, h2, r2, a2, b2⟩ := owns_pos rp hn
  obtain ⟨gi, ci, h3, r3, a3, b3⟩ := owns_pos ri hn
  have hb0 := (hI.in1 0 hn).1
  obtain ⟨gb, cb, h4, r4, a4, b4⟩ := owns_pos h.rb (by omega)
  rw [Nat.mul_one] at r1 r2 r3
  refine ⟨ge, ce, gp, cp, gi, ci, gb, cb, ⟨h1, h2, h3, h4, r1, r2, r3, r4, ⟨a1, b1⟩, ⟨a2, b2⟩, ⟨a3, b3⟩, ⟨a4, b4⟩, ?_, ?_, ?_, row_ne r1 r4 (by decide), row_ne r2 r4 (by decide), row_ne r3 r4 (by decide),
    box_ne h.box r1 (by decide), box_ne h.box r2 (by decide), box_ne h.box r3 (by decide), box_ne h.box r4 (by decide)⟩⟩
  · intro e; exact h.aep ge (by rw [h1]; rfl) (by rw [h2, e]; rfl)
  · intro e; exact h.aei ge (by rw [h1]; rfl) (by rw [h3, e]; rfl)
  · intro e; exact h.api gp (by rw [h2]; rfl) (by rw [h3, e]; rfl)

/-- Back: a partition out of its rows. -/
theorem Opened.part {w : World} {B n ge ce gp cp gi ci gb cb : Nat} {ve vp vi vb : Value} {s : Rf.St} (h : Opened w B ve vp vi vb s n ge ce gp cp gi ci gb cb)
    (hbox : w.heap[B]? = some (.cells #[ve, vp, vi, vb] 59 (0, 0))) (l1 : s.elems.length = n) (l2 : s.place.length = n) (l3 : s.inn.length = n) : PartAt w B ve vp vi vb s := by
  have r1 : Row w ge 3 (ce * 1) (ints s.elems) := by rw [Nat.mul_one]; exact h.re
  have r2 : Row w gp 3 (cp * 1) (ints s.place) := by rw [Nat.mul_one]; exact h.rp
  have r3 : Row w gi 3 (ci * 1) (ints s.inn) := by rw [Nat.mul_one]; exact h.ri
  refine ⟨hbox, ?_, ?_, ?_, ?_, ?_, ?_, ?_⟩
  · rw [h.ve, l1]; exact r1.owns h.le.1 h.le.2 (by rw [ints_length, l1, Nat.mul_one])
  · rw [h.vp, l2]; exact r2.owns h.lp.1 h.lp.2 (by rw [ints_length, l2, Nat.mul_one])
  · rw [h.vi, l3]; exact r3.owns h.li.1 h.li.2 (by rw [ints_length, l3, Nat.mul_one])
  · rw [h.vb]; exact h.rb.owns h.lb.1 h.lb.2 (by rw [cellsB_length])
  · intro g hg e
    rw [h.ve] at hg; rw [h.vp] at e
    simp only [Value.ownBlock, Option.some.injEq] at hg e
    exact h.nep (hg.trans e.symm)
  · intro g hg e
    rw [h.ve] at hg; rw [h.vi] at e
    simp only [Value.ownBlock, Option.some.injEq] at hg e
    exact h.nei (hg.trans e.symm)
  · intro g hg e
    rw [h.vp] at hg; rw [h.vi] at e
    simp only [Value.ownBlock, Option.some.injEq] at hg e
    exact h.npi (hg.trans e.symm)

theorem PartAt.keep {w w' : World} {B : Nat} {ve vp vi vb : Value} {s : Rf.St} (h : PartAt w B ve vp vi vb s) (hk : ∀ k, Foot B ve vp vi vb k → w'.heap[k]? = w.heap[k]?) : PartAt w' B ve vp vi vb s :=
  ⟨(hk B (.inl rfl)).trans h.box, owns_keep h.re (fun g hg => hk g (.inr (.inl hg))), owns_keep h.rp (fun g hg => hk g (.inr (.inr (.inl hg)))), owns_keep h.ri (fun g hg => hk g (.inr (.inr (.inr (.inl hg))))),
    owns_keep h.rb (fun g hg => hk g (.inr (.inr (.inr (.inr hg))))), h.aep, h.aei, h.api⟩

theorem PartAt.foot_lt {w : World} {B k : Nat} {ve vp vi vb : Value} {s : Rf.St} (h : PartAt w B ve vp vi vb s) (hk : Foot B ve vp vi vb k) : k < w.heap.size := by
  rcases hk with rfl | hk | hk | hk | hk
  · exact lt_of_block h.box
  · exact owns_lt h.re hk
  · exact owns_lt h.rp hk
  · exact owns_lt h.ri hk
  · exact owns_lt h.rb hk

theorem PartAt.below {w w' : World} {B : Nat} {ve vp vi vb : Value} {s : Rf.St} (h : PartAt w B ve vp vi vb s) (hb : Below w.heap.size w w') : PartAt w' B ve vp vi vb s :=
  h.keep (fun k hk => hb.block k (h.foot_lt hk))

/-- What a mark leaves. -/
def Marked' (w : World) (B : Nat) (ve vp vi vb : Value) (s : Rf.St) (e : Nat) (r : Ending) (w' : World) : Prop :=
  r = .returned (.tuple #[.bool (s.mark e).1, .nilIface]) ∧ PartAt w' B ve vp vi vb (s.mark e).2 ∧ Turned (Foot B ve vp vi vb) w w' ∧ w'.heap.size = w.heap.size

set_option maxHeartbeats 1000000 in
theorem mark_any {w : World} {B n e : Nat} {ve vp vi vb : Value} {s : Rf.St} (h : PartAt w B ve vp vi vb s) (hI : Rf.Inv s n) (hn : n ≤ 1000) (he : e < n) :
    Calls Tryz.prog 16 #[.pointer (some ⟨B, 0, none⟩), .int .i64 e] w (Marked' w B ve vp vi vb s e) := by
  obtain ⟨ge, ce, gp, cp, gi, ci, gb, cb, o⟩ := h.opened hI (by omega)
  have hve := o.ve
  have hvp := o.vp
  have hvi := o.vi
  have hvb := o.vb
  subst hve hvp hvi hvb
  have oe := hI.in1 e he
  have pe := hI.p1 e he
  have bb := hI.b1 _ oe.1
  have c0 : w.cell? ⟨B, 0, none⟩ = some (.slice (some ⟨ge, 0, none⟩) n ce) := by simp [World.cell?, h.box]
  have c1 : w.cell? ⟨B, 1, none⟩ = some (.slice (some ⟨gp, 0, none⟩) n cp) := by simp [World.cell?, h.box]
  have c2 : w.cell? ⟨B, 2, none⟩ = some (.slice (some ⟨gi, 0, none⟩) n ci) := by simp [World.cell?, h.box]
  have c3 : w.cell? ⟨B, 3, none⟩ = some (.slice (some ⟨gb, 0, none⟩) s.blocks.length cb) := by simp [World.cell?, h.box]
  have di := o.ri.cell (ints_get (l := s.inn) (i := e) (by rw [hI.li]; exact he))
  have dp := o.rp.cell (ints_get (l := s.place) (i := e) (by rw [hI.lp]; exact he))
  have df := o.rb.cell (cellsB_get0 s.blocks (s.I e) oe.1)
  have dm := o.rb.cell (cellsB_get2 s.blocks (s.I e) oe.1)
  by_cases hm : s.P e < s.F (s.I e) + s.M (s.I e)
  · refine (mark_no B n s.blocks.length ce cp ci cb ge gp gi gb e (s.I e) (s.F (s.I e)) (s.M (s.I e)) (s.P e) w he oe.1 hm hn (by omega) c0 c1 c2 c3 di dp df dm).mono ?_
    rintro r w' ⟨rfl, q, rfl⟩
    have hs : s.mark e = (false, s) := by unfold Rf.St.mark; rw [if_pos hm]
    refine ⟨by rw [hs], ?_, (Turned.refl _ _).drewN q, rfl⟩
    rw [hs]
    exact h.keep (fun _ _ => rfl)
  · have hk : s.F (s.I e) + s.M (s.I e) < n := by omega
    have hs : s.mark e = (true, (s.swap (s.P e) (s.F (s.I e) + s.M (s.I e))).markIn (s.I e)) := by unfold Rf.St.mark; rw [if_neg hm]
    obtain ⟨i, hi⟩ : ∃ i, i = s.P e := ⟨_, rfl⟩
    obtain ⟨k, hkk⟩ : ∃ k, k = s.F (s.I e) + s.M (s.I e) := ⟨_, rfl⟩
    have hin : i < n := by rw [hi]; exact pe.1
    have ei := hI.e1 i hin
    have ek := hI.e1 k (by omega)
    -- what the exchange leaves
    have hsw : ∀ q, Calls Tryz.prog 83 #[.pointer (some ⟨B, 0, none⟩), .int .i64 i, .int .i64 k] (w.drewN q) fun r w' =>
        r = .returned (.tuple #[]) ∧ swapW (w.drewN q) ge gp i k (s.E i) (s.E k) = w' := by
      intro q
      have xi := o.re.cell (ints_get (l := s.elems) (i := i) (by rw [hI.le]; exact hin))
      have xk := o.re.cell (ints_get (l := s.elems) (i := k) (by rw [hI.le]; omega))
      have yi := o.rp.cell (ints_get (l := s.place) (i := s.E i) (by rw [hI.lp]; exact ei.1))
      have yk := o.rp.cell (ints_get (l := s.place) (i := s.E k) (by rw [hI.lp]; exact ek.1))
      by_cases hik : i = k
      · subst hik
        exact swap_eq B n ce cp ge gp i (s.E i) _ (w.drewN q) hin ei.1 o.nep o.nBe o.nBp c0 c1 xi (o.re.free i) yi (o.rp.free _)
      · exact swap_ne B n ce cp ge gp i k (s.E i) (s.E k) _ _ (w.drewN q) hin (by omega) ei.1 ek.1 hik (fun hx => hik (Rf.E_inj hI hin (by omega) hx)) o.nep o.nBe o.nBp c0 c1 xi xk (o.re.free i) (o.re.free k) yi yk (o.rp.free _) (o.rp.free _)
    have hfacts : ∀ q, Row (swapW (w.drewN q) ge gp i k (s.E i) (s.E k)) gb 75 (cb * 3) (cellsB s.blocks) := by
      intro q
      have h1 : Row (w.drewN q) gb 75 (cb * 3) (cellsB s.blocks) := o.rb
      exact ((((h1.other (a := ⟨ge, i, none⟩) o.neb.symm _).other (a := ⟨ge, k, none⟩) o.neb.symm _).drew.other (a := ⟨gp, s.E k, none⟩) o.npb.symm _).other (a := ⟨gp, s.E i, none⟩) o.npb.symm _).drew
    refine (mark_yes B n s.blocks.length ce cp ci cb ge gp gi gb e (s.I e) (s.F (s.I e)) (s.M (s.I e)) (s.P e) w he oe.1 (by omega) pe.1 hn
      (fun w1 => ∃ q, swapW (w.drewN q) ge gp i k (s.E i) (s.E k) = w1) c0 c1 c2 c3 di dp df dm ?_).mono ?_
    · intro q
      rw [← hi, ← hkk]
      refine (hsw q).mono ?_
      rintro r w' ⟨rfl, rfl⟩
      exact ⟨rfl, (hfacts q).cell (cellsB_get2 s.blocks (s.I e) oe.1), (hfacts q).free _, q, rfl⟩
    · rintro r w' ⟨rfl, w1, ⟨q, rfl⟩, rfl⟩
      rw [Marked', hs, ← hi, ← hkk]
      have t0 : Turned (Foot B (.slice (some ⟨ge, 0, none⟩) n ce) (.slice (some ⟨gp, 0, none⟩) n cp) (.slice (some ⟨gi, 0, none⟩) n ci) (.slice (some ⟨gb, 0, none⟩) s.blocks.length cb)) w (w.drewN q) := (Turned.refl _ _).drewN q
      have fe : Foot B (.slice (some ⟨ge, 0, none⟩) n ce) (.slice (some ⟨gp, 0, none⟩) n cp) (.slice (some ⟨gi, 0, none⟩) n ci) (.slice (some ⟨gb, 0, none⟩) s.blocks.length cb) ge := .inr (.inl rfl)
      have fp : Foot B (.slice (some ⟨ge, 0, none⟩) n ce) (.slice (some ⟨gp, 0, none⟩) n cp) (.slice (some ⟨gi, 0, none⟩) n ci) (.slice (some ⟨gb, 0, none⟩) s.blocks.length cb) gp := .inr (.inr (.inl rfl))
      have fb : Foot B (.slice (some ⟨ge, 0, none⟩) n ce) (.slice (some ⟨gp, 0, none⟩) n cp) (.slice (some ⟨gi, 0, none⟩) n ci) (.slice (some ⟨gb, 0, none⟩) s.blocks.length cb) gb := .inr (.inr (.inr (.inr rfl)))
      have hT : Turned (Foot B (.slice (some ⟨ge, 0, none⟩) n ce) (.slice (some ⟨gp, 0, none⟩) n cp) (.slice (some ⟨gi, 0, none⟩) n ci) (.slice (some ⟨gb, 0, none⟩) s.blocks.length cb)) w ((swapW (w.drewN q) ge gp i k (s.E i) (s.E k)).setCell ⟨gb, s.I e * 3 + 2, none⟩ (.int .i64 ((s.M (s.I e) + 1 : Nat) : Int))) :=
        (((((((t0.setCell (p := ⟨ge, i, none⟩) (.inl fe) _).setCell (p := ⟨ge, k, none⟩) (.inl fe) _).drew).setCell (p := ⟨gp, s.E k, none⟩) (.inl fp) _).setCell (p := ⟨gp, s.E i, none⟩) (.inl fp) _).drew).setCell (p := ⟨gb, s.I e * 3 + 2, none⟩) (.inl fb) _)
      refine ⟨rfl, ?_, hT, by simp [swapW]⟩
      have o2 : Opened ((swapW (w.drewN q) ge gp i k (s.E i) (s.E k)).setCell ⟨gb, s.I e * 3 + 2, none⟩ (.int .i64 ((s.M (s.I e) + 1 : Nat) : Int))) B (.slice (some ⟨ge, 0, none⟩) n ce) (.slice (some ⟨gp, 0, none⟩) n cp) (.slice (some ⟨gi, 0, none⟩) n ci)
          (.slice (some ⟨gb, 0, none⟩) s.blocks.length cb) ((s.swap i k).markIn (s.I e)) n ge ce gp cp gi ci gb cb := by
        refine ⟨rfl, rfl, rfl, by rw [Rf.markIn_len]; rfl, ?_, ?_, ?_, ?_, o.le, o.lp, o.li, by rw [Rf.markIn_len]; exact o.lb, o.nep, o.nei, o.npi, o.neb, o.npb, o.nib, o.nBe, o.nBp, o.nBi, o.nBb⟩
        · have h1 : Row (w.drewN q) ge 3 ce (ints s.elems) := o.re
          have h2 := (((((h1.set i (.int .i64 (s.E k : Nat))).set k (.int .i64 (s.E i : Nat))).drew).other (a := ⟨gp, s.E k, none⟩) o.nep (.int .i64 (i : Nat))).other (a := ⟨gp, s.E i, none⟩) o.nep (.int .i64 (k : Nat))).drew.other (a := ⟨gb, s.I e * 3 + 2, none⟩) o.neb (.int .i64 ((s.M (s.I e) + 1 : Nat) : Int))
          rw [← ints_set, ← ints_set] at h2
          exact h2
        · have h1 : Row (w.drewN q) gp 3 cp (ints s.place) := o.rp
          have h2 := (((((h1.other (a := ⟨ge, i, none⟩) o.nep.symm (.int .i64 (s.E k : Nat))).other (a := ⟨ge, k, none⟩) o.nep.symm (.int .i64 (s.E i : Nat))).drew).set (s.E k) (.int .i64 (i : Nat))).set (s.E i) (.int .i64 (k : Nat))).drew.other (a := ⟨gb, s.I e * 3 + 2, none⟩) o.npb (.int .i64 ((s.M (s.I e) + 1 : Nat) : Int))
          rw [← ints_set, ← ints_set] at h2
          exact h2
        · have h1 : Row (w.drewN q) gi 3 ci (ints s.inn) := o.ri
          exact (((((h1.other (a := ⟨ge, i, none⟩) o.nei.symm _).other (a := ⟨ge, k, none⟩) o.nei.symm _).drew).other (a := ⟨gp, s.E k, none⟩) o.npi.symm _).other (a := ⟨gp, s.E i, none⟩) o.npi.symm _).drew.other (a := ⟨gb, s.I e * 3 + 2, none⟩) o.nib _
        · have h2 := (hfacts q).set (s.I e * 3 + 2) (.int .i64 ((s.M (s.I e) + 1 : Nat) : Int))
          rw [cellsB_set2 _ _ _ oe.1] at h2
          exact h2
      refine o2.part ?_ (by simp [Rf.St.markIn, Rf.St.swap, hI.le]) (by simp [Rf.St.markIn, Rf.St.swap, hI.lp]) hI.li
      rw [← h.box]
      show ((((((w.drewN q).setCell ⟨ge, i, none⟩ _).setCell ⟨ge, k, none⟩ _).drew.setCell ⟨gp, s.E k, none⟩ _).setCell ⟨gp, s.E i, none⟩ _).drew.setCell ⟨gb, s.I e * 3 + 2, none⟩ _).heap[B]? = _
      rw [Below.heap_setCell _ _ _ _ o.nBb]
      show ((((((w.drewN q).setCell ⟨ge, i, none⟩ _).setCell ⟨ge, k, none⟩ _).drew.setCell ⟨gp, s.E k, none⟩ _).setCell ⟨gp, s.E i, none⟩ _)).heap[B]? = _
      rw [Below.heap_setCell _ _ _ _ o.nBp, Below.heap_setCell _ _ _ _ o.nBp]
      show (((w.drewN q).setCell ⟨ge, i, none⟩ _).setCell ⟨ge, k, none⟩ _).heap[B]? = _
      rw [Below.heap_setCell _ _ _ _ o.nBe, Below.heap_setCell _ _ _ _ o.nBe]
      rfl

end Go.Proofs.YtfkhaldheclheaaGreatDoor
