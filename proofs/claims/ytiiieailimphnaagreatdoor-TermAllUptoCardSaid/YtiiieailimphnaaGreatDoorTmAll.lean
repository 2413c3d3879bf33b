/- Walk: the statement TermAll. -/
import Derived.Test.YtiiieailimphnaaGreatDoorTmPutAll
import Derived.Test.YtiiieailimphnaaGreatDoorTmC
import Derived.Test.YtiiieailimphnaaGreatDoorTmW14
import Derived.Test.YtiiieailimphnaaGreatDoorBook2Apart
namespace Go.Proofs.YtiiieailimphnaaGreatDoor
open Go.RowKit Go.Maps
set_option linter.unusedVariables false
set_option linter.unusedSimpArgs false

theorem upTurn {w wr w2 : World} {F : Nat → Prop} (h : Up w wr) (ht : Turned F wr w2) (hF : ∀ k, F k → w.heap.size ≤ k) : Up w w2 := by
  have := (upTurned (F := fun k => w.heap.size ≤ k) h).trans ht (fun i _ hi => hF i hi)
  exact (this.mono (T := fun _ => False) (fun i hi h => by omega)).toBelow (fun k h => h)

/-! ### The book of two kinds -/

theorem Pr.BookAt.other {w w' : World} {bk : Nat} {vi vw vp vq vi' vw' : Value} {es : List B2.Ent} {qs : List Pr.Ent} (hp : Pr.BookAt w bk vp vq vi vw qs) (hi : B2.BookAt w bk vi vw vp vq es) (ht : Turned (B2.BkOwn bk vi vw) w w')
    (hb : w'.heap[bk]? = some (.cells #[vi', vw', .slice none 0 0, .slice none 0 0, .slice none 0 0, .slice none 0 0, .slice none 0 0, .slice none 0 0, .slice none 0 0, .slice none 0 0, .slice none 0 0, .slice none 0 0, .slice none 0 0, .slice none 0 0, vp, vq, .slice none 0 0, .slice none 0 0, .slice none 0 0, .slice none 0 0, .slice none 0 0, .slice none 0 0] 49 (0, 0))) : Pr.BookAt w' bk vp vq vi' vw' qs := by
  have key : ∀ {e : TypeId} {base size n : Nat} {v : Value} {xs : List Value}, w.ownsRow base e size v n xs → e ≠ 29 → e ≠ 49 → w'.ownsRow base e size v n xs := fun h h1 h2 => owns_keep h (fun g hg => ht.block g (owns_lt h hg) (fun e => by
    rcases e with rfl | e | e
    · obtain ⟨cur, hc⟩ := owns_type h hg
      have hb0 := hi.box
      rw [hc] at hb0
      simp only [Option.some.injEq, Obj.cells.injEq] at hb0
      exact h2 hb0.2.1
    · exact B2.owns_type_ne h hi.ri h1 hg e
    · exact B2.owns_type_ne h hi.rw h1 hg e))
  exact ⟨hb, key hp.ri (by decide) (by decide), key hp.rw (by decide) (by decide), hp.ap, fun e he => ⟨key (hp.ent e he).1 (by decide) (by decide), key (hp.ent e he).2 (by decide) (by decide)⟩, hp.nd, hp.sz⟩

theorem B2.BookAt.other {w w' : World} {bk : Nat} {vi vw vp vq vp' vq' : Value} {es : List B2.Ent} {qs : List Pr.Ent} (hi : B2.BookAt w bk vi vw vp vq es) (hp : Pr.BookAt w bk vp vq vi vw qs) (ht : Turned (Pr.BkOwn bk vp vq) w w')
    (hb : w'.heap[bk]? = some (.cells #[vi, vw, .slice none 0 0, .slice none 0 0, .slice none 0 0, .slice none 0 0, .slice none 0 0, .slice none 0 0, .slice none 0 0, .slice none 0 0, .slice none 0 0, .slice none 0 0, .slice none 0 0, .slice none 0 0, vp', vq', .slice none 0 0, .slice none 0 0, .slice none 0 0, .slice none 0 0, .slice none 0 0, .slice none 0 0] 49 (0, 0))) : B2.BookAt w' bk vi vw vp' vq' es := by
  have key : ∀ {e : TypeId} {base size n : Nat} {v : Value} {xs : List Value}, w.ownsRow base e size v n xs → e ≠ 33 → e ≠ 49 → w'.ownsRow base e size v n xs := fun h h1 h2 => owns_keep h (fun g hg => ht.block g (owns_lt h hg) (fun e => by
    rcases e with rfl | e | e
    · obtain ⟨cur, hc⟩ := owns_type h hg
      have hb0 := hi.box
      rw [hc] at hb0
      simp only [Option.some.injEq, Obj.cells.injEq] at hb0
      exact h2 hb0.2.1
    · exact B2.owns_type_ne h hp.ri h1 hg e
    · exact B2.owns_type_ne h hp.rw h1 hg e))
  exact ⟨hb, key hi.ri (by decide) (by decide), key hi.rw (by decide) (by decide), hi.ap, fun e he => ⟨key (hi.ent e he).1 (by decide) (by decide), key (hi.ent e he).2 (by decide) (by decide)⟩, hi.nd, hi.sz⟩

/-- Rows of another kind than the book's own keep. -/
def KeepR (w w' : World) : Prop := ∀ (e : TypeId) (base size n : Nat) (v : Value) (xs : List Value), w.ownsRow base e size v n xs → e ≠ 29 → e ≠ 33 → e ≠ 49 → w'.ownsRow base e size v n xs

/-- What stands at the head of a round over the book; the blocks of its lists are among P and Q. -/
def All2 (P Q : Nat → Prop) (F G : Nat → Prop) (w : World) (B R : Nat) (s : List Tm.T) (F' G' : Nat → Prop) (bk : Nat) (wr : World) : Prop :=
  ∃ vi vw vp vq es qs, Two F G w B R wr s s F' G' ∧ B2.BookAt wr bk vi vw vp vq es ∧ Pr.BookAt wr bk vp vq vi vw qs ∧ es.length ≤ 400 ∧ qs.length ≤ 400 ∧ (∀ j, B2.BkFoot bk vi vw es j → bk ≤ j) ∧ (∀ j, Pr.BkFoot bk vp vq qs j → bk ≤ j) ∧ (∀ g, g ∈ B2.entBlocks es → P g) ∧ ∀ g, g ∈ Pr.entBlocks qs → Q g

theorem All2.up {P Q F G F' G' : Nat → Prop} {w wr w' : World} {B R bk : Nat} {s : List Tm.T} (h : All2 P Q F G w B R s F' G' bk wr) (hu : Up wr w') : All2 P Q F G w B R s F' G' bk w' := by
  obtain ⟨vi, vw, vp, vq, es, qs, hT, hb, hc, h1, h2, h3, h4, h5, h6⟩ := h
  exact ⟨vi, vw, vp, vq, es, qs, hT.up hu, hb.up hu, hc.up hu, h1, h2, h3, h4, h5, h6⟩

theorem All2.two {P Q F G F' G' : Nat → Prop} {w wr : World} {B R bk : Nat} {s : List Tm.T} (h : All2 P Q F G w B R s F' G' bk wr) : Two F G w B R wr s s F' G' := by
  obtain ⟨_, _, _, _, _, _, hT, -⟩ := h
  exact hT

theorem All2.head {P Q F G F' G' : Nat → Prop} {w wr : World} {B R bk : Nat} {s : List Tm.T} (h : All2 P Q F G w B R s F' G' bk wr) : All2 (fun g => g < wr.heap.size) (fun g => g < wr.heap.size) F G w B R s F' G' bk wr ∧ bk < wr.heap.size := by
  obtain ⟨vi, vw, vp, vq, es, qs, hT, hb, hc, h1, h2, h3, h4, h5, h6⟩ := h
  exact ⟨⟨vi, vw, vp, vq, es, qs, hT, hb, hc, h1, h2, h3, h4, fun g hg => hb.foot_lt (.inr (.inr (.inr hg))), fun g hg => hc.foot_lt (.inr (.inr (.inr hg)))⟩, hb.foot_lt (.inl rfl)⟩

theorem All2.ints {P Q F G F' G' : Nat → Prop} {w w2 : World} {B R bk : Nat} {s : List Tm.T} {v : Value} {xs : List Int} (h : All2 P Q F G w B R s F' G' bk w2) (hFG : ∀ j, F' j ∨ G' j → j < bk) (hw : w.heap.size ≤ bk)
    (hv : w2.ownsRow 0 3 1 v xs.length (vals xs)) (hN : ∀ g, v.ownBlock = some g → bk ≤ g ∧ ¬ P g) (hx : xs.length ≤ 900000) :
    Calls Tryz.prog 11 #[.pointer (some ⟨bk, 0, none⟩), v] w2 fun r w' => r = .returned (.tuple #[]) ∧
      All2 (fun g => P g ∨ v.ownBlock = some g ∨ w2.heap.size ≤ g) Q F G w B R s F' G' bk w' ∧ w2.heap.size ≤ w'.heap.size ∧ KeepR w2 w' := by
  obtain ⟨vi, vw, vp, vq, es, qs, hT, hb, hc, h1, h2, h3, h4, h5, h6⟩ := h
  refine (B2.bookInts hb h1 hv hx (fun g hg hm => (hN g hg).2 (h5 g hm))).mono ?_
  rintro r w' ⟨rfl, vi', vw', es', hb', hl', hes, hft, ht⟩
  have hbl : bk < w2.heap.size := hb.foot_lt (.inl rfl)
  have hown : ∀ j, B2.BkOwn bk vi vw j → bk ≤ j := fun j hj => by
    rcases hj with e | e | e
    · exact h3 j (.inl e)
    · exact h3 j (.inr (.inl e))
    · exact h3 j (.inr (.inr (.inl e)))
  refine ⟨rfl, ⟨vi', vw', vp, vq, es', qs, hT.other ht (fun j hj => ?_), hb', Pr.BookAt.other hc hb ht hb'.box, hl', h2, fun j hj => ?_, h4, fun g hg => ?_, h6⟩, ht.size, fun e base size n v0 ys h0 e1 e2 e3 => owns_keep h0 (fun g hg => ht.block g (owns_lt h0 hg) (fun e => ?_))⟩
  · have k1 := hown j hj
    exact ⟨by omega, fun e => by have := hFG j (.inl e); omega, fun e => by have := hFG j (.inr e); omega⟩
  · rcases hft j hj with e | e | e
    · exact h3 j e
    · exact (hN j e).1
    · omega
  · rcases hes with e | ⟨u, e, hu⟩
    · rw [e] at hg; exact .inl (h5 g hg)
    · rw [e, B2.entBlocks_snoc] at hg
      rcases List.mem_append.1 hg with hg | hg
      · exact .inl (h5 g hg)
      · rcases List.mem_append.1 hg with hg | hg
        · exact .inr (.inl (B2.mem_blk.1 hg))
        · exact .inr (.inr (hu g (B2.mem_blk.1 hg)))
  · rcases e with rfl | e | e
    · obtain ⟨cur, hcu⟩ := owns_type h0 hg
      have hb0 := hb.box
      rw [hcu] at hb0
      simp only [Option.some.injEq, Obj.cells.injEq] at hb0
      exact e3 hb0.2.1
    · exact B2.owns_type_ne h0 hb.ri e1 hg e
    · exact B2.owns_type_ne h0 hb.rw e1 hg e

theorem All2.pairs {P Q F G F' G' : Nat → Prop} {w w2 : World} {B R bk : Nat} {s : List Tm.T} {v : Value} {xs : List (Int × Int)} (h : All2 P Q F G w B R s F' G' bk w2) (hFG : ∀ j, F' j ∨ G' j → j < bk) (hw : w.heap.size ≤ bk)
    (hv : w2.ownsRow 0 75 2 v xs.length (cellsP xs)) (hN : ∀ g, v.ownBlock = some g → bk ≤ g ∧ ¬ Q g) (hx : xs.length ≤ 900000) :
    Calls Tryz.prog 18 #[.pointer (some ⟨bk, 0, none⟩), v] w2 fun r w' => r = .returned (.tuple #[]) ∧
      All2 P (fun g => Q g ∨ v.ownBlock = some g ∨ w2.heap.size ≤ g) F G w B R s F' G' bk w' ∧ w2.heap.size ≤ w'.heap.size ∧ KeepR w2 w' := by
  obtain ⟨vi, vw, vp, vq, es, qs, hT, hb, hc, h1, h2, h3, h4, h5, h6⟩ := h
  refine (Pr.bookPairs hc h2 hv hx (fun g hg hm => (hN g hg).2 (h6 g hm))).mono ?_
  rintro r w' ⟨rfl, vp', vq', qs', hc', hl', hes, hft, ht⟩
  have hbl : bk < w2.heap.size := hb.foot_lt (.inl rfl)
  have hown : ∀ j, Pr.BkOwn bk vp vq j → bk ≤ j := fun j hj => by
    rcases hj with e | e | e
    · exact h4 j (.inl e)
    · exact h4 j (.inr (.inl e))
    · exact h4 j (.inr (.inr (.inl e)))
  refine ⟨rfl, ⟨vi, vw, vp', vq', es, qs', hT.other ht (fun j hj => ?_), B2.BookAt.other hb hc ht hc'.box, hc', h1, hl', h3, fun j hj => ?_, h5, fun g hg => ?_⟩, ht.size, fun e base size n v0 ys h0 e1 e2 e3 => owns_keep h0 (fun g hg => ht.block g (owns_lt h0 hg) (fun e => ?_))⟩
  · have k1 := hown j hj
    exact ⟨by omega, fun e => by have := hFG j (.inl e); omega, fun e => by have := hFG j (.inr e); omega⟩
  · rcases hft j hj with e | e | e
    · exact h4 j e
    · exact (hN j e).1
    · omega
  · rcases hes with e | ⟨u, e, hu⟩
    · rw [e] at hg; exact .inl (h6 g hg)
    · rw [e, Pr.entBlocks_snoc] at hg
      rcases List.mem_append.1 hg with hg | hg
      · exact .inl (h6 g hg)
      · rcases List.mem_append.1 hg with hg | hg
        · exact .inr (.inl (Pr.mem_blk.1 hg))
        · exact .inr (.inr (hu g (Pr.mem_blk.1 hg)))
  · rcases e with rfl | e | e
    · obtain ⟨cur, hcu⟩ := owns_type h0 hg
      have hb0 := hb.box
      rw [hcu] at hb0
      simp only [Option.some.injEq, Obj.cells.injEq] at hb0
      exact e3 hb0.2.1
    · exact B2.owns_type_ne h0 hc.ri e2 hg e
    · exact B2.owns_type_ne h0 hc.rw e2 hg e

theorem box_row {w : World} {K : Nat} {a b c d e f : Value} (h : w.heap[K]? = some (.cells #[a, b, c, d, e, f] 35 (0, 0))) : w.ownsRow 0 35 6 (.slice (some ⟨K, 0, none⟩) 1 1) 1 [a, b, c, d, e, f] :=
  Row.owns (cap := 1) ⟨_, h, by simp, by simp, by simp⟩ (Nat.le_refl _) (by decide) (by simp)

theorem row_box {w : World} {K : Nat} {a b c d e f : Value} (h : w.ownsRow 0 35 6 (.slice (some ⟨K, 0, none⟩) 1 1) 1 [a, b, c, d, e, f]) : w.cell? ⟨K, 4, none⟩ = some e ∧ w.cell? ⟨K, 5, none⟩ = some f :=
  ⟨(Row.of h).1.cell rfl, (Row.of h).1.cell rfl⟩

set_option maxHeartbeats 1000000 in
set_option maxRecDepth 100000 in
theorem all_many (n0 cap0 : Nat) (ao0 : Option Addr) (w : World) (hT : Tab w) (h : 100 < n0) (hm : n0 ≤ 9223372036854775807) :
    Calls Tryz.prog 4 #[.slice ao0 n0 cap0] w (Done w) := by
  have HA := Lib.hid (alive_true w hT)
  have h2 : (100 : Int) < (n0 : Int) := by omega
  clear hT h
  go_enter Tryz.func4, Tryz.ntmps4
  go_wp2_with (go_at_call 5; (with_reducible refine HA.out.mono ?_); rintro e w' ⟨rfl, hU⟩)
  go_ret
  exact ⟨rfl, hU⟩

set_option maxHeartbeats 8000000 in
set_option maxRecDepth 100000 in
theorem all_main {g0 off0 cap0 : Nat} {ao0 : Option Addr} {l0 : List Tm.T} {a1 a2 a3 : Addr} {w : World} (hT : Tab w) (hS : Sts w a1 a2 a3)
    (ha0 : 0 < l0.length → ao0 = some ⟨g0, off0, none⟩) (hA0 : TermsAt w g0 off0 l0) (hF0 : ∀ i, i < l0.length → TermFit (l0.getD i Tm.nilT)) (hm0 : l0.length ≤ 100) :
    Calls Tryz.prog 4 #[.slice ao0 l0.length cap0] w (Done w) := by
  obtain ⟨vs0, hV0⟩ := TermsIn.of hA0
  have HK0 : Hid (∀ W, Up w W → Kept W g0 off0 l0 vs0 a1 a2 a3) := Lib.hid (fun W hW => Kept.up ⟨hV0, hT, hS⟩ hW)
  have HNEW := Lib.hid (new_any w hT)
  have HREF : Hid (∀ W, Calls Tryz.prog 7 #[] W (NewRef W)) := Lib.hid (fun W => refnew_any W)
  have HAL : Hid (∀ W, Up w W → Calls Tryz.prog 5 #[] W (Done W)) := Lib.hid (fun W hW => alive_true W (hT.up hW))
  have HI0 := Lib.hid (⟨ha0, hF0, hm0⟩ : (0 < l0.length → ao0 = some ⟨g0, off0, none⟩) ∧ (∀ i, i < l0.length → TermFit (l0.getD i Tm.nilT)) ∧ l0.length ≤ 100)
  obtain ⟨m0, hn0⟩ : ∃ n, n = l0.length := ⟨_, rfl⟩
  have q0 : ¬ (100 : Int) < (m0 : Int) := by omega
  rw [← hn0]
  have HN0 := Lib.hid hn0
  clear hT hS ha0 hA0 hF0 hm0 hV0 hn0
  go_enter Tryz.func4, Tryz.ntmps4
  go_wp2_with fail
  (with_reducible refine HNEW.out.mono ?_)
  rintro e w1 ⟨B, rfl, hS1, hU1⟩
  go_wp2_with fail
  (with_reducible refine (HREF.out _).mono ?_)
  rintro e w2 ⟨R, rfl, hR1, hU2⟩
  have hV2 := hU1.trans hU2
  obtain ⟨i0, hi0⟩ : ∃ i, i = w.heap.size := ⟨_, rfl⟩
  obtain ⟨i1, hi1⟩ : ∃ i, i = w1.heap.size := ⟨_, rfl⟩
  obtain ⟨i2, hi2⟩ : ∃ i, i = w2.heap.size := ⟨_, rfl⟩
  have HII : Hid (i0 = w.heap.size ∧ i0 ≤ i1 ∧ i1 ≤ i2 ∧ i2 = w2.heap.size) := Lib.hid ⟨hi0, by rw [hi0, hi1]; exact hU1.size, by rw [hi1, hi2]; exact hU2.size, hi2⟩
  have HS1 : Hid (St (fun k => i0 ≤ k ∧ k < i1) w2 B [Tm.nilT]) := Lib.hid (by rw [hi0, hi1]; exact (hS1.bound).up hU2)
  have HR1 : Hid (Rs (fun k => i1 ≤ k ∧ k < i2) w2 R [Tm.nilT]) := Lib.hid (by rw [hi1, hi2]; exact hR1.bound)
  have HV2 := Lib.hid hV2
  clear hS1 hU1 hR1 hU2 hV2 hi0 hi1 hi2 HNEW HREF
  go_wp2_with fail
  (with_reducible refine (HAL.out _ HV2.out).mono ?_)
  rintro e w3 ⟨rfl, hU3⟩
  have HI3 : Hid (i2 ≤ w3.heap.size) := Lib.hid (by have := hU3.size; have := HII.out; omega)
  have HV3 := Lib.hid (HV2.out.trans hU3)
  have HP1 := Lib.hid (put_all (s := [Tm.nilT]) (cap := cap0) (HS1.out.up hU3) (HR1.out.up hU3) (fun k a b => by omega) (fun k h => by have := HII.out; have := HI3.out; omega) (fun W hW => HK0.out W (upTurn HV3.out hW (fun k hk => by have := HII.out; omega))) HI0.out.1 HI0.out.2.1 (by have := HI0.out.2.2; show 1 + l0.length ≤ 1000; omega))
  rw [← HN0.out] at HP1
  clear hU3
  go_wp2_with fail
  (with_reducible refine HP1.out.mono ?_)
  rintro e w4 ⟨rfl, F1, G1, hT1⟩
  have HUP : Hid (∀ W, Turned (fun k => (i0 ≤ k ∧ k < i1) ∨ (i1 ≤ k ∧ k < i2)) w3 W → Up w W) := Lib.hid (fun W hW => upTurn HV3.out hW (fun k hk => by have := HII.out; omega))
  have hls := Tm.runFrom_len [Tm.nilT] l0
  obtain ⟨s, hs⟩ : ∃ s, s = Tm.runFrom [Tm.nilT] l0 := ⟨_, rfl⟩
  rw [← hs] at hT1 hls
  obtain ⟨n, hn⟩ : ∃ n, n = s.length := ⟨_, rfl⟩
  have hn1 : 1 ≤ n ∧ n ≤ 101 := by have := HI0.out.2.2; simp only [List.length_singleton] at hls; omega
  have HN := Lib.hid hn
  have HFG : Hid (∀ j, F1 j ∨ G1 j → j < w4.heap.size) := Lib.hid hT1.lt
  have HW3 : Hid (w3.heap.size ≤ w4.heap.size) := Lib.hid hT1.t.size
  obtain ⟨F0, hF0⟩ : ∃ F : Nat → Prop, F = fun k => i0 ≤ k ∧ k < i1 := ⟨_, rfl⟩
  obtain ⟨G0, hG0⟩ : ∃ F : Nat → Prop, F = fun k => i1 ≤ k ∧ k < i2 := ⟨_, rfl⟩
  have HUP2 : Hid (∀ W, Turned (fun k => F0 k ∨ G0 k) w3 W → Up w W) := Lib.hid (by subst hF0; subst hG0; exact HUP.out)
  rw [← hF0, ← hG0] at hT1
  have HB0 : Hid (All2 (fun _ => False) (fun _ => False) F0 G0 w3 B R s F1 G1 w4.heap.size (w4.alloc (.cells #[.slice none 0 0, .slice none 0 0, .slice none 0 0, .slice none 0 0, .slice none 0 0, .slice none 0 0, .slice none 0 0, .slice none 0 0, .slice none 0 0, .slice none 0 0, .slice none 0 0, .slice none 0 0, .slice none 0 0, .slice none 0 0, .slice none 0 0, .slice none 0 0, .slice none 0 0, .slice none 0 0, .slice none 0 0, .slice none 0 0, .slice none 0 0, .slice none 0 0] 49))) := Lib.hid (by
    refine ⟨_, _, _, _, [], [], hT1.up ((Up.refl w4).alloc _), ⟨heap_alloc_new w4 _, World.ownsRow_nil _ _ _ _, World.ownsRow_nil _ _ _ _, fun g hg => (by cases hg), fun e he => (by cases he), List.nodup_nil, fun e he => (by cases he)⟩,
      ⟨heap_alloc_new w4 _, World.ownsRow_nil _ _ _ _, World.ownsRow_nil _ _ _ _, fun g hg => (by cases hg), fun e he => (by cases he), List.nodup_nil, fun e he => (by cases he)⟩, Nat.zero_le _, Nat.zero_le _, fun j hj => ?_, fun j hj => ?_, fun g hg => (by cases hg), fun g hg => (by cases hg)⟩
    · rcases hj with rfl | e | e | e
      · exact Nat.le_refl _
      · cases e
      · cases e
      · cases e
    · rcases hj with rfl | e | e | e
      · exact Nat.le_refl _
      · cases e
      · cases e
      · cases e)
  obtain ⟨bk, hbk⟩ : ∃ b, b = w4.heap.size := ⟨_, rfl⟩
  rw [← hbk] at HFG HW3 HB0
  have HBK := Lib.hid hbk
  have HRR : Hid (∀ W, Two F0 G0 w3 B R W s s F1 G1 → ∃ ar cr, W.cell? ⟨R, 0, none⟩ = some (.slice ar n cr)) := Lib.hid (fun W hT => by
    obtain ⟨ar, cr, r0, -, -⟩ := hT.rs.at
    exact ⟨ar, cr, by rw [HN.out]; exact r0⟩)
  have hnz : ¬ ((n : Int) = 0) := by omega
  have q2n : IntKind.i64.wrap (2 * (n : Int)) = 2 * (n : Int) := IntWalk.i64_in _ (by omega)
  clear hT1 HP1 HK0 HI0 HN0 HAL HS1 HR1 HV2 HV3 q0 HUP HII HI3 hF0 hG0 hs hls hbk hn
  go_wp2_with fail
  rw [← HBK.out]
  go_loopw [6] (fun i wr => ∃ k : Nat, k ≤ 2 * n ∧ i = .int .i64 k ∧ ∃ P Q, All2 P Q F0 G0 w3 B R s F1 G1 bk wr) (fun i _ => 2 * n - (intOf i).toNat)
  case atStart => exact ⟨0, Nat.zero_le _, rfl, _, _, HB0.out⟩
  case round =>
    clear HB0 HBK
    obtain ⟨k, hk, rfl, P, Q, hL⟩ := hrel
    obtain ⟨hL2, hbkl⟩ := hL.head
    have hTi := hL.two
    obtain ⟨ar, cr, r0⟩ := HRR.out wr hTi
    by_cases hlt : k < 2 * n
    · obtain ⟨a, hae⟩ : ∃ a, a = k % n := ⟨_, rfl⟩
      have han : a < n := by rw [hae]; exact Nat.mod_lt _ (by omega)
      have htm : Int.tmod (k : Int) (n : Int) = (a : Int) := by rw [hae, Int.tmod_eq_emod_of_nonneg (by omega)]; omega
      have hal : a < s.length := by rw [← HN.out]; exact han
      have hkn : (k : Int) < 2 * (n : Int) := by omega
      have hs1000 : s.length ≤ 1000 := by rw [← HN.out]; omega
      have HGET := Lib.hid (get_in hTi.st hal hs1000)
      have HCO : Hid (∀ W, Up wr W → Calls Tryz.prog 10 #[.pointer (some ⟨B, 0, none⟩), .int .i64 (a : Nat)] W (ConstsDone s a W)) := Lib.hid (fun W hW => consts_in (hTi.up hW).st hal hs1000)
      have hsm := Tm.may_small (hTi.st.inv.may_mem (List.getElem_mem hal)) hs1000
      obtain ⟨t, ht⟩ : ∃ t, t = s[a] := ⟨_, rfl⟩
      rw [← ht] at HGET hsm
      obtain ⟨cs, hcs⟩ : ∃ cs, cs = Tm.refConsts s (Tm.within s a) (a + 1) := ⟨_, rfl⟩
      have HCS := Lib.hid hcs
      have HCL : Hid (cs.length ≤ 200) := Lib.hid (by rw [hcs, ← Tm.outL_end]; exact Tm.outL_len _ _ _ _)
      have HL := Lib.hid hL2
      have HRl : Hid (∀ W, Up wr W → W.cell? ⟨R, 0, none⟩ = some (.slice ar n cr)) := Lib.hid (fun W hW => hW.cell r0)
      clear hL hL2 hTi hal ht hcs hae hs1000
      go_wp2_with fail
      (with_reducible refine HGET.out.mono ?_)
      rintro e w5 ⟨nv, pv, he, hown5, hnew5, hU5⟩
      obtain ⟨p1, q1, rfl⟩ := owns_shape' hown5.n
      obtain ⟨p2, q2, rfl⟩ := owns_shape' hown5.p
      rw [tlit] at he
      subst he
      have HO5 := Lib.hid hown5
      have HNW := Lib.hid hnew5
      obtain ⟨l1, hl1⟩ : ∃ l, l = t.names.length := ⟨_, rfl⟩
      obtain ⟨l2, hl2⟩ : ∃ l, l = t.pairs.length := ⟨_, rfl⟩
      rw [← hl1, ← hl2] at HNW ⊢
      have HL1 := Lib.hid (⟨hl1, hl2⟩ : l1 = t.names.length ∧ l2 = t.pairs.length)
      have hU6 := hU5.alloc (.cells #[.int .i64 t.kind, .int .i64 t.label, .int .i64 t.a, .int .i64 t.b, .slice p1 l1 q1, .slice p2 l2 q2] 35 (0, 0))
      have HK6 := Lib.hid (heap_alloc_new w5 (.cells #[.int .i64 t.kind, .int .i64 t.label, .int .i64 t.a, .int .i64 t.b, .slice p1 l1 q1, .slice p2 l2 q2] 35 (0, 0)))
      have HU6 := Lib.hid hU6
      have HU5 := Lib.hid hU5
      have r05 := HRl.out _ hU6
      have r06 := HRl.out _ HU5.out
      clear hown5 hnew5 hU5 hU6 hl1 hl2 r0
      go_wp2_with fail
      (with_reducible refine (HCO.out _ HU6.out).mono ?_)
      rintro e w7 ⟨vc, rfl, hv, hU7⟩
      rw [← HCS.out] at hv
      obtain ⟨pc, cc, rfl⟩ := owns_shape' hv
      have hk7 := (hU7.block _ (lt_of_block' HK6.out)).trans HK6.out
      obtain ⟨d0, d1, d2, d3, d4, d5, df⟩ := six_cells hk7
      have hU7' := HU6.out.trans hU7
      have hnm7 : w7.ownsRow 0 3 1 (.slice p1 l1 q1) t.names.length (vals t.names) := by
        have := hU7.owns (HO5.out.n.alloc (.cells #[.int .i64 t.kind, .int .i64 t.label, .int .i64 t.a, .int .i64 t.b, .slice p1 l1 q1, .slice p2 l2 q2] 35 (0, 0)))
        rw [← HL1.out.1] at this ⊢; exact this
      have hpr7 : w7.ownsRow 0 75 2 (.slice p2 l2 q2) t.pairs.length (cellsP t.pairs) := by
        have := hU7.owns (HO5.out.p.alloc (.cells #[.int .i64 t.kind, .int .i64 t.label, .int .i64 t.a, .int .i64 t.b, .slice p1 l1 q1, .slice p2 l2 q2] 35 (0, 0)))
        rw [← HL1.out.2] at this ⊢; exact this
      have HBI := Lib.hid ((HL.out.up hU7').ints HFG.out HW3.out hnm7 (fun g hg => ⟨by have := HNW.out g (.inl hg); omega, by have := HNW.out g (.inl hg); omega⟩) (by omega))
      have hcv0 := hv
      have HV := Lib.hid hv
      have HPR := Lib.hid hpr7
      have HNM := Lib.hid hnm7
      have HK7 := Lib.hid (box_row hk7)
      have HS56 : Hid (wr.heap.size ≤ w5.heap.size ∧ w5.heap.size + 1 ≤ w7.heap.size) := Lib.hid ⟨HU5.out.size, by have := hU7.size; rw [World.size_alloc] at this; exact this⟩
      obtain ⟨cl, hcl⟩ : ∃ l, l = cs.length := ⟨_, rfl⟩
      have HCE := Lib.hid hcl
      rw [← hcl] at HV ⊢
      clear hv hU7 hk7 hU7' hnm7 hpr7 hcv0 hcl
      go_wp2_with fail
      (with_reducible refine HBI.out.mono ?_)
      rintro e w8 ⟨rfl, hL8, hs8, hk8⟩
      have hpr8 := hk8 _ _ _ _ _ _ HPR.out (by decide) (by decide) (by decide)
      have hv8 := hk8 _ _ _ _ _ _ HV.out (by decide) (by decide) (by decide)
      have hbx8 := hk8 _ _ _ _ _ _ HK7.out (by decide) (by decide) (by decide)
      obtain ⟨z4, z5⟩ := row_box hbx8
      have HBP := Lib.hid (hL8.pairs HFG.out HW3.out hpr8 (fun g hg => ⟨by have := HNW.out g (.inr hg); omega, by have := HNW.out g (.inr hg); omega⟩) (by omega))
      have HV8 := Lib.hid hv8
      clear hL8 hs8 hk8 hpr8 hv8 hbx8 d0 d1 d2 d3 d4 d5 df HBI
      go_wp2_with fail
      (with_reducible refine HBP.out.mono ?_)
      rintro e w9 ⟨rfl, hL9, hs9, hk9⟩
      have hv9 := hk9 _ _ _ _ _ _ HV8.out (by decide) (by decide) (by decide)
      have HBI2 := Lib.hid (hL9.ints (v := .slice pc cl cc) (xs := cs) HFG.out HW3.out (by have := owns_base hv9 (Nat.zero_le _); rw [HCE.out] at this ⊢; exact this) (fun g hg => by
        have h1 := HV.out.lt g hg
        have h2 := HS56.out
        rw [World.size_alloc] at h1
        refine ⟨by omega, fun e => ?_⟩
        rcases e with e | e | e
        · omega
        · have h3 := owns_lt HO5.out.n (by rw [← HL1.out.1]; exact e); omega
        · omega) (by have := HCL.out; omega))
      clear hL9 hs9 hk9 hv9 HBP z4 z5
      go_wp2_with fail
      (with_reducible refine HBI2.out.mono ?_)
      rintro e w10 ⟨rfl, hL10, -, -⟩
      have HL10 := Lib.hid hL10
      clear hL10
      go_wp2_with fail
      go_roundw
      case rel => exact ⟨k + 1, by omega, by go_num, _, _, HL10.out⟩
      case measure => simp [intOf] <;> omega
    · have hkn : ¬ ((k : Int) < 2 * (n : Int)) := by omega
      have HAP : Hid (Calls Tryz.prog 16 #[.pointer (some ⟨bk, 0, none⟩)] wr fun r w' => r = .returned (.bool true) ∧ Two F0 G0 w3 B R w' s s F1 G1) := Lib.hid (by
        obtain ⟨vi, vw, vp, vq, es, qs, hT, hb, hc, h1, h2, h3, h4, h5, h6⟩ := hL
        refine (apart2_any hb hc h1 h2).mono ?_
        rintro r w' ⟨rfl, ht⟩
        refine ⟨rfl, hT.other ht (fun j hj => ?_)⟩
        have k1 : bk ≤ j := by
          rcases hj with e | e
          · exact h3 j (hb.inV e)
          · exact h4 j (hc.inV e)
        have k2 := HW3.out
        exact ⟨by omega, fun e => by have := HFG.out j (.inl e); omega, fun e => by have := HFG.out j (.inr e); omega⟩)
      clear hL hL2 hTi
      go_wp2_with fail
      (with_reducible refine HAP.out.mono ?_)
      rintro e w5 ⟨rfl, hT5⟩
      have HT5 := Lib.hid hT5
      clear hT5 r0 hlt hk
      go_wp2_with fail
      go_loopw [11] (fun i wi => ∃ j : Nat, j ≤ n ∧ i = .int .i64 j ∧ Two F0 G0 w3 B R wi s s F1 G1) (fun i _ => n - (intOf i).toNat)
      case atStart => exact ⟨0, Nat.zero_le _, rfl, HT5.out⟩
      case round =>
        clear HT5 HAP
        obtain ⟨j, hj, rfl, hTi⟩ := hrel
        obtain ⟨wi, rfl⟩ : ∃ x, x = wr := ⟨_, rfl⟩
        obtain ⟨ar, cr, r0⟩ := HRR.out wi hTi
        by_cases hjn : j < n
        · have hjl : j < s.length := by rw [← HN.out]; exact hjn
          have hs1000 : s.length ≤ 1000 := by rw [← HN.out]; omega
          have HGET := Lib.hid (get_in hTi.st hjl hs1000)
          have hsm := Tm.may_small (hTi.st.inv.may_mem (List.getElem_mem hjl)) hs1000
          obtain ⟨ar2, cr2, c0, -, ct⟩ := hTi.rs.at
          obtain ⟨g, nvr, pvr, rfl, hcr, hor⟩ := ct j hjl
          have e1 : s.getD j Tm.nilT = s[j] := by simp [List.getD, hjl]
          rw [e1] at hcr hor
          obtain ⟨t, ht⟩ : ∃ t, t = s[j] := ⟨_, rfl⟩
          rw [← ht] at HGET hsm hcr hor
          obtain ⟨p3, q3, rfl⟩ := owns_shape' hor.n
          obtain ⟨p4, q4, rfl⟩ := owns_shape' hor.p
          rw [← HN.out] at c0
          have HTi := Lib.hid hTi
          have hji : (j : Int) < (n : Int) := by omega
          have HRC : Hid (∀ W, Up wi W → W.cell? ⟨R, 0, none⟩ = some (.slice (some ⟨g, 0, none⟩) n cr2) ∧ W.cell? ⟨g, j * 6, none⟩ = some (.int .i64 t.kind) ∧ W.cell? ⟨g, j * 6 + 1, none⟩ = some (.int .i64 t.label) ∧ W.cell? ⟨g, j * 6 + 2, none⟩ = some (.int .i64 t.a) ∧ W.cell? ⟨g, j * 6 + 3, none⟩ = some (.int .i64 t.b) ∧
              W.cell? ⟨g, j * 6 + 4, none⟩ = some (.slice p3 t.names.length q3) ∧ W.cell? ⟨g, j * 6 + 5, none⟩ = some (.slice p4 t.pairs.length q4) ∧ TRead W t (.slice p3 t.names.length q3) (.slice p4 t.pairs.length q4)) := Lib.hid (fun W hW =>
            ⟨hW.cell c0, hW.cell (hcr 0 _ (by omega) rfl), hW.cell (hcr 1 _ (by omega) rfl), hW.cell (hcr 2 _ (by omega) rfl), hW.cell (hcr 3 _ (by omega) rfl), hW.cell (hcr 4 _ (by omega) rfl), hW.cell (hcr 5 _ (by omega) rfl), (hor.up hW).read⟩)
          clear hTi ct hcr hor ht e1 hjl hs1000 c0
          go_wp2_with fail
          (with_reducible refine HGET.out.mono ?_)
          rintro e w5 ⟨nv, pv, he, hown5, -, hU5⟩
          obtain ⟨p1, q1, rfl⟩ := owns_shape' hown5.n
          obtain ⟨p2, q2, rfl⟩ := owns_shape' hown5.p
          rw [tlit] at he
          subst he
          have hU6 := hU5.alloc (.cells #[.int .i64 t.kind, .int .i64 t.label, .int .i64 t.a, .int .i64 t.b, .slice p1 t.names.length q1, .slice p2 t.pairs.length q2] 35 (0, 0))
          have hk6 := heap_alloc_new w5 (.cells #[.int .i64 t.kind, .int .i64 t.label, .int .i64 t.a, .int .i64 t.b, .slice p1 t.names.length q1, .slice p2 t.pairs.length q2] 35 (0, 0))
          have hr6 := (hown5.up ((Up.refl w5).alloc (.cells #[.int .i64 t.kind, .int .i64 t.label, .int .i64 t.a, .int .i64 t.b, .slice p1 t.names.length q1, .slice p2 t.pairs.length q2] 35 (0, 0)))).read
          obtain ⟨K, hKe⟩ : ∃ K, K = w5.heap.size := ⟨_, rfl⟩
          obtain ⟨w6, hw6⟩ : ∃ x, w5.alloc (.cells #[.int .i64 t.kind, .int .i64 t.label, .int .i64 t.a, .int .i64 t.b, .slice p1 t.names.length q1, .slice p2 t.pairs.length q2] 35 (0, 0)) = x := ⟨_, rfl⟩
          have HW6 := Lib.hid hw6
          have HKE := Lib.hid hKe
          rw [hw6] at hU6 hk6 hr6
          rw [← hKe] at hk6
          have KC : Hid (∀ W, Up w6 W → W.heap[K]? = some (.cells #[.int .i64 t.kind, .int .i64 t.label, .int .i64 t.a, .int .i64 t.b, .slice p1 t.names.length q1, .slice p2 t.pairs.length q2] 35 (0, 0))) := Lib.hid (fun W hW => (hW.block _ (lt_of_block' hk6)).trans hk6)
          have KS : Hid (∀ W, Up w6 W → Calls Tryz.prog 19 #[.agg #[.int .i64 t.kind, .int .i64 t.label, .int .i64 t.a, .int .i64 t.b, .slice p1 t.names.length q1, .slice p2 t.pairs.length q2], .agg #[.int .i64 t.kind, .int .i64 t.label, .int .i64 t.a, .int .i64 t.b, .slice p3 t.names.length q3, .slice p4 t.pairs.length q4]] W (Eql W true)) := Lib.hid (fun W hW => by
            have h1 := same_term (a := t) (b := t) (hr6.up hW) (HRC.out W (hU6.trans hW)).2.2.2.2.2.2.2 (by omega) (by omega) (by omega) (by omega)
            rwa [decide_eq_true rfl] at h1)
          obtain ⟨l1, hl1⟩ : ∃ l, l = t.names.length := ⟨_, rfl⟩
          obtain ⟨l2, hl2⟩ : ∃ l, l = t.pairs.length := ⟨_, rfl⟩
          have HU6 := Lib.hid hU6
          rw [← hl1, ← hl2] at KC KS HRC HW6 ⊢
          clear hown5 hU5 hU6 hk6 hr6 hw6 hKe hl1 hl2 r0
          go_upto_region 21 with fail
          rw [HW6.out, ← HKE.out]
          refine wp_region_quiet_in (fun w' => Up w6 w') (by kernel_rfl) (by kernel_rfl) (Up.drew (Up.refl _)) ?_
          iterate 10
            refine WQ.step (fun K' hK => ?_)
            go_simp
            apply Exists.intro
            refine ⟨?_, hK _ ?_⟩
            (intro w' hw'
             first
               | rfl
               | ((go_at_call 19); (with_reducible refine (KS.out _ hw').mono ?_); rintro e w3 ⟨rfl, hb2⟩; exact ⟨rfl, Up.trans hw' hb2⟩)
               | (obtain ⟨d0, d1, d2, d3, d4, d5, -⟩ := six_cells (KC.out w' hw')
                  obtain ⟨c0, y0, y1, y2, y3, y4, y5, -⟩ := HRC.out w' (HU6.out.trans hw')
                  go_simp; first | done | rfl | exact ⟨rfl, rfl⟩))
            clear hK K'
          refine WQ.nil ?_
          intro w9 hU9
          have HT9 := Lib.hid (HTi.out.up (HU6.out.trans hU9))
          clear hU9
          go_wp2_with fail
          go_roundw
          case rel => exact ⟨j + 1, by omega, by go_num, HT9.out⟩
          case measure => simp [intOf] <;> omega
        · have hji : ¬ ((j : Int) < (n : Int)) := by omega
          have HEND := Lib.hid (HUP2.out wi hTi.t)
          clear hTi
          go_wp2_with fail
          go_ret
          exact ⟨rfl, HEND.out⟩

/-- TermAll, whatever it is handed. -/
theorem all_any {g0 off0 cap0 : Nat} {ao0 : Option Addr} {l0 : List Tm.T} {a1 a2 a3 : Addr} {w : World}
    (ha0 : 0 < l0.length → ao0 = some ⟨g0, off0, none⟩) (hA0 : TermsAt w g0 off0 l0) (hF0 : ∀ i, i < l0.length → TermFit (l0.getD i Tm.nilT)) (hl0 : l0.length ≤ 9223372036854775807) (hT : Tab w) (hS : Sts w a1 a2 a3) :
    Calls Tryz.prog 4 #[.slice ao0 l0.length cap0] w (Done w) := by
  by_cases h : l0.length ≤ 100
  · exact all_main hT hS ha0 hA0 hF0 h
  · exact all_many _ _ _ w hT (by omega) hl0

end Go.Proofs.YtiiieailimphnaaGreatDoor
