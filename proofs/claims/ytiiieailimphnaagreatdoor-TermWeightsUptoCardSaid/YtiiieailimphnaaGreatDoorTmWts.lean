/- Walk: the statement TermWeights. -/
import Derived.Test.YtiiieailimphnaaGreatDoorTmPutAll
import Derived.Test.YtiiieailimphnaaGreatDoorTmC
import Derived.Test.YtiiieailimphnaaGreatDoorBookApart
import Derived.Test.YtiiieailimphnaaGreatDoorBookInts
namespace Go.Proofs.YtiiieailimphnaaGreatDoor
open Go.RowKit Go.Maps
set_option linter.unusedVariables false
set_option linter.unusedSimpArgs false

/-- What a call that tells a value and an error leaves. -/
def BadTwo (v : Value) (xt : TypeId) (xv : Value) (w : World) (r : Ending) (w' : World) : Prop :=
  ∃ pb, r = .returned (.tuple #[v, .iface 120 (.pointer (some ⟨pb, 0, none⟩))]) ∧ FaultT w' pb xt xv ∧ w.heap.size ≤ pb ∧ Up w w'

theorem weight_out {F : Nat → Prop} {w : World} {B : Nat} {s : List Tm.T} {xt : TypeId} {xv : Value} (h : St F w B s) (i : Int) (hi : ¬ (0 ≤ i ∧ i < s.length)) (hg : w.cell? ⟨1, 0, none⟩ = some (.iface xt xv)) :
    Calls Tryz.prog 9 #[.pointer (some ⟨B, 0, none⟩), .int .i64 i] w (BadTwo (.int .i64 0) xt xv w) := by
  have HA := Lib.hid (asked_out h i hi hg)
  clear h hi hg
  go_enter Tryz.func9, Tryz.ntmps9
  go_wp2_with (go_at_call 25; (with_reducible refine HA.out.mono ?_); rintro e w' ⟨pb, rfl, hf, hpb, hU⟩)
  go_ret2
  exact ⟨pb, rfl, hf, hpb, hU⟩

theorem consts_out {F : Nat → Prop} {w : World} {B : Nat} {s : List Tm.T} {xt : TypeId} {xv : Value} (h : St F w B s) (i : Int) (hi : ¬ (0 ≤ i ∧ i < s.length)) (hg : w.cell? ⟨1, 0, none⟩ = some (.iface xt xv)) :
    Calls Tryz.prog 10 #[.pointer (some ⟨B, 0, none⟩), .int .i64 i] w (BadTwo (.slice none 0 0) xt xv w) := by
  have HA := Lib.hid (asked_out h i hi hg)
  clear h hi hg
  go_enter Tryz.func10, Tryz.ntmps10
  go_wp2_with (go_at_call 25; (with_reducible refine HA.out.mono ?_); rintro e w' ⟨pb, rfl, hf, hpb, hU⟩)
  go_ret2
  exact ⟨pb, rfl, hf, hpb, hU⟩

theorem upTurn {w wr w2 : World} {F : Nat → Prop} (h : Up w wr) (ht : Turned F wr w2) (hF : ∀ k, F k → w.heap.size ≤ k) : Up w w2 := by
  have := (upTurned (F := fun k => w.heap.size ≤ k) h).trans ht (fun i _ hi => hF i hi)
  exact (this.mono (T := fun _ => False) (fun i hi h => by omega)).toBelow (fun k h => h)

/-- One call of put behind another. -/
theorem Two.nest {F G F' G' F2 G2 : Nat → Prop} {w wr wr2 w' : World} {B R : Nat} {s r s' r' : List Tm.T} (h : Two F G w B R wr s r F' G') (hu : Up wr wr2) (h2 : Two F' G' wr2 B R w' s' r' F2 G2) : Two F G w B R w' s' r' F2 G2 := by
  have hs := h.t.size
  have hs2 := hu.size
  refine ⟨fun k hk => ?_, fun k hk => ?_, h2.apart, h2.lt, h2.st, h2.rs, ((h.up hu).t).trans h2.t (fun k hk hfg => ?_)⟩
  · rcases h2.f k hk with e | e
    · exact h.f k e
    · exact .inr (by omega)
  · rcases h2.g k hk with e | e
    · exact h.g k e
    · exact .inr (by omega)
  · rcases hfg with e | e
    · rcases h.f k e with e | e
      · exact .inl e
      · omega
    · rcases h.g k e with e | e
      · exact .inr e
      · omega

theorem Two.over {F G F' G' : Nat → Prop} {w wr W : World} {B R : Nat} {s r : List Tm.T} (h : Two F G w B R wr s r F' G') (hW : Turned (fun k => F' k ∨ G' k) wr W) : Turned (fun k => F k ∨ G k) w W :=
  h.t.trans hW (fun k hk hfg => by
    rcases hfg with e | e
    · rcases h.f k e with e | e
      · exact .inl e
      · omega
    · rcases h.g k e with e | e
      · exact .inr e
      · omega)

/-- A term without lists, alone in a new block. -/
theorem terms_one {w : World} {g : Nat} {kd la a b : Int} (h : w.heap[g]? = some (.cells #[.int .i64 kd, .int .i64 la, .int .i64 a, .int .i64 b, .slice none 0 0, .slice none 0 0] 35 (0, 0))) :
    TermsIn w g 0 [⟨kd, la, a, b, [], []⟩] (fun _ => (.slice none 0 0, .slice none 0 0)) := fun i hi => by
  obtain rfl : i = 0 := by simp at hi; omega
  obtain ⟨c0, c1, c2, c3, c4, c5, -⟩ := six_cells h
  exact ⟨⟨c0, c1, c2, c3, c4, c5⟩, ⟨lst_nil _, lsp_nil _⟩⟩

theorem fit_one {kd la a b : Int} : ∀ i, i < [(⟨kd, la, a, b, [], []⟩ : Tm.T)].length → TermFit ([(⟨kd, la, a, b, [], []⟩ : Tm.T)].getD i Tm.nilT) := fun i hi => by
  obtain rfl : i = 0 := by simp at hi; omega
  exact ⟨by simp, by simp⟩

/-- Two stores of the same terms, at most so many. -/
def DblAt (F G : Nat → Prop) (w : World) (B R m : Nat) (wr : World) : Prop := ∃ s F' G', Two F G w B R wr s s F' G' ∧ s.length ≤ m

/-- A book that keeps nothing. -/
def BookNil (W : World) (bk : Nat) : Prop := W.heap[bk]? = some (.cells #[.slice none 0 0, .slice none 0 0, .slice none 0 0, .slice none 0 0, .slice none 0 0, .slice none 0 0, .slice none 0 0, .slice none 0 0, .slice none 0 0, .slice none 0 0, .slice none 0 0, .slice none 0 0, .slice none 0 0, .slice none 0 0, .slice none 0 0, .slice none 0 0, .slice none 0 0, .slice none 0 0, .slice none 0 0, .slice none 0 0, .slice none 0 0, .slice none 0 0] 49 (0, 0))

theorem BookNil.book {w : World} {bk : Nat} (h : BookNil w bk) : BookAt w bk (.slice none 0 0) (.slice none 0 0) [] :=
  ⟨h, World.ownsRow_nil _ _ _ _, World.ownsRow_nil _ _ _ _, fun g hg => (by cases hg), fun e he => (by cases he), List.nodup_nil, fun e he => (by cases he)⟩

/-- What stands at the head of a round over the book. -/
def BkLp (F G : Nat → Prop) (w : World) (B R : Nat) (s : List Tm.T) (F' G' : Nat → Prop) (bk k : Nat) (wr : World) : Prop :=
  ∃ vi vw es, Two F G w B R wr s s F' G' ∧ BookAt wr bk vi vw es ∧ es.length ≤ k ∧ ∀ j, BkFoot bk vi vw es j → bk ≤ j

theorem BkLp.up {F G F' G' : Nat → Prop} {w wr w' : World} {B R bk k : Nat} {s : List Tm.T} (h : BkLp F G w B R s F' G' bk k wr) (hu : Up wr w') : BkLp F G w B R s F' G' bk k w' := by
  obtain ⟨vi, vw, es, hT, hb, hl, hf⟩ := h
  exact ⟨vi, vw, es, hT.up hu, hb.up hu, hl, hf⟩

/-- What Ints leaves of it. -/
def BkPut (F G : Nat → Prop) (w : World) (B R : Nat) (s : List Tm.T) (F' G' : Nat → Prop) (bk k n : Nat) (wr : World) (r : Ending) (w' : World) : Prop :=
  r = .returned (.tuple #[]) ∧ BkLp F G w B R s F' G' bk (k + 1) w' ∧ ∀ j, n ≤ j → j < wr.heap.size → w'.heap[j]? = wr.heap[j]?

theorem BkLp.ints {F G F' G' : Nat → Prop} {w wr w2 : World} {B R bk k : Nat} {s : List Tm.T} {v : Value} {xs : List Int} (h : BkLp F G w B R s F' G' bk k wr) (hu : Up wr w2) (hk : k ≤ 399) (hFG : ∀ j, F' j ∨ G' j → j < bk) (hw : w.heap.size ≤ bk)
    (hv : w2.ownsRow wr.heap.size 3 1 v xs.length (vals xs)) (hx : xs.length ≤ 900000) :
    Calls Tryz.prog 11 #[.pointer (some ⟨bk, 0, none⟩), v] w2 (BkPut F G w B R s F' G' bk k wr.heap.size w2) := by
  obtain ⟨vi, vw, es, hT, hb, hl, hf⟩ := h
  have hbl : bk < wr.heap.size := hb.foot_lt (.inl rfl)
  refine (bookInts (hb.up hu) (by omega) (owns_base hv (Nat.zero_le _)) hx (fun g hg hm => ?_)).mono ?_
  · have h1 := (hv.lt g hg).1
    have h2 := hb.foot_lt (.inr (.inr (.inr hm)))
    omega
  · rintro r w' ⟨rfl, vi', vw', es', hb', hl', hes, hft, ht⟩
    have hown : ∀ j, BkOwn bk vi vw j → bk ≤ j ∧ j < wr.heap.size := fun j hj => by
      have hj' : BkFoot bk vi vw es j := by
        rcases hj with e | e | e
        · exact .inl e
        · exact .inr (.inl e)
        · exact .inr (.inr (.inl e))
      exact ⟨hf j hj', hb.foot_lt hj'⟩
    refine ⟨rfl, ⟨vi', vw', es', (hT.up hu).other ht (fun j hj => ?_), hb', ?_, fun j hj => ?_⟩, fun j h0 h1 => ht.block j h1 (fun e => by have := (hown j e).2; omega)⟩
    · have h1 := (hown j hj).1
      exact ⟨by omega, fun e => by have := hFG j (.inl e); omega, fun e => by have := hFG j (.inr e); omega⟩
    · rcases hes with e | ⟨u, e⟩
      · rw [e]; omega
      · rw [e]; simp only [List.length_append, List.length_singleton]; omega
    · have h3 := hu.size
      rcases hft j hj with e | e | e
      · exact hf j e
      · have := (hv.lt j e).1; omega
      · omega

set_option maxHeartbeats 1000000 in
set_option maxRecDepth 100000 in
theorem weights_many (n0 cap0 : Nat) (ao0 : Option Addr) (doubles id : Int) (w : World) (hT : Tab w) (h : 200 < n0 ∨ ¬ 200 < n0 ∧ doubles < 0 ∨ ¬ 200 < n0 ∧ ¬ doubles < 0 ∧ 70 < doubles) (hm : n0 ≤ 9223372036854775807) :
    Calls Tryz.prog 3 #[.slice ao0 n0 cap0, .int .i64 doubles, .int .i64 id] w (Done w) := by
  have HA := Lib.hid (alive_true w hT)
  rcases h with h | ⟨h, h1⟩ | ⟨h, h1, h2⟩
  · have h2 : (200 : Int) < (n0 : Int) := by omega
    clear hT h
    go_enter Tryz.func3, Tryz.ntmps3
    go_wp2_with (go_at_call 5; (with_reducible refine HA.out.mono ?_); rintro e w' ⟨rfl, hU⟩)
    go_ret
    exact ⟨rfl, hU⟩
  · have h3 : ¬ (200 : Int) < (n0 : Int) := by omega
    clear hT h
    go_enter Tryz.func3, Tryz.ntmps3
    go_wp2_with (go_at_call 5; (with_reducible refine HA.out.mono ?_); rintro e w' ⟨rfl, hU⟩)
    go_ret
    exact ⟨rfl, hU⟩
  · have h3 : ¬ (200 : Int) < (n0 : Int) := by omega
    clear hT h
    go_enter Tryz.func3, Tryz.ntmps3
    go_wp2_with (go_at_call 5; (with_reducible refine HA.out.mono ?_); rintro e w' ⟨rfl, hU⟩)
    go_ret
    exact ⟨rfl, hU⟩

set_option maxHeartbeats 8000000 in
set_option maxRecDepth 100000 in
theorem weights_main {g0 off0 cap0 : Nat} {ao0 : Option Addr} {l0 : List Tm.T} {a1 a2 a3 : Addr} {w : World} (D : Nat) (id : Int) (hT : Tab w) (hS : Sts w a1 a2 a3)
    (ha0 : 0 < l0.length → ao0 = some ⟨g0, off0, none⟩) (hA0 : TermsAt w g0 off0 l0) (hF0 : ∀ i, i < l0.length → TermFit (l0.getD i Tm.nilT)) (hm0 : l0.length ≤ 200) (hD : D ≤ 70) :
    Calls Tryz.prog 3 #[.slice ao0 l0.length cap0, .int .i64 (D : Nat), .int .i64 id] w (Done w) := by
  obtain ⟨vs0, hV0⟩ := TermsIn.of hA0
  have HK0 : Hid (∀ W, Up w W → Kept W g0 off0 l0 vs0 a1 a2 a3) := Lib.hid (fun W hW => Kept.up ⟨hV0, hT, hS⟩ hW)
  have HNEW := Lib.hid (new_any w hT)
  have HREF : Hid (∀ W, Calls Tryz.prog 7 #[] W (NewRef W)) := Lib.hid (fun W => refnew_any W)
  have HAL : Hid (∀ W, Up w W → Calls Tryz.prog 5 #[] W (Done W)) := Lib.hid (fun W hW => alive_true W (hT.up hW))
  have HI0 := Lib.hid (⟨ha0, hF0, hm0⟩ : (0 < l0.length → ao0 = some ⟨g0, off0, none⟩) ∧ (∀ i, i < l0.length → TermFit (l0.getD i Tm.nilT)) ∧ l0.length ≤ 200)
  obtain ⟨m0, hn0⟩ : ∃ n, n = l0.length := ⟨_, rfl⟩
  have q0 : ¬ (200 : Int) < (m0 : Int) := by omega
  have q1 : ¬ ((D : Int) < 0) := by omega
  have q2 : ¬ ((70 : Int) < (D : Int)) := by omega
  rw [← hn0]
  have HN0 := Lib.hid hn0
  clear hT hS ha0 hA0 hF0 hm0 hV0 hn0
  go_enter Tryz.func3, Tryz.ntmps3
  go_wp2_with fail
  (with_reducible refine HNEW.out.mono ?_)
  rintro e w1 ⟨B, rfl, hS1, hU1⟩
  go_wp2_with fail
  (with_reducible refine (HREF.out _).mono ?_)
  rintro e w2 ⟨R, rfl, hR1, hU2⟩
  have hV2 := hU1.trans hU2
  obtain ⟨i0, hi0⟩ : ∃ i, i = w.heap.size := ⟨_, rfl⟩
  obtain ⟨i1, hi1⟩ : ∃ i, i = w1.heap.size := ⟨_, rfl⟩
  obtain ⟨i2, hi2⟩ : ∃ i, i = w2.heap.size := ⟨_, rfl⟩
  have HII : Hid (i0 = w.heap.size ∧ i0 ≤ i1 ∧ i1 ≤ i2 ∧ i2 = w2.heap.size) := Lib.hid ⟨hi0, by rw [hi0, hi1]; exact hU1.size, by rw [hi1, hi2]; exact hU2.size, hi2⟩
  have HS1 : Hid (St (fun k => i0 ≤ k ∧ k < i1) w2 B [Tm.nilT]) := Lib.hid (by rw [hi0, hi1]; exact (hS1.bound).up hU2)
  have HR1 : Hid (Rs (fun k => i1 ≤ k ∧ k < i2) w2 R [Tm.nilT]) := Lib.hid (by rw [hi1, hi2]; exact hR1.bound)
  have HV2 := Lib.hid hV2
  clear hS1 hU1 hR1 hU2 hV2 hi0 hi1 hi2 HNEW HREF
  go_wp2_with fail
  (with_reducible refine (HAL.out _ HV2.out).mono ?_)
  rintro e w3 ⟨rfl, hU3⟩
  have HI3 : Hid (i2 ≤ w3.heap.size) := Lib.hid (by have := hU3.size; have := HII.out; omega)
  have HV3 := Lib.hid (HV2.out.trans hU3)
  have HP1 := Lib.hid (put_all (s := [Tm.nilT]) (cap := cap0) (HS1.out.up hU3) (HR1.out.up hU3) (fun k a b => by omega) (fun k h => by have := HII.out; have := HI3.out; omega) (fun W hW => HK0.out W (upTurn HV3.out hW (fun k hk => by have := HII.out; omega))) HI0.out.1 HI0.out.2.1 (by have := HI0.out.2.2; show 1 + l0.length ≤ 1000; omega))
  rw [← HN0.out] at HP1
  clear hU3
  go_wp2_with fail
  (with_reducible refine HP1.out.mono ?_)
  rintro e w4 ⟨rfl, F1, G1, hT1⟩
  have HD0 : Hid (DblAt (fun k => i0 ≤ k ∧ k < i1) (fun k => i1 ≤ k ∧ k < i2) w3 B R 201 w4) := Lib.hid ⟨_, F1, G1, hT1, by have := (Tm.runFrom_len [Tm.nilT] l0).2; have := HI0.out.2.2; simp only [List.length_singleton] at *; omega⟩
  have HUP : Hid (∀ W, Turned (fun k => (i0 ≤ k ∧ k < i1) ∨ (i1 ≤ k ∧ k < i2)) w3 W → Up w W) := Lib.hid (fun W hW => upTurn HV3.out hW (fun k hk => by have := HII.out; omega))
  have HTS : Hid (∀ W, Up w W → Tab W ∧ Sts W a1 a2 a3) := Lib.hid (fun W hW => ⟨(HK0.out W hW).tab, (HK0.out W hW).sts⟩)
  clear hT1 HP1 HK0 HI0 HN0 HAL HS1 HR1 HV2 HV3 q0
  obtain ⟨F0, hF0⟩ : ∃ F : Nat → Prop, F = fun k => i0 ≤ k ∧ k < i1 := ⟨_, rfl⟩
  obtain ⟨G0, hG0⟩ : ∃ F : Nat → Prop, F = fun k => i1 ≤ k ∧ k < i2 := ⟨_, rfl⟩
  have HUP2 : Hid (∀ W, Turned (fun k => F0 k ∨ G0 k) w3 W → Up w W) := Lib.hid (by subst hF0; subst hG0; exact HUP.out)
  rw [← hF0, ← hG0] at HD0
  clear HUP HII HI3 hF0 hG0
  go_wp2_with fail
  go_loopw [9] (fun i wr => ∃ k : Nat, k ≤ D ∧ i = .int .i64 k ∧ DblAt F0 G0 w3 B R (201 + k) wr) (fun i _ => D - (intOf i).toNat)
  case atStart => exact ⟨0, Nat.zero_le _, rfl, HD0.out⟩
  case round =>
    clear HD0
    obtain ⟨k, hk, rfl, s, F', G', hB, hsl⟩ := hrel
    by_cases hlt : k < D
    · obtain ⟨ar, cr, r0, -, -⟩ := hB.rs.at
      obtain ⟨n, hn⟩ : ∃ n, n = s.length := ⟨_, rfl⟩
      rw [← hn] at r0
      have hn1 : n ≤ 300 := by omega
      obtain ⟨e2, he2⟩ : ∃ e : Nat, e = k % 2 := ⟨_, rfl⟩
      have htm : Int.tmod (k : Int) 2 = (e2 : Int) := by rw [he2, Int.tmod_eq_emod_of_nonneg (by omega)]; omega
      obtain ⟨kd, hkd⟩ : ∃ x : Int, x = 4 - (e2 : Int) := ⟨_, rfl⟩
      obtain ⟨la, hla⟩ : ∃ x : Int, x = (n : Int) - 1 := ⟨_, rfl⟩
      have qk : IntKind.i64.wrap (4 - (e2 : Int)) = kd := by rw [hkd]; exact IntWalk.i64_in _ (by omega)
      have ql : IntKind.i64.wrap ((n : Int) - 1) = la := by rw [hla]; exact IntWalk.i64_in _ (by omega)
      have hRl : R < wr.heap.size := World.block_lt_of_cell? _ _ r0
      have HB := Lib.hid hB
      have HSL : Hid (s.length ≤ 201 + k) := Lib.hid hsl
      have HN := Lib.hid hn
      clear hB hsl hn he2 hkd hla
      go_wp2_with fail
      go_region
      go_wp2_with fail
      have hu : Up wr ((wr.alloc (.cells #[.int .i64 kd, .int .i64 0, .int .i64 la, .int .i64 la, .slice none 0 0, .slice none 0 0] 35 (0, 0))).alloc (.cells #[.int .i64 kd, .int .i64 0, .int .i64 la, .int .i64 la, .slice none 0 0, .slice none 0 0] 35 (0, 0))).drew := (((Up.refl wr).alloc _).alloc _).drew
      have hg : ((wr.alloc (.cells #[.int .i64 kd, .int .i64 0, .int .i64 la, .int .i64 la, .slice none 0 0, .slice none 0 0] 35 (0, 0))).alloc (.cells #[.int .i64 kd, .int .i64 0, .int .i64 la, .int .i64 la, .slice none 0 0, .slice none 0 0] 35 (0, 0))).drew.heap[wr.heap.size + 1]? = some (.cells #[.int .i64 kd, .int .i64 0, .int .i64 la, .int .i64 la, .slice none 0 0, .slice none 0 0] 35 (0, 0)) := by
        have := heap_alloc_new (wr.alloc (.cells #[.int .i64 kd, .int .i64 0, .int .i64 la, .int .i64 la, .slice none 0 0, .slice none 0 0] 35 (0, 0))) (.cells #[.int .i64 kd, .int .i64 0, .int .i64 la, .int .i64 la, .slice none 0 0, .slice none 0 0] 35 (0, 0))
        rw [World.size_alloc] at this
        exact this
      obtain ⟨wp, hwp⟩ : ∃ x, ((wr.alloc (.cells #[.int .i64 kd, .int .i64 0, .int .i64 la, .int .i64 la, .slice none 0 0, .slice none 0 0] 35 (0, 0))).alloc (.cells #[.int .i64 kd, .int .i64 0, .int .i64 la, .int .i64 la, .slice none 0 0, .slice none 0 0] 35 (0, 0))).drew = x := ⟨_, rfl⟩
      rw [hwp] at hu hg ⊢
      have hBp := HB.out.up hu
      have HPUT := Lib.hid (put_all (l := [(⟨kd, 0, la, la, [], []⟩ : Tm.T)]) (g := wr.heap.size + 1) (off := 0) (ao := some ⟨wr.heap.size + 1, 0, none⟩) (cap := 1) (vs := fun _ => (.slice none 0 0, .slice none 0 0)) (a1 := a1) (a2 := a2) (a3 := a3) hBp.st hBp.rs hBp.apart hBp.lt (fun W hW => by
        have hts := HTS.out W (HUP2.out W (hBp.over hW))
        refine ⟨terms_one ((hW.block _ (lt_of_block' hg) (fun e => ?_)).trans hg), hts.1, hts.2⟩
        have := HB.out.lt _ e
        omega) (fun _ => rfl) fit_one (by have := HSL.out; simp only [List.length_singleton]; omega))
      rw [show [(⟨kd, 0, la, la, [], []⟩ : Tm.T)].length = 1 from rfl] at HPUT
      have HU := Lib.hid hu
      clear hu hg hBp hwp r0 hRl
      (with_reducible refine HPUT.out.mono ?_)
      rintro e w6 ⟨rfl, F2, G2, hT2⟩
      have HD6 : Hid (DblAt F0 G0 w3 B R (201 + (k + 1)) w6) := Lib.hid ⟨_, F2, G2, HB.out.nest HU.out hT2, by have := (Tm.runFrom_len s [(⟨kd, 0, la, la, [], []⟩ : Tm.T)]).2; have := HSL.out; simp only [List.length_singleton] at *; omega⟩
      clear hT2
      go_wp2_with fail
      go_roundw
      case rel => exact ⟨k + 1, by omega, by go_num, HD6.out⟩
      case measure => simp [intOf] <;> omega
    · have hkD : ¬ ((k : Int) < (D : Int)) := by omega
      have hsz : s.length ≤ 1000 := by omega
      obtain ⟨z, hz⟩ : ∃ z, z = s.length := ⟨_, rfl⟩
      have HZ := Lib.hid hz
      have hz1 : z ≤ 1000 := by omega
      obtain ⟨bk, hbk⟩ : ∃ b, b = wr.heap.size := ⟨_, rfl⟩
      have HFG : Hid (∀ j, F' j ∨ G' j → j < bk) := Lib.hid (by rw [hbk]; exact hB.lt)
      have HW3 : Hid (w3.heap.size ≤ bk) := Lib.hid (by rw [hbk]; exact hB.t.size)
      have HB0 : Hid (BkLp F0 G0 w3 B R s F' G' bk 0 (wr.alloc (.cells #[.slice none 0 0, .slice none 0 0, .slice none 0 0, .slice none 0 0, .slice none 0 0, .slice none 0 0, .slice none 0 0, .slice none 0 0, .slice none 0 0, .slice none 0 0, .slice none 0 0, .slice none 0 0, .slice none 0 0, .slice none 0 0, .slice none 0 0, .slice none 0 0, .slice none 0 0, .slice none 0 0, .slice none 0 0, .slice none 0 0, .slice none 0 0, .slice none 0 0] 49))) := Lib.hid
        ⟨_, _, [], hB.up ((Up.refl wr).alloc _), BookNil.book (by rw [hbk]; exact heap_alloc_new wr _), by simp, fun j hj => by
          rcases hj with rfl | e | e | e
          · exact Nat.le_refl _
          · cases e
          · cases e
          · cases e⟩
      have HBK := Lib.hid hbk
      clear hB hz hbk hsz hsl hlt hk
      go_wp2_with fail
      rw [← HBK.out]
      go_loopw [2, 12] (fun v i wi => ∃ q : Nat, q ≤ 2 ∧ i = .int .i64 q ∧ (∃ x : Int, v = .int .i64 x) ∧ BkLp F0 G0 w3 B R s F' G' bk q wi) (fun _ i _ => 2 - (intOf i).toNat)
      case atStart => exact ⟨0, by omega, rfl, ⟨_, rfl⟩, HB0.out⟩
      case round =>
        clear HB0 HBK
        obtain ⟨q, hq, rfl, ⟨x, rfl⟩, hL⟩ := hrel
        have HL := Lib.hid hL
        obtain ⟨wi, rfl⟩ : ∃ x, x = wr := ⟨_, rfl⟩
        obtain ⟨vi0, vw0, es0, hTi, -, -, -⟩ := hL
        have HUw := Lib.hid (HUP2.out wi hTi.t)
        have HRR : Hid (∀ W, (∃ q, BkLp F0 G0 w3 B R s F' G' bk q W) → ∃ ar cr, W.cell? ⟨R, 0, none⟩ = some (.slice ar z cr)) := Lib.hid (fun W ⟨q, hq⟩ => by
          obtain ⟨_, _, _, hT, -⟩ := hq
          obtain ⟨ar, cr, r0, -, -⟩ := hT.rs.at
          exact ⟨ar, cr, by rw [HZ.out]; exact r0⟩)
        by_cases hq2 : q < 2
        · by_cases hin : 0 ≤ x ∧ x < (z : Int)
          · obtain ⟨a, rfl⟩ : ∃ a : Nat, x = (a : Int) := ⟨x.toNat, by omega⟩
            have hal : a < s.length := by rw [← HZ.out]; omega
            have HWT := Lib.hid (weight_in hTi.st hal (by rw [← HZ.out]; exact hz1))
            have HCO : Hid (∀ W, Up wi W → Calls Tryz.prog 10 #[.pointer (some ⟨B, 0, none⟩), .int .i64 (a : Nat)] W (ConstsDone s a W)) := Lib.hid (fun W hW => consts_in (hTi.up hW).st hal (by rw [← HZ.out]; exact hz1))
            have HRW : Hid (∀ W, (∃ q, BkLp F0 G0 w3 B R s F' G' bk q W) → Calls Tryz.prog 13 #[.pointer (some ⟨R, 0, none⟩), .int .i64 (a : Nat)] W fun r w' => r = .returned (.int .i64 (Tm.weight s a)) ∧ Up W w') := Lib.hid (fun W ⟨q, hq⟩ => by
              obtain ⟨_, _, _, hT, -⟩ := hq
              exact refweight_in hT.rs hal (by rw [← HZ.out]; exact hz1))
            have HRC : Hid (∀ W, (∃ q, BkLp F0 G0 w3 B R s F' G' bk q W) → Calls Tryz.prog 15 #[.pointer (some ⟨R, 0, none⟩), .int .i64 (a : Nat)] W (RefConstsDone s a W)) := Lib.hid (fun W ⟨q, hq⟩ => by
              obtain ⟨_, _, _, hT, -⟩ := hq
              exact refconsts_in hT.rs hal (by rw [← HZ.out]; exact hz1))
            obtain ⟨cs, hcs⟩ : ∃ cs, cs = Tm.refConsts s (Tm.within s a) (a + 1) := ⟨_, rfl⟩
            have HCS := Lib.hid hcs
            have HCL : Hid (cs.length ≤ 200) := Lib.hid (by rw [hcs, ← Tm.outL_end]; exact Tm.outL_len _ _ _ _)
            obtain ⟨wt, hwt⟩ : ∃ x, x = Tm.weight s a := ⟨_, rfl⟩
            rw [← hwt] at HRW
            unfold WeightDone at HWT
            rw [← hwt] at HWT
            have qn : (wt != wt) = false := by simp
            have q3 : ¬ ((a : Int) < 0) := by omega
            have q4 : ¬ ((z : Int) ≤ (a : Int)) := by omega
            clear hTi hcs hwt hal hin
            go_wp2_with fail
            (with_reducible refine HWT.out.mono ?_)
            rintro e w5 ⟨rfl, hU5⟩
            have HU5 := Lib.hid hU5
            clear hU5
            go_wp2_with fail
            (with_reducible refine (HCO.out _ HU5.out).mono ?_)
            rintro e w6 ⟨v, rfl, hv, hU6⟩
            rw [← HCS.out] at hv
            obtain ⟨pv, cv, rfl⟩ := owns_shape' hv
            have hu6 := HU5.out.trans hU6
            have HBI := Lib.hid (HL.out.ints hu6 (by omega) HFG.out HW3.out (owns_base hv HU5.out.size) (by have := HCL.out; omega))
            have HV := Lib.hid (owns_base hv HU5.out.size)
            obtain ⟨cl, hcl⟩ : ∃ l, l = cs.length := ⟨_, rfl⟩
            rw [← hcl] at HBI HV ⊢
            have HCE := Lib.hid hcl
            have HU6 := Lib.hid hu6
            clear hv hU6 hu6 hcl
            go_wp2_with fail
            (with_reducible refine HBI.out.mono ?_)
            rintro e w7 ⟨rfl, hL7, hk7⟩
            have HV7 : Hid (w7.ownsRow wi.heap.size 3 1 (.slice pv cl cv) cl (vals cs)) := Lib.hid (owns_keep HV.out (fun g hg => hk7 g (HV.out.lt g hg).1 (owns_lt HV.out hg)))
            obtain ⟨ar, cr, r0⟩ := HRR.out w7 ⟨_, hL7⟩
            have HL7 := Lib.hid hL7
            clear hL7 hk7 HV HBI
            go_wp2_with fail
            (with_reducible refine (HRW.out _ ⟨_, HL7.out⟩).mono ?_)
            rintro e w8 ⟨rfl, hU8⟩
            have HU8 := Lib.hid hU8
            clear hU8 r0
            go_wp2_with fail
            (with_reducible refine (HRC.out _ ⟨_, HL7.out.up HU8.out⟩).mono ?_)
            rintro e w9 ⟨v2, rfl, hv2, hU9⟩
            rw [← HCS.out] at hv2
            obtain ⟨pv2, cv2, rfl⟩ := owns_shape' hv2
            have hu9 := HU8.out.trans hU9
            have HSI : Hid (Calls Tryz.prog 14 #[.slice pv cl cv, .slice pv2 cl cv2] w9 (Same w9 true)) := Lib.hid (by
              have h1 := hu9.owns HV7.out
              rw [HCE.out] at h1 ⊢
              exact sameInts_big (xs := cs) (by have := HCL.out; omega) (owns_lst h1) (owns_lst hv2))
            have HL9 := Lib.hid (HL7.out.up hu9)
            rw [← HCE.out]
            clear hv2 hU9 hu9
            go_wp2_with fail
            (with_reducible refine HSI.out.mono ?_)
            rintro e w10 ⟨rfl, q0, rfl⟩
            have HL10 := Lib.hid (HL9.out.up ((Up.refl w9).drewN q0))
            obtain ⟨ar, cr, r0⟩ := HRR.out _ ⟨_, HL10.out⟩
            go_wp2_with fail
            go_roundw
            case rel => exact ⟨q + 1, by omega, by go_num, ⟨_, rfl⟩, HL10.out⟩
            case measure => simp [intOf] <;> omega
          · have hio : ¬ (0 ≤ x ∧ x < (s.length : Int)) := by rw [← HZ.out]; exact hin
            have hst := (HTS.out wi HUw.out).2
            have HWT := Lib.hid (weight_out hTi.st x hio hst.s3.var)
            have HCO : Hid (∀ W, Up wi W → Calls Tryz.prog 10 #[.pointer (some ⟨B, 0, none⟩), .int .i64 x] W (BadTwo (.slice none 0 0) 214 (.pointer (some a3)) W)) := Lib.hid (fun W hW => consts_out (hTi.up hW).st x hio (hst.up hW).s3.var)
            have hcase : x < 0 ∨ ¬ x < 0 ∧ (z : Int) ≤ x := by omega
            clear hTi hio hst hin
            go_wp2_with fail
            (with_reducible refine HWT.out.mono ?_)
            rintro e w5 ⟨pb1, rfl, hf5, hp5, hU5⟩
            have HU5 := Lib.hid hU5
            go_wp2_with fail
            (with_reducible refine (HCO.out _ HU5.out).mono ?_)
            rintro e w6 ⟨pb2, rfl, hf6, hp6, hU6⟩
            have hu6 := hU5.trans hU6
            have HF1 : Hid (FaultT w6 pb1 214 (.pointer (some a3)) ∧ wi.heap.size ≤ pb1) := Lib.hid ⟨hf5.up hU6, hp5⟩
            have HF2 : Hid (FaultT w6 pb2 214 (.pointer (some a3)) ∧ wi.heap.size ≤ pb2) := Lib.hid ⟨hf6, Nat.le_trans hU5.size hp6⟩
            have HBI := Lib.hid (HL.out.ints (v := .slice none 0 0) (xs := []) hu6 (by omega) HFG.out HW3.out (World.ownsRow_nil _ _ _ _) (by simp))
            clear hf5 hp5 hU5 hf6 hp6 hU6 hu6
            go_wp2_with fail
            (with_reducible refine HBI.out.mono ?_)
            rintro e w7 ⟨rfl, hL7, hk7⟩
            have hup7 : Up w w7 := by
              obtain ⟨_, _, _, hT, -⟩ := hL7
              exact HUP2.out w7 hT.t
            have hst7 := (HTS.out w7 hup7).2
            have HTO : Hid (∀ pb, FaultT w6 pb 214 (.pointer (some a3)) ∧ wi.heap.size ≤ pb → ∀ W, Up w7 W → Calls Tryz.prog 12 #[.iface 120 (.pointer (some ⟨pb, 0, none⟩)), .int .i64 3] W (Done W)) := Lib.hid (fun pb hpb W hW =>
              told_index (FaultT.up ((hk7 pb hpb.2 (lt_of_block' hpb.1)).trans hpb.1) hW) (hst7.up hW))
            obtain ⟨ar, cr, r0⟩ := HRR.out w7 ⟨_, hL7⟩
            have HL7 := Lib.hid hL7
            clear hL7 hk7 hup7 hst7 HBI
            rcases hcase with h | ⟨h, h2⟩
            all_goals
              go_wp2_with fail
              (with_reducible refine (HTO.out pb1 HF1.out _ (Up.refl _)).mono ?_)
              rintro e w8 ⟨rfl, hU8⟩
              have HU8 := Lib.hid hU8
              clear hU8
              go_wp2_with fail
              (with_reducible refine (HTO.out pb2 HF2.out _ HU8.out).mono ?_)
              rintro e w9 ⟨rfl, hU9⟩
              have HL9 := Lib.hid (HL7.out.up (HU8.out.trans hU9))
              clear hU9 r0
              obtain ⟨ar, cr, r0⟩ := HRR.out w9 ⟨_, HL9.out⟩
              go_wp2_with fail
              go_roundw
              case rel => exact ⟨q + 1, by omega, by go_num, ⟨_, rfl⟩, HL9.out⟩
              case measure => simp [intOf] <;> omega
        · have hq3 : ¬ ((q : Int) < 2) := by omega
          have HAP : Hid (Calls Tryz.prog 16 #[.pointer (some ⟨bk, 0, none⟩)] wi (Done w)) := Lib.hid (by
            obtain ⟨vi, vw, es, hT, hb, hl, hf⟩ := HL.out
            refine (apart_any hb (by omega)).mono ?_
            rintro r w' ⟨rfl, ht⟩
            refine ⟨rfl, upTurn HUw.out ht (fun k hk => ?_)⟩
            have h1 := hf k (hb.inV hk)
            have h2 := HW3.out
            have h3 := (HUP2.out w3 (Turned.refl _ _)).size
            omega)
          clear hTi
          go_wp2_with fail
          (with_reducible refine HAP.out.mono ?_)
          rintro e w5 ⟨rfl, hU5⟩
          have HU5 := Lib.hid hU5
          clear hU5
          go_wp2_with fail
          go_ret
          exact ⟨rfl, HU5.out⟩

/-- TermWeights, whatever it is handed. -/
theorem weights_any {g0 off0 cap0 : Nat} {ao0 : Option Addr} {l0 : List Tm.T} {a1 a2 a3 : Addr} {w : World}
    (ha0 : 0 < l0.length → ao0 = some ⟨g0, off0, none⟩) (hA0 : TermsAt w g0 off0 l0) (hF0 : ∀ i, i < l0.length → TermFit (l0.getD i Tm.nilT)) (hl0 : l0.length ≤ 9223372036854775807) (doubles id : Int) (hT : Tab w) (hS : Sts w a1 a2 a3) :
    Calls Tryz.prog 3 #[.slice ao0 l0.length cap0, .int .i64 doubles, .int .i64 id] w (Done w) := by
  by_cases h : l0.length ≤ 200 ∧ 0 ≤ doubles ∧ doubles ≤ 70
  · obtain ⟨D, rfl⟩ := Int.eq_ofNat_of_zero_le h.2.1
    exact weights_main D id hT hS ha0 hA0 hF0 h.1 (by omega)
  · exact weights_many _ _ _ _ _ w hT (by omega) hl0

end Go.Proofs.YtiiieailimphnaaGreatDoor
