/- Memory behind the law's put: a store and the document's own beside each other; terms among the arguments that stay; cells of a list that are written over. -/
import Derived.Test.YtiiieailimphnaaDoorTmR10
import Derived.Test.YtiiieailimphnaaDoorTmTold
import Derived.Test.YtiiieailimphnaaDoorTmLent
namespace Go.Proofs.YtiiieailimphnaaDoor
open Go.RowKit Go.Maps
set_option linter.unusedVariables false
set_option linter.unusedSimpArgs false

/-- Two stores, their blocks apart, each among its own ones and new ones. -/
structure Two (F G : Nat → Prop) (w : World) (B R : Nat) (wr : World) (s r : List Tm.T) (F' G' : Nat → Prop) : Prop where
  f : ∀ k, F' k → F k ∨ w.heap.size ≤ k
  g : ∀ k, G' k → G k ∨ w.heap.size ≤ k
  apart : ∀ k, F' k → ¬ G' k
  lt : ∀ k, F' k ∨ G' k → k < wr.heap.size
  st : St F' wr B s
  rs : Rs G' wr R r
  t : Turned (fun k => F k ∨ G k) w wr

theorem Two.start {F G : Nat → Prop} {w : World} {B R : Nat} {s r : List Tm.T} (hs : St F w B s) (hr : Rs G w R r) (hd : ∀ k, F k → ¬ G k) (hl : ∀ k, F k ∨ G k → k < w.heap.size) : Two F G w B R w s r F G :=
  ⟨fun _ h => .inl h, fun _ h => .inl h, hd, hl, hs, hr, Turned.refl _ _⟩

theorem Two.up {F G F' G' : Nat → Prop} {w wr w2 : World} {B R : Nat} {s r : List Tm.T} (h : Two F G w B R wr s r F' G') (hu : Up wr w2) : Two F G w B R w2 s r F' G' :=
  ⟨h.f, h.g, h.apart, fun k hk => Nat.lt_of_lt_of_le (h.lt k hk) hu.size, h.st.up hu, h.rs.up hu, h.t.trans (upTurned (F := fun k => F k ∨ G k) hu) (fun _ _ h => h)⟩

theorem Two.put1 {F G F' G' : Nat → Prop} {w wr w2 : World} {B R : Nat} {s s' r : List Tm.T} (h : Two F G w B R wr s r F' G') (hs : St (fun j => F' j ∨ wr.heap.size ≤ j) w2 B s') (ht : Turned F' wr w2) :
    Two F G w B R w2 s' r (fun k => (F' k ∨ wr.heap.size ≤ k) ∧ k < w2.heap.size) G' := by
  refine ⟨fun k hk => ?_, h.g, fun k hk hg => ?_, fun k hk => ?_, hs.bound, h.rs.turned ht (fun k _ hg hf => h.apart k hf hg), h.t.trans ht (fun k hk hf => ?_)⟩
  · rcases hk.1 with hk | hk
    · exact h.f k hk
    · exact .inr (Nat.le_trans h.t.size hk)
  · have := h.lt k (.inr hg)
    rcases hk.1 with hk | hk
    · exact h.apart k hk hg
    · omega
  · rcases hk with hk | hk
    · exact hk.2
    · exact Nat.lt_of_lt_of_le (h.lt k (.inr hk)) ht.size
  · rcases h.f k hf with e | e
    · exact .inl e
    · omega

theorem Two.put2 {F G F' G' : Nat → Prop} {w wr w2 : World} {B R : Nat} {s r r' : List Tm.T} (h : Two F G w B R wr s r F' G') (hs : Rs (fun j => G' j ∨ wr.heap.size ≤ j) w2 R r') (ht : Turned G' wr w2) :
    Two F G w B R w2 s r' F' (fun k => (G' k ∨ wr.heap.size ≤ k) ∧ k < w2.heap.size) := by
  refine ⟨h.f, fun k hk => ?_, fun k hf hk => ?_, fun k hk => ?_, h.st.turned ht (fun k _ hf hg => h.apart k hf hg), hs.bound, h.t.trans ht (fun k hk hg => ?_)⟩
  · rcases hk.1 with hk | hk
    · exact h.g k hk
    · exact .inr (Nat.le_trans h.t.size hk)
  · have := h.lt k (.inl hf)
    rcases hk.1 with hk | hk
    · exact h.apart k hf hk
    · omega
  · rcases hk with hk | hk
    · exact Nat.lt_of_lt_of_le (h.lt k (.inl hk)) ht.size
    · exact hk.2
  · rcases h.g k hg with e | e
    · exact .inr e
    · omega

/-- .. where something else is written over. -/
theorem Two.other {F G F' G' S : Nat → Prop} {w wr w2 : World} {B R : Nat} {s r : List Tm.T} (h : Two F G w B R wr s r F' G') (ht : Turned S wr w2) (hS : ∀ k, S k → w.heap.size ≤ k ∧ ¬ F' k ∧ ¬ G' k) : Two F G w B R w2 s r F' G' :=
  ⟨h.f, h.g, h.apart, fun k hk => Nat.lt_of_lt_of_le (h.lt k hk) ht.size, h.st.turned ht (fun k _ hf hs => (hS k hs).2.1 hf), h.rs.turned ht (fun k _ hg hs => (hS k hs).2.2 hg), h.t.trans ht (fun k hk hs => by have := (hS k hs).1; omega)⟩

/-- Terms in cells, their lists at the values vs. -/
def TermsIn (w : World) (g off : Nat) (l : List Tm.T) (vs : Nat → Value × Value) : Prop := ∀ i, i < l.length →
  (w.cell? ⟨g, off + i * 6, none⟩ = some (.int .i64 (l.getD i Tm.nilT).kind) ∧ w.cell? ⟨g, off + i * 6 + 1, none⟩ = some (.int .i64 (l.getD i Tm.nilT).label) ∧ w.cell? ⟨g, off + i * 6 + 2, none⟩ = some (.int .i64 (l.getD i Tm.nilT).a) ∧
    w.cell? ⟨g, off + i * 6 + 3, none⟩ = some (.int .i64 (l.getD i Tm.nilT).b) ∧ w.cell? ⟨g, off + i * 6 + 4, none⟩ = some (vs i).1 ∧ w.cell? ⟨g, off + i * 6 + 5, none⟩ = some (vs i).2) ∧
  TRead w (l.getD i Tm.nilT) (vs i).1 (vs i).2

theorem TermsIn.of {w : World} {g off : Nat} {l : List Tm.T} (h : TermsAt w g off l) : ∃ vs, TermsIn w g off l vs := by
  classical
  refine ⟨fun i => if hi : i < l.length then ((h i hi).choose, (h i hi).choose_spec.choose) else (default, default), fun i hi => ?_⟩
  have hs := (h i hi).choose_spec.choose_spec
  simp only [dif_pos hi]
  exact ⟨hs.1, hs.2.1⟩

theorem TermsIn.up {w w1 : World} {g off : Nat} {l : List Tm.T} {vs : Nat → Value × Value} (h : TermsIn w g off l vs) (hu : Up w w1) : TermsIn w1 g off l vs := fun i hi => by
  obtain ⟨⟨c0, c1, c2, c3, c4, c5⟩, hr⟩ := h i hi
  exact ⟨⟨hu.cell c0, hu.cell c1, hu.cell c2, hu.cell c3, hu.cell c4, hu.cell c5⟩, hr.up hu⟩

/-- What the caller of put keeps, whatever the stores' blocks become. -/
structure Kept (w : World) (g off : Nat) (l : List Tm.T) (vs : Nat → Value × Value) (a1 a2 a3 : Addr) : Prop where
  terms : TermsIn w g off l vs
  tab : Tab w
  sts : Sts w a1 a2 a3

theorem Kept.up {w w1 : World} {g off : Nat} {l : List Tm.T} {vs : Nat → Value × Value} {a1 a2 a3 : Addr} (h : Kept w g off l vs a1 a2 a3) (hu : Up w w1) : Kept w1 g off l vs a1 a2 a3 := ⟨h.terms.up hu, h.tab.up hu, h.sts.up hu⟩

/-- Cells that may be written over, and the world they were written over in. -/
structure Over (w : World) (g n : Nat) (wr : World) : Prop where
  t : Turned (fun k => k = g) w wr
  c : ∀ j, j < n → ∃ x, wr.cell? ⟨g, j, none⟩ = some x
  f : ∀ j, wr.frozen? ⟨g, j, none⟩ = false

theorem Over.start {w : World} {g n cap : Nat} {e : TypeId} {xs : List Value} (h : Row w g e cap xs) (hx : n ≤ xs.length) : Over w g n w :=
  ⟨Turned.refl _ _, fun j hj => ⟨xs[j]'(by omega), h.cell (List.getElem?_eq_getElem (by omega))⟩, fun j => h.free j⟩

theorem Over.set {w wr : World} {g n : Nat} (h : Over w g n wr) (j : Nat) (u : Value) : Over w g n (wr.setCell ⟨g, j, none⟩ u) := by
  refine ⟨h.t.setCell (.inl rfl) _, fun i hi => ?_, fun i => by rw [World.frozen?_setCell]; exact h.f i⟩
  obtain ⟨x, hx⟩ := h.c i hi
  by_cases e : i = j
  · subst e
    exact ⟨u, World.cell?_setCell_same _ _ _ hx⟩
  · exact ⟨x, by rw [World.cell?_setCell_other _ _ _ _ (by simp [Addr.mk.injEq] <;> omega)]; exact hx⟩

theorem Over.drewN {w wr : World} {g n : Nat} (h : Over w g n wr) (q : Nat) : Over w g n (wr.drewN q) := ⟨h.t.drewN q, h.c, h.f⟩

end Go.Proofs.YtiiieailimphnaaDoor
