/- Terms among the arguments; the code of an error; Put with what it may turn. -/
import Derived.Test.YtiiieailimphnaaGreatDoorTmW14
import Derived.Test.YtiiieailimphnaaGreatDoorTmW12
import Derived.Test.YtiiieailimphnaaGreatDoorTmRun
import Derived.Test.YtiiieailimphnaaGreatDoorErrIs
import Derived.Test.YtiiieailimphnaaGreatDoorQuiet
namespace Go.Proofs.YtiiieailimphnaaGreatDoor
open Go.RowKit Go.Maps
set_option linter.unusedVariables false
set_option linter.unusedSimpArgs false

/-- Terms stand in cells from an address on, their lists where they say. -/
def TermsAt (w : World) (g off : Nat) (l : List Tm.T) : Prop := ∀ i, i < l.length → ∃ nv pv,
  (w.cell? ⟨g, off + i * 6, none⟩ = some (.int .i64 (l.getD i Tm.nilT).kind) ∧ w.cell? ⟨g, off + i * 6 + 1, none⟩ = some (.int .i64 (l.getD i Tm.nilT).label) ∧ w.cell? ⟨g, off + i * 6 + 2, none⟩ = some (.int .i64 (l.getD i Tm.nilT).a) ∧
    w.cell? ⟨g, off + i * 6 + 3, none⟩ = some (.int .i64 (l.getD i Tm.nilT).b) ∧ w.cell? ⟨g, off + i * 6 + 4, none⟩ = some nv ∧ w.cell? ⟨g, off + i * 6 + 5, none⟩ = some pv) ∧
  TRead w (l.getD i Tm.nilT) nv pv ∧ (l.getD i Tm.nilT).names.length ≤ 9223372036854775807 ∧ (l.getD i Tm.nilT).pairs.length ≤ 9223372036854775807

theorem TermsAt.up {w w1 : World} {g off : Nat} {l : List Tm.T} (h : TermsAt w g off l) (hu : Up w w1) : TermsAt w1 g off l := fun i hi => by
  obtain ⟨nv, pv, ⟨c0, c1, c2, c3, c4, c5⟩, hr, hn, hp⟩ := h i hi
  exact ⟨nv, pv, ⟨hu.cell c0, hu.cell c1, hu.cell c2, hu.cell c3, hu.cell c4, hu.cell c5⟩, hr.up hu, hn, hp⟩

/-- Put of a term that may be put: what it may turn is F, which holds whatever is new. -/
theorem put_F {F : Nat → Prop} {w : World} {B : Nat} {s : List Tm.T} {t : Tm.T} {nv pv : Value} (h : St F w B s) (hF : ∀ k, w.heap.size ≤ k → F k) (hr : TRead w t nv pv) (hm : t.may s.length = true) (hn : s.length ≤ 1000) (hT : Tab w) :
    Calls Tryz.prog 20 #[.pointer (some ⟨B, 0, none⟩), .agg #[.int .i64 t.kind, .int .i64 t.label, .int .i64 t.a, .int .i64 t.b, nv, pv]] w fun r w' =>
      ∃ k : Nat, (Tm.put s t).1 = some k ∧ r = .returned (.tuple #[.int .i64 (k : Nat), .nilIface]) ∧ St F w' B (Tm.put s t).2 ∧ Turned F w w' :=
  (put_term h hr hm hn hT).mono fun r w' ⟨k, hk, he, hs, ht⟩ => ⟨k, hk, he, hs.mono (fun j _ hj => hj.elim id (hF j)), ht⟩

/-- .. of one that may not. -/
theorem put_not {F : Nat → Prop} {w : World} {B : Nat} {s : List Tm.T} {t : Tm.T} {nv pv : Value} {xt : TypeId} {xv : Value} (h : St F w B s) (hr : TRead w t nv pv) (hn : t.names.length ≤ 9223372036854775807) (hp : t.pairs.length ≤ 9223372036854775807)
    (hm : t.may s.length = false) (hg : w.cell? ⟨0, 0, none⟩ = some (.iface xt xv)) :
    Calls Tryz.prog 20 #[.pointer (some ⟨B, 0, none⟩), .agg #[.int .i64 t.kind, .int .i64 t.label, .int .i64 t.a, .int .i64 t.b, nv, pv]] w fun r w' =>
      ∃ pb, r = .returned (.tuple #[.int .i64 0, .iface 120 (.pointer (some ⟨pb, 0, none⟩))]) ∧ FaultT w' pb xt xv ∧ Up w w' :=
  (put_bad h hr hn hp hm hg).mono fun r w' ⟨pb, he, hf, _, hu⟩ => ⟨pb, he, hf, hu⟩

/-- The code of a fault that wraps ErrArg. -/
theorem code_arg (pb : Nat) (b : Addr) (w : World) (h1 : w.cell? ⟨pb, 3, none⟩ = some (.iface 214 (.pointer (some b)))) (hg : w.cell? ⟨0, 0, none⟩ = some (.iface 214 (.pointer (some b)))) :
    Calls Tryz.prog 90 #[.iface 120 (.pointer (some ⟨pb, 0, none⟩))] w fun r w' => r = .returned (.int .i64 1) ∧ w = w' := by
  go_enter Tryz.func90, Tryz.ntmps90
  go_wp2_with (go_at_call 130; refine (is_fault_same pb b _ h1).mono ?_; rintro e w4 ⟨rfl, rfl⟩)
  go_ret
  exact ⟨rfl, rfl⟩

theorem FaultT.cell {w : World} {pb : Nat} {xt : TypeId} {xv : Value} (h : FaultT w pb xt xv) : w.cell? ⟨pb, 3, none⟩ = some (.iface xt xv) := by
  unfold FaultT at h
  simp [World.cell?, h]

def Done (w : World) (r : Ending) (w' : World) : Prop := r = .returned (.bool true) ∧ Up w w'

end Go.Proofs.YtiiieailimphnaaGreatDoor
