/- A region that draws its order, every operation quiet in a class of worlds. No function of the program is named. -/
import Derived.Test.YtpmdjicaefmbnaaGreatDoorLst
import Derived.Deep.Quiet
namespace Go.Proofs.YtpmdjicaefmbnaaGreatDoor
open Go.RowKit
set_option linter.unusedVariables false
set_option linter.unusedSimpArgs false

/-- The lexical walk of a quiet region, shut: so that no tactic lays it open ahead of its time. -/
structure WQ (P : Program) (ops : Array Oper) (C : World → Prop) (Q : Act → Prop) (l : List Oper) (a : Act) : Prop where
  out : wpQuiet P ops C Q l a

/-- A region that draws its order, every operation quiet in a class of worlds. -/
theorem wp_region_quiet_in {P : Program} {id : Nat} {Q : Exit → Act → World → Prop} {a : Act} {w : World} {l : List Oper} (C : World → Prop) (hm : P.follows .mixedOrders = true) (hB : Region.lexB .any l.toArray = true) (hC : C w.drew)
    (h : WQ P l.toArray C (fun a' => ∀ w', C w' → Q .normal a' w') l a) : (Code.region id l.toArray true).wp P Q a w :=
  wp_region_quiet (C := C) hm hB hC (by simpa using h.out)

section
variable {P : Program} {ops : Array Oper} {C : World → Prop} {Q : Act → Prop} {a : Act} {o : Oper} {rest : List Oper}

theorem WQ.nil (h : Q a) : WQ P ops C Q [] a := ⟨h⟩

theorem WQ.step (h : ∀ K : Act → Prop, (∀ a, WQ P ops C Q rest a → K a) → if Region.wanted o (yielded ops a.tmps) then o.quiet P a C K else K (a.put o.dst undef)) : WQ P ops C Q (o :: rest) a :=
  ⟨wpQuiet_step (fun K hK => h K (fun a h => hK a h.out))⟩

theorem WQ.skip (h : Region.wanted o (yielded ops a.tmps) = false) (hr : WQ P ops C Q rest (a.put o.dst undef)) : WQ P ops C Q (o :: rest) a := by
  refine ⟨?_⟩
  unfold wpQuiet; rw [if_neg (by rw [h]; simp)]; exact hr.out
end

end Go.Proofs.YtpmdjicaefmbnaaGreatDoor
