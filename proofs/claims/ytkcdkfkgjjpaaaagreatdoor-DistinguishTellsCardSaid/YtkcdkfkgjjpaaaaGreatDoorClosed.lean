/- The closed facts of a row, taken apart: each is then a lemma of its own, and the kernel gives its memory back behind it. No function of the program is named. -/
import Derived.Test.YtkcdkfkgjjpaaaaGreatDoorChecked
import Derived.JoinedOf
namespace Go.Proofs.YtkcdkfkgjjpaaaaGreatDoor
open Go.ChangeShapes Go.WideShapes
set_option linter.unusedVariables false

def part1 (P : Program) (s : ChangeSpec) (c : OpenClaim) : Bool := c.wf (OpenSpec.ofChange s) && laidOutB P
def part3 (P : Program) (fn : Func) (s : ChangeSpec) (c : OpenClaim) : Bool := fn.params.all (P.readableRec ·) && namedTie P c.named s.vars && (c.stops == []) && (P.stops == []) && (c.knobs == []) && (P.stopKnobs == [])
def part4 (P : Program) (fn : Func) (s : ChangeSpec) (c : OpenClaim) : Bool := (c.maps == (fn.params.toList ++ s.plain.varTypes P).any (P.mapsRec ·)) && (c.ifaces == (fn.params.toList ++ s.plain.varTypes P).any (P.ifacesRec ·)) && (c.mapsOut == P.mapsAmong fn.resultTypes.toList) &&
      (c.loops == (fn.params.toList ++ s.plain.varTypes P).any (P.loopsFrom ·)) && (c.wideKeys == (fn.params.toList ++ s.plain.varTypes P ++ fn.resultTypes.toList).any (P.wideKeysFrom ·)) &&
      s.vars.all (P.varReadable ·) && fn.resultTypes.all (fun t => P.readableRec t && decide (t < P.types.size)) && (c.ifacesOut == fn.resultTypes.toList.any (P.ifacesRec ·)) && (c.loopsOut == fn.resultTypes.toList.any (P.loopsFrom ·))
def part5 (P : Program) (c : OpenClaim) : Bool := (c.plainKeys == P.plainKeys) && c.shortTexts.isNone && P.stopsHeard
def part7 (P : Program) (fn : Func) (s : ChangeSpec) (c : OpenClaim) : Bool := (c.lifted == P.liftsFinal) && (P.make == some c.make) && (c.kinds == (if c.domain.isEmpty then [] else fn.params.toList.map fun t => match P.underlying t with | some (.int k) => some k | _ => none)) && (c.pinned == c.pinnedBy) &&
      (c.veiled == (fn.params.toList ++ s.plain.varTypes P ++ fn.resultTypes.toList).any (P.veiledRec ·)) && c.veiledFits P fn.params.toList (fn.params.toList ++ s.plain.varTypes P ++ fn.resultTypes.toList)

theorem joined_of {P : Program} {f : FuncId} {fn : Func} {s : ChangeSpec} {c : OpenClaim} (h1 : part1 P s c = true) (h2 : mapsRowed P = true) (h3 : part3 P fn s c = true)
    (b1 : (c.inPlace == P.inPlace f) = true) (b2 : (c.unfollowed == P.unfollowed f) = true) (b3 : (c.recurses == P.recurses f) = true) (b4 : (c.named == P.varsNamed f) = true)
    (h4 : part4 P fn s c = true) (h5 : part5 P c = true) (h6 : P.mayEnter = true) (h7 : part7 P fn s c = true) : joinedFacts P f fn s c = true := by
  unfold part1 at h1
  unfold part3 at h3
  unfold part4 at h4
  unfold part5 at h5
  unfold part7 at h7
  rw [Bool.and_eq_true] at h1
  obtain ⟨a1, a2⟩ := h1
  simp only [Bool.and_eq_true] at h3 h4 h5 h7
  obtain ⟨⟨⟨⟨⟨a3, a4⟩, a5⟩, a6⟩, a7⟩, a8⟩ := h3
  obtain ⟨⟨⟨⟨⟨⟨⟨⟨c1, c2⟩, c3⟩, c4⟩, c5⟩, c6⟩, c7⟩, c8⟩, c9⟩ := h4
  obtain ⟨⟨d1, d2⟩, d3⟩ := h5
  obtain ⟨⟨⟨⟨⟨e1, e2⟩, e3⟩, e4⟩, e5⟩, e6⟩ := h7
  unfold joinedFacts
  simp only [Bool.and_eq_true]
  exact ⟨⟨⟨⟨⟨⟨⟨⟨⟨⟨⟨⟨⟨⟨⟨⟨⟨⟨⟨⟨⟨⟨⟨⟨⟨⟨⟨⟨⟨⟨⟨a1, a2⟩, h2⟩, a3⟩, a4⟩, a5⟩, a6⟩, a7⟩, a8⟩, b1⟩, b2⟩, b3⟩, b4⟩, c1⟩, c2⟩, c3⟩, c4⟩, c5⟩, c6⟩, c7⟩, c8⟩, c9⟩, d1⟩, d2⟩, d3⟩, h6⟩, e1⟩, e2⟩, e3⟩, e4⟩, e5⟩, e6⟩

end Go.Proofs.YtkcdkfkgjjpaaaaGreatDoor
