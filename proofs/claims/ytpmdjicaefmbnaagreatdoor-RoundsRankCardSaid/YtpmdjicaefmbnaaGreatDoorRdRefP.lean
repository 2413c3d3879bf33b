/- The document's rounds are the rounds: a signature as rising numbers tells what a signature tells; the rounds end where no class is new. No function of the program is named. -/
import Derived.Test.YtpmdjicaefmbnaaGreatDoorRdLaws
import Derived.Test.YtpmdjicaefmbnaaGreatDoorTmKey
namespace Go.Proofs.YtpmdjicaefmbnaaGreatDoor.Rd
open Go.Proofs.YtpmdjicaefmbnaaGreatDoor.Sy
set_option linter.unusedVariables false
set_option linter.unusedSimpArgs false

def ltI (a b : Int) : Bool := decide (a < b)

theorem totI : Tot ltI where
  irrefl a := by simp [ltI]
  trans a b c h1 h2 := by simp [ltI] at *; omega
  total a b := by simp [ltI]; omega

/-- A step's number by some classes. -/
def num (c : List Nat) (x : Int × Int) : Int := x.1 * 1001 + ((c.getD x.2.toNat 0 : Nat) : Int)

/-- The signature as rising numbers. -/
def refSig (c : List Nat) (l : List (Int × Int)) : List Int := norm ltI (l.map (num c))

/-- The classes of a round are small. -/
def Small (c : List Nat) : Prop := ∀ i, c.getD i 0 ≤ 1000

theorem num_inj {c : List Nat} (hc : Small c) {x y : Int × Int} (h : num c x = num c y) : x.1 = y.1 ∧ c.getD x.2.toNat 0 = c.getD y.2.toNat 0 := by
  have h1 := hc x.2.toNat
  have h2 := hc y.2.toNat
  unfold num at h
  omega

theorem refSig_iff {c : List Nat} (hc : Small c) (a b : List (Int × Int)) : refSig c a = refSig c b ↔
    norm lt2 (a.map fun x => (x.1, ((c.getD x.2.toNat 0 : Nat) : Int))) = norm lt2 (b.map fun x => (x.1, ((c.getD x.2.toNat 0 : Nat) : Int))) := by
  unfold refSig
  rw [norm_eq_iff totI, norm_eq_iff tot2]
  have key : ∀ (l : List (Int × Int)) (x : Int × Int), num c x ∈ l.map (num c) ↔ (x.1, ((c.getD x.2.toNat 0 : Nat) : Int)) ∈ l.map fun x => (x.1, ((c.getD x.2.toNat 0 : Nat) : Int)) := by
    intro l x
    simp only [List.mem_map]
    constructor
    · rintro ⟨y, hy, e⟩
      obtain ⟨e1, e2⟩ := num_inj hc e
      exact ⟨y, hy, by rw [e1, e2]⟩
    · rintro ⟨y, hy, e⟩
      simp only [Prod.mk.injEq] at e
      exact ⟨y, hy, by unfold num; rw [e.1, e.2]⟩
  constructor
  · intro h z
    constructor
    · intro hz
      obtain ⟨x, hx, rfl⟩ := List.mem_map.1 hz
      exact (key b x).1 ((h _).1 (List.mem_map_of_mem hx))
    · intro hz
      obtain ⟨x, hx, rfl⟩ := List.mem_map.1 hz
      exact (key a x).1 ((h _).2 (List.mem_map_of_mem hx))
  · intro h z
    constructor
    · intro hz
      obtain ⟨x, hx, rfl⟩ := List.mem_map.1 hz
      exact (key b x).2 ((h _).1 (List.mem_map.2 ⟨x, hx, rfl⟩))
    · intro hz
      obtain ⟨x, hx, rfl⟩ := List.mem_map.1 hz
      exact (key a x).2 ((h _).2 (List.mem_map.2 ⟨x, hx, rfl⟩))

def refSigs (s : Lts) (c : List Nat) : List (Nat × List Int) := (List.range c.length).map fun p => (c.getD p 0, refSig c (steps s p))

theorem refNext_eq (s : Lts) (c : List Nat) (hc : Small c) : canon (refSigs s c) = next s c := by
  unfold next
  refine canon_congr _ _ (by simp [refSigs, sigs]) (fun i j hi hj => ?_)
  simp only [refSigs, sigs, sig, List.getElem_map, List.getElem_range, Prod.mk.injEq, refSig_iff hc]

theorem next_small (s : Lts) (c : List Nat) (h : c.length ≤ 1000) : Small (next s c) := by
  intro i
  by_cases hi : i < (next s c).length
  · have hl : (next s c).length = c.length := next_len s c
    have := canon_lt (sigs s c) i (by rw [sigs_len]; omega)
    have h2 := seen_len (sigs s c)
    rw [sigs_len] at h2
    show (canon (sigs s c)).getD i 0 ≤ 1000
    omega
  · simp [List.getD, List.getElem?_eq_none (Nat.le_of_not_lt hi)]

theorem R_lt (s : Lts) (k p : Nat) (h : p < s.n.toNat) : (R s k).getD p 0 < s.n.toNat := by
  cases k with
  | zero => rw [R_zero]; omega
  | succ k =>
    have hl : (R s k).length = s.n.toNat := R_len s k
    have := canon_lt (sigs s (R s k)) p (by rw [sigs_len]; omega)
    have h2 := seen_len (sigs s (R s k))
    rw [sigs_len] at h2
    show (canon (sigs s (R s k))).getD p 0 < _
    omega

theorem R_small (s : Lts) (k : Nat) (h : s.n.toNat ≤ 1000) : Small (R s k) := by
  intro i
  by_cases hi : i < s.n.toNat
  · have := R_lt s k i hi; omega
  · simp [List.getD, List.getElem?_eq_none (show (R s k).length ≤ i by rw [R_len]; omega)]

/-- No new class is no new round. -/
theorem next_same (s : Lts) (k : Nat) : cls (R s (k + 1)) = cls (R s k) ↔ R s (k + 1) = R s k := by
  constructor
  · intro h
    by_cases e : R s (k + 1) = R s k
    · exact e
    · have := R_more s k e; omega
  · intro h; rw [h]

/-! ### The signature as a text -/

open Go.Proofs.YtpmdjicaefmbnaaGreatDoor.Tm in
/-- A state's signature as the program's map keeps it: its class, and each label and class in decimal numerals, a blank behind each. -/
def text (l : List (Int × Int)) : List UInt8 := enc (flat l)

theorem text_inj {l m : List (Int × Int)} (h : text l = text m) : l = m := Tm.flat_inj (Tm.enc_inj h)

end Go.Proofs.YtpmdjicaefmbnaaGreatDoor.Rd
