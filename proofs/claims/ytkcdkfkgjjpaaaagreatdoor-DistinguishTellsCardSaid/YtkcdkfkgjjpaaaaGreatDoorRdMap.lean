/- The map of a round: signatures as keys, their numbers as elements. -/
import Derived.Test.YtkcdkfkgjjpaaaaGreatDoorRdRefM
import Derived.Test.YtkcdkfkgjjpaaaaGreatDoorMem
import Derived.Maps.OwnSet
import Derived.Maps.OwnOps
import Derived.WideKeyPair
import Derived.DeepKeys4
import Derived.ChangeBookTie2
namespace Go.Proofs.YtkcdkfkgjjpaaaaGreatDoor
open Go.RowKit Go.Maps Go.WideMaps
set_option linter.unusedVariables false
set_option linter.unusedSimpArgs false
set_option linter.unusedSectionVars false

/-! ### A map from elements of a list to their places -/

section
variable {β : Type} [DecidableEq β]

def pmap (kl : β → Lit) (s : List β) : DataW Unit := s.zipIdx.foldl (fun m p => m.put (kl p.1) (.lit (.int .i64 (p.2 : Nat)))) (.map [])

theorem pmap_snoc (kl : β → Lit) (s : List β) (c : β) : pmap kl (s ++ [c]) = (pmap kl s).put (kl c) (.lit (.int .i64 (s.length : Nat))) := by
  simp [pmap, List.zipIdx_append, List.foldl_append]

theorem pmap_tidy (kl : β → Lit) (hk : ∀ c, WideAt.IsKeyLit (kl c)) : ∀ s : List β, Tidy (pmap kl s) := by
  refine Sy.snoc_ind tidy_empty ?_
  intro s c ih
  rw [pmap_snoc]; exact ih.put (hk c) _

/-- Keys that tell their elements, of a list and one element more. -/
def KlInj (kl : β → Lit) (s : List β) (c : β) : Prop := ∀ a ∈ s, kl a = kl c → a = c

theorem pmap_has (kl : β → Lit) (hk : ∀ c, WideAt.IsKeyLit (kl c)) (s : List β) (c : β) (h : KlInj kl s c) : Maps.has (pmap kl s) (kl c) = decide (c ∈ s) := by
  revert s
  refine Sy.snoc_ind (fun _ => by simp [pmap, Maps.has]) ?_
  intro s d ih h
  rw [pmap_snoc]
  by_cases e : c = d
  · subst e; rw [has_put_same (pmap_tidy kl hk s).isMap (hk c)]; simp
  · rw [has_put_other (fun e' => e (h d (by simp) e'.symm).symm), ih (fun a ha => h a (by simp [ha]))]; simp [e]

theorem pmap_at (kl : β → Lit) (hk : ∀ c, WideAt.IsKeyLit (kl c)) (s : List β) (hs : s.Nodup) (c : β) (h : KlInj kl s c) (hc : c ∈ s) (z : DataW Unit) : (pmap kl s).atKey (kl c) z = .lit (.int .i64 (s.idxOf c : Nat)) := by
  revert s
  refine Sy.snoc_ind (fun _ _ h => by cases h) ?_
  intro s d ih hs h hc
  have hs' := List.nodup_append.1 hs
  rw [pmap_snoc]
  by_cases e : c = d
  · subst e
    have hn : c ∉ s := fun hm => hs'.2.2 c hm c (by simp) rfl
    rw [atKey_put_same (pmap_tidy kl hk s).isMap (hk c), List.idxOf_append, if_neg hn]
    simp
  · have hm : c ∈ s := by simpa [e] using hc
    rw [atKey_put_other (fun e' => e (h d (by simp) e'.symm).symm), ih hs'.1 (fun a ha => h a (by simp [ha])) hm, Rd.idx_prefix hm]

theorem pmap_place (kl : β → Lit) (hk : ∀ c, WideAt.IsKeyLit (kl c)) (s : List β) (hs : s.Nodup) (c : β) (h : KlInj kl s c) (hc : c ∈ s) (z : DataW Unit) : (pmap kl s).atKey (kl c) z = .lit (.int .i64 (Rd.place s c : Nat)) := pmap_at kl hk s hs c h hc z

theorem pmap_yes (kl : β → Lit) (hk : ∀ c, WideAt.IsKeyLit (kl c)) (s : List β) (c : β) (h : KlInj kl s c) (hc : c ∈ s) : Maps.has (pmap kl s) (kl c) = true := by rw [pmap_has kl hk s c h]; simp [hc]
theorem pmap_no (kl : β → Lit) (hk : ∀ c, WideAt.IsKeyLit (kl c)) (s : List β) (c : β) (h : KlInj kl s c) (hc : c ∉ s) : Maps.has (pmap kl s) (kl c) = false := by rw [pmap_has kl hk s c h]; simp [hc]

theorem pmap_size (kl : β → Lit) (hk : ∀ c, WideAt.IsKeyLit (kl c)) (s : List β) (hs : s.Nodup) (h : ∀ c ∈ s, KlInj kl s c) : Maps.size (pmap kl s) = s.length := by
  revert s
  refine Sy.snoc_ind (fun _ _ => rfl) ?_
  intro s d ih hs h
  have hs' := List.nodup_append.1 hs
  have hn : d ∉ s := fun hm => hs'.2.2 d hm d (by simp) rfl
  rw [pmap_snoc, size_put (pmap_tidy kl hk s), pmap_has kl hk s d (fun a ha => h d (by simp) a (by simp [ha])), ih hs'.1 (fun c hc a ha => h c (by simp [hc]) a (by simp [ha]))]
  simp [hn]
end

/-! ### Signatures as keys -/

abbrev Sig := Nat × List (Int × Int)

theorem laidOutR : laidOutB Tryz.prog = true := by kernel_rfl
theorem rowR : 281 < Tryz.prog.types.size := of_decide_eq_true (by kernel_rfl)
theorem lawR : KeyLaw Tryz.prog 281 := Go.deep_law_laid laidOutR (m := 2) (by omega) rowR (by kernel_rfl) (by rw [Tryz.underlying281])
theorem keyedR : Keyed Tryz.prog 281 := Keyed.of_law lawR

def sigKl (x : Sig) : Lit := .string (keyBytes [.int .i64 (x.1 : Nat), .string (Rd.text x.2)])
def sigV (x : Sig) : Value := .agg #[.int .i64 (x.1 : Nat), .string ⟨(Rd.text x.2).toArray⟩]

theorem keyOf_sig (x : Sig) (h1 : x.1 ≤ 1000) (h2 : (Rd.text x.2).length ≤ maxLen) : keyOf Tryz.prog 281 (sigV x) = some (sigKl x) := by
  unfold sigV sigKl
  have hw : (Lit.int .i64 (x.1 : Nat)).wf = true := WalkArith.wf_i64 (by omega)
  have hc2 : 2 = Tryz.prog.cellsOf 281 := by kernel_rfl
  have hkt : Tryz.prog.keyType 281 = true := by kernel_rfl
  obtain ⟨m, hm⟩ : ∃ m, Tryz.prog.types.size = m + 1 := ⟨Tryz.prog.types.size - 1, by have := rowR; omega⟩
  unfold keyOf
  simp only [Tryz.underlying281]
  rw [if_pos (by rw [hkt]; simp [Value.formed, Tryz.underlying281, Tryz.underlying3, Tryz.underlying9]; exact hc2), hm]
  unfold Program.keyLits
  simp only [Tryz.underlying281, Value.cells]
  rw [if_pos ⟨hc2.symm ▸ rfl, by kernel_rfl⟩, List.mapM_cons, List.mapM_cons, List.mapM_nil]
  have c3 : Tryz.prog.cellsOf 3 = 1 := by kernel_rfl
  have c9 : Tryz.prog.cellsOf 9 = 1 := by kernel_rfl
  have h3 : ({ data := (Rd.text x.2).toArray } : ByteArray).size ≤ maxLen := by simpa [ByteArray.size] using h2
  simp [c3, c9, Program.keyLits, Tryz.underlying3, Tryz.underlying9, hw, h3]

/-- A signature that may come up. -/
def SigOk (x : Sig) : Prop := x.1 ≤ 1000 ∧ (Rd.text x.2).length ≤ maxLen

theorem sigKl_inj {x y : Sig} (hx : SigOk x) (hy : SigOk y) (h : sigKl x = sigKl y) : x = y := by
  have h1 := keyOf_sig x hx.1 hx.2
  have h2 := keyOf_sig y hy.1 hy.2
  rw [h] at h1
  have h3 := lawR.inj h1 h2
  unfold sigV at h3
  simp only [Value.agg.injEq, Array.mk.injEq, List.cons.injEq, Value.int.injEq, Value.string.injEq, and_true, true_and] at h3
  have e2 : Rd.text x.2 = Rd.text y.2 := by
    have := h3.2
    simpa using this
  exact Prod.ext (by omega) (Rd.text_inj e2)

theorem sigKl_key (x : Sig) : WideAt.IsKeyLit (sigKl x) := trivial

end Go.Proofs.YtkcdkfkgjjpaaaaGreatDoor
