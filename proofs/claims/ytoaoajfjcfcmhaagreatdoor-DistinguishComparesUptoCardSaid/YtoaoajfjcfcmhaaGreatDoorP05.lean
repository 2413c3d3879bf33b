/- Walks: what the book does with the kinds of lists of which it keeps none; the book, asked whether its lists lie apart: l. The book of lists of integers and of nodes, as a whole: Ints, Nodes, Apart; what they leave as it was. errors.Is at a *api.Fault that wraps an error of errors.New's make, by its contracts; and at nil. -/
import Derived.Test.YtoaoajfjcfcmhaaGreatDoorP02
import Derived.Test.YtoaoajfjcfcmhaaGreatDoorP03
import Derived.Test.YtoaoajfjcfcmhaaGreatDoorP04
import Derived.Test.YtoaoajfjcfcmhaaGreatDoorChecked
import Derived.WalkKit
import Derived.LaidEql
import Derived.Stop.Asserts
import Derived.RowKitTokens
import Derived.Test.YtoaoajfjcfcmhaaGreatDoorP01
set_option linter.unusedVariables false
set_option linter.unusedSimpArgs false
set_option maxHeartbeats 16000000
set_option maxRecDepth 100000
open Go.Proofs.Tryz
namespace Go.Proofs.YtoaoajfjcfcmhaaGreatDoor
open Go.RowKit
theorem zhb {w : World} {bk : Nat} (h : w.cell? ⟨bk, 2, none⟩ = some (.slice none 0 0)) :
  Calls prog 25 #[.pointer (some ⟨bk, 0, none⟩)] w fun r w' => r = .returned (.bool true) /\ w = w' := by
 go_enter func25, ntmps25
 go_wp2_with fail
 refine wp_loop_rounds 1 ?_
 rw [rounds_succ]
 go_wp2_with fail
 go_ret
 exact ⟨rfl, rfl⟩
theorem zlj {w : World} {bk : Nat} (h : w.cell? ⟨bk, 2, none⟩ = some (.slice none 0 0)) :
  Calls prog 36 #[.pointer (some ⟨bk, 0, none⟩)] w fun r w' => r = .returned (.tuple #[]) /\ w = w' := by
 go_enter func36, ntmps36
 go_wp2_with fail
 refine wp_loop_rounds 1 ?_
 rw [rounds_succ]
 go_wp2_with fail
 go_end0
 exact ⟨rfl, rfl⟩
theorem ziq {w : World} {bk : Nat} (h : w.cell? ⟨bk, 2, none⟩ = some (.slice none 0 0)) :
  Calls prog 47 #[.pointer (some ⟨bk, 0, none⟩)] w fun r w' => r = .returned (.slice none 0 0) /\ w = w' := by
 go_enter func47, ntmps47
 go_wp2_with fail
 refine wp_loop_rounds 1 ?_
 rw [rounds_succ]
 go_wp2_with fail
 go_ret
 exact ⟨rfl, rfl⟩
theorem zgp (w : World) :
  Calls prog 58 #[.slice none 0 0] w fun r w' => r = .returned (.bool true) /\ w = w' := by
 go_enter func58, ntmps58
 go_wp2_with fail
 refine wp_loop_rounds 1 ?_
 rw [rounds_succ]
 go_wp2_with fail
 go_ret
 exact ⟨rfl, rfl⟩
theorem ziv {w : World} {bk : Nat} (h : w.cell? ⟨bk, 4, none⟩ = some (.slice none 0 0)) :
  Calls prog 26 #[.pointer (some ⟨bk, 0, none⟩)] w fun r w' => r = .returned (.bool true) /\ w = w' := by
 go_enter func26, ntmps26
 go_wp2_with fail
 refine wp_loop_rounds 1 ?_
 rw [rounds_succ]
 go_wp2_with fail
 go_ret
 exact ⟨rfl, rfl⟩
theorem zns {w : World} {bk : Nat} (h : w.cell? ⟨bk, 4, none⟩ = some (.slice none 0 0)) :
  Calls prog 37 #[.pointer (some ⟨bk, 0, none⟩)] w fun r w' => r = .returned (.tuple #[]) /\ w = w' := by
 go_enter func37, ntmps37
 go_wp2_with fail
 refine wp_loop_rounds 1 ?_
 rw [rounds_succ]
 go_wp2_with fail
 go_end0
 exact ⟨rfl, rfl⟩
theorem zlm {w : World} {bk : Nat} (h : w.cell? ⟨bk, 4, none⟩ = some (.slice none 0 0)) :
  Calls prog 48 #[.pointer (some ⟨bk, 0, none⟩)] w fun r w' => r = .returned (.slice none 0 0) /\ w = w' := by
 go_enter func48, ntmps48
 go_wp2_with fail
 refine wp_loop_rounds 1 ?_
 rw [rounds_succ]
 go_wp2_with fail
 go_ret
 exact ⟨rfl, rfl⟩
theorem zie (w : World) :
  Calls prog 59 #[.slice none 0 0] w fun r w' => r = .returned (.bool true) /\ w = w' := by
 go_enter func59, ntmps59
 go_wp2_with fail
 refine wp_loop_rounds 1 ?_
 rw [rounds_succ]
 go_wp2_with fail
 go_ret
 exact ⟨rfl, rfl⟩
theorem zio {w : World} {bk : Nat} (h : w.cell? ⟨bk, 6, none⟩ = some (.slice none 0 0)) :
  Calls prog 27 #[.pointer (some ⟨bk, 0, none⟩)] w fun r w' => r = .returned (.bool true) /\ w = w' := by
 go_enter func27, ntmps27
 go_wp2_with fail
 refine wp_loop_rounds 1 ?_
 rw [rounds_succ]
 go_wp2_with fail
 go_ret
 exact ⟨rfl, rfl⟩
theorem zme {w : World} {bk : Nat} (h : w.cell? ⟨bk, 6, none⟩ = some (.slice none 0 0)) :
  Calls prog 38 #[.pointer (some ⟨bk, 0, none⟩)] w fun r w' => r = .returned (.tuple #[]) /\ w = w' := by
 go_enter func38, ntmps38
 go_wp2_with fail
 refine wp_loop_rounds 1 ?_
 rw [rounds_succ]
 go_wp2_with fail
 go_end0
 exact ⟨rfl, rfl⟩
theorem zl1 {w : World} {bk : Nat} (h : w.cell? ⟨bk, 6, none⟩ = some (.slice none 0 0)) :
  Calls prog 49 #[.pointer (some ⟨bk, 0, none⟩)] w fun r w' => r = .returned (.slice none 0 0) /\ w = w' := by
 go_enter func49, ntmps49
 go_wp2_with fail
 refine wp_loop_rounds 1 ?_
 rw [rounds_succ]
 go_wp2_with fail
 go_ret
 exact ⟨rfl, rfl⟩
theorem zii (w : World) :
  Calls prog 60 #[.slice none 0 0] w fun r w' => r = .returned (.bool true) /\ w = w' := by
 go_enter func60, ntmps60
 go_wp2_with fail
 refine wp_loop_rounds 1 ?_
 rw [rounds_succ]
 go_wp2_with fail
 go_ret
 exact ⟨rfl, rfl⟩
theorem ziy {w : World} {bk : Nat} (h : w.cell? ⟨bk, 8, none⟩ = some (.slice none 0 0)) :
  Calls prog 28 #[.pointer (some ⟨bk, 0, none⟩)] w fun r w' => r = .returned (.bool true) /\ w = w' := by
 go_enter func28, ntmps28
 go_wp2_with fail
 refine wp_loop_rounds 1 ?_
 rw [rounds_succ]
 go_wp2_with fail
 go_ret
 exact ⟨rfl, rfl⟩
theorem znf {w : World} {bk : Nat} (h : w.cell? ⟨bk, 8, none⟩ = some (.slice none 0 0)) :
  Calls prog 39 #[.pointer (some ⟨bk, 0, none⟩)] w fun r w' => r = .returned (.tuple #[]) /\ w = w' := by
 go_enter func39, ntmps39
 go_wp2_with fail
 refine wp_loop_rounds 1 ?_
 rw [rounds_succ]
 go_wp2_with fail
 go_end0
 exact ⟨rfl, rfl⟩
theorem zkc {w : World} {bk : Nat} (h : w.cell? ⟨bk, 8, none⟩ = some (.slice none 0 0)) :
  Calls prog 50 #[.pointer (some ⟨bk, 0, none⟩)] w fun r w' => r = .returned (.slice none 0 0) /\ w = w' := by
 go_enter func50, ntmps50
 go_wp2_with fail
 refine wp_loop_rounds 1 ?_
 rw [rounds_succ]
 go_wp2_with fail
 go_ret
 exact ⟨rfl, rfl⟩
theorem zid (w : World) :
  Calls prog 61 #[.slice none 0 0] w fun r w' => r = .returned (.bool true) /\ w = w' := by
 go_enter func61, ntmps61
 go_wp2_with fail
 refine wp_loop_rounds 1 ?_
 rw [rounds_succ]
 go_wp2_with fail
 go_ret
 exact ⟨rfl, rfl⟩
theorem ziu {w : World} {bk : Nat} (h : w.cell? ⟨bk, 10, none⟩ = some (.slice none 0 0)) :
  Calls prog 29 #[.pointer (some ⟨bk, 0, none⟩)] w fun r w' => r = .returned (.bool true) /\ w = w' := by
 go_enter func29, ntmps29
 go_wp2_with fail
 refine wp_loop_rounds 1 ?_
 rw [rounds_succ]
 go_wp2_with fail
 go_ret
 exact ⟨rfl, rfl⟩
theorem zmd {w : World} {bk : Nat} (h : w.cell? ⟨bk, 10, none⟩ = some (.slice none 0 0)) :
  Calls prog 40 #[.pointer (some ⟨bk, 0, none⟩)] w fun r w' => r = .returned (.tuple #[]) /\ w = w' := by
 go_enter func40, ntmps40
 go_wp2_with fail
 refine wp_loop_rounds 1 ?_
 rw [rounds_succ]
 go_wp2_with fail
 go_end0
 exact ⟨rfl, rfl⟩
theorem zkk {w : World} {bk : Nat} (h : w.cell? ⟨bk, 10, none⟩ = some (.slice none 0 0)) :
  Calls prog 51 #[.pointer (some ⟨bk, 0, none⟩)] w fun r w' => r = .returned (.slice none 0 0) /\ w = w' := by
 go_enter func51, ntmps51
 go_wp2_with fail
 refine wp_loop_rounds 1 ?_
 rw [rounds_succ]
 go_wp2_with fail
 go_ret
 exact ⟨rfl, rfl⟩
theorem zin (w : World) :
  Calls prog 62 #[.slice none 0 0] w fun r w' => r = .returned (.bool true) /\ w = w' := by
 go_enter func62, ntmps62
 go_wp2_with fail
 refine wp_loop_rounds 1 ?_
 rw [rounds_succ]
 go_wp2_with fail
 go_ret
 exact ⟨rfl, rfl⟩
theorem ziw {w : World} {bk : Nat} (h : w.cell? ⟨bk, 14, none⟩ = some (.slice none 0 0)) :
  Calls prog 31 #[.pointer (some ⟨bk, 0, none⟩)] w fun r w' => r = .returned (.bool true) /\ w = w' := by
 go_enter func31, ntmps31
 go_wp2_with fail
 refine wp_loop_rounds 1 ?_
 rw [rounds_succ]
 go_wp2_with fail
 go_ret
 exact ⟨rfl, rfl⟩
theorem znu {w : World} {bk : Nat} (h : w.cell? ⟨bk, 14, none⟩ = some (.slice none 0 0)) :
  Calls prog 42 #[.pointer (some ⟨bk, 0, none⟩)] w fun r w' => r = .returned (.tuple #[]) /\ w = w' := by
 go_enter func42, ntmps42
 go_wp2_with fail
 refine wp_loop_rounds 1 ?_
 rw [rounds_succ]
 go_wp2_with fail
 go_end0
 exact ⟨rfl, rfl⟩
theorem zks {w : World} {bk : Nat} (h : w.cell? ⟨bk, 14, none⟩ = some (.slice none 0 0)) :
  Calls prog 53 #[.pointer (some ⟨bk, 0, none⟩)] w fun r w' => r = .returned (.slice none 0 0) /\ w = w' := by
 go_enter func53, ntmps53
 go_wp2_with fail
 refine wp_loop_rounds 1 ?_
 rw [rounds_succ]
 go_wp2_with fail
 go_ret
 exact ⟨rfl, rfl⟩
theorem zi1 (w : World) :
  Calls prog 64 #[.slice none 0 0] w fun r w' => r = .returned (.bool true) /\ w = w' := by
 go_enter func64, ntmps64
 go_wp2_with fail
 refine wp_loop_rounds 1 ?_
 rw [rounds_succ]
 go_wp2_with fail
 go_ret
 exact ⟨rfl, rfl⟩
theorem zlq {w : World} {bk : Nat} (h : w.cell? ⟨bk, 16, none⟩ = some (.slice none 0 0)) :
  Calls prog 32 #[.pointer (some ⟨bk, 0, none⟩)] w fun r w' => r = .returned (.bool true) /\ w = w' := by
 go_enter func32, ntmps32
 go_wp2_with fail
 refine wp_loop_rounds 1 ?_
 rw [rounds_succ]
 go_wp2_with fail
 go_ret
 exact ⟨rfl, rfl⟩
theorem zp3 {w : World} {bk : Nat} (h : w.cell? ⟨bk, 16, none⟩ = some (.slice none 0 0)) :
  Calls prog 43 #[.pointer (some ⟨bk, 0, none⟩)] w fun r w' => r = .returned (.tuple #[]) /\ w = w' := by
 go_enter func43, ntmps43
 go_wp2_with fail
 refine wp_loop_rounds 1 ?_
 rw [rounds_succ]
 go_wp2_with fail
 go_end0
 exact ⟨rfl, rfl⟩
theorem zma {w : World} {bk : Nat} (h : w.cell? ⟨bk, 16, none⟩ = some (.slice none 0 0)) :
  Calls prog 54 #[.pointer (some ⟨bk, 0, none⟩)] w fun r w' => r = .returned (.slice none 0 0) /\ w = w' := by
 go_enter func54, ntmps54
 go_wp2_with fail
 refine wp_loop_rounds 1 ?_
 rw [rounds_succ]
 go_wp2_with fail
 go_ret
 exact ⟨rfl, rfl⟩
theorem zj0 (w : World) :
  Calls prog 65 #[.slice none 0 0] w fun r w' => r = .returned (.bool true) /\ w = w' := by
 go_enter func65, ntmps65
 go_wp2_with fail
 refine wp_loop_rounds 1 ?_
 rw [rounds_succ]
 go_wp2_with fail
 go_ret
 exact ⟨rfl, rfl⟩
theorem zit {w : World} {bk : Nat} (h : w.cell? ⟨bk, 18, none⟩ = some (.slice none 0 0)) :
  Calls prog 33 #[.pointer (some ⟨bk, 0, none⟩)] w fun r w' => r = .returned (.bool true) /\ w = w' := by
 go_enter func33, ntmps33
 go_wp2_with fail
 refine wp_loop_rounds 1 ?_
 rw [rounds_succ]
 go_wp2_with fail
 go_ret
 exact ⟨rfl, rfl⟩
theorem zn2 {w : World} {bk : Nat} (h : w.cell? ⟨bk, 18, none⟩ = some (.slice none 0 0)) :
  Calls prog 44 #[.pointer (some ⟨bk, 0, none⟩)] w fun r w' => r = .returned (.tuple #[]) /\ w = w' := by
 go_enter func44, ntmps44
 go_wp2_with fail
 refine wp_loop_rounds 1 ?_
 rw [rounds_succ]
 go_wp2_with fail
 go_end0
 exact ⟨rfl, rfl⟩
theorem zla {w : World} {bk : Nat} (h : w.cell? ⟨bk, 18, none⟩ = some (.slice none 0 0)) :
  Calls prog 55 #[.pointer (some ⟨bk, 0, none⟩)] w fun r w' => r = .returned (.slice none 0 0) /\ w = w' := by
 go_enter func55, ntmps55
 go_wp2_with fail
 refine wp_loop_rounds 1 ?_
 rw [rounds_succ]
 go_wp2_with fail
 go_ret
 exact ⟨rfl, rfl⟩
theorem zic (w : World) :
  Calls prog 66 #[.slice none 0 0] w fun r w' => r = .returned (.bool true) /\ w = w' := by
 go_enter func66, ntmps66
 go_wp2_with fail
 refine wp_loop_rounds 1 ?_
 rw [rounds_succ]
 go_wp2_with fail
 go_ret
 exact ⟨rfl, rfl⟩
theorem zix {w : World} {bk : Nat} (h : w.cell? ⟨bk, 20, none⟩ = some (.slice none 0 0)) :
  Calls prog 34 #[.pointer (some ⟨bk, 0, none⟩)] w fun r w' => r = .returned (.bool true) /\ w = w' := by
 go_enter func34, ntmps34
 go_wp2_with fail
 refine wp_loop_rounds 1 ?_
 rw [rounds_succ]
 go_wp2_with fail
 go_ret
 exact ⟨rfl, rfl⟩
theorem znn {w : World} {bk : Nat} (h : w.cell? ⟨bk, 20, none⟩ = some (.slice none 0 0)) :
  Calls prog 45 #[.pointer (some ⟨bk, 0, none⟩)] w fun r w' => r = .returned (.tuple #[]) /\ w = w' := by
 go_enter func45, ntmps45
 go_wp2_with fail
 refine wp_loop_rounds 1 ?_
 rw [rounds_succ]
 go_wp2_with fail
 go_end0
 exact ⟨rfl, rfl⟩
theorem zfa {w : World} {bk : Nat} (h : w.cell? ⟨bk, 20, none⟩ = some (.slice none 0 0)) :
  Calls prog 56 #[.pointer (some ⟨bk, 0, none⟩)] w fun r w' => r = .returned (.slice none 0 0) /\ w = w' := by
 go_enter func56, ntmps56
 go_wp2_with fail
 refine wp_loop_rounds 1 ?_
 rw [rounds_succ]
 go_wp2_with fail
 go_ret
 exact ⟨rfl, rfl⟩
theorem zif (w : World) :
  Calls prog 67 #[.slice none 0 0] w fun r w' => r = .returned (.bool true) /\ w = w' := by
 go_enter func67, ntmps67
 go_wp2_with fail
 refine wp_loop_rounds 1 ?_
 rw [rounds_succ]
 go_wp2_with fail
 go_ret
 exact ⟨rfl, rfl⟩
end Go.Proofs.YtoaoajfjcfcmhaaGreatDoor
namespace Go.Proofs.YtoaoajfjcfcmhaaGreatDoor.BN
open Go.RowKit
def zHm (es : List Ent) (i : Nat) : List Int := (es.map (·.xs)).getD i []
def zDv (es : List Ent) : List Value := es.map (·.v)
def zGy (es : List Ent) : List Value := es.map (·.u)
theorem zDx {es : List Ent} {i : Nat} (h : i < es.length) : nth (zDv es) i = es[i].v /\ nth (zGy es) i = es[i].u /\ zHm es i = es[i].xs := by
 simp [nth, zDv, zGy, zHm, List.getD, h]
theorem zC6.els {w : World} {bk : Nat} {vi vw vp vq : Value} {es : List Ent} (h : zC6 w bk vi vw vp vq es) : Els w (zDv es) (zHm es) /\ Els w (zGy es) (zHm es) := by
 refine ⟨fun i hi => ?_, fun i hi => ?_⟩
 ·have hi' : i < es.length := by simpa [zDv] using hi
  obtain ⟨e1, e2, e3⟩ := zDx hi'
  rw [e1, e3]; exact (h.ent _ (List.getElem_mem hi')).1
 ·have hi' : i < es.length := by simpa [zGy] using hi
  obtain ⟨e1, e2, e3⟩ := zDx hi'
  rw [e2, e3]; exact (h.ent _ (List.getElem_mem hi')).2
theorem zC6.apt {w : World} {bk : Nat} {vi vw vp vq : Value} {es : List Ent} (h : zC6 w bk vi vw vp vq es) : Apt (zDv es) := by
 have ac : List.Pairwise (fun e1 e2 : Ent => ∀ x ∈ blk e1.v ++ blk e1.u, ∀ y ∈ blk e2.v ++ blk e2.u, x ≠ y) es := (List.pairwise_flatMap.1 h.nd).2
 have hp := List.pairwise_iff_getElem.1 ac
 have key : ∀ i j g, (hi : i < es.length) -> (hj : j < es.length) -> i < j -> es[i].v.ownBlock = some g -> es[j].v.ownBlock ≠ some g := by
  intro i j g hi hj ad h1 h2
  exact hp i j hi hj ad g (List.mem_append_left _ (zay.2 h1)) g (List.mem_append_left _ (zay.2 h2)) rfl
 intro i j g hi hj ae h1 h2
 have hi' : i < es.length := by simpa [zDv] using hi
 have aa : j < es.length := by simpa [zDv] using hj
 rw [(zDx hi').1] at h1
 rw [(zDx aa).1] at h2
 rcases Nat.lt_or_gt_of_ne ae with ab | ab
 ·exact key i j g hi' aa ab h1 h2
 ·exact key j i g aa hi' ab h2 h1
theorem zC6.inV {w : World} {bk : Nat} {vi vw vp vq : Value} {es : List Ent} (h : zC6 w bk vi vw vp vq es) {k : Nat} (hk : InV (zDv es) k) : zE0 bk vi vw es k := by
 obtain ⟨i, hi, hg⟩ := hk
 have hi' : i < es.length := by simpa [zDv] using hi
 rw [(zDx hi').1] at hg
 exact .inr (.inr (.inr (zb3.2 ⟨_, List.getElem_mem hi', .inl hg⟩)))
end Go.Proofs.YtoaoajfjcfcmhaaGreatDoor.BN
namespace Go.Proofs.YtoaoajfjcfcmhaaGreatDoor.Nd2
open Go.RowKit
def zHm (es : List Ent) (i : Nat) : List (Int × Int) := (es.map (·.xs)).getD i []
def zDv (es : List Ent) : List Value := es.map (·.v)
def zGy (es : List Ent) : List Value := es.map (·.u)
theorem zDx {es : List Ent} {i : Nat} (h : i < es.length) : nth (zDv es) i = es[i].v /\ nth (zGy es) i = es[i].u /\ zHm es i = es[i].xs := by
 simp [nth, zDv, zGy, zHm, List.getD, h]
theorem zC6.els {w : World} {bk : Nat} {vi vw vp vq : Value} {es : List Ent} (h : zC6 w bk vi vw vp vq es) : Els w (zDv es) (zHm es) /\ Els w (zGy es) (zHm es) := by
 refine ⟨fun i hi => ?_, fun i hi => ?_⟩
 ·have hi' : i < es.length := by simpa [zDv] using hi
  obtain ⟨e1, e2, e3⟩ := zDx hi'
  rw [e1, e3]; exact (h.ent _ (List.getElem_mem hi')).1
 ·have hi' : i < es.length := by simpa [zGy] using hi
  obtain ⟨e1, e2, e3⟩ := zDx hi'
  rw [e2, e3]; exact (h.ent _ (List.getElem_mem hi')).2
theorem zC6.apt {w : World} {bk : Nat} {vi vw vp vq : Value} {es : List Ent} (h : zC6 w bk vi vw vp vq es) : Apt (zDv es) := by
 have ac : List.Pairwise (fun e1 e2 : Ent => ∀ x ∈ blk e1.v ++ blk e1.u, ∀ y ∈ blk e2.v ++ blk e2.u, x ≠ y) es := (List.pairwise_flatMap.1 h.nd).2
 have hp := List.pairwise_iff_getElem.1 ac
 have key : ∀ i j g, (hi : i < es.length) -> (hj : j < es.length) -> i < j -> es[i].v.ownBlock = some g -> es[j].v.ownBlock ≠ some g := by
  intro i j g hi hj ad h1 h2
  exact hp i j hi hj ad g (List.mem_append_left _ (zay.2 h1)) g (List.mem_append_left _ (zay.2 h2)) rfl
 intro i j g hi hj ae h1 h2
 have hi' : i < es.length := by simpa [zDv] using hi
 have aa : j < es.length := by simpa [zDv] using hj
 rw [(zDx hi').1] at h1
 rw [(zDx aa).1] at h2
 rcases Nat.lt_or_gt_of_ne ae with ab | ab
 ·exact key i j g hi' aa ab h1 h2
 ·exact key j i g aa hi' ab h2 h1
theorem zC6.inV {w : World} {bk : Nat} {vi vw vp vq : Value} {es : List Ent} (h : zC6 w bk vi vw vp vq es) {k : Nat} (hk : InV (zDv es) k) : zE0 bk vi vw es k := by
 obtain ⟨i, hi, hg⟩ := hk
 have hi' : i < es.length := by simpa [zDv] using hi
 rw [(zDx hi').1] at hg
 exact .inr (.inr (.inr (zb3.2 ⟨_, List.getElem_mem hi', .inl hg⟩)))
end Go.Proofs.YtoaoajfjcfcmhaaGreatDoor.Nd2
namespace Go.Proofs.YtoaoajfjcfcmhaaGreatDoor
open Go.RowKit
theorem zty {F : Nat -> Prop} {w w' : World} (h : Up w w') : Turned F w w' := ⟨h.os, h.tape, h.output, h.size, fun k hk _ => h.block k hk⟩
theorem zJ1 {w : World} {bk : Nat} {a b c d : Value} (h : w.heap[bk]? = some (.cells #[a, b, .slice none 0 0, .slice none 0 0, .slice none 0 0, .slice none 0 0, .slice none 0 0, .slice none 0 0, .slice none 0 0, .slice none 0 0, .slice none 0 0, .slice none 0 0, c, d, .slice none 0 0, .slice none 0 0, .slice none 0 0, .slice none 0 0, .slice none 0 0, .slice none 0 0, .slice none 0 0, .slice none 0 0] 48 (0, 0))) : w.cell? ⟨bk, 2, none⟩ = some (.slice none 0 0) /\ w.cell? ⟨bk, 4, none⟩ = some (.slice none 0 0) /\ w.cell? ⟨bk, 6, none⟩ = some (.slice none 0 0) /\ w.cell? ⟨bk, 8, none⟩ = some (.slice none 0 0) /\ w.cell? ⟨bk, 10, none⟩ = some (.slice none 0 0) /\ w.cell? ⟨bk, 14, none⟩ = some (.slice none 0 0) /\ w.cell? ⟨bk, 16, none⟩ = some (.slice none 0 0) /\ w.cell? ⟨bk, 18, none⟩ = some (.slice none 0 0) /\ w.cell? ⟨bk, 20, none⟩ = some (.slice none 0 0) := by
 refine ⟨?_, ?_, ?_, ?_, ?_, ?_, ?_, ?_, ?_⟩ <;> simp [World.cell?, h]
theorem zs7 {w : World} {bk : Nat} {vi vw vp vq : Value} {es : List BN.Ent} {qs : List Nd2.Ent} (h : BN.zC6 w bk vi vw vp vq es) (hp : Nd2.zC6 w bk vp vq vi vw qs) (hl : es.length <= 400) (a5 : qs.length <= 400) :
  Calls prog 13 #[.pointer (some ⟨bk, 0, none⟩)] w fun r w' => r = .returned (.bool true) /\ Turned (fun k => InV (BN.zDv es) k \/ InV (Nd2.zDv qs) k) w w' := by
 have an : (BN.zDv es).length = es.length := by simp [BN.zDv]
 have br : (BN.zGy es).length = es.length := by simp [BN.zGy]
 have pvl : (Nd2.zDv qs).length = qs.length := by simp [Nd2.zDv]
 have pul : (Nd2.zGy qs).length = qs.length := by simp [Nd2.zGy]
 have aC : ∀ i, i < (BN.zDv es).length -> (BN.zHm es i).length <= 900000 := fun i hi => by
  rw [an] at hi
  rw [(BN.zDx hi).2.2]; exact h.sz _ (List.getElem_mem hi)
 have psz : ∀ i, i < (Nd2.zDv qs).length -> (Nd2.zHm qs i).length <= 900000 := fun i hi => by
  rw [pvl] at hi
  rw [(Nd2.zDx hi).2.2]; exact hp.sz _ (List.getElem_mem hi)
 have aD : w.ownsRow 0 27 1 vi (BN.zDv es).length (BN.zDv es) := by rw [an]; exact h.ri
 have bt : w.ownsRow 0 27 1 vw (BN.zDv es).length (BN.zGy es) := by rw [an]; exact h.rw
 have pri : w.ownsRow 0 28 1 vp (Nd2.zDv qs).length (Nd2.zDv qs) := by rw [pvl]; exact hp.ri
 have prw : w.ownsRow 0 28 1 vq (Nd2.zDv qs).length (Nd2.zGy qs) := by rw [pvl]; exact hp.rw
 have aa := h.box
 have a0 : w.cell? ⟨bk, 0, none⟩ = some vi := by simp [World.cell?, aa]
 have a1 : w.cell? ⟨bk, 1, none⟩ = some vw := by simp [World.cell?, aa]
 have a14 : w.cell? ⟨bk, 12, none⟩ = some vp := by simp [World.cell?, aa]
 have a15 : w.cell? ⟨bk, 13, none⟩ = some vq := by simp [World.cell?, aa]
 have aE := h.els.1
 have pel := hp.els.1
 have HS := zh (zkn a0 a1 aD bt (by rw [br, an]) h.els.1 h.els.2 (by rw [an]; exact hl) (fun i hi => by have := aC i hi; omega))
 have bu : Hid (∀ W, Up w W -> Calls prog 30 #[.pointer (some ⟨bk, 0, none⟩)] W fun r w' => r = .returned (.bool true) /\ Up W w') := zh (fun W hW =>
  Nd2.zFk (hW.cell a14) (hW.cell a15) (hW.owns pri) (hW.owns prw) (by rw [pul, pvl]) (hp.els.1.up hW) (hp.els.2.up hW) (by rw [pvl]; exact a5) (fun i hi => by have := psz i hi; omega))
 have a6 := zh h.apt
 have PAP := zh hp.apt
 have aF : Hid ((BN.zDv es).length <= 400) := zh (by rw [an]; exact hl)
 have PVL : Hid ((Nd2.zDv qs).length <= 400) := zh (by rw [pvl]; exact a5)
 have a7 : ¬ InV (BN.zDv es) bk := aE.zG5 aa (by decide)
 have pnb : ¬ InV (Nd2.zDv qs) bk := pel.zG5 aa (by decide)
 obtain ⟨vs, a8⟩ := nm (BN.zDv es)
 obtain ⟨C, hC⟩ := nm (BN.zHm es)
 obtain ⟨us, a9⟩ := nm (Nd2.zDv qs)
 obtain ⟨D, hD⟩ := nm (Nd2.zHm qs)
 rw [<- a8] at a6 aE aC aD aF a7
 rw [<- hC] at aE aC
 rw [<- a9] at PAP pel psz pri PVL pnb
 rw [<- hD] at pel psz
 have bv := zh (⟨a8, a9⟩ : vs = BN.zDv es /\ us = Nd2.zDv qs)
 obtain ⟨io, ic, rfl⟩ := za1 aD
 obtain ⟨po, pc, rfl⟩ := za1 pri
 have bw := zh aE
 have PEL := zh pel
 have aS := zh aC
 have PSZ := zh psz
 have bx := zh aD
 have PRI := zh pri
 have aT := zh aa
 have bz := zh a7
 have PNB := zh pnb
 clear h hp an br pvl pul aC psz aD bt pri prw aa a0 a1 a14 a15 a8 hC a9 hD hl a5 aE pel a7 pnb
 go_enter func13, ntmps13
 go_upto_region 3 with (go_at_call 24; refine HS.out.mono ?_; rintro r w1 ⟨rfl, ba⟩)
 have bb := zh ba
 have bA := (ba.block bk (za0 aT.out)).trans aT.out
 obtain ⟨c2, c4, c6, c8, c10, -, -, -, -⟩ := zJ1 bA
 clear bA ba HS
 go_upto_region 13 with (first
  | (go_at_call 25; refine (zhb (by assumption)).mono ?_; rintro r y ⟨rfl, rfl⟩)
  | (go_at_call 26; refine (ziv (by assumption)).mono ?_; rintro r y ⟨rfl, rfl⟩)
  | (go_at_call 27; refine (zio (by assumption)).mono ?_; rintro r y ⟨rfl, rfl⟩)
  | (go_at_call 28; refine (ziy (by assumption)).mono ?_; rintro r y ⟨rfl, rfl⟩)
  | (go_at_call 29; refine (ziu (by assumption)).mono ?_; rintro r y ⟨rfl, rfl⟩))
 clear c2 c4 c6 c8 c10
 go_upto_region 15 with (go_at_call 30; refine (bu.out _ bb.out).mono ?_; rintro r w2 ⟨rfl, bB⟩)
 have aq := bb.out.trans bB
 have aG := (aq.block bk (za0 aT.out)).trans aT.out
 obtain ⟨-, -, -, -, -, c14, c16, c18, c20⟩ := zJ1 aG
 have p0 : w2.cell? ⟨bk, 0, none⟩ = some (.slice io vs.length ic) := by simp [World.cell?, aG]
 have au := aq.owns bx.out
 have av := bw.out.up aq
 have HP := zh (zou ⟨p0, au⟩ av a6.out aG aF.out (fun i hi => by have := aS.out i hi; omega))
 have ad := zh au
 have ae := zh av
 have PRI2 := zh (aq.owns PRI.out)
 have PEL2 := zh (PEL.out.up aq)
 have bc := zh aG
 have bC := zh aq
 clear aG p0 bB aq au av bu bb bx bw PRI PEL
 go_upto_region 23 with (first
  | (go_at_call 31; refine (ziw (by assumption)).mono ?_; rintro r y ⟨rfl, rfl⟩)
  | (go_at_call 32; refine (zlq (by assumption)).mono ?_; rintro r y ⟨rfl, rfl⟩)
  | (go_at_call 33; refine (zit (by assumption)).mono ?_; rintro r y ⟨rfl, rfl⟩)
  | (go_at_call 34; refine (zix (by assumption)).mono ?_; rintro r y ⟨rfl, rfl⟩))
 clear c14 c16 c18 c20
 go_upto_region 24 with (go_at_call 35; refine HP.out.mono ?_; rintro r w3 ⟨rfl, aw⟩)
 have aH := (aw.tur.block bk (za0 bc.out) bz.out).trans bc.out
 obtain ⟨d2, d4, d6, d8, d10, -, -, -, -⟩ := zJ1 aH
 have p14 : w3.cell? ⟨bk, 12, none⟩ = some (.slice po us.length pc) := by simp [World.cell?, aH]
 have aI : w3.ownsRow 0 27 1 (.slice io vs.length ic) vs.length vs := za2 ad.out (fun g hg => aw.tur.block g (za3 ad.out hg) (ae.out.ne ad.out (by decide) hg))
 have aJ : Els w3 vs (fun j => marks j 0 (C j).length) := by
  intro j hj
  have := aw.el j hj
  rw [show zEe C vs.length j = marks j 0 (C j).length by simp [zEe, hj]] at this
  exact this
 have pri3 : w3.ownsRow 0 28 1 (.slice po us.length pc) us.length us := za2 PRI2.out (fun g hg => aw.tur.block g (za3 PRI2.out hg) (ae.out.ne PRI2.out (by decide) hg))
 have pel3 : Nd2.Els w3 us D := fun i hi => za2 (PEL2.out i hi) (fun g hg => aw.tur.block g (za3 (PEL2.out i hi) hg) (ae.out.ne (PEL2.out i hi) (by decide) hg))
 have PP := zh (Nd2.zGb ⟨p14, pri3⟩ pel3 PAP.out aH PVL.out (fun i hi => by have := PSZ.out i hi; omega))
 have bD : Hid (Turned (fun k => InV vs k \/ InV us k) w w3) := zh ((zty bC.out).trans aw.tur (fun _ _ h => .inl h))
 have af := zh aI
 have ag := zh aJ
 have PRI3 := zh pri3
 have PEL3 := zh pel3
 have bd := zh aH
 clear aH p14 aI aJ pri3 pel3 aw HP ad ae PRI2 PEL2 bc bC
 go_upto_region 29 with (first
  | (go_at_call 36; refine (zlj (by assumption)).mono ?_; rintro r y ⟨rfl, rfl⟩)
  | (go_at_call 37; refine (zns (by assumption)).mono ?_; rintro r y ⟨rfl, rfl⟩)
  | (go_at_call 38; refine (zme (by assumption)).mono ?_; rintro r y ⟨rfl, rfl⟩)
  | (go_at_call 39; refine (znf (by assumption)).mono ?_; rintro r y ⟨rfl, rfl⟩)
  | (go_at_call 40; refine (zmd (by assumption)).mono ?_; rintro r y ⟨rfl, rfl⟩))
 clear d2 d4 d6 d8 d10
 go_upto_region 30 with (go_at_call 41; refine PP.out.mono ?_; rintro r w4 ⟨rfl, ax⟩)
 have aK := (ax.tur.block bk (za0 bd.out) PNB.out).trans bd.out
 obtain ⟨-, -, -, -, -, d14, d16, d18, d20⟩ := zJ1 aK
 have p0 : w4.cell? ⟨bk, 0, none⟩ = some (.slice io vs.length ic) := by simp [World.cell?, aK]
 have ay : w4.ownsRow 0 27 1 (.slice io vs.length ic) vs.length vs := za2 af.out (fun g hg => ax.tur.block g (za3 af.out hg) (PEL3.out.ne af.out (by decide) hg))
 have aA : Els w4 vs (fun j => marks j 0 (C j).length) := fun i hi => za2 (ag.out i hi) (fun g hg => ax.tur.block g (za3 (ag.out i hi) hg) (PEL3.out.ne (ag.out i hi) (by decide) hg))
 have pri4 : w4.ownsRow 0 28 1 (.slice po us.length pc) us.length us := za2 PRI3.out (fun g hg => ax.tur.block g (za3 PRI3.out hg) (PEL3.out.ne PRI3.out (by decide) hg))
 have pel4 : Nd2.Els w4 us (fun j => Nd2.marks j 0 (D j).length) := by
  intro j hj
  have := ax.el j hj
  rw [show Nd2.zEe D us.length j = Nd2.marks j 0 (D j).length by simp [Nd2.zEe, hj]] at this
  exact this
 have HG := zh (zna (L := fun j => (C j).length) ⟨p0, ay⟩ aA a6.out aK aF.out aS.out)
 have bE : Hid (Turned (fun k => InV vs k \/ InV us k) w w4) := zh (bD.out.trans ax.tur (fun _ _ h => .inr h))
 have ah := zh ay
 have ai := zh aA
 have PRI4 := zh pri4
 have PEL4 := zh pel4
 have be := zh aK
 clear aK p0 ay aA pri4 pel4 ax PP af ag PRI3 PEL3 bd bD
 go_upto_region 34 with (first
  | (go_at_call 42; refine (znu (by assumption)).mono ?_; rintro r y ⟨rfl, rfl⟩)
  | (go_at_call 43; refine (zp3 (by assumption)).mono ?_; rintro r y ⟨rfl, rfl⟩)
  | (go_at_call 44; refine (zn2 (by assumption)).mono ?_; rintro r y ⟨rfl, rfl⟩)
  | (go_at_call 45; refine (znn (by assumption)).mono ?_; rintro r y ⟨rfl, rfl⟩))
 clear d14 d16 d18 d20
 go_upto_region 35 with (go_at_call 46; refine HG.out.mono ?_; rintro r w5 ⟨vo, outs, rfl, bF, bf, am⟩)
 have aL := (am.tur.block bk (za0 be.out) bz.out).trans be.out
 obtain ⟨e2, e4, e6, e8, e10, -, -, -, -⟩ := zJ1 aL
 have p14 : w5.cell? ⟨bk, 12, none⟩ = some (.slice po us.length pc) := by simp [World.cell?, aL]
 have aM : w5.ownsRow 0 27 1 (.slice io vs.length ic) vs.length vs := za2 ah.out (fun g hg => am.tur.block g (za3 ah.out hg) (ai.out.ne ah.out (by decide) hg))
 have pri5 : w5.ownsRow 0 28 1 (.slice po us.length pc) us.length us := za2 PRI4.out (fun g hg => am.tur.block g (za3 PRI4.out hg) (ai.out.ne PRI4.out (by decide) hg))
 have pel5 : Nd2.Els w5 us (fun j => Nd2.marks j 0 (D j).length) := fun i hi => za2 (PEL4.out i hi) (fun g hg => am.tur.block g (za3 (PEL4.out i hi) hg) (ai.out.ne (PEL4.out i hi) (by decide) hg))
 have PG := zh (Nd2.zFz (L := fun j => (D j).length) ⟨p14, pri5⟩ pel5 PAP.out aL PVL.out PSZ.out)
 have bG : Hid (Turned (fun k => InV vs k \/ InV us k) w w5) := zh (bE.out.trans am.tur (fun _ _ h => .inl h))
 obtain ⟨oo, oc, rfl⟩ := za1 bf
 have aU := zh bf
 have aV := zh bF
 have aW := zh am.el
 have aX := zh am.oel
 have aj := zh aM
 have PRI5 := zh pri5
 have PEL5 := zh pel5
 have bh := zh aL
 clear aL p14 aM pri5 pel5 am bf bF HG ah ai PRI4 PEL4 be bE
 go_upto_region 40 with (first
  | (go_at_call 47; refine (ziq (by assumption)).mono ?_; rintro r y ⟨rfl, rfl⟩)
  | (go_at_call 48; refine (zlm (by assumption)).mono ?_; rintro r y ⟨rfl, rfl⟩)
  | (go_at_call 49; refine (zl1 (by assumption)).mono ?_; rintro r y ⟨rfl, rfl⟩)
  | (go_at_call 50; refine (zkc (by assumption)).mono ?_; rintro r y ⟨rfl, rfl⟩)
  | (go_at_call 51; refine (zkk (by assumption)).mono ?_; rintro r y ⟨rfl, rfl⟩))
 clear e2 e4 e6 e8 e10
 go_upto_region 41 with (go_at_call 52; refine PG.out.mono ?_; rintro r w6 ⟨vo2, outs2, rfl, ak, aB, ab⟩)
 have aY := (ab.tur.block bk (za0 bh.out) PNB.out).trans bh.out
 obtain ⟨-, -, -, -, -, e14, e16, e18, e20⟩ := zJ1 aY
 have aN : w6.ownsRow 0 27 1 (.slice io vs.length ic) vs.length vs := za2 aj.out (fun g hg => ab.tur.block g (za3 aj.out hg) (PEL5.out.ne aj.out (by decide) hg))
 have aO : Els w6 vs (fun j => marks j 0 (C j).length) := fun i hi => za2 (aW.out i hi) (fun g hg => ab.tur.block g (za3 (aW.out i hi) hg) (PEL5.out.ne (aW.out i hi) (by decide) hg))
 have aP : Els w6 outs (fun j => marks j 0 ((C j).length + 96)) := fun i hi => za2 (aX.out i hi) (fun g hg => ab.tur.block g (za3 (aX.out i hi) hg) (PEL5.out.ne (aX.out i hi) (by decide) hg))
 have aQ := za2 aU.out (fun g hg => ab.tur.block g (za3 aU.out hg) (PEL5.out.ne aU.out (by decide) hg))
 have pri6 : w6.ownsRow 0 28 1 (.slice po us.length pc) us.length us := za2 PRI5.out (fun g hg => ab.tur.block g (za3 PRI5.out hg) (PEL5.out.ne PRI5.out (by decide) hg))
 have bH := zh (zen (vs := outs) (L := fun j => (C j).length + 96) (by rw [aV.out]; exact aQ) aP (by rw [aV.out]; exact aF.out) (fun i hi => by have := aS.out i (by rw [<- aV.out]; exact hi); omega))
 have bI : Hid (∀ W, Up w6 W -> Calls prog 57 #[.slice io vs.length ic] W fun r w' => r = .returned (.bool true) /\ Up W w') := zh (fun W hu => zen (L := fun j => (C j).length) (hu.owns aN) (aO.up hu) aF.out (fun i hi => by have := aS.out i hi; omega))
 obtain ⟨ao, ac, rfl⟩ := za1 aB
 have bJ : Hid (∀ W, Up w6 W -> Calls prog 63 #[.slice ao us.length ac] W fun r w' => r = .returned (.bool true) /\ Up W w') := zh (fun W hu => Nd2.zEb (vs := outs2) (L := fun j => (D j).length + 96) (by rw [ak]; exact hu.owns aB) (ab.oel.up hu) (by rw [ak]; exact PVL.out) (fun i hi => by have := PSZ.out i (by rw [<- ak]; exact hi); omega))
 have bK : Hid (∀ W, Up w6 W -> Calls prog 63 #[.slice po us.length pc] W fun r w' => r = .returned (.bool true) /\ Up W w') := zh (fun W hu => Nd2.zEb (L := fun j => (D j).length) (hu.owns pri6) (ab.el.up hu) PVL.out (fun i hi => by have := PSZ.out i hi; omega))
 have bL : Hid (Turned (fun k => InV vs k \/ InV us k) w w6) := zh (bG.out.trans ab.tur (fun _ _ h => .inr h))
 have aZ : Hid (∀ y, Up w6 y -> y.heap[bk]? = _) := zh (fun y hu => (hu.block bk (za0 aY)).trans aY)
 clear aY aN aO aP aQ pri6 aB ak ab PG aU aV aW aX aj PRI5 PEL5 bh bG
 go_upto_region 44 with (first
  | (go_at_call 53; refine (zks (by assumption)).mono ?_; rintro r y ⟨rfl, rfl⟩)
  | (go_at_call 54; refine (zma (by assumption)).mono ?_; rintro r y ⟨rfl, rfl⟩)
  | (go_at_call 55; refine (zla (by assumption)).mono ?_; rintro r y ⟨rfl, rfl⟩)
  | (go_at_call 56; refine (zfa (by assumption)).mono ?_; rintro r y ⟨rfl, rfl⟩))
 go_wp2_with (first
  | (go_at_call 56; refine (zfa (by assumption)).mono ?_; rintro r y ⟨rfl, rfl⟩)
  | (go_at_call 57; (with_reducible refine bH.out.mono ?_); rintro r w7 ⟨rfl, bi⟩; (have a2 := aZ.out w7 bi); (obtain ⟨f2, f4, f6, f8, f10, f14, f16, f18, f20⟩ := zJ1 a2); (have f0 : w7.cell? ⟨bk, 0, none⟩ = some (.slice io vs.length ic) := by simp [World.cell?, a2]); (have f12 : w7.cell? ⟨bk, 12, none⟩ = some (.slice po us.length pc) := by simp [World.cell?, a2]); clear a2)
  | (go_at_call 57; (with_reducible refine (bI.out _ bi).mono ?_); rintro r w8 ⟨rfl, bM⟩; (have bj := bi.trans bM); (have a3 := aZ.out w8 bj); (obtain ⟨g2, g4, g6, g8, g10, g14, g16, g18, g20⟩ := zJ1 a3); (have g0 : w8.cell? ⟨bk, 0, none⟩ = some (.slice io vs.length ic) := by simp [World.cell?, a3]); (have g12 : w8.cell? ⟨bk, 12, none⟩ = some (.slice po us.length pc) := by simp [World.cell?, a3]); clear a3)
  | (go_at_call 63; (with_reducible refine (bJ.out _ bj).mono ?_); rintro r w9 ⟨rfl, bN⟩; (have bo := bj.trans bN); (have a4 := aZ.out w9 bo); (obtain ⟨h2, h4, h6, h8, bO, bP, bQ, bR, bS⟩ := zJ1 a4); (have h0 : w9.cell? ⟨bk, 0, none⟩ = some (.slice io vs.length ic) := by simp [World.cell?, a4]); (have bT : w9.cell? ⟨bk, 12, none⟩ = some (.slice po us.length pc) := by simp [World.cell?, a4]); clear a4)
  | (go_at_call 63; (with_reducible refine (bK.out _ bo).mono ?_); rintro r bp ⟨rfl, bq⟩; (have aR := bo.trans bq); (have al := aZ.out bp aR); (obtain ⟨i2, i4, i6, i8, i10, i14, i16, i18, i20⟩ := zJ1 al); (have i0 : bp.cell? ⟨bk, 0, none⟩ = some (.slice io vs.length ic) := by simp [World.cell?, al]); (have i12 : bp.cell? ⟨bk, 12, none⟩ = some (.slice po us.length pc) := by simp [World.cell?, al]); clear al)
  | (go_at_call 58; refine (zgp _).mono ?_; rintro r y ⟨rfl, rfl⟩)
  | (go_at_call 59; refine (zie _).mono ?_; rintro r y ⟨rfl, rfl⟩)
  | (go_at_call 60; refine (zii _).mono ?_; rintro r y ⟨rfl, rfl⟩)
  | (go_at_call 61; refine (zid _).mono ?_; rintro r y ⟨rfl, rfl⟩)
  | (go_at_call 62; refine (zin _).mono ?_; rintro r y ⟨rfl, rfl⟩)
  | (go_at_call 64; refine (zi1 _).mono ?_; rintro r y ⟨rfl, rfl⟩)
  | (go_at_call 65; refine (zj0 _).mono ?_; rintro r y ⟨rfl, rfl⟩)
  | (go_at_call 66; refine (zic _).mono ?_; rintro r y ⟨rfl, rfl⟩)
  | (go_at_call 67; refine (zif _).mono ?_; rintro r y ⟨rfl, rfl⟩))
 go_ret
 exact ⟨rfl, by rw [<- bv.out.1, <- bv.out.2]; exact bL.out.upR aR⟩
theorem zi8 {w : World} {a b : Nat} {ca cb : Array Value} {ea eb : TypeId} {fa fb : Nat × Nat} (ha : w.heap[a]? = some (.cells ca ea fa)) (hb : w.heap[b]? = some (.cells cb eb fb)) (h : ea ≠ eb) : a ≠ b := by
 rintro rfl
 rw [ha] at hb
 simp only [Option.some.injEq, Obj.cells.injEq] at hb
 exact h hb.2.1
theorem BN.key {w w' : World} {bk : Nat} {vi vw vp vq : Value} {es : List BN.Ent} (hi : BN.zC6 w bk vi vw vp vq es) (ht : Turned (BN.zF7 bk vi vw) w w') {e : TypeId} {base size n : Nat} {v : Value} {xs : List Value} (h : w.ownsRow base e size v n xs) (h1 : e ≠ 27) (h2 : e ≠ 48) : w'.ownsRow base e size v n xs :=
 za2 h (fun g hg => ht.block g (za3 h hg) (fun e => by
  rcases e with rfl | e | e
  ·obtain ⟨cur, hc⟩ := za5 h hg
   have aa := hi.box
   rw [hc] at aa
   simp only [Option.some.injEq, Obj.cells.injEq] at aa
   exact h2 aa.2.1
  ·exact BN.zCk h hi.ri h1 hg e
  ·exact BN.zCk h hi.rw h1 hg e))
theorem Nd2.key {w w' : World} {bk : Nat} {vi vw vp vq : Value} {qs : List Nd2.Ent} (hi : Nd2.zC6 w bk vp vq vi vw qs) (ht : Turned (Nd2.zF7 bk vp vq) w w') {e : TypeId} {base size n : Nat} {v : Value} {xs : List Value} (h : w.ownsRow base e size v n xs) (h1 : e ≠ 28) (h2 : e ≠ 48) : w'.ownsRow base e size v n xs :=
 za2 h (fun g hg => ht.block g (za3 h hg) (fun e => by
  rcases e with rfl | e | e
  ·obtain ⟨cur, hc⟩ := za5 h hg
   have aa := hi.box
   rw [hc] at aa
   simp only [Option.some.injEq, Obj.cells.injEq] at aa
   exact h2 aa.2.1
  ·exact Nd2.zCk h hi.ri h1 hg e
  ·exact Nd2.zCk h hi.rw h1 hg e))
def Bk2 (lo bk a : Nat) (w : World) : Prop :=
 ∃ vi vw vp vq es qs, BN.zC6 w bk vi vw vp vq es /\ Nd2.zC6 w bk vp vq vi vw qs /\ es.length <= 400 /\ qs.length <= 400 /\
  (∀ j, BN.zE0 bk vi vw es j -> j = bk \/ lo <= j) /\ (∀ j, Nd2.zE0 bk vp vq qs j -> j = bk \/ lo <= j) /\ ∀ g, g ∈ Nd2.zC3 qs -> g < a
theorem Bk2.up {lo bk a : Nat} {w w' : World} (h : Bk2 lo bk a w) (hu : Up w w') : Bk2 lo bk a w' := by
 obtain ⟨vi, vw, vp, vq, es, qs, hi, hp, h1, h2, h3, h4, h5⟩ := h
 exact ⟨vi, vw, vp, vq, es, qs, hi.up hu, hp.up hu, h1, h2, h3, h4, h5⟩
theorem Bk2.ints {lo bk : Nat} {w0 w : World} {v : Value} {xs : List Int} (h : Bk2 lo bk w0.heap.size w0) (hu : Up w0 w) (ag : lo <= w0.heap.size) (hv : w.ownsRow w0.heap.size 3 1 v xs.length (xs.map (Value.int .i64))) (hx : xs.length <= 900000) :
  Calls prog 11 #[.pointer (some ⟨bk, 0, none⟩), v] w fun r w' => r = .returned (.tuple #[]) /\ Bk2 lo bk w0.heap.size w' /\ Turned (fun k => k = bk \/ lo <= k) w w' /\
   ∀ (g : Nat) (c : Array Value) (e : TypeId), w.heap[g]? = some (.cells c e (0, 0)) -> e ≠ 27 -> e ≠ 48 -> w'.heap[g]? = w.heap[g]? := by
 obtain ⟨vi, vw, vp, vq, es, qs, ac, hp, h1, h2, h3, h4, h5⟩ := h
 have hi := ac.up hu
 have ah := hu.size
 refine (BN.zJo hi h1 (za8 hv (Nat.zero_le _)) hx (fun g hg hm => by
  have := ac.zCn (.inr (.inr (.inr hm)))
  have := (hv.lt g hg).1
  omega)).mono ?_
 rintro r w' ⟨rfl, vi', vw', es', ad, ae, -, af, ht⟩
 refine ⟨rfl, ⟨vi', vw', vp, vq, es', qs, ad, ?_, ae, h2, fun j hj => ?_, h4, h5⟩, ht.mono (fun k _ hk => ?_), fun g c e hc h1 h2 => ht.block g (za0 hc) (fun hk => ?_)⟩
 ·have aa := hp.up hu
  exact ⟨ad.box, BN.key hi ht aa.ri (by decide) (by decide), BN.key hi ht aa.rw (by decide) (by decide), aa.ap, fun e he => ⟨BN.key hi ht (aa.ent e he).1 (by decide) (by decide), BN.key hi ht (aa.ent e he).2 (by decide) (by decide)⟩, aa.nd, aa.sz⟩
 ·rcases af j hj with e | e | e
  ·exact h3 j e
  ·have := (hv.lt j e).1
   right; omega
  ·right; omega
 ·rcases hk with e | e | e
  ·exact .inl e
  ·exact h3 k (.inr (.inl e))
  ·exact h3 k (.inr (.inr (.inl e)))
 ·rcases hk with rfl | hk | hk
  ·exact zi8 hc hi.box h2 rfl
  ·obtain ⟨c2, ab⟩ := za5 hi.ri hk
   exact zi8 hc ab h1 rfl
  ·obtain ⟨c2, ab⟩ := za5 hi.rw hk
   exact zi8 hc ab h1 rfl
theorem Bk2.nodes {lo bk a : Nat} {w : World} {v : Value} {xs : List (Int × Int)} (h : Bk2 lo bk a w) (ad : lo <= a) (ha : a <= w.heap.size) (hv : w.ownsRow a 81 2 v xs.length (za7 xs)) (hx : xs.length <= 900000) :
  Calls prog 12 #[.pointer (some ⟨bk, 0, none⟩), v] w fun r w' => r = .returned (.tuple #[]) /\ Bk2 lo bk w'.heap.size w' /\ Turned (fun k => k = bk \/ lo <= k) w w' := by
 obtain ⟨vi, vw, vp, vq, es, qs, hi, hp, h1, h2, h3, h4, h5⟩ := h
 refine (Nd2.zIo hp h2 (za8 hv (Nat.zero_le _)) hx (fun g hg hm => by
  have := h5 g hm
  have := (hv.lt g hg).1
  omega)).mono ?_
 rintro r w' ⟨rfl, vp', vq', qs', aa, ab, -, ac, ht⟩
 refine ⟨rfl, ⟨vi, vw, vp', vq', es, qs', ?_, aa, h1, ab, h3, fun j hj => ?_, fun g hg => aa.zCn (.inr (.inr (.inr hg)))⟩, ht.mono (fun k _ hk => ?_)⟩
 ·exact ⟨aa.box, Nd2.key hp ht hi.ri (by decide) (by decide), Nd2.key hp ht hi.rw (by decide) (by decide), hi.ap, fun e he => ⟨Nd2.key hp ht (hi.ent e he).1 (by decide) (by decide), Nd2.key hp ht (hi.ent e he).2 (by decide) (by decide)⟩, hi.nd, hi.sz⟩
 ·rcases ac j hj with e | e | e
  ·exact h4 j e
  ·have := (hv.lt j e).1
   right; omega
  ·right; omega
 ·rcases hk with e | e | e
  ·exact .inl e
  ·exact h4 k (.inr (.inl e))
  ·exact h4 k (.inr (.inr (.inl e)))
theorem Bk2.apart {lo bk a : Nat} {w : World} (h : Bk2 lo bk a w) :
  Calls prog 13 #[.pointer (some ⟨bk, 0, none⟩)] w fun r w' => r = .returned (.bool true) /\ Turned (fun k => k = bk \/ lo <= k) w w' := by
 obtain ⟨vi, vw, vp, vq, es, qs, hi, hp, h1, h2, h3, h4, h5⟩ := h
 refine (zs7 hi hp h1 h2).mono ?_
 rintro r w' ⟨rfl, ht⟩
 refine ⟨rfl, ht.mono (fun k _ hk => ?_)⟩
 rcases hk with hk | hk
 ·exact h3 k (BN.zC6.inV hi hk)
 ·exact h4 k (Nd2.zC6.inV hp hk)
theorem Bk2.start {w1 w : World} {bk : Nat} (aa : w1.heap.size = bk) (hu : Up (w1.alloc (.cells #[.slice none 0 0, .slice none 0 0, .slice none 0 0, .slice none 0 0, .slice none 0 0, .slice none 0 0, .slice none 0 0, .slice none 0 0, .slice none 0 0, .slice none 0 0, .slice none 0 0, .slice none 0 0, .slice none 0 0, .slice none 0 0, .slice none 0 0, .slice none 0 0, .slice none 0 0, .slice none 0 0, .slice none 0 0, .slice none 0 0, .slice none 0 0, .slice none 0 0] 48)) w) : Bk2 w.heap.size bk w.heap.size w := by
 have hb := (hu.block _ (za0 (heap_alloc_new w1 _))).trans (heap_alloc_new w1 _)
 rw [aa] at hb
 refine ⟨_, _, _, _, [], [], ⟨hb, World.ownsRow_nil _ _ _ _, World.ownsRow_nil _ _ _ _, fun g hg => by simp [Value.ownBlock] at hg, fun e he => by simp at he, by simp [BN.zC3], fun e he => by simp at he⟩,
  ⟨hb, World.ownsRow_nil _ _ _ _, World.ownsRow_nil _ _ _ _, fun g hg => by simp [Value.ownBlock] at hg, fun e he => by simp at he, by simp [Nd2.zC3], fun e he => by simp at he⟩, by simp, by simp, ?_, ?_, fun g hg => by simp [Nd2.zC3] at hg⟩
 ·rintro j (e | e | e | e)
  ·exact .inl e
  ·simp [Value.ownBlock] at e
  ·simp [Value.ownBlock] at e
  ·simp [BN.zC3] at e
 ·rintro j (e | e | e | e)
  ·exact .inl e
  ·simp [Value.ownBlock] at e
  ·simp [Value.ownBlock] at e
  ·simp [Nd2.zC3] at e
end Go.Proofs.YtoaoajfjcfcmhaaGreatDoor
namespace Go.Proofs.YtoaoajfjcfcmhaaGreatDoor
open Go.RowKit Go.Extern.Stop Go.Stop Go.Extern
theorem Tryz.zEg (v : Value) (w : World) : (Extern.ReflectliteType.typeOf #[.iface 335 v]).run prog w = .ok (.iface 207 (.agg #[.pointer (some ⟨23, 335, none⟩)])) w := by kernel_rfl
def Tryz.zGk : TypeId -> Sem Value := fun t => do Rtype.noPackHeld "Comparable" t; pure (.bool (<- typeInfo t).comparable)
theorem Tryz.zD7 (w : World) : ((Extern.ReflectliteType.method Tryz.zGk) #[.agg #[.pointer (some ⟨23, 335, none⟩)]]).run prog w = .ok (.bool true) w := by kernel_rfl
theorem Tryz.zCe (v : Value) (w : World) : (Go.method 467 207 v "Comparable").run prog w = .ok (282, v) w := by kernel_rfl
theorem Tryz.zFq : (prog.info? 335).map (·.comparable) = some true := by kernel_rfl
theorem Tryz.zFo : (prog.info? 355).map (·.size) = some 1 := by kernel_rfl
theorem Tryz.zHz (v : Value) (xT : TypeId) (w : World) : (Instr.typeAssert (.iface 335 v) xT 209 true).run prog w = .ok (.tuple #[.nilIface, .bool false]) w := run_typeAssert_lacksB underlying209 (by kernel_rfl) (by kernel_rfl) v xT w
theorem Tryz.zDz (v : Value) (xT : TypeId) (w : World) : (Instr.typeAssert (.iface 335 v) xT 212 true).run prog w = .ok (.tuple #[.nilIface, .bool false]) w := run_typeAssert_lacksB underlying212 (by kernel_rfl) (by kernel_rfl) v xT w
theorem Tryz.zDk (v : Value) (xT : TypeId) (w : World) : (Instr.typeAssert (.iface 335 v) xT 214 true).run prog w = .ok (.tuple #[.nilIface, .bool false]) w := run_typeAssert_lacksB underlying214 (by kernel_rfl) (by kernel_rfl) v xT w
theorem Tryz.zJg (v : Value) (xT : TypeId) (w : World) : (Instr.typeAssert (.iface 70 v) xT 209 true).run prog w = .ok (.tuple #[.nilIface, .bool false]) w := run_typeAssert_lacksB underlying209 (by kernel_rfl) (by kernel_rfl) v xT w
theorem Tryz.zEl (v : Value) (xT : TypeId) (w : World) : (Instr.typeAssert (.iface 70 v) xT 212 true).run prog w = .ok (.tuple #[.iface 70 v, .bool true]) w := run_typeAssert_hasB underlying212 (by kernel_rfl) v xT w
theorem Tryz.zDr (v : Value) (w : World) : (Go.method 467 70 v "Unwrap").run prog w = .ok (275, v) w := by kernel_rfl
theorem zqc (b : Addr) (w : World) :
  Calls prog 20 #[.nilIface, .iface 335 (.pointer (some b))] w fun e w' => e = .returned (.bool false) /\ w = w' := by
 have hn := run_eql_iface_nil_left (P := prog) w 335 (.pointer (some b)) underlying50
 go_enter func20, ntmps20
 go_wp2
 go_ret
 exact ⟨rfl, rfl⟩
theorem zdm (pb : Nat) (b : Addr) (w : World) (h1 : w.cell? ⟨pb, 3, none⟩ = some (.iface 335 (.pointer (some b)))) :
  Calls prog 20 #[.iface 70 (.pointer (some ⟨pb, 0, none⟩)), .iface 335 (.pointer (some b))] w fun e w' => e = .returned (.bool true) /\ w = w' := by
 obtain ⟨i, hi, aa⟩ := Option.map_eq_some_iff.1 Tryz.zFq
 obtain ⟨j, hj, ab⟩ := Option.map_eq_some_iff.1 Tryz.zFo
 have h8 := @run_callFunc_extern prog 80 _ Extern.ReflectliteType.typeOf func80 (by kernel_rfl) (by kernel_rfl) (by kernel_rfl) (by kernel_rfl)
 have ac := @run_callFunc_extern prog 282 _ (Extern.ReflectliteType.method Tryz.zGk) func282 (by kernel_rfl) (by kernel_rfl) (by kernel_rfl) (by kernel_rfl)
 have tT := Tryz.zEg
 have cT := Tryz.zD7
 have mR := Tryz.zCe
 have nE := Tryz.zHz
 have uE := Tryz.zDz
 have vE := Tryz.zDk
 have nW := Tryz.zJg
 have uW := Tryz.zEl
 have mU := Tryz.zDr
 have ad := run_eql_iface_ptr_same (P := prog) w b underlying50 underlying335 hi aa hj
 have ae := run_eql_iface_types (P := prog) 70 335 (.pointer (some ⟨pb, 0, none⟩)) (.pointer (some b)) underlying50 (by decide) w
 go_enter func20, ntmps20
 go_wp2
 refine wp_loop_rounds 2 ?_
 rw [rounds_succ]
 go_wp2
 rw [rounds_succ]
 go_wp2
 go_ret
 exact ⟨rfl, rfl⟩
theorem zep (pb : Nat) (b a : Addr) (ca cb : Array Value) (ta tb : TypeId) (w : World) (h1 : w.cell? ⟨pb, 3, none⟩ = some (.iface 335 (.pointer (some a)))) (ab : a ≠ b) (ha : w.heap[a.block]? = some (.cells ca ta (0, 0))) (hb : w.heap[b.block]? = some (.cells cb tb (0, 0))) :
  Calls prog 20 #[.iface 70 (.pointer (some ⟨pb, 0, none⟩)), .iface 335 (.pointer (some b))] w fun e w' => e = .returned (.bool false) /\ w = w' := by
 obtain ⟨i, hi, aa⟩ := Option.map_eq_some_iff.1 Tryz.zFq
 obtain ⟨j, hj, ac⟩ := Option.map_eq_some_iff.1 Tryz.zFo
 have h8 := @run_callFunc_extern prog 80 _ Extern.ReflectliteType.typeOf func80 (by kernel_rfl) (by kernel_rfl) (by kernel_rfl) (by kernel_rfl)
 have ad := @run_callFunc_extern prog 282 _ (Extern.ReflectliteType.method Tryz.zGk) func282 (by kernel_rfl) (by kernel_rfl) (by kernel_rfl) (by kernel_rfl)
 have tT := Tryz.zEg
 have cT := Tryz.zD7
 have mR := Tryz.zCe
 have nE := Tryz.zHz
 have uE := Tryz.zDz
 have vE := Tryz.zDk
 have nW := Tryz.zJg
 have uW := Tryz.zEl
 have mU := Tryz.zDr
 have ae := run_eql_iface_ptr_other (P := prog) w underlying50 underlying335 hi aa hj (by rw [ac]; decide) ab ha hb
 have af := run_eql_iface_types (P := prog) 70 335 (.pointer (some ⟨pb, 0, none⟩)) (.pointer (some b)) underlying50 (by decide) w
 go_enter func20, ntmps20
 go_wp2
 refine wp_loop_rounds 2 ?_
 rw [rounds_succ]
 go_wp2
 rw [rounds_succ]
 go_wp2
 go_ret
 exact ⟨rfl, rfl⟩
end Go.Proofs.YtoaoajfjcfcmhaaGreatDoor
