/- Walks: system.Canon, system.Together. The document's own answer: the one form of classes, and how many there are. The document's own answer: of each state its steps. The document's own errors: a system that is none, handed on; what an error is told to be. -/
import Derived.Test.YtoaoajfjcfcmhaaGreatDoorP01
import Derived.Test.YtoaoajfjcfcmhaaGreatDoorP14
import Derived.Maps.OwnOps
import Derived.BigRegion
import Derived.Test.YtoaoajfjcfcmhaaGreatDoorP12
import Derived.Test.YtoaoajfjcfcmhaaGreatDoorP13
import Derived.Test.YtoaoajfjcfcmhaaGreatDoorP11
import Derived.Test.YtoaoajfjcfcmhaaGreatDoorP03
import Derived.Deep.QuietTactic
set_option linter.unusedVariables false
set_option linter.unusedSimpArgs false
set_option maxHeartbeats 16000000
set_option maxRecDepth 100000
open Go.Proofs.Tryz
namespace Go.Proofs.YtoaoajfjcfcmhaaGreatDoor
open Go.RowKit Go.Maps
theorem Tryz.zHc : Keyed prog 3 := int_keyed underlying3
theorem Tryz.intZero (w : World) : (zeroValue 3).run prog w = .ok (.int .i64 0) w := by kernel_rfl
theorem Tryz.zFf : (prog.info? 3).map (fun i => (i.zero, i.size, i.bytes)) = some (some (.int .i64 0), 1, 8) := by kernel_rfl
theorem zj8 (g off n cap : Nat) (ao : Option Addr) (aG : 0 < n -> ao = some ⟨g, off, none⟩) (l : List Int) (w : World) (hl : l.length = n) (hn : n <= 1000000)
  (aH : ∀ k, k < n -> (Lit.int .i64 (l.getD k 0)).wf = true) (hc : ∀ k, k < n -> w.cell? ⟨g, off + k, none⟩ = some (.int .i64 (l.getD k 0))) :
  Calls prog 172 #[.slice ao n cap] w fun r w' =>
   r = .returned (.slice (some ⟨w.heap.size + 1, 0, none⟩) n n) /\ Row w' (w.heap.size + 1) 3 n (ints (Cn.canon l)) /\ Below w.heap.size w w' := by
 obtain ⟨i0, hi, aK, aL, aM⟩ := info_parts Tryz.zFf
 have aS := @run_makeMap prog
 have aN : 0 < n -> g < w.heap.size := fun h => World.block_lt_of_cell? w _ (hc 0 h)
 have HL : Hid (l.length = n) := hl
 have aO := zh aG
 clear hl aG
 go_enter func172, ntmps172
 go_wp2_with (first | (at_make; refine wpList_make_full _ rfl _ _ 27 rfl 0 3 i0 (.int .i64 0) 1 underlying27 hi aK aL _ _ _ _ n rfl rfl rfl rfl (by rw [aM]; omega) (by unfold maxLen; omega) (Nat.zero_le _) ?_; intro w1 an af))
 obtain ⟨aa, -, -, -⟩ := Row.of an
 have aq : (w.alloc (.map #[] 0)).heap.size = w.heap.size + 1 := by simp
 rw [aq] at aa
 have au : Row w1 (w.heap.size + 1) 3 n (ints (List.replicate n 0)) := by
  have e : (madeCells (Value.int .i64 0).cells (n * 1)).toList = ints (List.replicate n 0) := by
   rw [Nat.mul_one, zcm]; exact toList_madeCells_one _ _
  rw [<- e]; simpa using aa
 have av : w1.ownsMap (H := Unit) prog 3 (plainElem prog 3) w.heap.size 0 (.map []) := (World.ownsMap_made w _ _ _).kept af (by simp)
 have aw : Below w.heap.size w w1 := ((Below.refl _ _).alloc (Nat.le_refl _) _).grown af (by simp) (by simp)
 clear an af aa aq
 go_loopw [15] (fun i wr => ∃ k : Nat, k <= n /\ i = .int .i64 k /\ wr.ownsMap (H := Unit) prog 3 (plainElem prog 3) w.heap.size k (Cn.zCr (Cn.seen (l.take k))) /\
   Row wr (w.heap.size + 1) 3 n (ints ((Cn.canon l).take k ++ List.replicate (n - k) 0)) /\ Below w.heap.size w wr)
  (fun i _ => n - (intOf i).toNat)
 case atStart => exact ⟨0, Nat.zero_le _, rfl, av, au, aw⟩
 case round =>
  obtain ⟨k, hk, rfl, ae, aa, ag⟩ := hrel
  by_cases hlt : k < n
  ·obtain rfl := aO.out (by omega)
   have hl := HL.out
   obtain ⟨c, am⟩ := nm (l.getD k 0)
   have aP : (Lit.int .i64 c).wf = true := by rw [am]; exact aH k hlt
   have aI : wr.cell? ⟨g, off + k, none⟩ = some (.int .i64 c) := by rw [am]; exact (ag.cell (p := ⟨g, off + k, none⟩) (aN (by omega))).trans (hc k hlt)
   have al := keyOf_int_mk (P := prog) underlying3 aP
   obtain ⟨s, hs⟩ := nm (Cn.seen (l.take k))
   have aJ : Hid s.Nodup := by rw [hs]; exact Cn.zEm _
   have aT : s.length <= k := by rw [hs]; have := Cn.zCq (l.take k); simp at this; omega
   have ai : Hid ((Cn.canon l).getD k 0 = s.idxOf c) := by rw [hs, am]; exact Cn.zFa l k (by omega)
   have aj : Hid (Cn.seen (l.take (k + 1)) = if c ∈ s then s else s ++ [c]) := by rw [hs, am]; exact Cn.zDp l k (by omega)
   have ak : Hid (((Cn.canon l).take k ++ List.replicate (n - k) 0).set k ((Cn.canon l).getD k 0) = (Cn.canon l).take (k + 1) ++ List.replicate (n - (k + 1)) 0) := by
    have := Cn.zEh l k (by omega); rw [hl] at this; exact this
   have HC : Hid (c = l.getD k 0) := am
   have HS : Hid (s = Cn.seen (l.take k)) := hs
   rw [<- hs] at ae
   clear am hs aH hc hl
   have ax : (ints ((Cn.canon l).take k ++ List.replicate (n - k) 0)).length = n := by
    rw [zaz, List.length_append, List.length_take, List.length_replicate, Cn.zC8, HL.out]; omega
   have ay := aa.free k
   obtain ⟨u0, aQ⟩ : ∃ u, wr.cell? ⟨w.heap.size + 1, k, none⟩ = some u := ⟨_, aa.cell (List.getElem?_eq_getElem (by omega))⟩
   have aR := zh ax
   clear ax
   by_cases hin : c ∈ s
   ·have aE : Maps.has (Cn.zCr s) (.int .i64 c) = true := by rw [Cn.zEd]; simp [hin]
    go_wp2_with (at_lookup; refine wpList_lookup_own_ok_int _ rfl _ _ 285 rfl 3 3 .i64 Tryz.zHc underlying285 underlying3 (Tryz.intZero _) w.heap.size k _ rfl ae _ _ rfl al ?_; intro c' aA aF; (obtain rfl : c' = ((s.idxOf c : Nat) : Int) := by (rw [Cn.zGz s aJ.out c hin] at aA; simpa using aA.symm)); clear aA aF)
    have ad : Cn.seen (l.take (k + 1)) = s := by rw [aj.out, if_pos hin]
    have ac := aa.set k (.int .i64 ((s.idxOf c : Nat) : Int))
    rw [<- ints_set, <- ai.out, ak.out] at ac
    have ah : wr.ownsMap (H := Unit) prog 3 (plainElem prog 3) w.heap.size (k + 1) (Cn.zCr (Cn.seen (l.take (k + 1)))) := by rw [ad]; exact ae.mono (by omega)
    go_roundw
    case rel => exact ⟨k + 1, by omega, by go_num, ah.setCell (by simp) _, by rw [<- ai.out]; exact ac, ag.setCell (by simp) _⟩
    case measure => simp [intOf]; omega
   ·have aE : Maps.has (Cn.zCr s) (.int .i64 c) = false := by rw [Cn.zEd]; simp [hin]
    have aU : Maps.size (Cn.zCr s) = s.length := Cn.zFw s aJ.out
    go_wp2_with (first
     | (at_lookup; refine wpList_lookup_own_ok_int _ rfl _ _ 285 rfl 3 3 .i64 Tryz.zHc underlying285 underlying3 (Tryz.intZero _) w.heap.size k _ rfl ae _ _ rfl al ?_; intro c' aA aF; clear aA aF)
     | (at_len; refine wpList_len_own _ rfl _ 285 rfl 3 3 underlying285 _ w.heap.size k _ rfl ae ?_)
     | (at_mapUpdate; refine wpList_mapUpdate_own _ rfl _ _ _ 285 rfl 3 3 Tryz.zHc underlying285 _ w.heap.size k _ rfl ae (by unfold maxLen; omega) _ _ _ rfl rfl al _ [] (plainElem_int underlying3 (WalkArith.wf_i64 (by omega))) ?_; intro w2 aB ab; have aV := ab.cell aQ (by simp); have aW : w2.frozen? ⟨w.heap.size + 1, k, none⟩ = false := (World.frozen?_of_block (ab.block _ aa.lt (by simp))).trans ay))
    have ad : Cn.seen (l.take (k + 1)) = s ++ [c] := by rw [aj.out, if_neg hin]
    have aC : s.idxOf c = s.length := List.idxOf_eq_length hin
    have aD : Row w2 (w.heap.size + 1) 3 n (ints ((Cn.canon l).take k ++ List.replicate (n - k) 0)) := aa.keep (ab.block _ aa.lt (by simp))
    have ac := aD.set k (.int .i64 ((s.length : Nat) : Int))
    rw [<- ints_set, <- aC, <- ai.out, ak.out] at ac
    have ah : w2.ownsMap (H := Unit) prog 3 (plainElem prog 3) w.heap.size (k + 1) (Cn.zCr (Cn.seen (l.take (k + 1)))) := by rw [ad, Cn.zD8]; exact aB
    go_roundw
    case rel => exact ⟨k + 1, by omega, by go_num, ah.setCell (by simp) _, by rw [<- aC, <- ai.out]; exact ac, (ag.grown ab ag.size (by simp)).setCell (by simp) _⟩
    case measure => simp [intOf]; omega
  ·go_wp2
   have : k = n := by omega
   subst this
   go_ret
   refine ⟨rfl, ?_, ag⟩
   have e : (Cn.canon l).take k ++ List.replicate (k - k) 0 = Cn.canon l := by
    rw [Nat.sub_self, List.replicate_zero, List.append_nil, List.take_of_length_le (by rw [Cn.zC8, HL.out]; omega)]
   rw [<- e]; exact aa
theorem zli (g off n cap : Nat) (ao : Option Addr) (ah : 0 < n -> ao = some ⟨g, off, none⟩) (l : List Int) (w : World) (hl : l.length = n) (hn : n <= 1000000)
  (ai : ∀ k, k < n -> (Lit.int .i64 (l.getD k 0)).wf = true) (hc : ∀ k, k < n -> w.cell? ⟨g, off + k, none⟩ = some (.int .i64 (l.getD k 0))) :
  Calls prog 216 #[.slice ao n cap] w fun r w' =>
   r = .returned (.int .i64 ((Cn.seen l).length : Nat)) /\ Below w.heap.size w w' := by
 have an := @run_makeMap prog
 have ak : 0 < n -> g < w.heap.size := fun h => World.block_lt_of_cell? w _ (hc 0 h)
 have HL : Hid (l.length = n) := hl
 have al := zh ah
 clear hl ah
 go_enter func216, ntmps216
 go_wp2_with fail
 go_loopw [9] (fun i wr => ∃ k : Nat, k <= n /\ i = .int .i64 k /\ wr.ownsMap (H := Unit) prog 3 unitElem w.heap.size k (Cn.zEx (l.take k)) /\ Below w.heap.size w wr)
  (fun i _ => n - (intOf i).toNat)
 case atStart => exact ⟨0, Nat.zero_le _, rfl, World.ownsMap_made _ _ _ _, (Below.refl _ _).alloc (Nat.le_refl _) _⟩
 case round =>
  obtain ⟨k, hk, rfl, ad, aa⟩ := hrel
  by_cases hlt : k < n
  ·obtain rfl := al.out (by omega)
   have hl := HL.out
   obtain ⟨c, af⟩ := nm (l.getD k 0)
   have am : (Lit.int .i64 c).wf = true := by rw [af]; exact ai k hlt
   have aj : wr.cell? ⟨g, off + k, none⟩ = some (.int .i64 c) := by rw [af]; exact (aa.cell (p := ⟨g, off + k, none⟩) (ak (by omega))).trans (hc k hlt)
   have ag := keyOf_int_mk (P := prog) underlying3 am
   have ae : Hid (Cn.zEx (l.take (k + 1)) = (Cn.zEx (l.take k)).put (.int .i64 c) (.agg [])) := by
    rw [List.take_succ_eq_append_getElem (by omega), Cn.zGv]
    have : l[k] = c := by rw [af]; simp [List.getD, show k < l.length by omega]
    rw [this]; rfl
   clear af ai hc hl
   go_wp2_with (at_mapUpdate; refine wpList_mapUpdate_own _ rfl _ _ _ 312 rfl 3 313 Tryz.zHc underlying312 unitElem w.heap.size k _ rfl ad (by unfold maxLen; omega) _ _ _ rfl rfl ag _ [] unitElem_mk ?_; intro w2 ab ac)
   rw [<- ae.out] at ab
   go_roundw
   case rel => exact ⟨k + 1, by omega, by go_num, ab, aa.grown ac aa.size (by simp)⟩
   case measure => simp [intOf]; omega
  ·have : k = n := by omega
   subst this
   have aq : Maps.size (Cn.zEx (l.take k)) = (Cn.seen l).length := by rw [List.take_of_length_le (by rw [HL.out]; omega), Cn.zGn]
   go_wp2_with (at_len; refine wpList_len_own _ rfl _ 312 rfl 3 313 underlying312 _ w.heap.size k _ rfl ad ?_)
   go_ret
   exact ⟨rfl, aa⟩
end Go.Proofs.YtoaoajfjcfcmhaaGreatDoor
namespace Go.Proofs.YtoaoajfjcfcmhaaGreatDoor.Rf
open Go.RowKit
def zG2 (l : List Nat) : Nat := l.foldl (fun n c => if c < n then n else c + 1) 0
theorem zvn (l : List Nat) (c : Nat) : zG2 (l ++ [c]) = if c < zG2 l then zG2 l else c + 1 := by
 unfold zG2
 rw [List.foldl_append]
 rfl
theorem zFe (l : List Nat) (k : Nat) (hk : k < l.length) : zG2 (l.take (k + 1)) = if l.getD k 0 < zG2 (l.take k) then zG2 (l.take k) else l.getD k 0 + 1 := by
 rw [List.take_succ_eq_append_getElem hk, zvn]
 simp [List.getD, hk]
theorem zIn {l : List Nat} {m : Nat} (h : ∀ x ∈ l, x < m) : zG2 l <= m := by
 suffices g : ∀ k, k <= l.length -> zG2 (l.take k) <= m by
  have := g l.length (Nat.le_refl _); rwa [List.take_length] at this
 intro k
 induction k with
 | zero => intro _; simp [zG2]
 | succ k ih =>
  intro hk
  rw [zFe _ _ (by omega)]
  have hm := h (l.getD k 0) (by simp only [List.getD, List.getElem?_eq_getElem (show k < l.length by omega), Option.getD_some]; exact List.getElem_mem _)
  have := ih (by omega)
  split <;> omega
theorem zzd (l : List Nat) : ∀ x ∈ l, x < zG2 l := by
 suffices g : ∀ k, k <= l.length -> ∀ x ∈ l.take k, x < zG2 (l.take k) by
  have := g l.length (Nat.le_refl _); rwa [List.take_length] at this
 intro k
 induction k with
 | zero => intro _ x hx; simp at hx
 | succ k ih =>
  intro hk x hx
  rw [zFe _ _ (by omega)]
  rw [List.take_succ_eq_append_getElem (by omega), List.mem_append, List.mem_singleton] at hx
  have hd : l.getD k 0 = l[k] := by simp [List.getD, show k < l.length by omega]
  rcases hx with hx | hx
  ·have := ih (by omega) x hx
   split <;> omega
  ·subst hx; split <;> omega
theorem zHq (l : List Int) : zG2 (Cn.canon l) = (Cn.seen l).length := by
 apply Nat.le_antisymm
 ·apply zIn
  intro x hx
  obtain ⟨i, hi, rfl⟩ := List.mem_iff_getElem.1 hx
  have := Cn.zEj l i (by rw [<- Cn.zC8 l]; exact hi)
  simpa [List.getD, hi] using this
 ·rcases Nat.eq_zero_or_pos (Cn.seen l).length with h | h
  ·omega
  ·obtain ⟨k, hk, aa⟩ := Cn.zFr l ((Cn.seen l).length - 1) (by omega)
   have := zzd (Cn.canon l) ((Cn.canon l).getD k 0) (by simp only [List.getD, List.getElem?_eq_getElem (show k < (Cn.canon l).length by rw [Cn.zC8]; exact hk), Option.getD_some]; exact List.getElem_mem _)
   omega
end Go.Proofs.YtoaoajfjcfcmhaaGreatDoor.Rf
namespace Go.Proofs.YtoaoajfjcfcmhaaGreatDoor
open Go.RowKit
theorem zAv {s : List Int} {c : Int} {j : Nat} (h : ∀ i, i < j -> s.getD i 0 ≠ c) (hj : j < s.length) (hc : s.getD j 0 = c) : s.idxOf c = j := by
 induction s generalizing j with
 | nil => simp at hj
 | cons x s ih =>
  cases j with
  | zero =>
   have : x = c := by simpa using hc
   subst this; simp
  | succ j =>
   have hx : x ≠ c := by have := h 0 (by omega); simpa using this
   rw [List.idxOf_cons, show (x == c) = false by simpa using hx]
   simp only [cond_false, Bool.cond_false]
   rw [ih (j := j) (fun i hi => by have := h (i + 1) (by omega); simpa using this) (by simpa using hj) (by simpa using hc)]
theorem zA7 {s : List Int} {c : Int} (h : ∀ i, i < s.length -> s.getD i 0 ≠ c) : c ∉ s := by
 intro hm
 obtain ⟨i, hi, rfl⟩ := List.mem_iff_getElem.1 hm
 exact h i hi (by simp [List.getD, hi])
def ztj (w : World) (l : List Int) (n : Nat) (r : Ending) (w' : World) : Prop :=
 ∃ g, r = .returned (.slice (some ⟨g, 0, none⟩) n n) /\ Row w' g 3 n (ints (Cn.canon l)) /\ w.heap.size <= g /\ Up w w'
theorem zxv {v : Value} {l : List Int} {w : World} (hn : l.length <= 1000000) (hv : Lst w v l) :
  Calls prog 149 #[v] w (ztj w l l.length) := by
 obtain ⟨ao, cap, g, off, rfl, aC, hx⟩ := hv
 obtain ⟨i0, hi, aJ, aK, aL⟩ := info_parts Tryz.zFf
 obtain ⟨n, aD⟩ := nm (l.length)
 rw [<- aD] at hn aC ⊢
 have aT := zh aC
 have HX := zh hx
 have HN := zh aD
 clear aC hx aD
 go_enter func149, ntmps149
 go_wp2_with (at_make; refine wpList_make_full _ rfl _ _ 27 rfl 0 3 i0 (.int .i64 0) 1 underlying27 hi aJ aK _ _ _ _ n rfl rfl rfl rfl (by rw [aL]; omega) (by unfold maxLen; omega) (Nat.zero_le _) ?_; intro w1 aa aj)
 obtain ⟨ab, -, -, -⟩ := Row.of aa
 have ad : Row w1 w.heap.size 3 n (ints ((Cn.canon l).take 0 ++ List.replicate (n - 0) 0)) := by
  have e : (madeCells (Value.int .i64 0).cells (n * 1)).toList = ints ((Cn.canon l).take 0 ++ List.replicate (n - 0) 0) := by
   rw [Nat.mul_one, List.take_zero, List.nil_append, Nat.sub_zero, zcm]; exact toList_madeCells_one _ _
  rw [<- e]; simpa using ab
 have av : Up w w1 := (Up.refl w).grown aj (by simp)
 have aM : w.heap.size < w1.heap.size := ad.lt
 obtain ⟨go, aN⟩ := nm (w.heap.size)
 have aE : w.heap.size <= go := by omega
 rw [<- aN] at ad aM ⊢
 obtain ⟨S0, aU⟩ := nm (w1.heap.size)
 have a2 : go < S0 := by omega
 have aO : S0 <= w1.heap.size := by omega
 clear aa aj ab aN aU aM
 go_loopw [4, 5] (fun sv i wr => ∃ k : Nat, k <= n /\ i = .int .i64 k /\ wr.ownsRow S0 3 1 sv (Cn.seen (l.take k)).length ((Cn.seen (l.take k)).map (Value.int .i64)) /\
   Row wr go 3 n (ints ((Cn.canon l).take k ++ List.replicate (n - k) 0)) /\ Up w wr /\ S0 <= wr.heap.size) (fun _ i _ => n - (intOf i).toNat)
 case atStart => exact ⟨0, Nat.zero_le _, rfl, World.ownsRow_nil _ _ _ _, ad, av, aO⟩
 case round =>
  clear ad av aO
  obtain ⟨k, hk, rfl, aa, ab, aw, hS⟩ := hrel
  by_cases hlt : k < n
  ·obtain rfl := aT.out (by omega)
   have aA : k < l.length := by rw [<- HN.out]; exact hlt
   obtain ⟨c, aB⟩ := nm (l.getD k 0)
   have aP : wr.cell? ⟨g, off + k, none⟩ = some (.int .i64 c) := by rw [aB]; exact aw.cell (HX.out k aA)
   obtain ⟨s, hs⟩ := nm (Cn.seen (l.take k))
   rw [<- hs] at aa
   have aV : s.length <= k := by rw [hs]; have := Cn.zCq (l.take k); simp at this; omega
   have aq : Hid ((Cn.canon l).getD k 0 = s.idxOf c) := by rw [hs, aB]; exact Cn.zFa l k aA
   have ak : Hid (Cn.seen (l.take (k + 1)) = if c ∈ s then s else s ++ [c]) := by rw [hs, aB]; exact Cn.zDp l k aA
   have al : Hid (((Cn.canon l).take k ++ List.replicate (n - k) 0).set k ((Cn.canon l).getD k 0) = (Cn.canon l).take (k + 1) ++ List.replicate (n - (k + 1)) 0) := by
    have := Cn.zEh l k aA; rw [<- HN.out] at this; exact this
   have aF : (ints ((Cn.canon l).take k ++ List.replicate (n - k) 0)).length = n := by
    rw [zaz, List.length_append, List.length_take, List.length_replicate, Cn.zC8, <- HN.out]; omega
   have aQ := ab.free k
   obtain ⟨u0, a3⟩ : ∃ u, wr.cell? ⟨go, k, none⟩ = some u := ⟨_, ab.cell (List.getElem?_eq_getElem (by omega))⟩
   obtain ⟨so, sc, rfl⟩ := za1 aa
   obtain ⟨m, hm⟩ := nm (s.length)
   rw [<- hm] at aa aV ⊢
   have HM := zh hm
   have aW : Hid (∀ j, j < m -> ∃ gs, so = some ⟨gs, 0, none⟩ /\ ∀ j, j < m -> wr.cell? ⟨gs, j, none⟩ = some (.int .i64 (s.getD j 0))) := by
    intro j hj
    rcases za4 aa with ⟨_, h0, _⟩ | ⟨gs, cs, hv, hr, _⟩
    ·omega
    ·simp only [Value.slice.injEq] at hv
     refine ⟨gs, hv.1, fun j hj => hr.cell ?_⟩
     have : j < s.length := by rw [<- HM.out]; exact hj
     simp [List.getD, this]
   clear aB hs hm aF
   go_wp2_with fail
   obtain ⟨wo, rfl⟩ : ∃ wo : World, wo = wr := ⟨_, rfl⟩
   go_loopw [6] (fun i wr => ∃ j q : Nat, j <= m /\ i = .int .i64 j /\ wr = wo.drewN q /\ ∀ i, i < j -> s.getD i 0 ≠ c) (fun i _ => m - (intOf i).toNat)
   case atStart => exact ⟨0, 0, Nat.zero_le _, rfl, rfl, fun i hi => by omega⟩
   case round =>
    obtain ⟨j, q, hj, rfl, rfl, ax⟩ := hrel
    replace ax := zh ax
    by_cases hjm : j < m
    ·obtain ⟨gs, rfl, aR⟩ := aW.out j hjm
     have cs := aR j hjm
     obtain ⟨x, hx⟩ := nm (s.getD j 0)
     rw [<- hx] at cs
     have aG := zh hx
     clear aR hx
     by_cases hxc : x = c
     ·have qx : (x != c) = false := by simp [hxc]
      have qm : ((j : Int) == (m : Int)) = false := by simp; omega
      have af : s.idxOf c = j := zAv ax.out (by rw [<- HM.out]; exact hjm) (by rw [<- aG.out]; exact hxc)
      have aS : c ∈ s := by
       have aX : j < s.length := by rw [<- HM.out]; exact hjm
       rw [<- hxc, aG.out]; simp only [List.getD, List.getElem?_eq_getElem aX, Option.getD_some]; exact List.getElem_mem _
      have aH : Hid (Cn.seen (l.take (k + 1)) = s) := by rw [ak.out, if_pos aS]; rfl
      have ae := ab.set k (.int .i64 ((j : Nat) : Int))
      rw [<- ints_set, <- af, <- aq.out, al.out] at ae
      have HR : Hid (Row ((wo.drewN 0).setCell ⟨go, k, none⟩ (.int .i64 ((j : Nat) : Int))) go 3 n (ints ((Cn.canon l).take (k + 1) ++ List.replicate (n - (k + 1)) 0))) := by
       have e : ((Cn.canon l).getD k 0 : Nat) = j := by rw [aq.out, af]
       rw [e] at ae; exact ae
      clear ae af aS hxc
      go_wp2_with fail
      go_quiet (fail)
      go_wp2_with fail
      go_roundw
      case rel => exact ⟨k + 1, by omega, by go_num, by rw [aH.out, <- HM.out]; exact za2 aa (fun g hg => Below.heap_setCell _ _ _ _ (by have := (aa.lt g hg).1; simp; omega)), HR.out, (aw.drewN _).setCell aE _, by simpa using hS⟩
      case measure => simp [intOf]; omega
     ·have qx : (x != c) = true := by simp [hxc]
      have aY : Hid (∀ i, i < j + 1 -> s.getD i 0 ≠ c) := by
       intro i hi
       by_cases h : i = j
       ·rw [h, <- aG.out]; exact hxc
       ·exact ax.out i (by omega)
      clear hxc
      go_wp2_with fail
      go_quiet (fail)
      go_wp2_with fail
      go_roundw
      case rel => exact ⟨j + 1, _, by omega, by go_num, rfl, aY.out⟩
      case measure => simp [intOf]; omega
    ·obtain rfl : j = m := by omega
     have au : c ∉ s := zA7 (fun i hi => ax.out i (by rw [HM.out]; exact hi))
     have aH : Hid (Cn.seen (l.take (k + 1)) = s ++ [c]) := by rw [ak.out, if_neg au]; rfl
     have af : Hid (s.idxOf c = j) := by rw [List.idxOf_eq_length au, HM.out]; rfl
     have am : Row (wo.drewN q) go 3 n (ints ((Cn.canon l).take k ++ List.replicate (n - k) 0)) := ab
     have ag : (wo.drewN q).ownsRow S0 3 1 (.slice so j sc) j (s.map (Value.int .i64)) := aa
     have aZ := aw.drewN q
     clear au hjm
     have a4 := am.lt
     have a0 : ∀ g, (Value.slice so j sc).ownBlock = some g -> go ≠ g := fun g hg e => by have := (ag.lt g hg).1; omega
     have aI : Hid ((ints ((Cn.canon l).take k ++ List.replicate (n - k) 0)).length = n) := by
      rw [zaz, List.length_append, List.length_take, List.length_replicate, Cn.zC8, <- HN.out]; unfold Hid; omega
     have a1 : Hid ((s ++ [c]).length = j + 1) := by rw [List.length_append, <- HM.out]; rfl
     go_wp2_with fail
     go_quiet (fail)
     go_wp2_with (at_builtin; (refine wpList_append_own _ rfl _ _ 27 rfl S0 3 i0 (.int .i64 0) 1 8 underlying27 hi aJ aK aL rfl (by decide) _ j _ rfl (ag.alloc _) ⟨wo.heap.size, 0, none⟩ 1 1 [.int .i64 c] rfl rfl (cell_one_new _ _ _) (ints_oneCell .i64 [c]) (by unfold maxLen; omega) (by omega) (by simp; omega) ?_); intro v' w2 an ac ay; clear ay; (have ah := (am.alloc _).keep (ac.block go (by simp; omega) (fun e => a0 go e.symm rfl))); (have cg2 : w2.cell? ⟨go, k, none⟩ = some _ := ah.cell (List.getElem?_eq_getElem (by rw [aI.out]; exact hlt))); (have fg2 := ah.free k))
     have ai := ah.set k (.int .i64 ((j : Nat) : Int))
     rw [<- ints_set] at ai
     have e : ((Cn.canon l).getD k 0 : Nat) = j := by rw [aq.out, af.out]
     rw [<- e, al.out, e] at ai
     have HU : Hid (Up w w2) := ((aw.drewN _).alloc _).grown ac (fun g hg => by have := (ag.lt g hg).1; omega)
     go_roundw
     case rel => exact ⟨k + 1, by omega, by go_num, by rw [aH.out, a1.out]; exact za2 (xs := (s ++ [c]).map (Value.int .i64)) (by rw [List.map_append]; exact an) (fun g hg => Below.heap_setCell _ _ _ _ (by have := (an.lt g hg).1; simp; omega)), ai, HU.out.setCell aE _, by have := ac.size; simp at this ⊢; omega⟩
     case measure => simp [intOf]; omega
  ·obtain rfl : k = n := by omega
   go_wp2_with fail
   go_ret
   refine ⟨go, rfl, ?_, aE, aw⟩
   have e : (Cn.canon l).take k ++ List.replicate (k - k) 0 = Cn.canon l := by
    rw [Nat.sub_self, List.replicate_zero, List.append_nil, List.take_of_length_le (by rw [Cn.zC8, <- HN.out]; exact Nat.le_refl _)]
   rw [<- e]; exact ab
def zzf (w : World) (l : List Int) (r : Ending) (w' : World) : Prop := r = .returned (.int .i64 ((Cn.seen l).length : Nat)) /\ Up w w'
theorem zrb (l : List Int) (k : Nat) : Rf.zG2 ((Cn.canon l).take k) <= l.length := by
 refine Rf.zIn (fun x hx => ?_)
 have hx := List.mem_of_mem_take hx
 obtain ⟨i, hi, rfl⟩ := List.mem_iff_getElem.1 hx
 have h1 := Cn.zEj l i (by rw [<- Cn.zC8 l]; exact hi)
 have h2 := Cn.zCq l
 have : (Cn.canon l).getD i 0 = (Cn.canon l)[i] := by simp [List.getD, hi]
 omega
theorem zAz {v : Value} {l : List Int} {w : World} (hn : l.length <= 1000000) (hv : Lst w v l) :
  Calls prog 113 #[v] w (zzf w l) := by
 obtain ⟨n, aa⟩ := nm (l.length)
 have HC := zh (zxv hn hv)
 rw [<- aa] at HC hn
 have ad : (Cn.canon l).length = n := by rw [Cn.zC8, aa]
 have ae : ∀ k, k < n -> (Cn.canon l).getD k 0 < n := by
  intro k hk
  have h1 := Cn.zEj l k (by rw [<- aa]; exact hk)
  have h2 := Cn.zCq l
  omega
 have HT : Hid (∀ k, Rf.zG2 ((Cn.canon l).take k) <= n) := fun k => by rw [aa]; exact zrb l k
 have ab := zh ad
 have ag := zh ae
 clear aa ad ae hv
 go_enter func113, ntmps113
 go_wp2_with (go_at_call 149; refine HC.out.mono ?_; rintro r w1 ⟨g, rfl, ac, hg, ah⟩)
 go_loopw [4, 5] (fun m i wr => ∃ k q : Nat, k <= n /\ i = .int .i64 k /\ m = .int .i64 (Rf.zG2 ((Cn.canon l).take k) : Nat) /\ wr = w1.drewN q) (fun _ i _ => n - (intOf i).toNat)
 case atStart => exact ⟨0, 0, Nat.zero_le _, rfl, rfl, rfl⟩
 case round =>
  obtain ⟨k, q, hk, rfl, rfl, rfl⟩ := hrel
  by_cases hlt : k < n
  ·have cx := ac.cell (zai (l := Cn.canon l) (i := k) (by rw [ab.out]; exact hlt))
   have hx := ag.out k hlt
   have ht := HT.out k
   have HN := zh (Rf.zFe (Cn.canon l) k (by rw [ab.out]; exact hlt))
   obtain ⟨c, hc⟩ := nm ((Cn.canon l).getD k 0)
   obtain ⟨t, af⟩ := nm (Rf.zG2 ((Cn.canon l).take k))
   rw [<- hc] at cx hx HN
   rw [<- af] at ht HN ⊢
   clear hc af
   by_cases hlc : c < t
   ·have qc : decide (t <= c) = false := by simp; omega
    have e := HN.out
    rw [if_pos hlc] at e
    have HE := zh e
    clear e HN
    go_wp2_with fail
    go_roundw
    case rel => exact ⟨k + 1, _, by omega, by go_num, by rw [HE.out], rfl⟩
    case measure => simp [intOf]; omega
   ·have qc : decide (t <= c) = true := by simp; omega
    have e := HN.out
    rw [if_neg hlc] at e
    have HE := zh e
    clear e HN
    go_wp2_with fail
    go_roundw
    case rel => exact ⟨k + 1, _, by omega, by go_num, by rw [HE.out]; go_num, rfl⟩
    case measure => simp [intOf]; omega
  ·obtain rfl : k = n := by omega
   have e : Rf.zG2 ((Cn.canon l).take k) = (Cn.seen l).length := by rw [List.take_of_length_le (by rw [ab.out]; exact Nat.le_refl _), Rf.zHq]
   rw [e]
   clear e
   go_wp2_with fail
   go_ret
   exact ⟨rfl, ah.drewN q⟩
end Go.Proofs.YtoaoajfjcfcmhaaGreatDoor
namespace Go.Proofs.YtoaoajfjcfcmhaaGreatDoor
open Go.RowKit Go.Maps
def zdc (l : List Sy.Edge) (p : Nat) : List (Int × Int) := (l.filter fun e => e.1 == (p : Int)).map (·.2)
theorem zo9 (l : List Sy.Edge) (p i : Nat) (h : i < l.length) : zdc (l.take (i + 1)) p = if (l.getD i (0, 0, 0)).1 = (p : Int) then zdc (l.take i) p ++ [(l.getD i (0, 0, 0)).2] else zdc (l.take i) p := by
 have e : l.getD i (0, 0, 0) = l[i] := by simp [List.getD, h]
 rw [List.take_succ_eq_append_getElem h, e]
 unfold zdc
 rw [List.filter_append, List.map_append]
 split
 ·rename_i hx; simp [List.filter_cons, hx]
 ·rename_i hx; simp [List.filter_cons, hx]
theorem zs5 (l : List Sy.Edge) (p : Nat) : (zdc l p).length <= l.length := by
 unfold zdc; rw [List.length_map]; exact List.length_filter_le _ _
structure zI2 (w2 wr : World) (O n : Nat) (vs : List Value) (f : Nat -> List (Int × Int)) : Prop where
 tn : Turned (fun k => k = O) w2 wr
 lt : O < w2.heap.size
 len : vs.length = n
 row : Row wr O 154 n vs
 own : ∀ p, p < n -> wr.ownsRow w2.heap.size 169 2 (vs.getD p undef) (f p).length (za7 (f p))
 apart : ∀ p q g, p < n -> q < n -> p ≠ q -> (vs.getD p undef).ownBlock = some g -> (vs.getD q undef).ownBlock ≠ some g
theorem zI2.push {w2 wr wq w4 : World} {O n p : Nat} {vs : List Value} {f f' : Nat -> List (Int × Int)} {v' : Value} {o : Obj} {x : Int × Int} (h : zI2 w2 wr O n vs f) (hp : p < n) (hu : Up wr wq)
  (af : w4.ownsRow w2.heap.size 169 2 v' ((f p).length + 1) (za7 (f p) ++ [.int .i64 x.1, .int .i64 x.2])) (hg : (wq.alloc o).grownBy w4 (vs.getD p undef).ownBlock)
  (ai : v'.ownBlock = (vs.getD p undef).ownBlock \/ v'.ownBlock = some (wq.alloc o).heap.size) (hf : f' p = f p ++ [x]) (ak : ∀ q, q ≠ p -> f' q = f q) :
  zI2 w2 (w4.setCell ⟨O, p, none⟩ v') O n (vs.set p v') f' := by
 have ae : Up wr (wq.alloc o) := hu.alloc o
 have aj : ∀ k, (vs.getD p undef).ownBlock = some k -> w2.heap.size <= k := fun k hk => ((h.own p hp).lt k hk).1
 have al : w4.heap[O]? = wr.heap[O]? := (hg.block O (Nat.lt_of_lt_of_le h.row.lt ae.size) (fun e => by have := aj O e.symm; have := h.lt; omega)).trans (ae.block O h.row.lt)
 have ab : ∀ q, q ≠ p -> (vs.set p v').getD q undef = vs.getD q undef := fun q hq => by simp [List.getD, List.getElem?_set, Ne.symm hq]
 have aa : (vs.set p v').getD p undef = v' := by simp [List.getD, h.len, hp]
 have am : Turned (fun k => k = O) w2 w4 := (h.tn.trans (ae.zHv (S := fun k => k = O)) (fun _ _ h => h)).grown hg (fun k hk => .inr (aj k hk))
 refine ⟨am.setCell (.inl rfl) _, h.lt, by rw [List.length_set, h.len], (h.row.keep al).set p v', fun q hq => ?_, fun q r g hq hr ag ad ac => ?_⟩
 ·by_cases he : q = p
  ·subst he
   rw [aa, hf]
   have e1 : (f q ++ [x]).length = (f q).length + 1 := by simp
   have e2 : za7 (f q ++ [x]) = za7 (f q) ++ [.int .i64 x.1, .int .i64 x.2] := by rw [zb7]; rfl
   rw [e1, e2]
   exact za2 af (fun g ah => Below.heap_setCell w4 ⟨O, q, none⟩ v' g (by have := (af.lt g ah).1; have := h.lt; simp only; omega))
  ·rw [ab q he, ak q he]
   refine za2 (h.own q hq) (fun g ah => ?_)
   have h1 := (h.own q hq).lt g ah
   have h2 : w4.heap[g]? = wr.heap[g]? := (hg.block g (Nat.lt_of_lt_of_le h1.2 ae.size) (fun e => h.apart p q g hp hq (Ne.symm he) e.symm ah)).trans (ae.block g h1.2)
   exact (Below.heap_setCell w4 ⟨O, p, none⟩ v' g (by have := h1.1; have := h.lt; simp only; omega)).trans h2
 ·by_cases he : q = p
  ·subst he
   rw [aa] at ad
   rw [ab r (Ne.symm ag)] at ac
   rcases ai with h1 | h1
   ·rw [h1] at ad; exact h.apart q r g hq hr ag ad ac
   ·rw [h1, Option.some.injEq] at ad
    have h2 := ((h.own r hr).lt g ac).2
    have h3 := ae.size
    omega
  ·rw [ab q he] at ad
   by_cases he2 : r = p
   ·subst he2
    rw [aa] at ac
    rcases ai with h1 | h1
    ·rw [h1] at ac; exact h.apart q r g hq hr ag ad ac
    ·rw [h1, Option.some.injEq] at ac
     have h2 := ((h.own q hq).lt g ad).2
     have h3 := ae.size
     omega
   ·rw [ab r he2] at ac
    exact h.apart q r g hq hr ag ad ac
def zpm (s : Sy.Lts) (n : Nat) (w : World) (r : Ending) (w' : World) : Prop :=
 Up w w' /\ ∃ O vs, r = .returned (.slice (some ⟨O, 0, none⟩) n n) /\ w.heap.size <= O /\ Row w' O 154 n vs /\ vs.length = n /\ ∀ p, p < n -> Ls2 w' (vs.getD p undef) (Sy.steps s p)
theorem Tryz.zGp : (prog.info? 154).map (fun i => (i.zero, i.size, i.bytes)) = some (some (.slice none 0 0), 1, 24) := by kernel_rfl
theorem zjf {s : Sy.Lts} {se : Value} {w : World} (hR : Sy.Right s) (hs : Ls3 w se s.es) (aK : zfg se) (n : Nat) (hn : s.n = (n : Int)) :
  Calls prog 109 #[zCb s se] w (zpm s n w) := by
 obtain ⟨i0, hi, aS, aT, aU⟩ := info_parts Tryz.zGp
 obtain ⟨j0, hj, gz0, gz1, gz2⟩ := info_parts Tryz.zI6
 obtain ⟨ao, cap, rfl⟩ := zaf hs
 have a5 : n <= 1000 := by have := hR.n1; omega
 have HS : Hid (∀ W, Up w W -> Calls prog 142 #[.slice ao s.es.length cap] W (zcd W (Sy.sorted s))) := zh (fun W hu => zl7 _ (hs.up hu) aK (by have := hR.len; omega))
 have HE : Hid (∀ e ∈ Sy.sorted s, 0 <= e.1 /\ e.1 < (n : Int)) := zh (fun e he => by
  have := hR.ok e ((Sy.mem_sorted s e).1 he)
  rw [<- hn]; exact ⟨this.1, this.2.2.2.1⟩)
 have aL : (Sy.sorted s).length <= 10000 := Nat.le_trans (Sy.zCo s.es) hR.len
 obtain ⟨L, ay⟩ := nm (Sy.sorted s)
 rw [<- ay] at HS HE aL
 have HL := zh ay
 have a6 := zh hn
 obtain ⟨k, hk⟩ := nm (s.es.length)
 rw [<- hk] at HS ⊢
 unfold zCb
 rw [hn]
 clear hR hs aK hn ay hk
 obtain ⟨nl, aA⟩ := nm (L.length)
 rw [<- aA] at aL
 have aj := zh aA
 obtain ⟨wA, au⟩ := nm (w.alloc (.cells #[.int .i64 (n : Nat), .int .i64 s.m, .int .i64 s.start, .slice ao k cap] 24))
 have aM : Up w wA := by rw [au]; exact (Up.refl w).alloc _
 have aN : wA.heap[w.heap.size]? = some (.cells #[.int .i64 (n : Nat), .int .i64 s.m, .int .i64 s.start, .slice ao k cap] 24 (0, 0)) := by rw [au]; exact heap_alloc_new w _
 obtain ⟨⟨b0, -, -, b3⟩, -⟩ := za6 aN
 have aB := zh aM
 clear aM aN aA
 go_enter func109, ntmps109
 go_upto_region 1 with fail
 rw [<- au]
 clear au
 go_upto_region 2 with (at_make; refine wpList_make_full _ rfl _ _ 40 rfl wA.heap.size 154 i0 (.slice none 0 0) 1 underlying40 hi aS aT _ _ _ _ n rfl rfl rfl rfl (by rw [aU]; omega) (by unfold maxLen; omega) (Nat.le_refl _) ?_; intro w1 ak ag)
 obtain ⟨af, -, -, -⟩ := Row.of ak
 have e : (madeCells (Value.slice none 0 0).cells (n * 1)).toList = List.replicate n (Value.slice none 0 0) := by rw [Nat.mul_one]; exact toList_madeCells_one _ _
 rw [e, Nat.mul_one] at af
 have aC : Up wA w1 := (Up.refl wA).grown ag (fun k hk => by cases hk)
 have b3' := aC.cell b3
 have aD := af.lt
 have aE := zh af
 have aF := zh aC
 clear e af ag aC ak b0 b3
 go_upto_region 3 with (go_at_call 142; refine (HS.out _ (aB.out.trans aF.out)).mono ?_; rintro r w2 ⟨a2, c2, rfl, aG, al⟩)
 have HX : Hid (∀ j, j < nl -> ∃ gl, a2 = some ⟨gl, 0, none⟩ /\ wA.heap.size ≠ gl /\ w2.cell? ⟨gl, j * 3, none⟩ = some (.int .i64 (L.getD j (0, 0, 0)).1) /\ w2.cell? ⟨gl, j * 3 + 1, none⟩ = some (.int .i64 (L.getD j (0, 0, 0)).2.1) /\ w2.cell? ⟨gl, j * 3 + 2, none⟩ = some (.int .i64 (L.getD j (0, 0, 0)).2.2)) := zh (fun j hj => by
  have aV := fun g hg => (aG.lt g hg).1
  rcases za4 aG with ⟨-, h1, -⟩ | ⟨gl, cl, he, aW, -⟩
  ·have := aj.out; omega
  ·have hb := aV gl (by rw [he]; rfl)
   simp only [Value.slice.injEq, true_and] at he
   obtain ⟨c1, c2', c3⟩ := zel aW j (j * 3) rfl (by rw [<- aj.out]; exact hj) _ _ _ rfl
   exact ⟨gl, he.1, by omega, c1, c2', c3⟩)
 rw [<- aj.out]
 have aH : zI2 w2 w2 wA.heap.size n (List.replicate n (.slice none 0 0)) (zdc (L.take 0)) := by
  have am : ∀ p, p < n -> (List.replicate n (Value.slice none 0 0)).getD p undef = .slice none 0 0 := fun p hp => by simp [List.getD, hp]
  refine ⟨Turned.refl _ _, Nat.lt_of_lt_of_le aD al.size, by simp, aE.out.keep (al.block _ aD), fun p hp => ?_, fun p q g hp hq _ hg => ?_⟩
  ·rw [am p hp]; exact World.ownsRow_nil _ _ _ _
  ·rw [am p hp] at hg; cases hg
 have aX := zh (aB.out.trans (aF.out.trans al))
 have aY := zh (aF.out.trans al)
 obtain ⟨O, hO⟩ := nm (wA.heap.size)
 have aZ := zh hO
 rw [<- hO] at aH HX
 have H0 := zh aH
 clear al aG aH aD b3'
 go_wp2_with fail
 rw [<- hO]
 clear hO
 go_loopw [5] (fun i wr => ∃ (j : Nat) (vs : List Value), i = .int .i64 j /\ j <= nl /\ Hid (zI2 w2 wr O n vs (zdc (L.take j)))) (fun i _ => nl - (intOf i).toNat)
 case atStart => exact ⟨0, _, rfl, Nat.zero_le _, H0⟩
 case round =>
  obtain ⟨j, vs, rfl, a7, ab⟩ := hrel
  by_cases hlt : j < nl
  ·obtain ⟨gl, rfl, a0, c1, c2', c3⟩ := HX.out j hlt
   have aw : j < L.length := by rw [<- aj.out]; exact hlt
   obtain ⟨x, hx⟩ : ∃ x, L.getD j (0, 0, 0) = x := ⟨_, rfl⟩
   have aO := HE.out x (by rw [<- hx, <- zaa (0, 0, 0) aw]; exact List.getElem_mem aw)
   have HF : Hid (∀ p, zdc (L.take (j + 1)) p = if x.1 = (p : Int) then zdc (L.take j) p ++ [x.2] else zdc (L.take j) p) := zh (fun p => by rw [zo9 L p j aw, hx])
   rw [hx] at c1 c2' c3
   have a1 : gl < w2.heap.size := World.block_lt_of_cell? w2 _ c1
   obtain ⟨x1, x2, x3⟩ := x
   simp only at aO c1 c2' c3 HF
   obtain ⟨p, hp⟩ : ∃ p : Nat, x1 = (p : Int) := ⟨x1.toNat, by omega⟩
   subst hp
   have aI : p < n := by omega
   have ax := fun (k : Nat) (v : Value) (hv : w2.cell? ⟨gl, k, none⟩ = some v) => ab.out.tn.cell hv (fun e => a0 e.symm)
   have d1 := ax _ _ c1
   have d2 := ax _ _ c2'
   have d3 := ax _ _ c3
   have hv : vs[p]? = some (vs.getD p undef) := by simp [List.getD, show p < vs.length by rw [ab.out.len]; exact aI]
   have d4 := ab.out.row.cell hv
   have a8 := ab.out.tn.size
   have ai := zh (ab.out.own p aI)
   obtain ⟨m, hm⟩ := nm ((zdc (L.take j) p).length)
   have a9 : m <= 10000 := by have := zs5 (L.take j) p; rw [<- hm, List.length_take] at this; omega
   rw [<- hm] at ai
   obtain ⟨av, cv, aJ⟩ := za1 ai.out
   have aP := zh aJ
   rw [aJ] at d4 ai
   have HM := zh hm
   clear hx aO c1 c2' c3 hv aJ hm ax aw
   go_upto_region 6 with fail
   refine za9 28 [(0, true), (1, true), (2, true), (3, true), (4, true), (5, true), (6, true), (7, true), (8, true), (9, true), (10, true), (11, true), (12, true), (13, true), (14, true), (15, true), (16, true), (17, true), (18, true), (19, true), (20, true), (21, true), (22, true), (23, true), (24, true), (25, false), (26, false), (27, true)] (fun x => x.cell? ⟨gl, j * 3, none⟩ = some (.int .i64 (p : Nat)) /\ x.cell? ⟨gl, j * 3 + 1, none⟩ = some (.int .i64 x2) /\ x.cell? ⟨gl, j * 3 + 2, none⟩ = some (.int .i64 x3) /\ x.cell? ⟨O, p, none⟩ = some (.slice av m cv)) (by kernel_rfl) (by kernel_rfl) (fun _ _ _ _ _ h => h) ⟨d1, d2, d3, d4⟩ ?_
   iterate 25
    refine WO.still rfl rfl (fun K hK => ?_)
    apply Exists.intro
    refine ⟨?_, hK _ ?_⟩
    ·intro w' hS
     obtain ⟨s1, s2, s3, s4⟩ := hS
     go_simp
     first | done | rfl | exact ⟨rfl, rfl⟩
    clear hK K
   refine WO.act rfl rfl (fun K hK => ?_)
   go_simp
   have ac : Up wr (wr.drew.alloc (.cells #[.int .i64 x2, .int .i64 x3] 169)) := ((Up.refl wr).drew).alloc _
   refine hK _ _ ⟨ac.cell d1, ac.cell d2, ac.cell d3, ac.cell d4⟩ ?_
   clear hK K
   refine WO.act rfl rfl (fun K hK => ?_)
   refine wp_append_own (.tmp 31) (.tmp 43) 154 rfl w2.heap.size 169 j0 (.agg #[.int .i64 0, .int .i64 0]) 2 16 underlying154 hj gz0 gz1 gz2 rfl (by decide) (.slice av m cv) m _ rfl (Up.owns (w := wr) ac ai.out) _ 1 1 [.int .i64 x2, .int .i64 x3] rfl rfl (zby _ _ _ _) (zg1 (x2, x3)) (by unfold maxLen; omega) (by omega) (Nat.le_trans ab.out.tn.size ac.size) ?_
   intro v' w4 ad aa an
   have ah : (wr.drew.alloc (.cells #[.int .i64 x2, .int .i64 x3] 169)).grownBy w4 (Value.slice av m cv).ownBlock := ⟨aa.os, aa.tape, aa.output, aa.size, aa.block⟩
   have aq : (Value.slice av m cv).ownBlock ≠ some O := fun e => by have := (ai.out.lt O e).1; have := ab.out.lt; omega
   have ae : (Value.slice av m cv).ownBlock ≠ some gl := fun e => by
    have h1 := (ai.out.lt gl e).1
    omega
   have f1 := zaw ah (ac.cell d1) ae
   have f2 := zaw ah (ac.cell d2) ae
   have f3 := zaw ah (ac.cell d3) ae
   have f4 := zaw ah (ac.cell d4) aq
   have aQ : w4.heap[O]? = wr.heap[O]? := (ah.block O (Nat.lt_of_lt_of_le ab.out.row.lt ac.size) (fun e => aq e.symm)).trans (ac.block O ab.out.row.lt)
   have ba : w4.frozen? ⟨O, p, none⟩ = false := (ab.out.row.keep aQ).free p
   obtain ⟨a4, c4, a3⟩ := za1 ad
   subst a3
   have HP : Hid (zI2 w2 (w4.setCell ⟨O, p, none⟩ (.slice a4 (m + 1) c4)) O n (vs.set p (.slice a4 (m + 1) c4)) (zdc (L.take (j + 1)))) := zh (by
    refine ab.out.push (x := (x2, x3)) (o := .cells #[.int .i64 x2, .int .i64 x3] 169) aI ((Up.refl wr).drew) ?_ ?_ ?_ ?_ ?_
    ·rw [<- HM.out]; exact ad
    ·rw [aP.out]; exact ah
    ·rw [aP.out]; exact an
    ·rw [HF.out, if_pos rfl]
    ·intro q hq; rw [HF.out, if_neg (by omega)])
   refine hK _ _ ⟨f1, f2, f3, f4⟩ ?_
   clear hK K ad aa an ah aQ f1 f2 f3
   refine WO.still rfl rfl (fun K hK => ?_)
   apply Exists.intro
   refine ⟨?_, hK _ ?_⟩
   ·intro w' hS
    go_simp
    first | done | rfl | exact ⟨rfl, rfl⟩
   clear hK K
   refine WO.last rfl rfl (fun K hK => ?_)
   go_simp
   refine hK _ _ ?_
   clear hK K
   go_wp2_with fail
   go_roundw
   case rel => exact ⟨j + 1, _, by go_num, by omega, HP⟩
   case measure => simp [intOf]; omega
  ·obtain rfl : j = nl := by omega
   go_wp2_with fail
   go_ret
   have aR : w.heap.size <= O := by rw [aZ.out]; exact aB.out.size
   refine ⟨zaj aX.out aR ab.out.tn, O, vs, rfl, aR, ab.out.row, ab.out.len, fun p hp => ?_⟩
   have h := ab.out.own p hp
   rw [show L.take j = L by rw [aj.out, List.take_length], HL.out] at h
   exact zc6 h
theorem zAn (l : List Int) : Cn.seen l = Rd.seen l := by
 unfold Cn.seen Rd.seen
 congr 1
theorem zxk (c : List Nat) : (Cn.seen (c.map Int.ofNat)).length = Rd.cls c := by
 rw [zAn, Rd.zFs Int.ofNat c (fun a _ b _ h => Int.ofNat.inj h), List.length_map]; rfl
theorem zpp {w : World} {v : Value} {c : List Nat} (hv : Lst w v (c.map Int.ofNat)) (hl : c.length <= 1000) :
  Calls prog 113 #[v] w fun r w' => r = .returned (.int .i64 (Rd.cls c : Nat)) /\ Up w w' := by
 refine (zAz (by rw [List.length_map]; omega) hv).mono ?_
 rintro r w' ⟨rfl, hu⟩
 exact ⟨by rw [zxk], hu⟩
def zBu (s : Sy.Lts) (n b : Nat) (w : World) (v4 v5 : Value) (wr : World) : Prop :=
 ∃ (k : Nat) (vs : List Value) (ao : Option Addr) (cap : Nat), k <= Rd.last s /\ v4 = .slice ao n cap /\ Hid (Up w wr /\ Lst wr v4 ((Rd.R s k).map Int.ofNat) /\ zb4 b wr vs (zc9 s (k + 1)) /\ b <= wr.heap.size) /\ wr.ownsRow b 27 1 v5 (k + 1) vs
def zB5 (s : Sy.Lts) (w : World) (r : Ending) (w' : World) : Prop :=
 ∃ ao cap vs, r = .returned (.slice ao (Rd.last s + 1) cap) /\ Up w w' /\ w'.ownsRow w.heap.size 27 1 (.slice ao (Rd.last s + 1) cap) (Rd.last s + 1) vs /\ zb4 w.heap.size w' vs (Rd.rounds s)
theorem zf7 {s : Sy.Lts} {se : Value} {w : World} (hR : Sy.Right s) (hs : Ls3 w se s.es) (aR : zfg se) :
  Calls prog 72 #[zCb s se] w (zB5 s w) := by
 obtain ⟨i0, hi, a2, a3, a7⟩ := info_parts Tryz.zD6
 obtain ⟨j0, hj, gz0, gz1, gz2⟩ := info_parts Tryz.zCp
 obtain ⟨ao, cap, rfl⟩ := zaf hs
 obtain ⟨n, hn⟩ : ∃ n : Nat, s.n = (n : Nat) := ⟨s.n.toNat, by have := hR.n0; omega⟩
 have aA : n <= 1000 := by have := hR.n1; omega
 have aS : s.n.toNat = n := by rw [hn]; rfl
 have ag := zh aS
 have HR := zh hR
 have ah : ∀ W, Up w W -> Calls prog 109 #[.agg #[.int .i64 s.n, .int .i64 s.m, .int .i64 s.start, .slice ao s.es.length cap]] W (zpm s n W) := fun W hu => zjf hR (hs.up hu) aR n hn
 rw [hn] at ah
 obtain ⟨L, hL⟩ := nm (s.es.length)
 rw [<- hL] at ah ⊢
 have aD := zh ah
 have am : Hid (Rd.last s + 1 <= 1001) := zh (by have := zd2 hR; rwa [Rd.zD4] at this)
 unfold zCb
 rw [hn]
 clear hR hs aR hn aS ah hL
 have aT := heap_alloc_new w (.cells #[.int .i64 (n : Nat), .int .i64 s.m, .int .i64 s.start, .slice ao L cap] 24)
 have a8 := zh aT
 have aU : Hid (Up w (w.alloc (.cells #[.int .i64 (n : Nat), .int .i64 s.m, .int .i64 s.start, .slice ao L cap] 24))) := zh ((Up.refl w).alloc _)
 clear aT
 go_enter func72, ntmps72
 go_upto_region 2 with (go_at_call 109; refine (aD.out _ aU.out).mono ?_; rintro r w1 ⟨aE, O, ovs, rfl, hO, an, aV, aq⟩; (have c0 := (za6 ((aE.block _ (by simp)).trans a8.out)).1.1); (have aF := zh (aU.out.trans aE)); (have ba : Hid (zd9 s w1 O n) := zh (fun p hp => ⟨ovs.getD p undef, an.cell (by simp [List.getD, show p < ovs.length by rw [aV]; exact hp]), aq p hp⟩)); clear aE hO an aV aq)
 go_upto_region 3 with (at_make; refine wpList_make_full _ rfl _ _ 27 rfl w1.heap.size 3 j0 (.int .i64 0) 1 underlying27 hj gz0 gz1 _ _ _ _ n rfl rfl rfl rfl (by rw [gz2]; omega) (by unfold maxLen; omega) (Nat.le_refl _) ?_; intro w2 ai ab)
 have aG : Up w1 w2 := (Up.refl w1).grown ab (fun k hk => by cases hk)
 have ac : w2.ownsRow w1.heap.size 3 1 (.slice (some ⟨w1.heap.size, 0, none⟩) n n) (Rd.R s 0).length (ivs ((Rd.R s 0).map Int.ofNat)) := by
  have e : (madeCells (Value.int .i64 0).cells (n * 1)).toList = ivs ((Rd.R s 0).map Int.ofNat) := by
   rw [Nat.mul_one, show ivs ((Rd.R s 0).map Int.ofNat) = List.replicate n (Value.int .i64 0) by simp [Rd.R, ivs, ag.out]]; exact toList_madeCells_one _ _
  have h := ai
  rw [e] at h
  rw [Rd.zD0, ag.out]; exact h
 obtain ⟨ad, aa⟩ := zjt aG ac
 have au := aG.alloc (.cells #[.slice (some ⟨w1.heap.size, 0, none⟩) n n] 27)
 obtain ⟨w3, aB⟩ := nm (w2.alloc (.cells #[.slice (some ⟨w1.heap.size, 0, none⟩) n n] 27))
 rw [<- aB] at ad aa au
 have aW : Lst w3 (.slice (some ⟨w1.heap.size, 0, none⟩) n n) ((Rd.R s 0).map Int.ofNat) := by
  have h := zbv (l := (Rd.R s 0).map Int.ofNat) (by rw [List.length_map]; exact ac)
  rw [aB]; exact h.up ((Up.refl w2).alloc _)
 have H0 : Hid (Up w w3 /\ Lst w3 (.slice (some ⟨w1.heap.size, 0, none⟩) n n) ((Rd.R s 0).map Int.ofNat) /\ zb4 w1.heap.size w3 [.slice (some ⟨w1.heap.size, 0, none⟩) n n] (zc9 s (0 + 1)) /\ w1.heap.size <= w3.heap.size) := zh ⟨aF.out.trans au, aW, aa, au.size⟩
 have aH := zh ad
 have bb := zh au
 have hw1s : w.heap.size <= w1.heap.size := aF.out.size
 clear ai ab aG ac ad aa au aW c0
 go_wp2_with fail
 rw [<- aB]
 clear aB
 go_loopw [4, 5] (fun v4 v5 wr => zBu s n w1.heap.size w1 v4 v5 wr) (fun _ v5 _ => 1002 - sliceLen v5)
 case atStart => exact ⟨0, _, _, _, Nat.zero_le _, rfl, zh ⟨bb.out, H0.out.2.1, H0.out.2.2.1, H0.out.2.2.2⟩, aH.out⟩
 case round =>
  obtain ⟨k, vs, a4, c4, hk, rfl, HI, ak⟩ := hrel
  obtain ⟨a5, c5, bc⟩ := za1 ak
  subst bc
  have HO := zh ak
  clear ak
  have aX : Hid (∀ W, Up wr W -> Calls prog 112 #[.slice (some ⟨O, 0, none⟩) n n, .slice a4 n c4] W fun r w' => ∃ a6 c6, r = .returned (.slice a6 n c6) /\ w'.ownsRow W.heap.size 3 1 (.slice a6 n c6) (Rd.R s (k + 1)).length (ivs ((Rd.R s (k + 1)).map Int.ofNat)) /\ Up W w') := zh (fun W hu =>
   (zoo HR.out ag.out (ba.out.up (HI.out.1.trans hu)) (HI.out.2.1.up hu) (by rw [Rd.zD0, ag.out]) (Rd.zIa s k (by rw [ag.out]; exact aA))).mono (by
    rintro r w' ⟨a6, c6, rfl, ho, aj⟩
    have e : ((Rd.next s (Rd.R s k)).map Int.ofNat).length = n := by rw [List.length_map, Rd.zDh, Rd.zD0, ag.out]
    rw [e] at ho ⊢
    exact ⟨a6, c6, rfl, by rw [Rd.zD0, ag.out]; exact ho, aj⟩))
  have aI : Hid (∀ W, Up wr W -> Calls prog 113 #[.slice a4 n c4] W fun r w' => r = .returned (.int .i64 (Rd.cls (Rd.R s k) : Nat)) /\ Up W w') := zh (fun W hu => zpp (HI.out.2.1.up hu) (by rw [Rd.zD0, ag.out]; exact aA))
  obtain ⟨t0, aJ⟩ := nm (Rd.cls (Rd.R s k))
  obtain ⟨t1, aK⟩ := nm (Rd.cls (Rd.R s (k + 1)))
  rw [<- aJ] at aI
  have aY : Hid (t1 = t0 ↔ Rd.R s (k + 1) = Rd.R s k) := zh (by rw [aJ, aK]; exact Rd.zIb s k)
  have HT1E := zh aK
  clear aJ aK
  by_cases htt : t1 = t0
  ·have q1 : ((t1 : Int) == (t0 : Int)) = true := by simp [htt]
   have aC := zsz hk (aY.out.1 htt)
   have bd := zh aC
   clear htt aC
   go_wp2_with (first
    | (go_at_call 112; refine (aX.out _ (Up.refl _)).mono ?_; rintro r w6 ⟨a6, c6, rfl, av, aj⟩; (have aL : Hid (∀ W, Up w6 W -> Calls prog 113 #[.slice a6 n c6] W fun r w' => r = .returned (.int .i64 (t1 : Nat)) /\ Up W w') := zh (fun W hu => by rw [HT1E.out]; exact zpp ((zbv (l := (Rd.R s (k + 1)).map Int.ofNat) (by rw [List.length_map]; exact av)).up hu) (by rw [Rd.zD0, ag.out]; exact aA))); clear av)
    | (go_at_call 113; (with_reducible refine (aL.out _ (Up.refl _)).mono ?_); rintro r w7 ⟨rfl, al⟩)
    | (go_at_call 113; (with_reducible refine (aI.out _ (aj.trans al)).mono ?_); rintro r w8 ⟨rfl, aw⟩))
   go_ret
   have hu := (aj.trans al).trans aw
   obtain rfl := bd.out
   refine ⟨a5, c5, vs, rfl, (aF.out.trans HI.out.1).trans hu, za8 (hu.owns HO.out) hw1s, ?_⟩
   rw [<- zk4]
   exact (HI.out.2.2.1.up hu).base hw1s
  ·have q1 : ((t1 : Int) == (t0 : Int)) = false := by simp; omega
   have aC := zu4 hk (fun e => htt (aY.out.2 e))
   have bj : k + 1 <= 1001 := by have := am.out; omega
   clear htt
   go_upto_region 8 with (first
    | (go_at_call 112; refine (aX.out _ (Up.refl _)).mono ?_; rintro r w6 ⟨a6, c6, rfl, av, aj⟩; (have aZ := zh av); (have aL : Hid (∀ W, Up w6 W -> Calls prog 113 #[.slice a6 n c6] W fun r w' => r = .returned (.int .i64 (t1 : Nat)) /\ Up W w') := zh (fun W hu => by rw [HT1E.out]; exact zpp ((zbv (l := (Rd.R s (k + 1)).map Int.ofNat) (by rw [List.length_map]; exact aZ.out)).up hu) (by rw [Rd.zD0, ag.out]; exact aA))); clear av)
    | (go_at_call 113; (with_reducible refine (aL.out _ (Up.refl _)).mono ?_); rintro r w7 ⟨rfl, al⟩)
    | (go_at_call 113; (with_reducible refine (aI.out _ (aj.trans al)).mono ?_); rintro r w8 ⟨rfl, aw⟩))
   have aM := zh (al.trans aw)
   have ax := zh ((aj.trans al).trans aw)
   have be : w1.heap.size <= w8.heap.size := Nat.le_trans HI.out.2.2.2 ax.out.size
   clear aj al aw
   go_wp2_with (at_builtin; (refine wpList_append_own _ rfl _ _ 36 rfl w1.heap.size 27 i0 (.slice none 0 0) 1 24 underlying36 hi a2 a3 a7 rfl (by decide) _ (k + 1) _ rfl (Up.owns (w := wr) (ax.out.alloc _) HO.out) ⟨w8.heap.size, 0, none⟩ 1 1 [.slice a6 n c6] rfl rfl (cell_one_new _ _ _) (zey _ _ _) (by unfold maxLen; omega) (by omega) (by simp; omega) ?_); intro v9 w9 ae af ay; clear ay)
   have aN := (ax.out.owns HO.out).alloc (.cells #[.slice a6 n c6] 27)
   have aO : (w8.alloc (.cells #[.slice a6 n c6] 27)).grownBy w9 (Value.slice a5 (k + 1) c5).ownBlock := af
   have a0 : zb4 w1.heap.size w8 (vs ++ [.slice a6 n c6]) (zc9 s (k + 1 + 1)) := by
    rw [zhi]
    exact (HI.out.2.2.1.snoc (w := w8) ax.out HI.out.2.2.2 (aM.out.owns aZ.out))
   have aP : zb4 w1.heap.size w9 (vs ++ [.slice a6 n c6]) (zc9 s (k + 1 + 1)) := zb4.grown (a0.up ((Up.refl _).alloc _)) aN (by decide) aO
   have a1 : Lst w9 (.slice a6 n c6) ((Rd.R s (k + 1)).map Int.ofNat) := by
    have h := aP.2.1 (k + 1) (by simp [zc9])
    have e1 : (vs ++ [Value.slice a6 n c6]).getD (k + 1) undef = .slice a6 n c6 := by
     have bf : vs.length = k + 1 := by rw [HI.out.2.2.1.1]; simp [zc9]
     rw [<- bf]; exact zbd _ _ _
    have e2 : (zc9 s (k + 1 + 1)).getD (k + 1) [] = Rd.R s (k + 1) := by simp [zc9, List.getD]
    rw [e1, e2] at h
    exact zbv (l := (Rd.R s (k + 1)).map Int.ofNat) (by rw [List.length_map]; exact h)
   have aQ : Up w1 w9 := ((HI.out.1.trans ax.out).alloc _).grown aO (fun j hj => (aN.lt j hj).1)
   have H9 := zh (And.intro aQ (And.intro a1 (And.intro aP aQ.size)))
   have bh := zh ae
   obtain ⟨a9, c9, bi⟩ := za1 ae
   subst bi
   clear aN aO a0 aP a1 aQ ae af
   go_roundw
   case rel => exact ⟨k + 1, _, a6, c6, aC, rfl, H9, bh.out⟩
   case measure => simp [sliceLen]; omega
end Go.Proofs.YtoaoajfjcfcmhaaGreatDoor
namespace Go.Proofs.YtoaoajfjcfcmhaaGreatDoor
open Go.RowKit Go.Extern.Stop Go.Stop Go.Extern
def zb8 : ByteArray := { data := #[115, 121, 115, 116, 101, 109, 32] }
def zDt (code : Int) (l : ByteArray) : Value := .agg #[.int .i64 code, .int .i64 0, .int .i64 0, .string l]
def zhd : Value := zDt 0 { data := #[] }
theorem zxd (k : Int) (w : World) :
  Calls prog 70 #[.string zar, .int .i64 k] w fun r w' => r = .returned (zDt k zb8) /\ Up w w' := by
 unfold zar
 go_enter func70, ntmps70
 go_wp2_with fail
 apply bodyPost_ret
 ·(simp [results, results70, go_sem]; rfl)
 ·rfl
 ·exact ⟨rfl, by repeat (first | (with_reducible exact Up.refl _) | (with_reducible apply Up.drew) | (with_reducible apply Up.alloc))⟩
theorem zmz {w : World} {v : Value} {a : Nat -> Addr} (h : Wraps w v (a 13)) (S : zF6 w a) : ∀ i, i < 13 ->
  Calls prog 20 #[v, .iface 335 (.pointer (some (a i)))] w fun e w' => e = .returned (.bool false) /\ w = w' := fun i hi => by
 obtain ⟨c, t, hc⟩ := (S.sent 13 (by decide)).blk
 obtain ⟨c1, t1, aa⟩ := (S.sent i (by omega)).blk
 exact zfb h (S.ne 13 i (by decide) (by omega) (by omega)) hc aa
theorem zwm {w : World} {v : Value} {a : Nat -> Addr} (h : Wraps w v (a 13)) (S : zF6 w a) :
  Calls prog 87 #[v] w fun r w' => r = .returned (.int .i64 14) /\ w = w' := by
 have H := zh (zmz h S)
 have HT := zh (zky h)
 obtain ⟨g10, g11, g12, g13⟩ := S.high
 obtain ⟨t, p, rfl⟩ := zec h
 clear S h
 go_enter func87, ntmps87
 go_wp2_with (first
  | (go_at_call 20; (with_reducible refine HT.out.mono ?_); rintro e w4 ⟨rfl, rfl⟩)
  | (go_at_call 20; (with_reducible refine (H.out _ (by decide)).mono ?_); rintro e w4 ⟨rfl, rfl⟩))
 go_ret
 exact ⟨rfl, rfl⟩
theorem zwa {w : World} {v : Value} {a : Nat -> Addr} (h : Wraps w v (a 13)) (S : zF6 w a) :
  Calls prog 23 #[v] w fun r w' => r = .returned (.int .i64 14) /\ w = w' := by
 have H := zh (zmz h S)
 have HR := zh (zwm h S)
 obtain ⟨g0, g1, g2, g3, g4, g5, g6, g7, g8, g9⟩ := S.low
 obtain ⟨t, p, rfl⟩ := zec h
 clear S h
 go_enter func23, ntmps23
 go_wp2_with (first
  | (go_at_call 87; refine HR.out.mono ?_; rintro e w4 ⟨rfl, rfl⟩)
  | (go_at_call 20; (with_reducible refine (H.out _ (by decide)).mono ?_); rintro e w4 ⟨rfl, rfl⟩))
 go_ret
 exact ⟨rfl, rfl⟩
def zpw (s : Sy.Lts) : Value := if Sy.right s = true then zhd else zDt 14 zb8
theorem zex (w : World) (A : Obj) : ((w.alloc A).alloc (.cells #[.int .i64 0, .int .i64 0, .int .i64 0, .string { data := #[] }] 32)).heap[w.heap.size + 1]? = some (.cells #[.int .i64 0, .int .i64 0, .int .i64 0, .string { data := #[] }] 32 (0, 0)) := by
 have h := heap_alloc_new (w.alloc A) (.cells #[.int .i64 0, .int .i64 0, .int .i64 0, .string { data := #[] }] 32)
 rwa [World.size_alloc] at h
theorem zmc (s : Sy.Lts) (se : Value) (w : World) (hs : Ls3 w se s.es) (hl : s.es.length <= maxLen) :
  Calls prog 141 #[zCb s se] w fun r w' => r = .returned (zpw s) /\ Up w w' := by
 have HR : Hid (∀ W, Up w W -> Calls prog 14 #[zCb s se] W fun r w' => r = .returned (.bool (Sy.right s)) /\ Up W w') := zh (fun W hu => zgk s se W (hs.up hu) hl)
 have HB : Hid (∀ W, Calls prog 70 #[.string { data := #[115, 121, 115, 116, 101, 109] }, .int .i64 14] W fun r w' => r = .returned (zDt 14 zb8) /\ Up W w') := zh (fun W => zxd 14 W)
 obtain ⟨ao, cap, rfl⟩ := zaf hs
 obtain ⟨L, hL⟩ := nm (s.es.length)
 unfold zpw
 unfold zCb at HR ⊢
 rw [<- hL] at HR ⊢
 clear hl hs hL
 have ae : Up w ((w.alloc (.cells #[.int .i64 s.n, .int .i64 s.m, .int .i64 s.start, .slice ao L cap] 24)).alloc (.cells #[.int .i64 0, .int .i64 0, .int .i64 0, .string { data := #[] }] 32)) := ((Up.refl w).alloc _).alloc _
 have ac := zh (zex w (.cells #[.int .i64 s.n, .int .i64 s.m, .int .i64 s.start, .slice ao L cap] 24))
 have ad := zh ae
 clear ae
 cases hr : Sy.right s
 ·rw [hr] at HR
  clear hr
  simp only [Bool.false_eq_true, if_false]
  unfold zDt at *
  go_enter func141, ntmps141
  go_wp2_with (first
   | (go_at_call 14; refine (HR.out _ ad.out).mono ?_; rintro r w1 ⟨rfl, aa⟩)
   | (go_at_call 70; refine (HB.out _).mono ?_; rintro r w2 ⟨rfl, af⟩; (have ab := ((aa.trans af).block _ (za0 ac.out)).trans ac.out); (obtain ⟨⟨e0, e1, e2, e3⟩, z0, z1, z2, z3⟩ := za6 ab)))
  obtain ⟨⟨y0, y1, y2, y3⟩, hT, -⟩ := zbf ab (.int .i64 14) (.int .i64 0) (.int .i64 0) (.string zb8)
  refine bodyPost_ret (v := .agg #[.int .i64 14, .int .i64 0, .int .i64 0, .string zb8]) (by simp [results, results141, go_sem, y0, y1, y2, y3]) rfl ⟨rfl, zaj ((ad.out.trans aa).trans af) (by omega) hT⟩
 ·rw [hr] at HR
  clear hr
  simp only [if_true]
  unfold zhd zDt
  go_enter func141, ntmps141
  go_wp2_with (go_at_call 14; refine (HR.out _ ad.out).mono ?_; rintro r w1 ⟨rfl, aa⟩; (have ab := (aa.block _ (za0 ac.out)).trans ac.out); (obtain ⟨⟨e0, e1, e2, e3⟩, z0, z1, z2, z3⟩ := za6 ab))
  obtain ⟨⟨y0, y1, y2, y3⟩, hT, -⟩ := zbf ab (.int .i64 0) (.int .i64 0) (.int .i64 0) (.string { data := #[] })
  refine bodyPost_ret (v := .agg #[.int .i64 0, .int .i64 0, .int .i64 0, .string { data := #[] }]) (by simp [results, results141, go_sem, y0, y1, y2, y3]) rfl ⟨rfl, zaj (ad.out.trans aa) (by omega) hT⟩
end Go.Proofs.YtoaoajfjcfcmhaaGreatDoor
namespace Go.Proofs.YtoaoajfjcfcmhaaGreatDoor
open Go.RowKit Go.Maps
theorem zj7 {P : Program} {f : FuncId} {args : Array Value} {w : World} {n : Nat} {v : Value}
  (h : Calls P f args (w.drewN n) fun e w' => e = .returned v /\ w.drewN n = w') : Calls P f args (w.drewN n) fun e w' => e = .returned v /\ ∃ m, w' = w.drewN m :=
 h.mono fun _ _ ⟨he, hm⟩ => ⟨he, n, hm.symm⟩
theorem zer {P : Program} {f : FuncId} {args : Array Value} {w : World} {a n : Nat} {v : Value}
  (h : Calls P f args (w.drewN (a + n)) fun e w' => e = .returned v /\ w.drewN (a + n) = w') :
  Calls P f args (w.drewN (a + n)) fun e w'' => e = .returned v /\ ∃ m, w'' = w.drewN (a + m) :=
 h.mono fun _ _ ⟨he, hm⟩ => ⟨he, n, hm.symm⟩
theorem Tryz.zIr (v : Value) (w : World) : (Instr.typeAssert (.iface 70 v) 50 70 true).run prog w = .ok (.tuple #[v, .bool true]) w := by kernel_rfl
theorem Tryz.zG9 (v : Value) (w : World) : (Instr.typeAssert (.iface 335 v) 50 70 true).run prog w = .ok (.tuple #[.pointer none, .bool false]) w := by kernel_rfl
theorem zhr {P : Program} {f : FuncId} {args : Array Value} {w : World} {a b n : Nat} {v : Value}
  (h : Calls P f args (w.drewN (a + b + n)) fun e w' => e = .returned v /\ w.drewN (a + b + n) = w') :
  Calls P f args (w.drewN (a + b + n)) fun e w'' => e = .returned v /\ ∃ m, w'' = w.drewN (a + b + m) :=
 h.mono fun _ _ ⟨he, hm⟩ => ⟨he, n, hm.symm⟩
end Go.Proofs.YtoaoajfjcfcmhaaGreatDoor
