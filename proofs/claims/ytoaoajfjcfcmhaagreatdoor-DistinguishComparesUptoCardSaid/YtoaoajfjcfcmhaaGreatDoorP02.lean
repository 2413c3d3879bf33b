/- Walks: fault.New, system.offends, system.Check. append onto a slice that the call owns: what else keeps its rows. -/
import Derived.Test.YtoaoajfjcfcmhaaGreatDoorP01
import Derived.WalkLawsBesides
import Derived.StillTailTactics
import Derived.Shelf.SlSortCmp.InsertionK
import Derived.Maps.AppendAt
import Derived.Deep.DeepCutAuto
import Derived.RegionTactic
import Derived.BigRegion
import Derived.Deep.RegionHeld3
set_option linter.unusedVariables false
set_option linter.unusedSimpArgs false
set_option maxHeartbeats 16000000
set_option maxRecDepth 100000
open Go.Proofs.Tryz
namespace Go.Proofs.YtoaoajfjcfcmhaaGreatDoor
open Go.RowKit
theorem za0 {w : World} {k : Nat} {o : Obj} (h : w.heap[k]? = some o) : k < w.heap.size := (Array.getElem?_eq_some_iff.1 h).1
def zas (w : World) (pb : Nat) (layer : ByteArray) (v : Value) : Prop := w.heap[pb]? = some (.cells #[.string layer, .int .i64 0, .int .i64 0, v] 79 (0, 0))
theorem zas.up {w w1 : World} {pb : Nat} {l : ByteArray} {v : Value} (h : zas w pb l v) (hu : Up w w1) : zas w1 pb l v := (hu.block pb (za0 h)).trans h
def zac (pb : Nat) : Value := .iface 70 (.pointer (some ⟨pb, 0, none⟩))
theorem zci (l : ByteArray) (xt : TypeId) (xv : Value) (w : World) :
  Calls prog 75 #[.string l, .iface xt xv] w fun e w' => e = .returned (.iface 70 (.pointer (some ⟨w.heap.size, 0, none⟩))) /\ w' = w.alloc (.cells #[.string l, .int .i64 0, .int .i64 0, .iface xt xv] 79) := by
 go_enter func75, ntmps75
 go_wp2_with fail
 go_ret
 exact ⟨rfl, rfl⟩
theorem zao {a b : Bool} (h : a = b) : Ending.returned (.bool a) = .returned (.bool b) := by rw [h]
theorem ze0 {a b : Int} (h : a = b) : Ending.returned (.int .i64 a) = .returned (.int .i64 b) := by rw [h]
def zCb (s : Sy.Lts) (se : Value) : Value := .agg #[.int .i64 s.n, .int .i64 s.m, .int .i64 s.start, se]
theorem zhu (n m st : Int) (se : Value) (a b c : Int) (hs : ∃ ao k cap, se = .slice ao k cap) (w : World) :
  Calls prog 176 #[.agg #[.int .i64 n, .int .i64 m, .int .i64 st, se], .agg #[.int .i64 a, .int .i64 b, .int .i64 c]] w fun r w' =>
   r = .returned (.bool (!decide (0 <= a /\ 0 <= c /\ 0 <= b /\ a < n /\ c < n /\ b < m))) /\ Up w w' := by
 obtain ⟨ao, k, cap, rfl⟩ := hs
 go_enter func176, ntmps176
 go_wp2_with fail
 all_goals (go_ret; exact ⟨zao (by simp <;> omega), ((Up.refl w).alloc _).alloc _⟩)
def zar : ByteArray := { data := #[115, 121, 115, 116, 101, 109] }
def Checked' (s : Sy.Lts) (w : World) (x : Value) (r : Ending) (w' : World) : Prop :=
 Up w w' /\ ((Sy.right s = true /\ r = .returned .nilIface) \/ (Sy.right s = false /\ r = .returned (zac (w.heap.size + 1)) /\ zas w' (w.heap.size + 1) zar x))
theorem zn1 {s : Sy.Lts} (h : s.n < 0 \/ 1000 < s.n \/ s.m < 1 \/ 201 < s.m \/ s.start < 0 \/ 0 < s.start /\ s.n <= s.start \/ 10000 < s.es.length) : Sy.right s = false := by
 cases hr : Sy.right s with
 | false => rfl
 | true => have := (Sy.zCj s).1 hr; obtain ⟨h1, h2, h3, h4, h5, h6, h7, _⟩ := this; omega
theorem zk2 {s : Sy.Lts} {i : Nat} (hi : i < s.es.length) (h : Sy.zE9 s (s.es.getD i (0, 0, 0)) = false) : Sy.right s = false := by
 cases hr : Sy.right s with
 | false => rfl
 | true =>
  have hm : s.es.getD i (0, 0, 0) ∈ s.es := by rw [<- zaa _ hi]; exact List.getElem_mem hi
  have := ((Sy.zCj s).1 hr).ok _ hm
  unfold Sy.zE9 at h
  simp only [decide_eq_false_iff_not] at h
  exact absurd this h
theorem zmt {s : Sy.Lts} (h1 : 0 <= s.n /\ s.n <= 1000 /\ 1 <= s.m /\ s.m <= 201 /\ 0 <= s.start /\ (0 < s.start -> s.start < s.n) /\ s.es.length <= 10000) (h : ∀ i, i < s.es.length -> Sy.zE9 s (s.es.getD i (0, 0, 0)) = true) : Sy.right s = true := by
 unfold Sy.right
 rw [Bool.and_eq_true, decide_eq_true_eq, List.all_eq_true]
 refine ⟨h1, fun e he => ?_⟩
 obtain ⟨i, hi, rfl⟩ := List.mem_iff_getElem.1 he
 rw [zaa (0, 0, 0) hi]
 exact h i hi
theorem zmr (w : World) (A : Obj) (l : ByteArray) (v : Value) : zas ((w.alloc A).alloc (.cells #[.string l, .int .i64 0, .int .i64 0, v] 79)) (w.heap.size + 1) l v := by
 have := heap_alloc_new (w.alloc A) (.cells #[.string l, .int .i64 0, .int .i64 0, v] 79)
 rwa [World.size_alloc] at this
theorem zu0 (s : Sy.Lts) (se : Value) (xt : TypeId) (xv : Value) (w : World) (hs : Ls3 w se s.es) (hE : w.cell? ⟨13, 0, none⟩ = some (.iface xt xv)) (hl : s.es.length <= maxLen) :
  Calls prog 150 #[zCb s se] w (Checked' s w (.iface xt xv)) := by
 obtain ⟨ao, cap, g, off, rfl, ha, hc⟩ := hs
 obtain ⟨n, m, st, es⟩ := s
 simp only at ha hc hl ⊢
 unfold zCb
 simp only
 obtain ⟨k, hk⟩ := nm (es.length)
 rw [<- hk] at ha hl ⊢
 have HA := zh ha
 have HC := zh hc
 have HK := zh hk
 unfold maxLen at hl
 have aG : ∀ o, (w.alloc o).cell? ⟨13, 0, none⟩ = some (.iface xt xv) := fun o => ((Up.refl w).alloc o).cell hE
 clear ha hc hk hE
 by_cases hbad : n < 0 \/ 1000 < n \/ m < 1 \/ 201 < m \/ st < 0 \/ 0 < st /\ n <= st \/ 10000 < k
 ·have HW : Hid (Sy.right ⟨n, m, st, es⟩ = false) := zh (zn1 (by simp only; rw [<- HK.out]; exact hbad))
  go_enter func150, ntmps150
  go_wp2_with (go_at_call 75; (with_reducible refine (zci _ _ _ _).mono ?_); rintro e w2 ⟨rfl, rfl⟩)
  all_goals first
   | (exfalso; omega)
   | (go_ret; exact ⟨((Up.refl w).alloc _).alloc _, .inr ⟨HW.out, by simp [zac], zmr w _ _ _⟩⟩)
 ·have ax : 0 <= n := by omega
  have ay : n <= 1000 := by omega
  have aA : 1 <= m := by omega
  have aB : m <= 201 := by omega
  have aC : 0 <= st := by omega
  have ai : 0 < st -> st < n := by omega
  have aD : k <= 10000 := by omega
  clear hbad
  have q1 : decide (n < 0) = false := by simp; omega
  have q2 : decide (1000 < n) = false := by simp; omega
  have q3 : decide (m < 1) = false := by simp; omega
  have q4 : decide (201 < m) = false := by simp; omega
  have q5 : decide (st < 0) = false := by simp; omega
  have key : st = 0 \/ 0 < st := by omega
  have aj := zh ai
  clear ai
  obtain ⟨A, hA⟩ := nm (Obj.cells #[.int .i64 n, .int .i64 m, .int .i64 st, .slice ao k cap] 24)
  obtain ⟨w3, aa⟩ := nm ((w.alloc A).alloc (.cells #[.string zar, .int .i64 0, .int .i64 0, .iface xt xv] 79))
  have ak : Up w w3 := by rw [aa]; exact ((Up.refl w).alloc _).alloc _
  have al : zas w3 (w.heap.size + 1) zar (.iface xt xv) := by rw [aa]; exact zmr w _ _ _
  have am : w3.heap[w.heap.size]? = some A := by rw [aa]; exact ((Up.refl (w.alloc A)).alloc _).block _ (by simp) |>.trans (heap_alloc_new w A)
  have ab := zh ak
  have aE := zh al
  have an := zh am
  have aF := zh aa
  have aq := zh hA
  clear ak al am aa hA
  rcases key with rfl | h0
  all_goals try have aH := aj.out h0
  all_goals
   go_enter func150, ntmps150
   go_wp2_with (go_at_call 75; (with_reducible refine (zci _ _ _ _).mono ?_); rintro e w2 ⟨rfl, rfl⟩)
   go_loopw [54] (fun i wr => ∃ j : Nat, j <= k /\ i = .int .i64 j /\ Up w3 wr /\ Hid (∀ i, i < j -> Sy.zE9 ⟨n, m, 0, []⟩ (es.getD i (0, 0, 0)) = true)) (fun i _ => k - (intOf i).toNat)
   case atStart => exact ⟨0, Nat.zero_le _, rfl, by rw [aF.out, aq.out]; exact Up.refl _, fun i hi => by omega⟩
   case round =>
    obtain ⟨j, hj, rfl, hU, HE⟩ := hrel
    by_cases hlt : j < k
    ·obtain rfl := HA.out (by omega)
     have au : j < es.length := by rw [<- HK.out]; exact hlt
     have av := HC.out j au
     obtain ⟨x, hx⟩ := nm (es.getD j (0, 0, 0))
     rw [<- hx] at av
     obtain ⟨x1, x2, x3⟩ := x
     have HX := zh hx
     clear hx
     obtain ⟨ae, af, ag⟩ := av
     simp only at ae af ag
     have hb := aq.out ▸ (hU.block _ (za0 an.out)).trans an.out
     have d0 := (ab.out.trans hU).cell ae
     have d1 := (ab.out.trans hU).cell af
     have d2 := (ab.out.trans hU).cell ag
     have bb : ∀ i v, (#[Value.int .i64 n, .int .i64 m, .int .i64 _, .slice (some ⟨g, off, none⟩) k cap] : Array Value)[i]? = some v -> ∀ o, (wr.alloc o).cell? ⟨w.heap.size, i, none⟩ = some v := fun i v hv o => ((Up.refl wr).alloc o).cell (by simp only [World.cell?, hb]; exact hv)
     have b0 := bb 0 _ rfl
     have b1 := bb 1 _ rfl
     have b2 := bb 2 _ rfl
     have b3 := bb 3 _ rfl
     clear bb
     clear ae af ag hb
     have aw : Hid (es.getD j (0, 0, 0) = (x1, x2, x3)) := HX.out.symm
     by_cases hok : 0 <= x1 /\ 0 <= x3 /\ 0 <= x2 /\ x1 < n /\ x3 < n /\ x2 < m
     ·have ac := fun (st' : Int) se (hs : ∃ ao k cap, se = Value.slice ao k cap) W => zh (zhu n m st' se x1 x2 x3 hs W)
      rw [show (!decide (0 <= x1 /\ 0 <= x3 /\ 0 <= x2 /\ x1 < n /\ x3 < n /\ x2 < m)) = false by simp [hok]] at ac
      go_wp2_with (go_at_call 176; (with_reducible refine (ac _ _ ⟨_, _, _, rfl⟩ _).out.mono ?_); rintro e w5 ⟨rfl, ad⟩)
      go_roundw
      case rel => exact ⟨j + 1, by omega, by go_num, (hU.alloc _).trans ad, fun i hi => by
       by_cases hij : i = j
       ·subst hij; rw [aw.out]; unfold Sy.zE9; simpa using hok
       ·exact HE.out i (by omega)⟩
      case measure => simp [intOf]; omega
     ·have ac := fun (st' : Int) se (hs : ∃ ao k cap, se = Value.slice ao k cap) W => zh (zhu n m st' se x1 x2 x3 hs W)
      rw [show (!decide (0 <= x1 /\ 0 <= x3 /\ 0 <= x2 /\ x1 < n /\ x3 < n /\ x2 < m)) = true by simp only [hok, decide_false, Bool.not_false]] at ac
      have ah : Hid (∀ st', Sy.right ⟨n, m, st', es⟩ = false) := zh (fun st' => zk2 (i := j) au (by rw [aw.out]; unfold Sy.zE9; simp only [hok, decide_false]))
      clear hok
      go_wp2_with (go_at_call 176; (with_reducible refine (ac _ _ ⟨_, _, _, rfl⟩ _).out.mono ?_); rintro e w5 ⟨rfl, ad⟩)
      go_ret
      exact ⟨ab.out.trans ((hU.alloc _).trans ad), .inr ⟨ah.out _, by simp [zac], aE.out.up ((hU.alloc _).trans ad)⟩⟩
    ·obtain rfl : j = k := by omega
     have HR := zh (zmt (s := ⟨n, m, _, es⟩) ⟨ax, ay, aA, aB, aC, aj.out, by simp only; rw [<- HK.out]; exact aD⟩ (fun i hi => HE.out i (by rw [HK.out]; exact hi)))
     go_wp2_with fail
     go_ret
     exact ⟨ab.out.trans hU, .inl ⟨HR.out, rfl⟩⟩
end Go.Proofs.YtoaoajfjcfcmhaaGreatDoor
namespace Go.Proofs.YtoaoajfjcfcmhaaGreatDoor
open Go.RowKit Go.Sort
def zFj (x y : Int) : Int := if x < y then -1 else if y < x then 1 else 0
theorem zBk (x : Int) (w : World) : Calls prog 154 #[.int .i64 x] w fun e w' => e = .returned (.bool false) /\ w = w' := by
 have q : (x != x) = false := by simp
 go_enter func154, ntmps154
 go_wp2_with fail
 go_ret
 exact ⟨rfl, rfl⟩
theorem zlf (x y : Int) (w : World) : Calls prog 122 #[.int .i64 x, .int .i64 y] w fun e w' => e = .returned (.int .i64 (zFj x y)) /\ w' = w := by
 have HN := fun z W => zh (zBk z W)
 go_enter func122, ntmps122
 go_wp2_with (go_at_call 154; (with_reducible refine (HN _ _).out.mono ?_); rintro e w' ⟨rfl, rfl⟩)
 all_goals (go_ret; exact ⟨ze0 (by unfold zFj; split <;> (try split) <;> first | rfl | omega), rfl⟩)
def or3 (a b c : Int) : Int := if a ≠ 0 then a else if b ≠ 0 then b else c
theorem zxz (a b c : Int) (g cap : Nat) (w : World) (h0 : w.cell? ⟨g, 0, none⟩ = some (.int .i64 a)) (h1 : w.cell? ⟨g, 1, none⟩ = some (.int .i64 b)) (h2 : w.cell? ⟨g, 2, none⟩ = some (.int .i64 c)) :
  Calls prog 121 #[.slice (some ⟨g, 0, none⟩) 3 cap] w fun e w' => e = .returned (.int .i64 (or3 a b c)) /\ w' = w := by
 by_cases ha : a = 0
 ·by_cases hb : b = 0
  ·subst ha hb
   by_cases hc : c = 0
   ·subst hc
    go_enter func121, ntmps121
    go_wp2_with fail
    refine wp_loop_rounds 4 ?_
    iterate 4 (rw [rounds_succ]; go_wp2)
    go_ret
    exact ⟨rfl, rfl⟩
   ·have qc : (c != 0) = true := by simpa using hc
    go_enter func121, ntmps121
    go_wp2_with fail
    refine wp_loop_rounds 3 ?_
    iterate 3 (rw [rounds_succ]; go_wp2)
    go_ret
    exact ⟨ze0 (by simp [or3]), rfl⟩
  ·subst ha
   have qb : (b != 0) = true := by simpa using hb
   go_enter func121, ntmps121
   go_wp2_with fail
   refine wp_loop_rounds 2 ?_
   iterate 2 (rw [rounds_succ]; go_wp2)
   go_ret
   exact ⟨ze0 (by simp [or3, hb]), rfl⟩
 ·have qa : (a != 0) = true := by simpa using ha
  go_enter func121, ntmps121
  go_wp2_with fail
  refine wp_loop_rounds 1 ?_
  iterate 1 (rw [rounds_succ]; go_wp2)
  go_ret
  exact ⟨ze0 (by simp [or3, ha]), rfl⟩
def cf3 (x y : Sy.Edge) : Int := or3 (zFj x.1 y.1) (zFj x.2.1 y.2.1) (zFj x.2.2 y.2.2)
def zKh (x y : Sy.Edge) : Int := or3 (zFj x.2.2 y.2.2) (zFj x.2.1 y.2.1) (zFj x.1 y.1)
theorem zya : ltOf cf3 = Sy.lt3 := by
 funext x y
 unfold ltOf Sy.lt3
 congr 1
 unfold cf3 or3 zFj
 apply propext
 repeat' split
 all_goals omega
theorem zsm : ltOf zKh = Sy.lt3r := by
 funext x y
 unfold ltOf Sy.lt3r
 congr 1
 unfold zKh or3 zFj
 apply propext
 repeat' split
 all_goals omega
theorem zBf (w : World) (A B C : Obj) : ∃ q os, (((w.alloc A).alloc B).drew).alloc C = grow (w.drewN q) os :=
 ⟨1, #[A, B, C], by simp only [alloc_eq_grow]; show grow (grow (grow (w.drewN 1) #[A]) #[B]) #[C] = _; rw [grow_grow, grow_grow]; rfl⟩
theorem zu9 (x y : Sy.Edge) (w : World) : Calls prog 177 #[.agg #[.int .i64 x.1, .int .i64 x.2.1, .int .i64 x.2.2], .agg #[.int .i64 y.1, .int .i64 y.2.1, .int .i64 y.2.2]] w fun e w' =>
  e = .returned (.int .i64 (cf3 x y)) /\ ∃ q os, w' = grow (w.drewN q) os := by
 obtain ⟨x1, x2, x3⟩ := x
 obtain ⟨y1, y2, y3⟩ := y
 unfold cf3
 simp only
 go_enter func177, ntmps177
 go_wp2_with fail
 refine wp_region_still_tail 15 (by kernel_rfl) (by kernel_rfl) ?_
 simp only [List.take_succ_cons, List.take_zero, List.drop_succ_cons, List.drop_zero]
 change wpStill _ _ (World.drew _) _ _ _
 repeat first | still_step | still_call (zlf _ _ _)
 refine wpStill_nil ?_
 change wpList _ _ _ _ _ (World.drew _)
 generalize h1 : zFj x1 y1 = c1
 replace h1 := zh h1
 generalize h2 : zFj x2 y2 = c2
 replace h2 := zh h2
 generalize h3 : zFj x3 y3 = c3
 replace h3 := zh h3
 go_wp2_with (go_at_call 121; (with_reducible refine (zxz c1 c2 c3 _ _ _ (by go_simp) (by go_simp) (by go_simp)).mono ?_); rintro e w4 ⟨rfl, rfl⟩)
 go_ret
 exact ⟨by rw [h1.out, h2.out, h3.out]; rfl, zBf w _ _ _⟩
theorem zvx (x y : Sy.Edge) (w : World) : Calls prog 120 #[.agg #[.int .i64 x.1, .int .i64 x.2.1, .int .i64 x.2.2], .agg #[.int .i64 y.1, .int .i64 y.2.1, .int .i64 y.2.2]] w fun e w' =>
  e = .returned (.int .i64 (zKh x y)) /\ ∃ q os, w' = grow (w.drewN q) os := by
 obtain ⟨x1, x2, x3⟩ := x
 obtain ⟨y1, y2, y3⟩ := y
 unfold zKh
 simp only
 go_enter func120, ntmps120
 go_wp2_with fail
 refine wp_region_still_tail 15 (by kernel_rfl) (by kernel_rfl) ?_
 simp only [List.take_succ_cons, List.take_zero, List.drop_succ_cons, List.drop_zero]
 change wpStill _ _ (World.drew _) _ _ _
 repeat first | still_step | still_call (zlf _ _ _)
 refine wpStill_nil ?_
 change wpList _ _ _ _ _ (World.drew _)
 generalize h1 : zFj x1 y1 = c1
 replace h1 := zh h1
 generalize h2 : zFj x2 y2 = c2
 replace h2 := zh h2
 generalize h3 : zFj x3 y3 = c3
 replace h3 := zh h3
 go_wp2_with (go_at_call 121; (with_reducible refine (zxz c3 c2 c1 _ _ _ (by go_simp) (by go_simp) (by go_simp)).mono ?_); rintro e w4 ⟨rfl, rfl⟩)
 go_ret
 exact ⟨by rw [h1.out, h2.out, h3.out]; rfl, zBf w _ _ _⟩
end Go.Proofs.YtoaoajfjcfcmhaaGreatDoor
namespace Go.Proofs.YtoaoajfjcfcmhaaGreatDoor
open Go.RowKit
def zlw (w w' : World) (v : Value) (n size : Nat) : Prop :=
 ∀ (b size' n0 : Nat) (e' : TypeId) (v0 : Value) (ys : List Value), w.ownsRow b e' size' v0 n0 ys -> (v0.ownBlock = v.ownBlock -> n0 * size' <= n * size) -> w'.ownsRow b e' size' v0 n0 ys
theorem zi4 {P : Program} (w : World) (base : Nat) (t ty e : TypeId) (i : TypeInfo) (z : Value) (size bytes : Nat) (ht : P.underlying t = some (.slice e)) (hi : P.info? e = some i) (hz : i.zero = some z)
  (aa : i.size = size) (ak : i.bytes = bytes) (an : z.cells.size = size) (ao : 0 < size)
  (v : Value) (n : Nat) (xs : List Value) (ad : w.ownsRow base e size v n xs)
  (a : Addr) (m c : Nat) (news : List Value) (hl : news.length = m * size) (ab : ∀ j u, news[j]? = some u -> w.cell? (a.add j) = some u) (h1 : ∀ u ∈ news, u.oneCell' = true)
  (al : n + m <= maxLen) (ac : (n + m) * bytes <= 140737488355328) (ae : base <= w.heap.size) :
  ∃ v' w', (Builtin.append_ #[t, t] ty #[v, .slice (some a) m c]).run P w = .ok v' w' /\ w'.ownsRow base e size v' (n + m) (xs ++ news) /\ w.grownBy w' v.ownBlock /\
   (v'.ownBlock = v.ownBlock \/ v'.ownBlock = some w.heap.size) /\ zlw w w' v n size := by
 obtain ⟨v', w', hr, h2, h3, _, h5⟩ := run_append_own_at (P := P) w base t ty e i z size bytes ht hi hz aa ak an ao v n xs ad a m c news hl ab h1 al ac ae
 refine ⟨v', w', hr, h2, h3, h5, ?_⟩
 intro b size' n0 e' v0 ys h0 aq
 rcases ad.2 with ⟨rfl, rfl⟩ | ⟨g, cap, cur, rfl, av, hg, aw, ax, au, am⟩
 ·exact za2 h0 (fun k hk => h3.block k (za3 h0 hk) (by simp [Value.ownBlock]))
 ·by_cases hsame : v0.ownBlock = some g
  ·by_cases hroom : n + m <= cap
   ·have ah : n * i.size + news.length <= cur.size := by rw [hl, au, aa, <- Nat.add_mul]; exact Nat.mul_le_mul_right _ hroom
    have ai := run_append_room (P := P) w t ty e i ht hi g n cap cur hg a m c news (by rw [aa]; exact hl) ab h1 hroom ah
    rw [ai] at hr
    simp only [Result.ok.injEq] at hr
    obtain ⟨_, rfl⟩ := hr
    have af : n0 * size' <= n * size := aq (by rw [hsame]; rfl)
    refine ⟨h0.1, ?_⟩
    rcases h0.2 with ⟨rfl, _⟩ | ⟨g0, cap0, cur0, rfl, b0, k0, n00, m0, s0, t0⟩
    ·cases hsame
    ·simp only [Value.ownBlock, Option.some.injEq] at hsame
     subst hsame
     rw [hg] at k0
     simp only [Option.some.injEq, Obj.cells.injEq, and_true] at k0
     obtain ⟨rfl, rfl⟩ := k0
     refine .inr ⟨g0, cap0, _, rfl, b0, setRow_heap w g0 cur _ _ _ hg, n00, m0, ?_, ?_⟩
     ·rw [<- s0]
      simp only [List.size_toArray, List.length_append, List.length_take, List.length_drop, Array.length_toList]
      omega
     ·rw [<- t0]
      show List.take (n0 * size') (List.take (n * i.size) cur.toList ++ news ++ List.drop (n * i.size + news.length) cur.toList) = _
      have aj : (List.take (n * i.size) cur.toList).length = n * i.size := by rw [List.length_take, Array.length_toList]; omega
      rw [List.append_assoc, List.take_append_of_le_length (by rw [aj, aa]; exact af), List.take_take, Nat.min_eq_left (by rw [aa]; exact af)]
   ·have ag : ∀ j u, xs[j]? = some u -> w.cell? ((⟨g, 0, none⟩ : Addr).add j) = some u := ad.cells (g := g) rfl
    have ai := run_append_grow (P := P) w t ty e i z ht hi hz ⟨g, 0, none⟩ n cap xs (by rw [aa]; exact ad.1) ag a m c news (by rw [aa]; exact hl) ab (by omega) (by simp only [maxLen] at al; omega) (growslice_fits (by omega) (by rw [ak]; exact ac))
    rw [ai] at hr
    simp only [Result.ok.injEq] at hr
    obtain ⟨_, rfl⟩ := hr
    exact za2 h0 (fun k hk => Below.heap_alloc w.drew _ k (za3 h0 hk))
  ·exact za2 h0 (fun k hk => h3.block k (za3 h0 hk) (by rw [show Value.ownBlock (.slice (some ⟨g, 0, none⟩) n cap) = some g from rfl]; intro e; rw [e] at hk; exact hsame hk))
theorem zax {P : Program} {w : World} {ops : Array Oper} {rest : List Oper} {o : Oper} {a : Act} {Q : Exit -> Act -> World -> Prop} (ag : o.guard = none) (s x : Operand) (t : TypeId)
  (ho : o.op = .call { callee := .builtin .append, args := #[s, x], argTypes := #[t, t] })
  (base : Nat) (e : TypeId) (i : TypeInfo) (z : Value) (size bytes : Nat) (ht : P.underlying t = some (.slice e)) (hi : P.info? e = some i) (hz : i.zero = some z)
  (ab : i.size = size) (ah : i.bytes = bytes) (ai : z.cells.size = size) (aj : 0 < size)
  (v : Value) (n : Nat) (xs : List Value) (hs : a.eval s = v) (af : w.ownsRow base e size v n xs)
  (ad : Addr) (m c : Nat) (news : List Value) (hx : a.eval x = .slice (some ad) m c) (hl : news.length = m * size) (ac : ∀ j u, news[j]? = some u -> w.cell? (ad.add j) = some u) (h1 : ∀ u ∈ news, u.oneCell' = true)
  (ak : n + m <= maxLen) (aa : (n + m) * bytes <= 140737488355328) (ae : base <= w.heap.size)
  (h : ∀ v' w', w'.ownsRow base e size v' (n + m) (xs ++ news) -> w.grownBy w' v.ownBlock -> (v'.ownBlock = v.ownBlock \/ v'.ownBlock = some w.heap.size) -> zlw w w' v n size -> wpList P ops Q rest (a.put o.dst v') w') :
  wpList P ops Q (o :: rest) a w := by
 refine wpList_plain ag fun K hK => ?_
 obtain ⟨v', w', hr, h2, h3, h4, h5⟩ := zi4 (P := P) w base t o.type e i z size bytes ht hi hz ab ah ai aj v n xs af ad m c news hl ac h1 ak aa ae
 unfold Oper.wp execOp
 simp only [ho, resolve, invoke, builtin, Sem.run_bind, Sem.run_pure, Result.andThen_ok, List.map_toArray, List.map_cons, List.map_nil, hs, hx, hr]
 exact hK _ _ (h v' w' h2 h3 h4 h5)
def marks (i k0 n : Nat) : List Int := (List.range n).map fun (k : Nat) => -1000000 * (i : Int) - ((k0 + k : Nat) : Int) - 7
theorem zab (i k0 n : Nat) : (marks i k0 n).length = n := by simp [marks]
theorem zg6 (i k0 : Nat) : marks i k0 0 = [] := rfl
theorem zc4 (i k0 n : Nat) : marks i k0 (n + 1) = marks i k0 n ++ [-1000000 * (i : Int) - ((k0 + n : Nat) : Int) - 7] := by
 simp [marks, List.range_succ]
theorem zdw (i k0 n m : Nat) : marks i k0 n ++ marks i (k0 + n) m = marks i k0 (n + m) := by
 induction m with
 | zero => simp [zg6]
 | succ m ih => rw [zc4, <- List.append_assoc, ih, <- Nat.add_assoc, zc4, Nat.add_assoc]
theorem Tryz.zHj : (prog.info? 3).map (fun i => (i.zero, i.size, i.bytes)) = some (some (.int .i64 0), 1, 8) := by kernel_rfl
def zA4 (w : World) (xs : List Int) (r : Ending) (w' : World) : Prop := ∃ v, r = .returned v /\ w'.ownsRow w.heap.size 3 1 v xs.length (xs.map (Value.int .i64)) /\ Up w w'
theorem zd5 (i k0 n : Nat) (w : World) (hi : i <= 1000000) (hk : k0 <= 1000000) (hn : n <= 1000000) :
  Calls prog 97 #[.int .i64 i, .int .i64 k0, .int .i64 n] w (zA4 w (marks i k0 n)) := by
 obtain ⟨i0, af, ag, ah, ai⟩ := info_parts Tryz.zHj
 have aj : Hid (∀ k, marks i k0 (k + 1) = marks i k0 k ++ [-1000000 * (i : Int) - ((k0 + k : Nat) : Int) - 7]) := fun k => zc4 i k0 k
 have ak : Hid (∀ k, (marks i k0 k).length = k) := fun k => zab i k0 k
 have al : IntKind.i64.wrap ((k0 : Int) + (n : Int)) = (k0 : Int) + (n : Int) := IntWalk.i64_in _ (by omega)
 go_enter func97, ntmps97
 go_wp2_with fail
 go_loopw [7, 8] (fun lv j wr => ∃ k : Nat, k <= n /\ j = .int .i64 ((k0 + k : Nat) : Int) /\ wr.ownsRow w.heap.size 3 1 lv k ((marks i k0 k).map (Value.int .i64)) /\ Up w wr) (fun _ j _ => (k0 + n) - (intOf j).toNat)
 case atStart => exact ⟨0, Nat.zero_le _, by simp, World.ownsRow_nil _ _ _ _, Up.refl w⟩
 case round =>
  obtain ⟨k, am, rfl, aa, ae⟩ := hrel
  have an := ae.size
  by_cases hlt : k < n
  ·have q1 : decide (((k0 + k : Nat) : Int) < (k0 : Int) + (n : Int)) = true := by simp; omega
   obtain ⟨so, sc, rfl⟩ := za1 aa
   obtain ⟨x, hx⟩ := nm (k0 + k)
   rw [<- hx] at q1
   have HX := zh hx
   have ao : (x : Int) <= 2000000 := by omega
   have aq : (i : Int) <= 1000000 := by omega
   have m1 : IntKind.i64.wrap (-1000000 * (i : Int)) = -1000000 * (i : Int) := IntWalk.i64_in _ (by omega)
   have m2 : IntKind.i64.wrap (-1000000 * (i : Int) - (x : Int)) = -1000000 * (i : Int) - (x : Int) := IntWalk.i64_in _ (by omega)
   have m3 : IntKind.i64.wrap (-1000000 * (i : Int) - (x : Int) - 7) = -1000000 * (i : Int) - (x : Int) - 7 := IntWalk.i64_in _ (by omega)
   rw [<- hx]
   clear hx
   go_wp2_with (at_builtin; (refine wpList_append_own _ rfl _ _ 27 rfl w.heap.size 3 i0 (.int .i64 0) 1 8 underlying27 af ag ah ai rfl (by decide) _ k _ rfl (aa.alloc _) ⟨wr.heap.size, 0, none⟩ 1 1 [.int .i64 (-1000000 * (i : Int) - (x : Int) - 7)] rfl rfl (cell_one_new wr _ _) (ints_oneCell .i64 [-1000000 * (i : Int) - (x : Int) - 7]) (by unfold maxLen; omega) (by omega) (by simp; omega) ?_); intro v' w2 ac ab ad; clear ad)
   go_roundw
   case rel => exact ⟨k + 1, by omega, by rw [HX.out]; go_num, by rw [aj.out, List.map_append, <- HX.out]; exact ac, (ae.alloc _).grown ab (fun g hg => (aa.lt g hg).1)⟩
   case measure => have au := HX.out; clear m1 m2 m3; simp [intOf]; omega
  ·have q1 : decide (((k0 + k : Nat) : Int) < (k0 : Int) + (n : Int)) = false := by simp; omega
   obtain rfl : k = n := by omega
   go_wp2_with fail
   go_ret
   exact ⟨_, rfl, by rw [ak.out]; exact aa, ae⟩
def nth (vs : List Value) (i : Nat) : Value := vs.getD i (.slice none 0 0)
def Apt (vs : List Value) : Prop := ∀ i j g, i < vs.length -> j < vs.length -> i ≠ j -> (nth vs i).ownBlock = some g -> (nth vs j).ownBlock ≠ some g
def InV (vs : List Value) (k : Nat) : Prop := ∃ i, i < vs.length /\ (nth vs i).ownBlock = some k
def Els (w : World) (vs : List Value) (C : Nat -> List Int) : Prop := ∀ i, i < vs.length -> w.ownsRow 0 3 1 (nth vs i) (C i).length ((C i).map (Value.int .i64))
theorem Els.up {w w' : World} {vs : List Value} {C : Nat -> List Int} (h : Els w vs C) (hu : Up w w') : Els w' vs C := fun i hi => hu.owns (h i hi)
theorem zdv {vs : List Value} {i : Nat} (h : i < vs.length) : vs[i]? = some (nth vs i) := by simp [nth, List.getD, h]
def upd (C : Nat -> List Int) (i : Nat) (x : List Int) (j : Nat) : List Int := if j = i then x else C j
theorem upd_same (C : Nat -> List Int) (i : Nat) (x : List Int) : upd C i x i = x := by simp [upd]
theorem ze4 {C : Nat -> List Int} {i j : Nat} {x : List Int} (h : j ≠ i) : upd C i x j = C j := by simp [upd, h]
theorem Els.set {w : World} {vs : List Value} {C : Nat -> List Int} (h : Els w vs C) (ha : Apt vs) {i g cap k : Nat} (hi : i < vs.length) (hv : nth vs i = .slice (some ⟨g, 0, none⟩) (C i).length cap) (x : Int) :
  Els (w.setCell ⟨g, k, none⟩ (.int .i64 x)) vs (upd C i ((C i).set k x)) := by
 intro j hj
 by_cases hji : j = i
 ·subst hji
  rw [upd_same, List.length_set]
  have h0 := h j hj
  rw [hv] at h0 ⊢
  obtain ⟨hr, h1, h2, h3⟩ := Row.of h0
  have := hr.set k (.int .i64 x)
  rw [<- List.map_set] at this
  exact this.owns h1 h2 (by simp)
 ·rw [ze4 hji]
  refine za2 (h j hj) (fun k' hk => Below.heap_setCell _ _ _ _ ?_)
  rintro rfl
  exact ha i j _ hi hj (fun e => hji e.symm) (by rw [hv]; rfl) hk
def zHk (M c : List Int) (k : Nat) : List Int := M.take k ++ c.drop k
theorem zuj (M c : List Int) : zHk M c 0 = c := by simp [zHk]
theorem zxn {M c : List Int} (h : M.length = c.length) : zHk M c c.length = M := by simp [zHk, <- h]
theorem zkv {M c : List Int} (h : M.length = c.length) {k : Nat} (hk : k <= c.length) : (zHk M c k).length = c.length := by simp [zHk]; omega
theorem zwq {M c : List Int} (h : M.length = c.length) {k : Nat} (hk : k < c.length) : (zHk M c k).set k (M.getD k 0) = zHk M c (k + 1) := by
 apply List.ext_getElem?
 intro j
 simp only [zHk, List.getElem?_set, List.getElem?_append, List.length_append, List.length_take, List.length_drop, List.getElem?_take, List.getElem?_drop, List.getD]
 rw [show min k M.length = k by omega, show min (k + 1) M.length = k + 1 by omega]
 by_cases h1 : k = j
 ·subst h1
  rw [if_pos rfl, if_pos (by omega), if_pos (by omega), if_pos (by omega), List.getElem?_eq_getElem (by omega)]
  rfl
 ·rw [if_neg h1]
  by_cases h2 : j < k
  ·rw [if_pos h2, if_pos h2, if_pos (by omega), if_pos (by omega)]
  ·rw [if_neg h2, if_neg (by omega)]
   congr 1; omega
theorem Els.ne {w : World} {vs : List Value} {C : Nat -> List Int} (h : Els w vs C) {base size m : Nat} {e : TypeId} {v : Value} {xs : List Value} (hv : w.ownsRow base e size v m xs) (he : e ≠ 3) {g : Nat} (hg : v.ownBlock = some g) : ¬ InV vs g := by
 rintro ⟨i, hi, hk⟩
 obtain ⟨c1, e1⟩ := za5 hv hg
 obtain ⟨c2, e2⟩ := za5 (h i hi) hk
 rw [e1] at e2
 simp only [Option.some.injEq, Obj.cells.injEq] at e2
 exact he e2.2.1
theorem Els.zG5 {w : World} {vs : List Value} {C : Nat -> List Int} (h : Els w vs C) {g : Nat} {cs : Array Value} {e : TypeId} (hb : w.heap[g]? = some (.cells cs e (0, 0))) (he : e ≠ 3) : ¬ InV vs g := by
 rintro ⟨i, hi, hk⟩
 obtain ⟨cur, hh⟩ := za5 (h i hi) hk
 rw [hb] at hh
 simp only [Option.some.injEq, Obj.cells.injEq] at hh
 exact he hh.2.1
structure zFx (w : World) (bk : Nat) (vi : Value) (vs : List Value) : Prop where
 c0 : w.cell? ⟨bk, 0, none⟩ = some vi
 ri : w.ownsRow 0 27 1 vi vs.length vs
structure zDm (w wr : World) (vs : List Value) (C : Nat -> List Int) : Prop where
 el : Els wr vs C
 tur : Turned (InV vs) w wr
theorem zDm.up {w wr w' : World} {vs : List Value} {C : Nat -> List Int} (h : zDm w wr vs C) (hu : Up wr w') : zDm w w' vs C :=
 ⟨h.el.up hu, h.tur.trans (T := fun _ => False) ⟨hu.os, hu.tape, hu.output, hu.size, fun k hk _ => hu.block k hk⟩ (fun _ _ h => h.elim)⟩
theorem zDm.set {w wr : World} {vs : List Value} {C : Nat -> List Int} (h : zDm w wr vs C) (ha : Apt vs) {i g cap k : Nat} (hi : i < vs.length) (hv : nth vs i = .slice (some ⟨g, 0, none⟩) (C i).length cap) (x : Int) :
  zDm w (wr.setCell ⟨g, k, none⟩ (.int .i64 x)) vs (upd C i ((C i).set k x)) :=
 ⟨h.el.set ha hi hv x, h.tur.setCell (p := ⟨g, k, none⟩) (.inl ⟨i, hi, by rw [hv]; rfl⟩) _⟩
def zEe (C : Nat -> List Int) (i j : Nat) : List Int := if j < i then marks j 0 (C j).length else C j
theorem zhg (C : Nat -> List Int) : zEe C 0 = C := by funext j; simp [zEe]
theorem zhz (C : Nat -> List Int) (i : Nat) : zEe C i i = C i := by simp [zEe]
theorem zhw (C : Nat -> List Int) (i : Nat) : upd (zEe C i) i (marks i 0 (C i).length) = zEe C (i + 1) := by
 funext j
 by_cases h : j = i
 ·subst h; simp [upd, zEe]
 ·simp only [upd, h, if_false, zEe]
  by_cases h2 : j < i
  ·rw [if_pos h2, if_pos (by omega)]
  ·rw [if_neg h2, if_neg (by omega)]
theorem znx (C : Nat -> List Int) (i : Nat) (x y : List Int) : upd (upd C i x) i y = upd C i y := by
 funext j; simp only [upd]; split <;> rfl
structure zIs (w : World) (bk : Nat) (ao : Option Addr) (ci g : Nat) (vs : List Value) : Prop where
 c0 : ∀ wr, Turned (InV vs) w wr -> wr.cell? ⟨bk, 0, none⟩ = some (.slice ao vs.length ci)
 el : ∀ wr i, Turned (InV vs) w wr -> i < vs.length -> ao = some ⟨g, 0, none⟩ /\ wr.cell? ⟨g, i, none⟩ = some (nth vs i)
theorem zFx.env {w : World} {bk : Nat} {vi : Value} {vs : List Value} {C : Nat -> List Int} {bc : Array Value} (h : zFx w bk vi vs) (he : Els w vs C) (hb : w.heap[bk]? = some (.cells bc 48 (0, 0))) :
  ∃ ao ci g, vi = .slice ao vs.length ci /\ zIs w bk ao ci g vs := by
 have aa : ¬ InV vs bk := he.zG5 hb (by decide)
 rcases za4 h.ri with ⟨rfl, h0, _⟩ | ⟨g, ci, rfl, hr, _⟩
 ·refine ⟨none, 0, 0, by rw [h0], fun wr ht => ?_, fun wr i ht hi => ?_⟩
  ·rw [h0]; exact ht.cell h.c0 aa
  ·omega
 ·refine ⟨_, ci, g, rfl, fun wr ht => ht.cell h.c0 aa, fun wr i ht hi => ⟨rfl, ?_⟩⟩
  exact ht.cell (hr.cell (zdv hi)) (he.ne h.ri (by decide) rfl)
theorem zou {w : World} {bk : Nat} {vi : Value} {vs : List Value} {C : Nat -> List Int} {bc : Array Value} (h : zFx w bk vi vs) (he : Els w vs C) (ha : Apt vs) (hb : w.heap[bk]? = some (.cells bc 48 (0, 0))) (hm : vs.length <= 400) (hC : ∀ i, i < vs.length -> (C i).length <= 1000000) :
  Calls prog 35 #[.pointer (some ⟨bk, 0, none⟩)] w fun r w' => r = .returned (.tuple #[]) /\ zDm w w' vs (zEe C vs.length) := by
 obtain ⟨ao, ci, g, rfl, ak⟩ := h.env he hb
 have HE := zh ak
 have H0 : Hid (zDm w w vs (zEe C 0)) := by rw [zhg]; exact ⟨he, Turned.refl _ _⟩
 obtain ⟨m, af⟩ := nm (vs.length)
 have HM := zh af
 have HC := zh hC
 have HA := zh ha
 rw [<- af] at hm ⊢
 have c00 := ak.c0 w (Turned.refl _ _)
 rw [<- af] at c00
 clear h he ha hb af hC ak
 go_enter func35, ntmps35
 go_wp2_with fail
 go_loopw [2] (fun i wr => ∃ k : Nat, k <= m /\ i = .int .i64 k /\ zDm w wr vs (zEe C k)) (fun i _ => m - (intOf i).toNat)
 case atStart => exact ⟨0, Nat.zero_le _, rfl, H0.out⟩
 case round =>
  clear H0
  obtain ⟨k, hk, rfl, hP⟩ := hrel
  have d0 := HE.out.c0 wr hP.tur
  rw [<- HM.out] at d0
  by_cases hlt : k < m
  ·have ac : k < vs.length := by rw [<- HM.out]; exact hlt
   obtain ⟨rfl, d1⟩ := HE.out.el wr k hP.tur ac
   have ab := hP.el k ac
   rw [zhz] at ab
   have an := HC.out k ac
   obtain ⟨n, hn⟩ := nm ((C k).length)
   rw [<- hn] at ab an
   obtain ⟨vo, vc, hv⟩ := za1 ab
   have qk : (k : Int) < (m : Int) := by omega
   rw [hv] at d1
   have HN := zh hn
   have HV := zh hv
   have HP := zh hP
   have aq := zh ab
   obtain ⟨wo, au⟩ := nm wr
   rw [<- au] at d0 d1 HP aq ⊢
   clear hP hn hv ab c00 au
   go_wp2_with (go_at_call 97; refine (zd5 k 0 n _ (by omega) (by omega) an).mono ?_; rintro r w1 ⟨mv, rfl, ag, aA⟩)
   rw [zab] at ag
   obtain ⟨mo, mc, rfl⟩ := za1 ag
   have av : (marks k 0 n).length = (C k).length := by rw [zab, HN.out]
   have aw : Hid (zDm w w1 vs (upd (zEe C k) k (zHk (marks k 0 n) (C k) 0))) := by
    have e : upd (zEe C k) k (zHk (marks k 0 n) (C k) 0) = zEe C k := by
     funext j
     by_cases hj : j = k
     ·subst hj; rw [upd_same, zuj, zhz]
     ·rw [ze4 hj]
    rw [e]; exact HP.out.up aA
   have ax := zh ag
   have ah := zh av
   clear ag av d0 d1
   go_wp2_with fail
   go_loopw [4] (fun j wr => ∃ kk : Nat, kk <= n /\ j = .int .i64 kk /\ zDm w wr vs (upd (zEe C k) k (zHk (marks k 0 n) (C k) kk)) /\ wr.ownsRow wo.heap.size 3 1 (.slice mo n mc) n ((marks k 0 n).map (Value.int .i64))) (fun j _ => n - (intOf j).toNat)
   case atStart => exact ⟨0, Nat.zero_le _, rfl, aw.out, ax.out⟩
   case round =>
    clear aw ax
    obtain ⟨kk, al, rfl, hQ, ai⟩ := hrel
    by_cases hlt2 : kk < n
    ·have e0 := HE.out.c0 wr hQ.tur
     rw [<- HM.out] at e0
     obtain ⟨_, e1⟩ := HE.out.el wr k hQ.tur ac
     have ab := hQ.el k ac
     rw [upd_same, zkv ah.out (by rw [<- HN.out]; exact al), <- HN.out, HV.out] at ab
     rcases za4 ab with ⟨_, h0, _⟩ | ⟨gv, cv, ad, aj, _⟩
     ·omega
     simp only [Value.slice.injEq, true_and] at ad
     obtain ⟨rfl, rfl⟩ := ad
     rw [HV.out] at e1
     rcases za4 ai with ⟨_, h0, _⟩ | ⟨gm, cm, ad, am, _⟩
     ·omega
     simp only [Value.slice.injEq, true_and] at ad
     obtain ⟨rfl, rfl⟩ := ad
     rw [Nat.mul_one] at aj am
     have aD : wo.heap.size <= gm := (ai.lt gm rfl).1
     have aE : gv < wo.heap.size := by have := aq.out; rw [HV.out] at this; exact za3 this rfl
     obtain ⟨x, hx⟩ := nm ((marks k 0 n).getD kk 0)
     have e2 : wr.cell? ⟨gm, kk, none⟩ = some (.int .i64 x) := am.cell (by rw [hx]; simp [List.getD, zab, hlt2])
     have aa := zkv ah.out (k := kk) (by rw [<- HN.out]; exact al)
     rw [<- HN.out] at aa
     have e3 : wr.cell? ⟨gv, kk, none⟩ = some (.int .i64 ((zHk (marks k 0 n) (C k) kk).getD kk 0)) := aj.cell (by simp [List.getD, aa, hlt2])
     have f3 := aj.free kk
     obtain ⟨y, hy⟩ := nm ((zHk (marks k 0 n) (C k) kk).getD kk 0)
     rw [<- hy] at e3
     have qkk : (kk : Int) < (n : Int) := by omega
     have HX := zh hx
     have HQ := zh hQ
     have aB := zh ai
     clear hx hy hQ ai ab aj am aa
     go_wp2_with fail
     go_region
     go_wp2_with fail
     go_roundw
     case rel =>
      refine ⟨kk + 1, by omega, by go_num, ?_, ?_⟩
      ·have ae := HQ.out.set HA.out (k := kk) ac (g := gv) (cap := vc) (by rw [HV.out, upd_same, zkv ah.out (by rw [<- HN.out]; exact al), <- HN.out]) x
       have ay := zwq ah.out (k := kk) (by rw [<- HN.out]; exact hlt2)
       rw [<- HX.out] at ay
       rw [upd_same, znx, ay] at ae
       exact ae.up (by repeat (first | (with_reducible exact Up.refl _) | (with_reducible apply Up.drew) | (with_reducible apply Up.drewN)))
      ·exact za2 aB.out (fun g' aC => Below.heap_setCell _ _ _ _ (by simp only [Value.ownBlock, Option.some.injEq] at aC; simp only [ne_eq]; omega))
     case measure => simp [intOf]; omega
    ·obtain rfl : kk = n := by omega
     go_wp2_with fail
     go_roundw
     case rel =>
      refine ⟨k + 1, by omega, by go_num, ?_⟩
      have := hQ
      rw [HN.out, zxn (by rw [zab]), zhw] at this
      exact this
     case measure => simp [intOf]; omega
  ·obtain rfl : k = m := by omega
   go_wp2_with fail
   go_end0
   exact ⟨rfl, hP⟩
theorem zc7 {w : World} {base size n : Nat} {e : TypeId} {v : Value} {xs : List Value} (h : w.ownsRow base e size v n xs) (hv : v.ownBlock = none) : n = 0 := by
 rcases h.2 with ⟨_, h0⟩ | ⟨g, cap, cur, rfl, _⟩
 ·exact h0
 ·cases hv
theorem zlw.other {w w' : World} {v : Value} {n size base b m size' : Nat} {e e' : TypeId} {xs ys : List Value} {v0 : Value} (h : zlw w w' v n size) (hv : w.ownsRow base e size v n xs) (h0 : w.ownsRow b e' size' v0 m ys) (he : e ≠ e') : w'.ownsRow b e' size' v0 m ys := by
 refine h _ _ _ _ _ _ h0 (fun hh => ?_)
 cases hg : v.ownBlock with
 | none =>
  rw [hg] at hh
  rw [zc7 h0 hh]; simp
 | some g =>
  rw [hg] at hh
  obtain ⟨c1, e1⟩ := za5 hv hg
  obtain ⟨c2, e2⟩ := za5 h0 hh
  rw [e1] at e2
  simp only [Option.some.injEq, Obj.cells.injEq] at e2
  exact absurd e2.2.1 he
structure zDc (w wr : World) (vs : List Value) (L : Nat -> Nat) (outs : List Value) : Prop where
 el : Els wr vs (fun j => marks j 0 (L j))
 oel : Els wr outs (fun j => marks j 0 (L j + 96))
 obl : ∀ j g, j < outs.length -> (nth outs j).ownBlock = some g -> (nth vs j).ownBlock = some g \/ w.heap.size <= g
 tur : Turned (InV vs) w wr
structure zCv (w wo wr : World) (vs : List Value) (L : Nat -> Nat) (outs : List Value) (i : Nat) (lv : Value) (n : Nat) : Prop where
 st : zDc w wr vs L outs
 lrow : wr.ownsRow 0 3 1 lv n ((marks i 0 n).map (Value.int .i64))
 lbl : ∀ g, lv.ownBlock = some g -> (nth vs i).ownBlock = some g \/ wo.heap.size <= g
 ge : L i <= n
 sz : w.heap.size <= wo.heap.size /\ wo.heap.size <= wr.heap.size
 olt : ∀ j g, j < outs.length -> (nth outs j).ownBlock = some g -> g < wo.heap.size
 vlt : ∀ j g, j < vs.length -> (nth vs j).ownBlock = some g -> g < w.heap.size
theorem Turned.upR {S : Nat -> Prop} {w wr w' : World} (h : Turned S w wr) (hu : Up wr w') : Turned S w w' :=
 h.trans (T := fun _ => False) ⟨hu.os, hu.tape, hu.output, hu.size, fun k hk _ => hu.block k hk⟩ (fun _ _ h => h.elim)
theorem zDc.up {w wr w' : World} {vs : List Value} {L : Nat -> Nat} {outs : List Value} (h : zDc w wr vs L outs) (hu : Up wr w') : zDc w w' vs L outs :=
 ⟨h.el.up hu, h.oel.up hu, h.obl, h.tur.upR hu⟩
theorem zCv.up {w wo wr w' : World} {vs : List Value} {L : Nat -> Nat} {outs : List Value} {i n : Nat} {lv : Value} (h : zCv w wo wr vs L outs i lv n) (hu : Up wr w') : zCv w wo w' vs L outs i lv n :=
 ⟨h.st.up hu, hu.owns h.lrow, h.lbl, h.ge, ⟨h.sz.1, Nat.le_trans h.sz.2 hu.size⟩, h.olt, h.vlt⟩
theorem zCv.app {w wo w1 w2 : World} {vs : List Value} {L : Nat -> Nat} {outs : List Value} {i n m : Nat} {lv v' : Value} (h : zCv w wo w1 vs L outs i lv n) (ha : Apt vs) (hi : i < vs.length) (ho : outs.length = i)
  (aa : w2.ownsRow 0 3 1 v' (n + m) ((marks i 0 n).map (Value.int .i64) ++ (marks i n m).map (Value.int .i64))) (hg : w1.grownBy w2 lv.ownBlock) (ac : v'.ownBlock = lv.ownBlock \/ v'.ownBlock = some w1.heap.size) (hk : zlw w1 w2 lv n 1) :
  zCv w wo w2 vs L outs i v' (n + m) := by
 have hs := h.sz
 have ad := hg.size
 refine ⟨⟨?_, ?_, h.st.obl, ?_⟩, ?_, ?_, by have := h.ge; omega, ⟨hs.1, by omega⟩, h.olt, h.vlt⟩
 ·intro j hj
  have h0 := h.st.el j hj
  refine hk _ _ _ _ _ _ h0 (fun hh => ?_)
  rw [zab]
  by_cases hji : j = i
  ·subst hji; have := h.ge; omega
  ·cases hl : lv.ownBlock with
   | none => rw [hl] at hh; have := zc7 h0 hh; rw [zab] at this; omega
   | some g =>
    rw [hl] at hh
    rcases h.lbl g hl with h2 | h2
    ·exact absurd hh (ha i j g hi hj (fun e => hji e.symm) h2)
    ·have := h.vlt j g hj hh; omega
 ·intro j hj
  have h0 := h.st.oel j hj
  refine hk _ _ _ _ _ _ h0 (fun hh => ?_)
  rw [zab]
  cases hl : lv.ownBlock with
  | none => rw [hl] at hh; have := zc7 h0 hh; rw [zab] at this; omega
  | some g =>
   rw [hl] at hh
   exfalso
   have h3 := h.olt j g hj hh
   rcases h.lbl g hl with h2 | h2
   ·have h4 := h.vlt i g hi h2
    rcases h.st.obl j g hj hh with h5 | h5
    ·exact ha i j g hi (by omega) (by omega) h2 h5
    ·omega
   ·omega
 ·refine h.st.tur.grown hg (fun k hk => ?_)
  rcases h.lbl k hk with h2 | h2
  ·exact .inl ⟨i, hi, h2⟩
  ·right; omega
 ·have e := zdw i 0 n m
  rw [Nat.zero_add] at e
  rw [<- e, List.map_append]; exact aa
 ·intro g ab
  rcases ac with h2 | h2
  ·exact h.lbl g (h2 ▸ ab)
  ·rw [h2] at ab; simp only [Option.some.injEq] at ab; right; omega
theorem zfd {w : World} {n size base : Nat} {e : TypeId} {v : Value} {xs : List Value} (h : w.ownsRow base e size v n xs) (hn : 0 < n) :
  ∃ g cap, v = .slice (some ⟨g, 0, none⟩) n cap /\ Row w g e (cap * size) xs := by
 rcases za4 h with ⟨_, h0, _⟩ | ⟨g, cap, hv, hr, h1, h2, _⟩
 ·omega
 ·exact ⟨g, cap, hv, hr⟩
theorem zei (b i : Nat) : (⟨b, 0, none⟩ : Addr).add i = ⟨b, i, none⟩ := by
 unfold Addr.add
 split
 ·rename_i h; subst h; rfl
 ·simp
theorem zh3 (vs : List Value) (v : Value) (j : Nat) : nth (vs ++ [v]) j = if j = vs.length then v else nth vs j := by
 simp only [nth, List.getD, List.getElem?_append]
 by_cases h : j < vs.length
 ·simp [h, show ¬ j = vs.length by omega]
 ·by_cases h2 : j = vs.length
  ·subst h2; simp
  ·simp [h, h2, show ¬ j - vs.length = 0 by omega]
theorem zCv.out {w wo w3 w4 : World} {vs : List Value} {L : Nat -> Nat} {outs : List Value} {i m : Nat} {lv vo : Value} {e : TypeId} {xs : List Value} (h : zCv w wo w3 vs L outs i lv (L i + 96)) (ho : outs.length = i) (aa : w3.ownsRow w.heap.size e 1 vo m xs) (he : e ≠ 3)
  (hg : w3.grownBy w4 vo.ownBlock) (hk : zlw w3 w4 vo m 1) : zDc w w4 vs L (outs ++ [lv]) := by
 have hs := h.sz
 refine ⟨fun j hj => hk.other aa (h.st.el j hj) he, ?_, ?_, ?_⟩
 ·intro j hj
  rw [List.length_append, List.length_singleton] at hj
  rw [zh3]
  by_cases hji : j = outs.length
  ·subst hji
   rw [if_pos rfl, zab]
   subst ho
   exact hk.other aa h.lrow he
  ·rw [if_neg hji]
   exact hk.other aa (h.st.oel j (by omega)) he
 ·intro j g hj hh
  rw [List.length_append, List.length_singleton] at hj
  rw [zh3] at hh
  by_cases hji : j = outs.length
  ·subst hji
   rw [if_pos rfl] at hh
   subst ho
   rcases h.lbl g hh with h2 | h2
   ·exact .inl h2
   ·right; omega
  ·rw [if_neg hji] at hh
   exact h.st.obl j g (by omega) hh
 ·exact h.st.tur.grown hg (fun k hk => .inr (aa.lt k hk).1)
theorem ze8 (a : Option Addr) (n c : Nat) : ∀ u ∈ [Value.slice a n c], u.oneCell' = true := by
 intro u hu
 simp only [List.mem_singleton] at hu
 subst hu; rfl
theorem Tryz.zHp : (prog.info? 27).map (fun i => (i.zero, i.size, i.bytes)) = some (some (.slice none 0 0), 1, 24) := by kernel_rfl
def zKm (w : World) (vs : List Value) (L : Nat -> Nat) (r : Ending) (w' : World) : Prop :=
 ∃ vo outs, r = .returned vo /\ outs.length = vs.length /\ w'.ownsRow w.heap.size 27 1 vo vs.length outs /\ zDc w w' vs L outs
theorem zna {w : World} {bk : Nat} {vi : Value} {vs : List Value} {L : Nat -> Nat} {bc : Array Value} (h : zFx w bk vi vs) (he : Els w vs (fun j => marks j 0 (L j))) (ha : Apt vs) (hb : w.heap[bk]? = some (.cells bc 48 (0, 0))) (hm : vs.length <= 400) (hL : ∀ i, i < vs.length -> L i <= 900000) :
  Calls prog 46 #[.pointer (some ⟨bk, 0, none⟩)] w (zKm w vs L) := by
 obtain ⟨i0, hi, aL, aM, aN⟩ := info_parts Tryz.zHp
 obtain ⟨j0, hj, aG, aH, aI⟩ := info_parts Tryz.zHj
 obtain ⟨ao, ci, g, rfl, aA⟩ := h.env he hb
 have HE := zh aA
 have H0 : Hid (zDc w w vs L []) := ⟨he, fun j hj => by simp at hj, fun j g hj => by simp at hj, Turned.refl _ _⟩
 have HV : Hid (∀ j g, j < vs.length -> (nth vs j).ownBlock = some g -> g < w.heap.size) := fun j g hj hg => za3 (he j hj) hg
 obtain ⟨m, aw⟩ := nm (vs.length)
 have HM := zh aw
 have HL := zh hL
 have HA := zh ha
 rw [<- aw] at hm
 have c00 := aA.c0 w (Turned.refl _ _)
 rw [<- aw] at c00
 clear h he ha hb aw hL aA
 go_enter func46, ntmps46
 go_wp2_with fail
 go_loopw [3, 4] (fun vo i wr => ∃ (k : Nat) (outs : List Value), k <= m /\ i = .int .i64 k /\ outs.length = k /\ wr.ownsRow w.heap.size 27 1 vo k outs /\ zDc w wr vs L outs) (fun _ i _ => m - (intOf i).toNat)
 case atStart => exact ⟨0, [], Nat.zero_le _, rfl, rfl, World.ownsRow_nil _ _ _ _, H0.out⟩
 case round =>
  clear H0 c00
  obtain ⟨k, outs, hk, rfl, aB, ae, hG⟩ := hrel
  have d0 := HE.out.c0 wr hG.tur
  rw [<- HM.out] at d0
  by_cases hlt : k < m
  ·have an : k < vs.length := by rw [<- HM.out]; exact hlt
   obtain ⟨rfl, d1⟩ := HE.out.el wr k hG.tur an
   have aO := HL.out k an
   obtain ⟨n, hn⟩ := nm (L k)
   have aC : wr.ownsRow 0 3 1 (nth vs k) n ((marks k 0 n).map (Value.int .i64)) := by have := hG.el k an; simp only [zab] at this; rw [<- hn] at this; exact this
   rw [<- hn] at aO
   have qk : (k : Int) < (m : Int) := by omega
   obtain ⟨vo', vc', aP⟩ := za1 ae
   obtain ⟨eo, ec, aD⟩ := za1 aC
   have ax : Hid (zCv w wr wr vs L outs k (nth vs k) (n + 0)) := ⟨hG, aC, fun g hg => .inl hg, by omega, ⟨hG.tur.size, Nat.le_refl _⟩, fun j g hj hg => za3 (hG.oel j hj) hg, HV.out⟩
   rw [aD] at d1 ax
   have HN := zh hn
   have ay := zh aB
   have am := zh ae
   have aW := zh aD
   have aQ : w.heap.size <= wr.heap.size := hG.tur.size
   obtain ⟨wo, aJ⟩ := nm wr
   rw [<- aJ] at d0 d1 ax am aQ ⊢
   subst aP
   clear hG hn aB ae aC aD aJ
   go_wp2_with fail
   go_loopw [5, 6] (fun lv j wr => ∃ c : Nat, c <= 16 /\ j = .int .i64 c /\ zCv w wo wr vs L outs k lv (n + c) /\ wr.ownsRow w.heap.size 27 1 (.slice vo' k vc') k outs) (fun _ j _ => 16 - (intOf j).toNat)
   case atStart => exact ⟨0, by omega, rfl, ax.out, am.out⟩
   case round =>
    clear ax am d0 d1
    obtain ⟨c, hc, rfl, hI, ae⟩ := hrel
    have aX := hI.sz
    obtain ⟨lo, lc, rfl⟩ := za1 hI.lrow
    have HI := zh hI
    have am := zh ae
    obtain ⟨x, hx⟩ := nm (n + c)
    rw [<- hx] at HI ⊢
    have aY : x <= 900016 := by omega
    have HX := zh hx
    clear hI ae hx
    by_cases hlt2 : c < 16
    ·have qc : (c : Int) < 16 := by omega
     go_wp2_with (first
      | (go_at_call 97; refine (zd5 k x 1 _ (by omega) (by omega) (by omega)).mono ?_; rintro r w1 ⟨mv, rfl, af, ag⟩; rw [zab] at af; (obtain ⟨gm, cm, rfl, aq⟩ := zfd af (by omega)); (have ah := zh (HI.out.up ag)); (have ai := zh (ag.owns am.out)); (have aR := ag.size); (have aj := zh aq); clear af aq)
      | (at_builtin; (refine zax rfl _ _ 27 rfl 0 3 j0 (.int .i64 0) 1 8 underlying27 hj aG aH aI rfl (by decide) (.slice lo x lc) x _ rfl ah.out.lrow ⟨gm, 0, none⟩ 1 cm ((marks k x 1).map (Value.int .i64)) rfl (by rw [List.length_map, zab]) (fun j u hu => (by have := aj.out.cell hu; rw [zei]; exact this)) (ints_oneCell .i64 _) (by unfold maxLen; omega) (by omega) (Nat.zero_le _) ?_); intro v' w2 ac ab ad aa))
     have aK := ah.out.app HA.out an ay.out (m := 1) ac ab ad aa
     have aE := aa.other ah.out.lrow ai.out (by decide)
     go_roundw
     case rel => exact ⟨c + 1, by omega, by go_num, by rw [HX.out] at aK; exact aK, aE⟩
     case measure => simp [intOf]; omega
    ·obtain rfl : c = 16 := by omega
     go_wp2_with (first
      | (go_at_call 97; refine (zd5 k x 80 _ (by omega) (by omega) (by omega)).mono ?_; rintro r w1 ⟨mv, rfl, af, ag⟩; rw [zab] at af; (obtain ⟨gm, cm, rfl, aq⟩ := zfd af (by omega)); (have ah := zh (HI.out.up ag)); (have ai := zh (ag.owns am.out)); (have aR := ag.size); (have aj := zh aq); clear af aq)
      | (at_builtin; (refine zax rfl _ _ 27 rfl 0 3 j0 (.int .i64 0) 1 8 underlying27 hj aG aH aI rfl (by decide) (.slice lo x lc) x _ rfl ah.out.lrow ⟨gm, 0, none⟩ 80 cm ((marks k x 80).map (Value.int .i64)) rfl (by rw [List.length_map, zab]) (fun j u hu => (by have := aj.out.cell hu; rw [zei]; exact this)) (ints_oneCell .i64 _) (by unfold maxLen; omega) (by omega) (Nat.zero_le _) ?_); intro v' w2 ac ab ad aa; (have aS := zh (ah.out.app HA.out an ay.out (m := 80) ac ab ad aa)); (have au := zh (aa.other ah.out.lrow ai.out (by decide))); (obtain ⟨no, nc, rfl⟩ := za1 ac); (have aZ := ab.size); clear ac ab ad aa)
      | (at_builtin; (refine zax rfl _ _ 36 rfl w.heap.size 27 i0 (.slice none 0 0) 1 24 underlying36 hi aL aM aN rfl (by decide) (.slice vo' k vc') k _ rfl (au.out.alloc _) ⟨w2.heap.size, 0, none⟩ 1 1 [.slice no (x + 80) nc] rfl rfl (cell_one_new _ _ _) (ze8 _ _ _) (by unfold maxLen; omega) (by omega) (by simp; omega) ?_); intro v3 w4 av ak aT al))
     have aU : zCv w wo (w2.alloc (.cells #[.slice no (x + 80) nc] 27)) vs L outs k (.slice no (x + 80) nc) (L k + 96) := by
      have := aS.out.up ((Up.refl w2).alloc (.cells #[.slice no (x + 80) nc] 27))
      rw [show x + 80 = L k + 96 by rw [HX.out, HN.out]] at this ⊢
      exact this
     have aV := aU.out ay.out (au.out.alloc _) (by decide) ak al
     have aF : (outs ++ [Value.slice no (x + 80) nc]).length = k + 1 := by rw [List.length_append, ay.out]; rfl
     go_wp2_with fail
     go_roundw
     case rel => exact ⟨k + 1, _, by omega, by go_num, aF, av, aV⟩
     case measure => simp [intOf]; omega
  ·obtain rfl : k = m := by omega
   go_wp2_with fail
   go_ret
   exact ⟨_, outs, rfl, by rw [aB, HM.out], by rw [<- HM.out]; exact ae, hG⟩
theorem zen {w : World} {base : Nat} {vo : Value} {vs : List Value} {L : Nat -> Nat} (hr : w.ownsRow base 27 1 vo vs.length vs) (he : Els w vs (fun j => marks j 0 (L j))) (hm : vs.length <= 400) (hL : ∀ i, i < vs.length -> L i <= 1000000) :
  Calls prog 57 #[vo] w fun r w' => r = .returned (.bool true) /\ Up w w' := by
 have ac : ∃ ao ci g, vo = .slice ao vs.length ci /\ ∀ i, i < vs.length -> ao = some ⟨g, 0, none⟩ /\ w.cell? ⟨g, i, none⟩ = some (nth vs i) := by
  rcases za4 hr with ⟨rfl, h0, _⟩ | ⟨g, ci, rfl, hr, _⟩
  ·exact ⟨none, 0, 0, by rw [h0], fun i hi => by omega⟩
  ·exact ⟨_, ci, g, rfl, fun i hi => ⟨rfl, hr.cell (zdv hi)⟩⟩
 obtain ⟨ao, ci, g, rfl, hc⟩ := ac
 obtain ⟨m, ad⟩ := nm (vs.length)
 have HM := zh ad
 have HL := zh hL
 have HC := zh hc
 have HE := zh he
 rw [<- ad] at hm ⊢
 clear hr he ad hL hc
 go_enter func57, ntmps57
 go_wp2_with fail
 go_loopw [3] (fun i wr => ∃ k : Nat, k <= m /\ i = .int .i64 k /\ Up w wr) (fun i _ => m - (intOf i).toNat)
 case atStart => exact ⟨0, Nat.zero_le _, rfl, Up.refl w⟩
 case round =>
  obtain ⟨k, hk, rfl, ab⟩ := hrel
  by_cases hlt : k < m
  ·have ae : k < vs.length := by rw [<- HM.out]; exact hlt
   obtain ⟨rfl, d1⟩ := HC.out k ae
   have ag := HL.out k ae
   have aa : w.ownsRow 0 3 1 (nth vs k) (L k) ((marks k 0 (L k)).map (Value.int .i64)) := by have := HE.out k ae; simp only [zab] at this; exact this
   obtain ⟨n, hn⟩ := nm (L k)
   rw [<- hn] at aa ag
   obtain ⟨eo, ec, ah⟩ := za1 aa
   rw [ah] at d1 aa
   have ak := zh aa
   have qk : (k : Int) < (m : Int) := by omega
   have e1 := ab.cell d1
   have HD := zh d1
   have HS : Hid (∀ w1 v, Up wr w1 -> Lst w1 v (marks k 0 n) -> Calls prog 9 #[.slice eo n ec, v] w1 (Same w1 true)) := fun w1 v hu hv => sameInts_same (by rw [zab]; omega) (zcy ((ab.trans hu).owns ak.out)) hv
   clear hn aa ah d1
   go_wp2_with fail
   go_region_held3 (fun w => w.cell? ⟨g, k, none⟩ = some (.slice eo n ec)) (first | assumption) (first
    | (go_at_call 97; refine (zd5 k 0 n _ (by omega) (by omega) ag).mono ?_; rintro r w1 ⟨mv, rfl, al, af⟩; (have am : Up wr w1 := Up.trans (by repeat (first | (with_reducible exact Up.refl _) | assumption | (with_reducible apply Up.drewN) | (with_reducible apply Up.drew))) af); (have e2 := am.cell e1))
    | (go_at_call 9; (with_reducible refine (HS.out _ mv ?_ ?_).mono ?_); (repeat (first | (with_reducible exact Up.refl _) | assumption | (with_reducible apply Up.drewN) | (with_reducible apply Up.drew))); (refine (zcy al).up ?_; repeat (first | (with_reducible exact Up.refl _) | assumption | (with_reducible apply Up.drewN) | (with_reducible apply Up.drew))); rintro r w2 ⟨rfl, q2, ai⟩; (have aj : Up wr w2 := by (rw [ai]; repeat (first | (with_reducible exact Up.refl _) | assumption | (with_reducible apply Up.drewN) | (with_reducible apply Up.drew)))); (have e3 := aj.cell e1); clear ai))
   go_wp2_with fail
   go_roundw
   case rel => exact ⟨k + 1, by omega, by go_num, by repeat (first | exact ab.trans aj | (with_reducible apply Up.drewN) | (with_reducible apply Up.drew))⟩
   case measure => simp [intOf]; omega
  ·obtain rfl : k = m := by omega
   go_wp2_with fail
   go_ret
   exact ⟨rfl, ab⟩
theorem zqw {P : Program} {f : FuncId} {args : Array Value} {w : World} {n : Nat} {b : Bool} (h : Calls P f args (w.drewN n) (Same (w.drewN n) b)) : Calls P f args (w.drewN n) fun e w' => e = .returned (.bool b) /\ ∃ m, w' = w.drewN m :=
 h.mono fun _ _ ⟨he, q, hq⟩ => ⟨he, n + q, by rw [hq]; simp [World.drewN, Nat.add_assoc]⟩
theorem ziz {P : Program} {f : FuncId} {args : Array Value} {w : World} {a n : Nat} {b : Bool} (h : Calls P f args (w.drewN (a + n)) (Same (w.drewN (a + n)) b)) : Calls P f args (w.drewN (a + n)) fun e w' => e = .returned (.bool b) /\ ∃ m, w' = w.drewN (a + m) :=
 h.mono fun _ _ ⟨he, q, hq⟩ => ⟨he, n + q, by rw [hq]; simp [World.drewN, Nat.add_assoc]⟩
theorem zkn {w : World} {bk base : Nat} {vi vw : Value} {vs us : List Value} {C : Nat -> List Int} (c0 : w.cell? ⟨bk, 0, none⟩ = some vi) (c1 : w.cell? ⟨bk, 1, none⟩ = some vw) (hr : w.ownsRow base 27 1 vi vs.length vs) (hu : w.ownsRow base 27 1 vw vs.length us) (ae : us.length = vs.length)
  (he : Els w vs C) (hf : Els w us C) (hm : vs.length <= 400) (hL : ∀ i, i < vs.length -> (C i).length <= 1000000) :
  Calls prog 24 #[.pointer (some ⟨bk, 0, none⟩)] w fun r w' => r = .returned (.bool true) /\ Up w w' := by
 have af : ∃ ao ci g, vi = .slice ao vs.length ci /\ ∀ i, i < vs.length -> ao = some ⟨g, 0, none⟩ /\ w.cell? ⟨g, i, none⟩ = some (nth vs i) := by
  rcases za4 hr with ⟨rfl, h0, _⟩ | ⟨g, ci, rfl, hr, _⟩
  ·exact ⟨none, 0, 0, by rw [h0], fun i hi => by omega⟩
  ·exact ⟨_, ci, g, rfl, fun i hi => ⟨rfl, hr.cell (zdv hi)⟩⟩
 have aa : ∃ ao ci g, vw = .slice ao vs.length ci /\ ∀ i, i < vs.length -> ao = some ⟨g, 0, none⟩ /\ w.cell? ⟨g, i, none⟩ = some (nth us i) := by
  rcases za4 hu with ⟨rfl, h0, _⟩ | ⟨g, ci, rfl, hr, _⟩
  ·exact ⟨none, 0, 0, by rw [h0], fun i hi => by omega⟩
  ·exact ⟨_, ci, g, rfl, fun i hi => ⟨rfl, hr.cell (zdv (by rw [ae]; exact hi))⟩⟩
 obtain ⟨ao, ci, g, rfl, hc⟩ := af
 obtain ⟨bo, di, g', rfl, hd⟩ := aa
 obtain ⟨m, ag⟩ := nm (vs.length)
 have HM := zh ag
 have HL := zh hL
 have HC := zh hc
 have HD := zh hd
 have HE := zh he
 have HF := zh hf
 have ak := zh ae
 rw [<- ag] at hm c0 c1
 clear hr hu he hf ag hL hc hd ae
 go_enter func24, ntmps24
 go_wp2_with fail
 go_loopw [3] (fun i wr => ∃ (k q : Nat), k <= m /\ i = .int .i64 k /\ wr = w.drewN q) (fun i _ => m - (intOf i).toNat)
 case atStart => exact ⟨0, 0, Nat.zero_le _, rfl, rfl⟩
 case round =>
  obtain ⟨k, q, hk, rfl, rfl⟩ := hrel
  by_cases hlt : k < m
  ·have ab : k < vs.length := by rw [<- HM.out]; exact hlt
   obtain ⟨rfl, d1⟩ := HC.out k ab
   obtain ⟨rfl, d2⟩ := HD.out k ab
   have ah := HL.out k ab
   have ac := HE.out k ab
   have ad := HF.out k (by rw [ak.out]; exact ab)
   obtain ⟨eo, ec, ai⟩ := za1 ac
   obtain ⟨fo, fc, aj⟩ := za1 ad
   obtain ⟨n, hn⟩ := nm ((C k).length)
   rw [ai] at d1 ac
   rw [aj] at d2 ad
   rw [<- hn] at d1 d2 ah ac ad
   have qk : (k : Int) < (m : Int) := by omega
   have HS : Hid (∀ w1, Up w w1 -> Calls prog 9 #[.slice eo n ec, .slice fo n fc] w1 (Same w1 true)) := fun w1 hu => sameInts_same (by rw [<- hn]; exact ah) (zcy (hu.owns ac)) (zcy (hu.owns ad))
   clear hn ac ad ai aj
   go_wp2_with fail
   go_quiet ((go_at_call 9; first | exact zqw (HS.out _ (by repeat (first | (with_reducible exact Up.refl _) | (with_reducible apply Up.drewN) | (with_reducible apply Up.drew)))) | exact ziz (HS.out _ (by repeat (first | (with_reducible exact Up.refl _) | (with_reducible apply Up.drewN) | (with_reducible apply Up.drew))))))
   go_wp2_with fail
   go_roundw
   case rel => exact ⟨k + 1, _, by omega, by go_num, rfl⟩
   case measure => simp [intOf]; omega
  ·obtain rfl : k = m := by omega
   go_wp2_with fail
   go_ret
   exact ⟨rfl, (Up.refl w).drewN q⟩
end Go.Proofs.YtoaoajfjcfcmhaaGreatDoor
