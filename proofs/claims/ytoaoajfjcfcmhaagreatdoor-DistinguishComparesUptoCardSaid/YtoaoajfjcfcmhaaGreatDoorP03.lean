/- Walk: SameNodes. A region that draws its order, every operation quiet in a class of worlds. The book's lists of nodes: their marks; put. -/
import Derived.Test.YtoaoajfjcfcmhaaGreatDoorP01
import Derived.Laws.StructEq
import Derived.Deep.Quiet
import Derived.Test.YtoaoajfjcfcmhaaGreatDoorP02
import Derived.Deep.RegionHeld3
set_option linter.unusedVariables false
set_option linter.unusedSimpArgs false
set_option maxHeartbeats 16000000
set_option maxRecDepth 100000
open Go.Proofs.Tryz
namespace Go.Proofs.YtoaoajfjcfcmhaaGreatDoor.Nd2
open Go.RowKit
theorem zao {a b : Bool} (h : a = b) : Ending.returned (.bool a) = .returned (.bool b) := by rw [h]
theorem Tryz.nodeInfo : (prog.info? 81).map (fun i => (i.zero, i.size, i.bytes)) = some (some (.agg #[.int .i64 0, .int .i64 0]), 2, 16) := by kernel_rfl
theorem zu7 (a b c d : Int) (w : World) : (Op.equalIn 10000 81 (.agg #[.int .i64 a, .int .i64 b]) (.agg #[.int .i64 c, .int .i64 d])).run prog w = .ok (a == c && b == d) w := by
 have u3 := underlying3
 have a3 := Tryz.isAgg3
 have z3 := Tryz.sizeOf3
 have hS : prog.underlying 81 = some (.struct (prog.fieldsOf 81)) := by kernel_rfl
 rw [show (10000 : Nat) = 9999 + 1 from rfl, run_equalIn_agg w 9999 81 _ _ hS (by kernel_rfl)]
 simp only [Program.fieldsOf, underlying81]
 go_simp
 by_cases h1 : a = c <;> by_cases h2 : b = d <;> simp [h1, h2]
def Eql (w : World) (b : Bool) (r : Ending) (w' : World) : Prop := r = .returned (.bool b) /\ Up w w'
theorem zgw {α : Type} [DecidableEq α] (d : α) {xs ys : List α} {n : Nat} (hx : xs.length = n) (hy : ys.length = n) (h : ∀ j, j < n -> xs.getD j d = ys.getD j d) : xs = ys := by
 refine List.ext_getElem (by omega) (fun i h1 h2 => ?_)
 have := h i (by omega)
 simpa [List.getD, h1, h2] using this
theorem zh5 {α : Type} (d : α) {xs ys : List α} {j : Nat} (h : xs.getD j d ≠ ys.getD j d) : ¬ xs = ys := fun e => h (by rw [e])
theorem zr0 {v u : Value} {xs ys : List (Int × Int)} {w : World} (hv : Ls2 w v xs) (hu : Ls2 w u ys) (hm : xs.length <= 9223372036854775807) (aj : ys.length <= 9223372036854775807) :
  Calls prog 10 #[v, u] w (Eql w (decide (xs = ys))) := by
 obtain ⟨ao, c, g, off, rfl, ha, hx⟩ := hv
 obtain ⟨bo, d, h, off2, rfl, hb, hy⟩ := hu
 unfold zJj at hx hy
 obtain ⟨n, hn⟩ := nm (xs.length)
 obtain ⟨m, aa⟩ := nm (ys.length)
 rw [<- hn] at ha hx hm ⊢
 rw [<- aa] at hb hy aj ⊢
 have HX := zh hx
 have HY := zh hy
 have HA := zh ha
 have HB := zh hb
 have HN := zh hn
 have HM := zh aa
 clear hn aa hx hy ha hb
 by_cases hnm : n = m
 ·subst hnm
  have qn : ((n : Int) != (n : Int)) = false := by simp
  go_enter func10, ntmps10
  go_wp2_with fail
  go_loopw [5] (fun i wr => ∃ j : Nat, j <= n /\ i = .int .i64 j /\ Up w wr /\ Hid (∀ k, k < j -> xs.getD k (0, 0) = ys.getD k (0, 0))) (fun i _ => n - (intOf i).toNat)
  case atStart => exact ⟨0, Nat.zero_le _, rfl, Up.refl _, fun k hk => by omega⟩
  case round =>
   obtain ⟨j, hj, rfl, hU, HE⟩ := hrel
   by_cases hlt : j < n
   ·obtain rfl := HA.out (by omega)
    obtain rfl := HB.out (by omega)
    have cx := HX.out j hlt
    have cy := HY.out j hlt
    have cx0 := hU.cell cx.1
    have cx1 := hU.cell cx.2
    have cy0 := hU.cell cy.1
    have cy1 := hU.cell cy.2
    obtain ⟨x0, ab⟩ := nm ((xs.getD j (0, 0)).1)
    obtain ⟨x1, ac⟩ := nm ((xs.getD j (0, 0)).2)
    obtain ⟨y0, ad⟩ := nm ((ys.getD j (0, 0)).1)
    obtain ⟨y1, ae⟩ := nm ((ys.getD j (0, 0)).2)
    rw [<- ab] at cx0
    rw [<- ac] at cx1
    rw [<- ad] at cy0
    rw [<- ae] at cy1
    have af := zh ab
    have ag := zh ac
    have ah := zh ad
    have ai := zh ae
    have he := zu7 x0 x1 y0 y1
    clear ab ac ad ae cx cy
    by_cases hxy : (x0, x1) = (y0, y1)
    ·have HQ : Hid (xs.getD j (0, 0) = ys.getD j (0, 0)) := zh (by have h1 := Prod.mk.inj hxy; exact Prod.ext (by rw [<- af.out, <- ah.out]; exact h1.1) (by rw [<- ag.out, <- ai.out]; exact h1.2))
     obtain ⟨rfl, rfl⟩ := Prod.mk.inj hxy
     simp only [beq_self_eq_true, Bool.and_self] at he
     clear hxy
     go_wp2_with fail
     go_quiet (fail)
     go_wp2_with fail
     go_roundw
     case rel => exact ⟨j + 1, by omega, by go_num, hU.drewN _, fun k hk => by
      by_cases hkj : k = j
      ·rw [hkj]; exact HQ.out
      ·exact HE.out k (by omega)⟩
     case measure => simp [intOf] <;> omega
    ·have HQ : Hid (false = decide (xs = ys)) := zh (by rw [decide_eq_false (zh5 (0, 0) (j := j) (fun e => hxy (by rw [af.out, ag.out, ah.out, ai.out, e])))])
     have hb : (x0 == y0 && x1 == y1) = false := by
      cases hq : (x0 == y0 && x1 == y1)
      ·rfl
      ·simp only [Bool.and_eq_true, beq_iff_eq] at hq
       exact absurd (by rw [hq.1, hq.2]) hxy
     rw [hb] at he
     clear hb hxy
     go_wp2_with fail
     go_quiet (fail)
     go_wp2_with fail
     go_ret
     exact ⟨zao HQ.out, hU.drewN _⟩
   ·obtain rfl : j = n := by omega
    have HQ : Hid (true = decide (xs = ys)) := zh (by rw [decide_eq_true (zgw (0, 0) HN.out.symm HM.out.symm HE.out)])
    go_wp2_with fail
    go_ret
    exact ⟨zao HQ.out, hU⟩
 ·have HQ : Hid (false = decide (xs = ys)) := zh (by rw [decide_eq_false (fun e => hnm (by rw [HN.out, HM.out, e]))])
  have qn : ((n : Int) != (m : Int)) = true := by simp; omega
  clear hnm
  go_enter func10, ntmps10
  go_wp2_with fail
  go_ret
  exact ⟨zao HQ.out, Up.refl _⟩
end Go.Proofs.YtoaoajfjcfcmhaaGreatDoor.Nd2
namespace Go.Proofs.YtoaoajfjcfcmhaaGreatDoor
open Go.RowKit
structure WQ (P : Program) (ops : Array Oper) (C : World -> Prop) (Q : Act -> Prop) (l : List Oper) (a : Act) : Prop where
 out : wpQuiet P ops C Q l a
theorem zak {P : Program} {id : Nat} {Q : Exit -> Act -> World -> Prop} {a : Act} {w : World} {l : List Oper} (C : World -> Prop) (hm : P.follows .mixedOrders = true) (hB : Region.lexB .any l.toArray = true) (hC : C w.drew)
  (h : WQ P l.toArray C (fun a' => ∀ w', C w' -> Q .normal a' w') l a) : (Code.region id l.toArray true).wp P Q a w :=
 wp_region_quiet (C := C) hm hB hC (by simpa using h.out)
section
variable {P : Program} {ops : Array Oper} {C : World -> Prop} {Q : Act -> Prop} {a : Act} {o : Oper} {rest : List Oper}
theorem WQ.nil (h : Q a) : WQ P ops C Q [] a := ⟨h⟩
theorem WQ.step (h : ∀ K : Act -> Prop, (∀ a, WQ P ops C Q rest a -> K a) -> if Region.wanted o (yielded ops a.tmps) then o.quiet P a C K else K (a.put o.dst undef)) : WQ P ops C Q (o :: rest) a :=
 ⟨wpQuiet_step (fun K hK => h K (fun a h => hK a h.out))⟩
end
end Go.Proofs.YtoaoajfjcfcmhaaGreatDoor
namespace Go.Proofs.YtoaoajfjcfcmhaaGreatDoor.Nd2
open Go.RowKit
def marks (i k0 n : Nat) : List (Int × Int) := (List.range n).map fun (k : Nat) => (-1 - (i : Int), ((k0 + k : Nat) : Int))
theorem zab (i k0 n : Nat) : (marks i k0 n).length = n := by simp [marks]
theorem zg6 (i k0 : Nat) : marks i k0 0 = [] := rfl
theorem zc4 (i k0 n : Nat) : marks i k0 (n + 1) = marks i k0 n ++ [(-1 - (i : Int), ((k0 + n : Nat) : Int))] := by
 simp [marks, List.range_succ]
theorem zdw (i k0 n m : Nat) : marks i k0 n ++ marks i (k0 + n) m = marks i k0 (n + m) := by
 induction m with
 | zero => simp [zg6]
 | succ m ih => rw [zc4, <- List.append_assoc, ih, <- Nat.add_assoc, zc4, Nat.add_assoc]
theorem zhx (p : Int × Int) (l : List (Int × Int)) : za7 (p :: l) = .int .i64 p.1 :: .int .i64 p.2 :: za7 l := rfl
theorem zhe (l : List (Int × Int)) (i : Nat) (h : i < l.length) : (za7 l)[i * 2]? = some (.int .i64 (l.getD i (0, 0)).1) := (zeg l i h).1
theorem zhv (l : List (Int × Int)) (i : Nat) (h : i < l.length) : (za7 l)[i * 2 + 1]? = some (.int .i64 (l.getD i (0, 0)).2) := (zeg l i h).2
theorem zj4 : ∀ (l : List (Int × Int)) (k : Nat) (x : Int × Int), za7 (l.set k x) = ((za7 l).set (k * 2) (.int .i64 x.1)).set (k * 2 + 1) (.int .i64 x.2)
 | [], k, x => by simp [za7]
 | p :: l, 0, x => by simp [zhx]
 | p :: l, k + 1, x => by
  rw [show (k + 1) * 2 = k * 2 + 1 + 1 by omega]
  simp [zhx, zj4 l k x]
def zx3 (w : World) (xs : List (Int × Int)) (r : Ending) (w' : World) : Prop := ∃ v, r = .returned v /\ w'.ownsRow w.heap.size 81 2 v xs.length (za7 xs) /\ Up w w'
theorem zsj (w : World) (a b : Value) (t : TypeId) : ∀ j u, ([a, b] : List Value)[j]? = some u -> (w.alloc (.cells #[a, b] t)).cell? ((⟨w.heap.size, 0, none⟩ : Addr).add j) = some u := by
 intro j u hj
 match j, hj with
 | 0, hj => simp at hj; subst hj; simp [Addr.add]
 | 1, hj => simp at hj; subst hj; simp [Addr.add]
 | j + 2, hj => simp at hj
theorem zce (i k0 n : Nat) (w : World) (hi : i <= 1000000) (hk : k0 <= 1000000) (hn : n <= 1000000) :
  Calls prog 103 #[.int .i64 i, .int .i64 k0, .int .i64 n] w (zx3 w (marks i k0 n)) := by
 obtain ⟨i0, af, ag, ah, ai⟩ := info_parts Tryz.nodeInfo
 have aj : Hid (∀ k, marks i k0 (k + 1) = marks i k0 k ++ [(-1 - (i : Int), ((k0 + k : Nat) : Int))]) := fun k => zc4 i k0 k
 have ak : Hid (∀ k, (marks i k0 k).length = k) := fun k => zab i k0 k
 have al : IntKind.i64.wrap ((k0 : Int) + (n : Int)) = (k0 : Int) + (n : Int) := IntWalk.i64_in _ (by omega)
 go_enter func103, ntmps103
 go_wp2_with fail
 go_loopw [7, 8] (fun lv j wr => ∃ k : Nat, k <= n /\ j = .int .i64 ((k0 + k : Nat) : Int) /\ wr.ownsRow w.heap.size 81 2 lv k (za7 (marks i k0 k)) /\ Up w wr) (fun _ j _ => (k0 + n) - (intOf j).toNat)
 case atStart => exact ⟨0, Nat.zero_le _, by simp, World.ownsRow_nil _ _ _ _, Up.refl w⟩
 case round =>
  obtain ⟨k, am, rfl, aa, ae⟩ := hrel
  have an := ae.size
  by_cases hlt : k < n
  ·have q1 : decide (((k0 + k : Nat) : Int) < (k0 : Int) + (n : Int)) = true := by simp; omega
   obtain ⟨so, sc, rfl⟩ := za1 aa
   obtain ⟨x, hx⟩ := nm (k0 + k)
   rw [<- hx] at q1
   have HX := zh hx
   have ao : (x : Int) <= 2000000 := by omega
   have aq : (i : Int) <= 1000000 := by omega
   have m1 : IntKind.i64.wrap (-1 - (i : Int)) = -1 - (i : Int) := IntWalk.i64_in _ (by omega)
   rw [<- hx]
   clear hx
   go_wp2_with (at_builtin; (refine wpList_append_own _ rfl _ _ 28 rfl w.heap.size 81 i0 (.agg #[.int .i64 0, .int .i64 0]) 2 16 underlying28 af ag ah ai rfl (by decide) _ k _ rfl (aa.alloc _) ⟨wr.heap.size, 0, none⟩ 1 1 [.int .i64 (-1 - (i : Int)), .int .i64 (x : Nat)] rfl rfl (zsj wr _ _ _) (by intro u hu; simp at hu; rcases hu with rfl | rfl <;> rfl) (by unfold maxLen; omega) (by omega) (by simp; omega) ?_); intro v' w2 ac ab ad; clear ad)
   go_roundw
   case rel => exact ⟨k + 1, by omega, by rw [HX.out]; go_num, by rw [aj.out, zb7, <- HX.out]; exact ac, (ae.alloc _).grown ab (fun g hg => (aa.lt g hg).1)⟩
   case measure => have au := HX.out; clear m1; simp [intOf]; omega
  ·have q1 : decide (((k0 + k : Nat) : Int) < (k0 : Int) + (n : Int)) = false := by simp; omega
   obtain rfl : k = n := by omega
   go_wp2_with fail
   go_ret
   exact ⟨_, rfl, by rw [ak.out]; exact aa, ae⟩
def Els (w : World) (vs : List Value) (C : Nat -> List (Int × Int)) : Prop := ∀ i, i < vs.length -> w.ownsRow 0 81 2 (nth vs i) (C i).length (za7 (C i))
theorem Els.up {w w' : World} {vs : List Value} {C : Nat -> List (Int × Int)} (h : Els w vs C) (hu : Up w w') : Els w' vs C := fun i hi => hu.owns (h i hi)
def upd (C : Nat -> List (Int × Int)) (i : Nat) (x : List (Int × Int)) (j : Nat) : List (Int × Int) := if j = i then x else C j
theorem upd_same (C : Nat -> List (Int × Int)) (i : Nat) (x : List (Int × Int)) : upd C i x i = x := by simp [upd]
theorem ze4 {C : Nat -> List (Int × Int)} {i j : Nat} {x : List (Int × Int)} (h : j ≠ i) : upd C i x j = C j := by simp [upd, h]
theorem Els.set {w : World} {vs : List Value} {C : Nat -> List (Int × Int)} (h : Els w vs C) (ha : Apt vs) {i g cap k : Nat} (hi : i < vs.length) (hv : nth vs i = .slice (some ⟨g, 0, none⟩) (C i).length cap) (x : Int × Int) :
  Els ((w.setCell ⟨g, k * 2, none⟩ (.int .i64 x.1)).setCell ⟨g, k * 2 + 1, none⟩ (.int .i64 x.2)) vs (upd C i ((C i).set k x)) := by
 intro j hj
 by_cases hji : j = i
 ·subst hji
  rw [upd_same, List.length_set]
  have h0 := h j hj
  rw [hv] at h0 ⊢
  obtain ⟨hr, h1, h2, h3⟩ := Row.of h0
  have := (hr.set (k * 2) (.int .i64 x.1)).set (k * 2 + 1) (.int .i64 x.2)
  rw [<- zj4] at this
  exact this.owns h1 h2 (by rw [zbo, List.length_set])
 ·rw [ze4 hji]
  refine za2 (h j hj) (fun k' hk => ?_)
  have aa : k' ≠ g := by
   rintro rfl
   exact ha i j _ hi hj (fun e => hji e.symm) (by rw [hv]; rfl) hk
  rw [Below.heap_setCell _ ⟨g, k * 2 + 1, none⟩ _ _ aa, Below.heap_setCell _ ⟨g, k * 2, none⟩ _ _ aa]
def mix (M c : List (Int × Int)) (k : Nat) : List (Int × Int) := M.take k ++ c.drop k
theorem zlp (M c : List (Int × Int)) : mix M c 0 = c := by simp [mix]
theorem zod {M c : List (Int × Int)} (h : M.length = c.length) : mix M c c.length = M := by simp [mix, <- h]
theorem zg7 {M c : List (Int × Int)} (h : M.length = c.length) {k : Nat} (hk : k <= c.length) : (mix M c k).length = c.length := by simp [mix]; omega
theorem zAm {M c : List (Int × Int)} (h : M.length = c.length) {k : Nat} (hk : k < c.length) : (mix M c k).set k (M.getD k (0, 0)) = mix M c (k + 1) := by
 apply List.ext_getElem?
 intro j
 simp only [mix, List.getElem?_set, List.getElem?_append, List.length_append, List.length_take, List.length_drop, List.getElem?_take, List.getElem?_drop, List.getD]
 rw [show min k M.length = k by omega, show min (k + 1) M.length = k + 1 by omega]
 by_cases h1 : k = j
 ·subst h1
  rw [if_pos rfl, if_pos (by omega), if_pos (by omega), if_pos (by omega), List.getElem?_eq_getElem (by omega)]
  rfl
 ·rw [if_neg h1]
  by_cases h2 : j < k
  ·rw [if_pos h2, if_pos h2, if_pos (by omega), if_pos (by omega)]
  ·rw [if_neg h2, if_neg (by omega)]
   congr 1; omega
theorem Els.ne {w : World} {vs : List Value} {C : Nat -> List (Int × Int)} (h : Els w vs C) {base size m : Nat} {e : TypeId} {v : Value} {xs : List Value} (hv : w.ownsRow base e size v m xs) (he : e ≠ 81) {g : Nat} (hg : v.ownBlock = some g) : ¬ InV vs g := by
 rintro ⟨i, hi, hk⟩
 obtain ⟨c1, e1⟩ := za5 hv hg
 obtain ⟨c2, e2⟩ := za5 (h i hi) hk
 rw [e1] at e2
 simp only [Option.some.injEq, Obj.cells.injEq] at e2
 exact he e2.2.1
theorem Els.zG5 {w : World} {vs : List Value} {C : Nat -> List (Int × Int)} (h : Els w vs C) {g : Nat} {cs : Array Value} {e : TypeId} (hb : w.heap[g]? = some (.cells cs e (0, 0))) (he : e ≠ 81) : ¬ InV vs g := by
 rintro ⟨i, hi, hk⟩
 obtain ⟨cur, hh⟩ := za5 (h i hi) hk
 rw [hb] at hh
 simp only [Option.some.injEq, Obj.cells.injEq] at hh
 exact he hh.2.1
structure zFx (w : World) (bk : Nat) (vi : Value) (vs : List Value) : Prop where
 c0 : w.cell? ⟨bk, 12, none⟩ = some vi
 ri : w.ownsRow 0 28 1 vi vs.length vs
structure zDm (w wr : World) (vs : List Value) (C : Nat -> List (Int × Int)) : Prop where
 el : Els wr vs C
 tur : Turned (InV vs) w wr
theorem zDm.up {w wr w' : World} {vs : List Value} {C : Nat -> List (Int × Int)} (h : zDm w wr vs C) (hu : Up wr w') : zDm w w' vs C :=
 ⟨h.el.up hu, h.tur.trans (T := fun _ => False) ⟨hu.os, hu.tape, hu.output, hu.size, fun k hk _ => hu.block k hk⟩ (fun _ _ h => h.elim)⟩
theorem zDm.set {w wr : World} {vs : List Value} {C : Nat -> List (Int × Int)} (h : zDm w wr vs C) (ha : Apt vs) {i g cap k : Nat} (hi : i < vs.length) (hv : nth vs i = .slice (some ⟨g, 0, none⟩) (C i).length cap) (x : Int × Int) :
  zDm w ((wr.setCell ⟨g, k * 2, none⟩ (.int .i64 x.1)).setCell ⟨g, k * 2 + 1, none⟩ (.int .i64 x.2)) vs (upd C i ((C i).set k x)) :=
 ⟨h.el.set ha hi hv x, (h.tur.setCell (p := ⟨g, k * 2, none⟩) (.inl ⟨i, hi, by rw [hv]; rfl⟩) _).setCell (p := ⟨g, k * 2 + 1, none⟩) (.inl ⟨i, hi, by rw [hv]; rfl⟩) _⟩
def zEe (C : Nat -> List (Int × Int)) (i j : Nat) : List (Int × Int) := if j < i then marks j 0 (C j).length else C j
theorem zhg (C : Nat -> List (Int × Int)) : zEe C 0 = C := by funext j; simp [zEe]
theorem zhz (C : Nat -> List (Int × Int)) (i : Nat) : zEe C i i = C i := by simp [zEe]
theorem zhw (C : Nat -> List (Int × Int)) (i : Nat) : upd (zEe C i) i (marks i 0 (C i).length) = zEe C (i + 1) := by
 funext j
 by_cases h : j = i
 ·subst h; simp [upd, zEe]
 ·simp only [upd, h, if_false, zEe]
  by_cases h2 : j < i
  ·rw [if_pos h2, if_pos (by omega)]
  ·rw [if_neg h2, if_neg (by omega)]
theorem znx (C : Nat -> List (Int × Int)) (i : Nat) (x y : List (Int × Int)) : upd (upd C i x) i y = upd C i y := by
 funext j; simp only [upd]; split <;> rfl
structure zIs (w : World) (bk : Nat) (ao : Option Addr) (ci g : Nat) (vs : List Value) : Prop where
 c0 : ∀ wr, Turned (InV vs) w wr -> wr.cell? ⟨bk, 12, none⟩ = some (.slice ao vs.length ci)
 el : ∀ wr i, Turned (InV vs) w wr -> i < vs.length -> ao = some ⟨g, 0, none⟩ /\ wr.cell? ⟨g, i, none⟩ = some (nth vs i)
theorem zFx.env {w : World} {bk : Nat} {vi : Value} {vs : List Value} {C : Nat -> List (Int × Int)} {bc : Array Value} (h : zFx w bk vi vs) (he : Els w vs C) (hb : w.heap[bk]? = some (.cells bc 48 (0, 0))) :
  ∃ ao ci g, vi = .slice ao vs.length ci /\ zIs w bk ao ci g vs := by
 have aa : ¬ InV vs bk := he.zG5 hb (by decide)
 rcases za4 h.ri with ⟨rfl, h0, _⟩ | ⟨g, ci, rfl, hr, _⟩
 ·refine ⟨none, 0, 0, by rw [h0], fun wr ht => ?_, fun wr i ht hi => ?_⟩
  ·rw [h0]; exact ht.cell h.c0 aa
  ·omega
 ·refine ⟨_, ci, g, rfl, fun wr ht => ht.cell h.c0 aa, fun wr i ht hi => ⟨rfl, ?_⟩⟩
  exact ht.cell (hr.cell (zdv hi)) (he.ne h.ri (by decide) rfl)
theorem zGb {w : World} {bk : Nat} {vi : Value} {vs : List Value} {C : Nat -> List (Int × Int)} {bc : Array Value} (h : zFx w bk vi vs) (he : Els w vs C) (ha : Apt vs) (hb : w.heap[bk]? = some (.cells bc 48 (0, 0))) (hm : vs.length <= 400) (hC : ∀ i, i < vs.length -> (C i).length <= 1000000) :
  Calls prog 41 #[.pointer (some ⟨bk, 0, none⟩)] w fun r w' => r = .returned (.tuple #[]) /\ zDm w w' vs (zEe C vs.length) := by
 obtain ⟨ao, ci, g, rfl, ak⟩ := h.env he hb
 have HE := zh ak
 have H0 : Hid (zDm w w vs (zEe C 0)) := by rw [zhg]; exact ⟨he, Turned.refl _ _⟩
 obtain ⟨m, ag⟩ := nm (vs.length)
 have HM := zh ag
 have HC := zh hC
 have HA := zh ha
 rw [<- ag] at hm ⊢
 have c00 := ak.c0 w (Turned.refl _ _)
 rw [<- ag] at c00
 clear h he ha hb ag hC ak
 go_enter func41, ntmps41
 go_wp2_with fail
 go_loopw [2] (fun i wr => ∃ k : Nat, k <= m /\ i = .int .i64 k /\ zDm w wr vs (zEe C k)) (fun i _ => m - (intOf i).toNat)
 case atStart => exact ⟨0, Nat.zero_le _, rfl, H0.out⟩
 case round =>
  clear H0
  obtain ⟨k, hk, rfl, hP⟩ := hrel
  have d0 := HE.out.c0 wr hP.tur
  rw [<- HM.out] at d0
  by_cases hlt : k < m
  ·have ac : k < vs.length := by rw [<- HM.out]; exact hlt
   obtain ⟨rfl, d1⟩ := HE.out.el wr k hP.tur ac
   have ab := hP.el k ac
   rw [zhz] at ab
   have an := HC.out k ac
   obtain ⟨n, hn⟩ := nm ((C k).length)
   rw [<- hn] at ab an
   obtain ⟨vo, vc, hv⟩ := za1 ab
   have qk : (k : Int) < (m : Int) := by omega
   rw [hv] at d1
   have HN := zh hn
   have HV := zh hv
   have HP := zh hP
   have aq := zh ab
   obtain ⟨wo, au⟩ := nm wr
   rw [<- au] at d0 d1 HP aq ⊢
   clear hP hn hv ab c00 au
   go_wp2_with (go_at_call 103; refine (zce k 0 n _ (by omega) (by omega) an).mono ?_; rintro r w1 ⟨mv, rfl, ah, aB⟩)
   rw [zab] at ah
   obtain ⟨mo, mc, rfl⟩ := za1 ah
   have av : (marks k 0 n).length = (C k).length := by rw [zab, HN.out]
   have aw : Hid (zDm w w1 vs (upd (zEe C k) k (mix (marks k 0 n) (C k) 0))) := by
    have e : upd (zEe C k) k (mix (marks k 0 n) (C k) 0) = zEe C k := by
     funext j
     by_cases hj : j = k
     ·subst hj; rw [upd_same, zlp, zhz]
     ·rw [ze4 hj]
    rw [e]; exact HP.out.up aB
   have ax := zh ah
   have ai := zh av
   clear ah av d0 d1
   go_wp2_with fail
   go_loopw [4] (fun j wr => ∃ kk : Nat, kk <= n /\ j = .int .i64 kk /\ zDm w wr vs (upd (zEe C k) k (mix (marks k 0 n) (C k) kk)) /\ wr.ownsRow wo.heap.size 81 2 (.slice mo n mc) n (za7 (marks k 0 n))) (fun j _ => n - (intOf j).toNat)
   case atStart => exact ⟨0, Nat.zero_le _, rfl, aw.out, ax.out⟩
   case round =>
    clear aw ax
    obtain ⟨kk, al, rfl, hQ, aj⟩ := hrel
    by_cases hlt2 : kk < n
    ·have e0 := HE.out.c0 wr hQ.tur
     rw [<- HM.out] at e0
     obtain ⟨_, e1⟩ := HE.out.el wr k hQ.tur ac
     have ab := hQ.el k ac
     rw [upd_same, zg7 ai.out (by rw [<- HN.out]; exact al), <- HN.out, HV.out] at ab
     rcases za4 ab with ⟨_, h0, _⟩ | ⟨gv, cv, ad, ae, _⟩
     ·omega
     simp only [Value.slice.injEq, true_and] at ad
     obtain ⟨rfl, rfl⟩ := ad
     rw [HV.out] at e1
     rcases za4 aj with ⟨_, h0, _⟩ | ⟨gm, cm, ad, am, _⟩
     ·omega
     simp only [Value.slice.injEq, true_and] at ad
     obtain ⟨rfl, rfl⟩ := ad
     have aD : wo.heap.size <= gm := (aj.lt gm rfl).1
     have aE : gv < wo.heap.size := by have := aq.out; rw [HV.out] at this; exact za3 this rfl
     obtain ⟨x, hx⟩ := nm ((marks k 0 n).getD kk (0, 0))
     have e2 : wr.cell? ⟨gm, kk * 2, none⟩ = some (.int .i64 x.1) := am.cell (by rw [hx]; exact zhe _ _ (by rw [zab]; exact hlt2))
     have e2' : wr.cell? ⟨gm, kk * 2 + 1, none⟩ = some (.int .i64 x.2) := am.cell (by rw [hx]; exact zhv _ _ (by rw [zab]; exact hlt2))
     have aa := zg7 ai.out (k := kk) (by rw [<- HN.out]; exact al)
     rw [<- HN.out] at aa
     have e3 := ae.cell (zhe (mix (marks k 0 n) (C k) kk) kk (by rw [aa]; exact hlt2))
     have e3' := ae.cell (zhv (mix (marks k 0 n) (C k) kk) kk (by rw [aa]; exact hlt2))
     have f3 := ae.free (kk * 2)
     have f3' := ae.free (kk * 2 + 1)
     obtain ⟨y, hy⟩ := nm ((mix (marks k 0 n) (C k) kk).getD kk (0, 0))
     rw [<- hy] at e3 e3'
     have qkk : (kk : Int) < (n : Int) := by omega
     have HX := zh hx
     have HQ := zh hQ
     have aC := zh aj
     obtain ⟨x1, x2⟩ := x
     obtain ⟨y1, y2⟩ := y
     simp only at e2 e2' e3 e3'
     clear hx hy hQ aj ab ae am aa
     go_wp2_with fail
     go_region
     go_wp2_with fail
     go_roundw
     case rel =>
      refine ⟨kk + 1, by omega, by go_num, ?_, ?_⟩
      ·have af := HQ.out.set HA.out (k := kk) ac (g := gv) (cap := vc) (by rw [HV.out, upd_same, zg7 ai.out (by rw [<- HN.out]; exact al), <- HN.out]) (x1, x2)
       have ay := zAm ai.out (k := kk) (by rw [<- HN.out]; exact hlt2)
       rw [<- HX.out] at ay
       rw [upd_same, znx, ay] at af
       exact af.up (by repeat (first | (with_reducible exact Up.refl _) | (with_reducible apply Up.drew) | (with_reducible apply Up.drewN)))
      ·exact za2 aC.out (fun g' aA => (Below.heap_setCell _ ⟨gv, kk * 2 + 1, none⟩ _ _ (by simp only [Value.ownBlock, Option.some.injEq] at aA; simp only [ne_eq]; omega)).trans (Below.heap_setCell _ ⟨gv, kk * 2, none⟩ _ _ (by simp only [Value.ownBlock, Option.some.injEq] at aA; simp only [ne_eq]; omega)))
     case measure => simp [intOf]; omega
    ·obtain rfl : kk = n := by omega
     go_wp2_with fail
     go_roundw
     case rel =>
      refine ⟨k + 1, by omega, by go_num, ?_⟩
      have := hQ
      rw [HN.out, zod (by rw [zab]), zhw] at this
      exact this
     case measure => simp [intOf]; omega
  ·obtain rfl : k = m := by omega
   go_wp2_with fail
   go_end0
   exact ⟨rfl, hP⟩
structure zDc (w wr : World) (vs : List Value) (L : Nat -> Nat) (outs : List Value) : Prop where
 el : Els wr vs (fun j => marks j 0 (L j))
 oel : Els wr outs (fun j => marks j 0 (L j + 96))
 obl : ∀ j g, j < outs.length -> (nth outs j).ownBlock = some g -> (nth vs j).ownBlock = some g \/ w.heap.size <= g
 tur : Turned (InV vs) w wr
structure zCv (w wo wr : World) (vs : List Value) (L : Nat -> Nat) (outs : List Value) (i : Nat) (lv : Value) (n : Nat) : Prop where
 st : zDc w wr vs L outs
 lrow : wr.ownsRow 0 81 2 lv n (za7 (marks i 0 n))
 lbl : ∀ g, lv.ownBlock = some g -> (nth vs i).ownBlock = some g \/ wo.heap.size <= g
 ge : L i <= n
 sz : w.heap.size <= wo.heap.size /\ wo.heap.size <= wr.heap.size
 olt : ∀ j g, j < outs.length -> (nth outs j).ownBlock = some g -> g < wo.heap.size
 vlt : ∀ j g, j < vs.length -> (nth vs j).ownBlock = some g -> g < w.heap.size
theorem zDc.up {w wr w' : World} {vs : List Value} {L : Nat -> Nat} {outs : List Value} (h : zDc w wr vs L outs) (hu : Up wr w') : zDc w w' vs L outs :=
 ⟨h.el.up hu, h.oel.up hu, h.obl, h.tur.upR hu⟩
theorem zCv.up {w wo wr w' : World} {vs : List Value} {L : Nat -> Nat} {outs : List Value} {i n : Nat} {lv : Value} (h : zCv w wo wr vs L outs i lv n) (hu : Up wr w') : zCv w wo w' vs L outs i lv n :=
 ⟨h.st.up hu, hu.owns h.lrow, h.lbl, h.ge, ⟨h.sz.1, Nat.le_trans h.sz.2 hu.size⟩, h.olt, h.vlt⟩
theorem zCv.app {w wo w1 w2 : World} {vs : List Value} {L : Nat -> Nat} {outs : List Value} {i n m : Nat} {lv v' : Value} (h : zCv w wo w1 vs L outs i lv n) (ha : Apt vs) (hi : i < vs.length) (ho : outs.length = i)
  (aa : w2.ownsRow 0 81 2 v' (n + m) (za7 (marks i 0 n) ++ za7 (marks i n m))) (hg : w1.grownBy w2 lv.ownBlock) (ac : v'.ownBlock = lv.ownBlock \/ v'.ownBlock = some w1.heap.size) (hk : zlw w1 w2 lv n 2) :
  zCv w wo w2 vs L outs i v' (n + m) := by
 have hs := h.sz
 have ad := hg.size
 refine ⟨⟨?_, ?_, h.st.obl, ?_⟩, ?_, ?_, by have := h.ge; omega, ⟨hs.1, by omega⟩, h.olt, h.vlt⟩
 ·intro j hj
  have h0 := h.st.el j hj
  refine hk _ _ _ _ _ _ h0 (fun hh => ?_)
  rw [zab]
  by_cases hji : j = i
  ·subst hji; have := h.ge; omega
  ·cases hl : lv.ownBlock with
   | none => rw [hl] at hh; have := zc7 h0 hh; rw [zab] at this; omega
   | some g =>
    rw [hl] at hh
    rcases h.lbl g hl with h2 | h2
    ·exact absurd hh (ha i j g hi hj (fun e => hji e.symm) h2)
    ·have := h.vlt j g hj hh; omega
 ·intro j hj
  have h0 := h.st.oel j hj
  refine hk _ _ _ _ _ _ h0 (fun hh => ?_)
  rw [zab]
  cases hl : lv.ownBlock with
  | none => rw [hl] at hh; have := zc7 h0 hh; rw [zab] at this; omega
  | some g =>
   rw [hl] at hh
   exfalso
   have h3 := h.olt j g hj hh
   rcases h.lbl g hl with h2 | h2
   ·have h4 := h.vlt i g hi h2
    rcases h.st.obl j g hj hh with h5 | h5
    ·exact ha i j g hi (by omega) (by omega) h2 h5
    ·omega
   ·omega
 ·refine h.st.tur.grown hg (fun k hk => ?_)
  rcases h.lbl k hk with h2 | h2
  ·exact .inl ⟨i, hi, h2⟩
  ·right; omega
 ·have e := zdw i 0 n m
  rw [Nat.zero_add] at e
  rw [<- e, zb7]; exact aa
 ·intro g ab
  rcases ac with h2 | h2
  ·exact h.lbl g (h2 ▸ ab)
  ·rw [h2] at ab; simp only [Option.some.injEq] at ab; right; omega
theorem zCv.out {w wo w3 w4 : World} {vs : List Value} {L : Nat -> Nat} {outs : List Value} {i m : Nat} {lv vo : Value} {e : TypeId} {xs : List Value} (h : zCv w wo w3 vs L outs i lv (L i + 96)) (ho : outs.length = i) (aa : w3.ownsRow w.heap.size e 1 vo m xs) (he : e ≠ 81)
  (hg : w3.grownBy w4 vo.ownBlock) (hk : zlw w3 w4 vo m 1) : zDc w w4 vs L (outs ++ [lv]) := by
 have hs := h.sz
 refine ⟨fun j hj => hk.other aa (h.st.el j hj) he, ?_, ?_, ?_⟩
 ·intro j hj
  rw [List.length_append, List.length_singleton] at hj
  rw [zh3]
  by_cases hji : j = outs.length
  ·subst hji
   rw [if_pos rfl, zab]
   subst ho
   exact hk.other aa h.lrow he
  ·rw [if_neg hji]
   exact hk.other aa (h.st.oel j (by omega)) he
 ·intro j g hj hh
  rw [List.length_append, List.length_singleton] at hj
  rw [zh3] at hh
  by_cases hji : j = outs.length
  ·subst hji
   rw [if_pos rfl] at hh
   subst ho
   rcases h.lbl g hh with h2 | h2
   ·exact .inl h2
   ·right; omega
  ·rw [if_neg hji] at hh
   exact h.st.obl j g (by omega) hh
 ·exact h.st.tur.grown hg (fun k hk => .inr (aa.lt k hk).1)
theorem Tryz.zGe : (prog.info? 28).map (fun i => (i.zero, i.size, i.bytes)) = some (some (.slice none 0 0), 1, 24) := by kernel_rfl
def zKm (w : World) (vs : List Value) (L : Nat -> Nat) (r : Ending) (w' : World) : Prop :=
 ∃ vo outs, r = .returned vo /\ outs.length = vs.length /\ w'.ownsRow w.heap.size 28 1 vo vs.length outs /\ zDc w w' vs L outs
theorem zFz {w : World} {bk : Nat} {vi : Value} {vs : List Value} {L : Nat -> Nat} {bc : Array Value} (h : zFx w bk vi vs) (he : Els w vs (fun j => marks j 0 (L j))) (ha : Apt vs) (hb : w.heap[bk]? = some (.cells bc 48 (0, 0))) (hm : vs.length <= 400) (hL : ∀ i, i < vs.length -> L i <= 900000) :
  Calls prog 52 #[.pointer (some ⟨bk, 0, none⟩)] w (zKm w vs L) := by
 obtain ⟨i0, hi, aL, aM, aN⟩ := info_parts Tryz.zGe
 obtain ⟨j0, hj, aG, aH, aI⟩ := info_parts Tryz.nodeInfo
 obtain ⟨ao, ci, g, rfl, aA⟩ := h.env he hb
 have HE := zh aA
 have H0 : Hid (zDc w w vs L []) := ⟨he, fun j hj => by simp at hj, fun j g hj => by simp at hj, Turned.refl _ _⟩
 have HV : Hid (∀ j g, j < vs.length -> (nth vs j).ownBlock = some g -> g < w.heap.size) := fun j g hj hg => za3 (he j hj) hg
 obtain ⟨m, aw⟩ := nm (vs.length)
 have HM := zh aw
 have HL := zh hL
 have HA := zh ha
 rw [<- aw] at hm
 have c00 := aA.c0 w (Turned.refl _ _)
 rw [<- aw] at c00
 clear h he ha hb aw hL aA
 go_enter func52, ntmps52
 go_wp2_with fail
 go_loopw [3, 4] (fun vo i wr => ∃ (k : Nat) (outs : List Value), k <= m /\ i = .int .i64 k /\ outs.length = k /\ wr.ownsRow w.heap.size 28 1 vo k outs /\ zDc w wr vs L outs) (fun _ i _ => m - (intOf i).toNat)
 case atStart => exact ⟨0, [], Nat.zero_le _, rfl, rfl, World.ownsRow_nil _ _ _ _, H0.out⟩
 case round =>
  clear H0 c00
  obtain ⟨k, outs, hk, rfl, aB, ae, hG⟩ := hrel
  have d0 := HE.out.c0 wr hG.tur
  rw [<- HM.out] at d0
  by_cases hlt : k < m
  ·have an : k < vs.length := by rw [<- HM.out]; exact hlt
   obtain ⟨rfl, d1⟩ := HE.out.el wr k hG.tur an
   have aO := HL.out k an
   obtain ⟨n, hn⟩ := nm (L k)
   have aC : wr.ownsRow 0 81 2 (nth vs k) n (za7 (marks k 0 n)) := by have := hG.el k an; simp only [zab] at this; rw [<- hn] at this; exact this
   rw [<- hn] at aO
   have qk : (k : Int) < (m : Int) := by omega
   obtain ⟨vo', vc', aP⟩ := za1 ae
   obtain ⟨eo, ec, aD⟩ := za1 aC
   have ax : Hid (zCv w wr wr vs L outs k (nth vs k) (n + 0)) := ⟨hG, aC, fun g hg => .inl hg, by omega, ⟨hG.tur.size, Nat.le_refl _⟩, fun j g hj hg => za3 (hG.oel j hj) hg, HV.out⟩
   rw [aD] at d1 ax
   have HN := zh hn
   have ay := zh aB
   have am := zh ae
   have aW := zh aD
   have aQ : w.heap.size <= wr.heap.size := hG.tur.size
   obtain ⟨wo, aJ⟩ := nm wr
   rw [<- aJ] at d0 d1 ax am aQ ⊢
   subst aP
   clear hG hn aB ae aC aD aJ
   go_wp2_with fail
   go_loopw [5, 6] (fun lv j wr => ∃ c : Nat, c <= 16 /\ j = .int .i64 c /\ zCv w wo wr vs L outs k lv (n + c) /\ wr.ownsRow w.heap.size 28 1 (.slice vo' k vc') k outs) (fun _ j _ => 16 - (intOf j).toNat)
   case atStart => exact ⟨0, by omega, rfl, ax.out, am.out⟩
   case round =>
    clear ax am d0 d1
    obtain ⟨c, hc, rfl, hI, ae⟩ := hrel
    have aX := hI.sz
    obtain ⟨lo, lc, rfl⟩ := za1 hI.lrow
    have HI := zh hI
    have am := zh ae
    obtain ⟨x, hx⟩ := nm (n + c)
    rw [<- hx] at HI ⊢
    have aY : x <= 900016 := by omega
    have HX := zh hx
    clear hI ae hx
    by_cases hlt2 : c < 16
    ·have qc : (c : Int) < 16 := by omega
     go_wp2_with (first
      | (go_at_call 103; refine (zce k x 1 _ (by omega) (by omega) (by omega)).mono ?_; rintro r w1 ⟨mv, rfl, af, ag⟩; rw [zab] at af; (obtain ⟨gm, cm, rfl, aq⟩ := zfd af (by omega)); (have ah := zh (HI.out.up ag)); (have ai := zh (ag.owns am.out)); (have aR := ag.size); (have aj := zh aq); clear af aq)
      | (at_builtin; (refine zax rfl _ _ 28 rfl 0 81 j0 (.agg #[.int .i64 0, .int .i64 0]) 2 16 underlying28 hj aG aH aI rfl (by decide) (.slice lo x lc) x _ rfl ah.out.lrow ⟨gm, 0, none⟩ 1 cm (za7 (marks k x 1)) rfl (by rw [zbo, zab]) (fun j u hu => (by have := aj.out.cell hu; rw [zei]; exact this)) (zcf _) (by unfold maxLen; omega) (by omega) (Nat.zero_le _) ?_); intro v' w2 ac ab ad aa))
     have aK := ah.out.app HA.out an ay.out (m := 1) ac ab ad aa
     have aE := aa.other ah.out.lrow ai.out (by decide)
     go_roundw
     case rel => exact ⟨c + 1, by omega, by go_num, by rw [HX.out] at aK; exact aK, aE⟩
     case measure => simp [intOf]; omega
    ·obtain rfl : c = 16 := by omega
     go_wp2_with (first
      | (go_at_call 103; refine (zce k x 80 _ (by omega) (by omega) (by omega)).mono ?_; rintro r w1 ⟨mv, rfl, af, ag⟩; rw [zab] at af; (obtain ⟨gm, cm, rfl, aq⟩ := zfd af (by omega)); (have ah := zh (HI.out.up ag)); (have ai := zh (ag.owns am.out)); (have aR := ag.size); (have aj := zh aq); clear af aq)
      | (at_builtin; (refine zax rfl _ _ 28 rfl 0 81 j0 (.agg #[.int .i64 0, .int .i64 0]) 2 16 underlying28 hj aG aH aI rfl (by decide) (.slice lo x lc) x _ rfl ah.out.lrow ⟨gm, 0, none⟩ 80 cm (za7 (marks k x 80)) rfl (by rw [zbo, zab]) (fun j u hu => (by have := aj.out.cell hu; rw [zei]; exact this)) (zcf _) (by unfold maxLen; omega) (by omega) (Nat.zero_le _) ?_); intro v' w2 ac ab ad aa; (have aS := zh (ah.out.app HA.out an ay.out (m := 80) ac ab ad aa)); (have au := zh (aa.other ah.out.lrow ai.out (by decide))); (obtain ⟨no, nc, rfl⟩ := za1 ac); (have aZ := ab.size); clear ac ab ad aa)
      | (at_builtin; (refine zax rfl _ _ 42 rfl w.heap.size 28 i0 (.slice none 0 0) 1 24 underlying42 hi aL aM aN rfl (by decide) (.slice vo' k vc') k _ rfl (au.out.alloc _) ⟨w2.heap.size, 0, none⟩ 1 1 [.slice no (x + 80) nc] rfl rfl (cell_one_new _ _ _) (ze8 _ _ _) (by unfold maxLen; omega) (by omega) (by simp; omega) ?_); intro v3 w4 av ak aT al))
     have aU : zCv w wo (w2.alloc (.cells #[.slice no (x + 80) nc] 28)) vs L outs k (.slice no (x + 80) nc) (L k + 96) := by
      have := aS.out.up ((Up.refl w2).alloc (.cells #[.slice no (x + 80) nc] 28))
      rw [show x + 80 = L k + 96 by rw [HX.out, HN.out]] at this ⊢
      exact this
     have aV := aU.out ay.out (au.out.alloc _) (by decide) ak al
     have aF : (outs ++ [Value.slice no (x + 80) nc]).length = k + 1 := by rw [List.length_append, ay.out]; rfl
     go_wp2_with fail
     go_roundw
     case rel => exact ⟨k + 1, _, by omega, by go_num, aF, av, aV⟩
     case measure => simp [intOf]; omega
  ·obtain rfl : k = m := by omega
   go_wp2_with fail
   go_ret
   exact ⟨_, outs, rfl, by rw [aB, HM.out], by rw [<- HM.out]; exact ae, hG⟩
theorem zDs {v u : Value} {xs : List (Int × Int)} {w : World} (hm : xs.length <= 1000000) (hv : Ls2 w v xs) (hu : Ls2 w u xs) :
  Calls prog 10 #[v, u] w (Eql w true) := by
 have := zr0 hv hu (by omega) (by omega)
 rwa [decide_eq_true rfl] at this
theorem zEb {w : World} {base : Nat} {vo : Value} {vs : List Value} {L : Nat -> Nat} (hr : w.ownsRow base 28 1 vo vs.length vs) (he : Els w vs (fun j => marks j 0 (L j))) (hm : vs.length <= 400) (hL : ∀ i, i < vs.length -> L i <= 1000000) :
  Calls prog 63 #[vo] w fun r w' => r = .returned (.bool true) /\ Up w w' := by
 have ac : ∃ ao ci g, vo = .slice ao vs.length ci /\ ∀ i, i < vs.length -> ao = some ⟨g, 0, none⟩ /\ w.cell? ⟨g, i, none⟩ = some (nth vs i) := by
  rcases za4 hr with ⟨rfl, h0, _⟩ | ⟨g, ci, rfl, hr, _⟩
  ·exact ⟨none, 0, 0, by rw [h0], fun i hi => by omega⟩
  ·exact ⟨_, ci, g, rfl, fun i hi => ⟨rfl, hr.cell (zdv hi)⟩⟩
 obtain ⟨ao, ci, g, rfl, hc⟩ := ac
 obtain ⟨m, ad⟩ := nm (vs.length)
 have HM := zh ad
 have HL := zh hL
 have HC := zh hc
 have HE := zh he
 rw [<- ad] at hm ⊢
 clear hr he ad hL hc
 go_enter func63, ntmps63
 go_wp2_with fail
 go_loopw [3] (fun i wr => ∃ k : Nat, k <= m /\ i = .int .i64 k /\ Up w wr) (fun i _ => m - (intOf i).toNat)
 case atStart => exact ⟨0, Nat.zero_le _, rfl, Up.refl w⟩
 case round =>
  obtain ⟨k, hk, rfl, ab⟩ := hrel
  by_cases hlt : k < m
  ·have ae : k < vs.length := by rw [<- HM.out]; exact hlt
   obtain ⟨rfl, d1⟩ := HC.out k ae
   have ag := HL.out k ae
   have aa : w.ownsRow 0 81 2 (nth vs k) (L k) (za7 (marks k 0 (L k))) := by have := HE.out k ae; simp only [zab] at this; exact this
   obtain ⟨n, hn⟩ := nm (L k)
   rw [<- hn] at aa ag
   obtain ⟨eo, ec, ah⟩ := za1 aa
   rw [ah] at d1 aa
   have ak := zh aa
   have qk : (k : Int) < (m : Int) := by omega
   have e1 := ab.cell d1
   have HD := zh d1
   have HS : Hid (∀ w1 v, Up wr w1 -> Ls2 w1 v (marks k 0 n) -> Calls prog 10 #[.slice eo n ec, v] w1 (Eql w1 true)) := fun w1 v hu hv => zDs (by rw [zab]; omega) (zc6 ((ab.trans hu).owns ak.out)) hv
   clear hn aa ah d1
   go_wp2_with fail
   go_region_held3 (fun w => w.cell? ⟨g, k, none⟩ = some (.slice eo n ec)) (first | assumption) (first
    | (go_at_call 103; refine (zce k 0 n _ (by omega) (by omega) ag).mono ?_; rintro r w1 ⟨mv, rfl, al, af⟩; (have am : Up wr w1 := Up.trans (by repeat (first | (with_reducible exact Up.refl _) | assumption | (with_reducible apply Up.drewN) | (with_reducible apply Up.drew))) af); (have e2 := am.cell e1))
    | (go_at_call 10; (with_reducible refine (HS.out _ mv ?_ ?_).mono ?_); (repeat (first | (with_reducible exact Up.refl _) | assumption | (with_reducible apply Up.drewN) | (with_reducible apply Up.drew))); (refine (zc6 al).up ?_; repeat (first | (with_reducible exact Up.refl _) | assumption | (with_reducible apply Up.drewN) | (with_reducible apply Up.drew))); rintro r w2 ⟨rfl, ai⟩; (have aj : Up wr w2 := by (refine Up.trans ?_ ai; repeat (first | (with_reducible exact Up.refl _) | assumption | (with_reducible apply Up.drewN) | (with_reducible apply Up.drew)))); (have e3 := aj.cell e1); clear ai))
   go_wp2_with fail
   go_roundw
   case rel => exact ⟨k + 1, by omega, by go_num, by repeat (first | exact ab.trans aj | (with_reducible apply Up.drewN) | (with_reducible apply Up.drew))⟩
   case measure => simp [intOf]; omega
  ·obtain rfl : k = m := by omega
   go_wp2_with fail
   go_ret
   exact ⟨rfl, ab⟩
theorem zFk {w : World} {bk base : Nat} {vi vw : Value} {vs us : List Value} {C : Nat -> List (Int × Int)} (c0 : w.cell? ⟨bk, 12, none⟩ = some vi) (c1 : w.cell? ⟨bk, 13, none⟩ = some vw) (hr : w.ownsRow base 28 1 vi vs.length vs) (hu : w.ownsRow base 28 1 vw vs.length us) (ag : us.length = vs.length)
    (he : Els w vs C) (hf : Els w us C) (hm : vs.length <= 400) (hL : ∀ i, i < vs.length -> (C i).length <= 1000000) :
    Calls prog 30 #[.pointer (some ⟨bk, 0, none⟩)] w fun r w' => r = .returned (.bool true) /\ Up w w' := by
  have ah : ∃ ao ci g, vi = .slice ao vs.length ci /\ ∀ i, i < vs.length -> ao = some ⟨g, 0, none⟩ /\ w.cell? ⟨g, i, none⟩ = some (nth vs i) := by
    rcases za4 hr with ⟨rfl, h0, _⟩ | ⟨g, ci, rfl, hr, _⟩
    · exact ⟨none, 0, 0, by rw [h0], fun i hi => by omega⟩
    · exact ⟨_, ci, g, rfl, fun i hi => ⟨rfl, hr.cell (zdv hi)⟩⟩
  have ab : ∃ ao ci g, vw = .slice ao vs.length ci /\ ∀ i, i < vs.length -> ao = some ⟨g, 0, none⟩ /\ w.cell? ⟨g, i, none⟩ = some (nth us i) := by
    rcases za4 hu with ⟨rfl, h0, _⟩ | ⟨g, ci, rfl, hr, _⟩
    · exact ⟨none, 0, 0, by rw [h0], fun i hi => by omega⟩
    · exact ⟨_, ci, g, rfl, fun i hi => ⟨rfl, hr.cell (zdv (by rw [ag]; exact hi))⟩⟩
  obtain ⟨ao, ci, g, rfl, hc⟩ := ah
  obtain ⟨bo, di, g', rfl, hd⟩ := ab
  obtain ⟨m, ai⟩ := nm (vs.length)
  have HM := zh ai
  have HL := zh hL
  have HC := zh hc
  have HD := zh hd
  have HE := zh he
  have HF := zh hf
  have au := zh ag
  rw [<- ai] at hm c0 c1
  clear hr hu he hf ai hL hc hd ag
  go_enter func30, ntmps30
  go_wp2_with fail
  go_loopw [3] (fun i wr => ∃ (k : Nat), k <= m /\ i = .int .i64 k /\ Up w wr) (fun i _ => m - (intOf i).toNat)
  case atStart => exact ⟨0, Nat.zero_le _, rfl, Up.refl w⟩
  case round =>
    obtain ⟨k, hk, rfl, aa⟩ := hrel
    by_cases hlt : k < m
    · have ac : k < vs.length := by rw [<- HM.out]; exact hlt
      obtain ⟨rfl, d1⟩ := HC.out k ac
      obtain ⟨rfl, d2⟩ := HD.out k ac
      have al := HL.out k ac
      have ad := HE.out k ac
      have ae := HF.out k (by rw [au.out]; exact ac)
      obtain ⟨eo, ec, am⟩ := za1 ad
      obtain ⟨fo, fc, an⟩ := za1 ae
      obtain ⟨n, hn⟩ := nm ((C k).length)
      rw [am] at d1 ad
      rw [an] at d2 ae
      rw [<- hn] at d1 d2 al ad ae
      have qk : (k : Int) < (m : Int) := by omega
      have HS : Hid (∀ w1, Up w w1 -> Calls prog 10 #[.slice eo n ec, .slice fo n fc] w1 (Eql w1 true)) := fun w1 hu => zDs (by rw [<- hn]; exact al) (zc6 (hu.owns ad)) (zc6 (hu.owns ae))
      clear hn ad ae am an
      have KC : Hid (∀ W, Up wr W -> W.cell? ⟨bk, 12, none⟩ = some (.slice (some ⟨g, 0, none⟩) m ci) /\ W.cell? ⟨bk, 13, none⟩ = some (.slice (some ⟨g', 0, none⟩) m di) /\ W.cell? ⟨g, k, none⟩ = some (.slice eo n ec) /\ W.cell? ⟨g', k, none⟩ = some (.slice fo n fc)) := zh (fun W hW => ⟨(aa.trans hW).cell c0, (aa.trans hW).cell c1, (aa.trans hW).cell d1, (aa.trans hW).cell d2⟩)
      have c0' := aa.cell c0
      have aq := zh aa
      clear aa
      go_wp2_with fail
      refine zak (fun w' => Up wr w') (by kernel_rfl) (by kernel_rfl) (Up.drew (Up.refl _)) ?_
      iterate 16
        refine WQ.step (fun K' hK => ?_)
        go_simp
        apply Exists.intro
        refine ⟨?_, hK _ ?_⟩
        (intro w' aj
         first
           | rfl
           | ((go_at_call 10); (with_reducible refine (HS.out _ (aq.out.trans aj)).mono ?_); rintro e w3 ⟨rfl, av⟩; exact ⟨rfl, Up.trans aj av⟩)
           | (obtain ⟨k0, k1, k2, k3⟩ := KC.out w' aj
              go_simp; first | done | rfl | exact ⟨rfl, rfl⟩))
        clear hK K'
      refine WQ.nil ?_
      intro aw af
      have ak := zh (aq.out.trans af)
      clear af
      go_wp2_with fail
      go_roundw
      case rel => exact ⟨k + 1, by omega, by go_num, ak.out⟩
      case measure => simp [intOf]; omega
    · obtain rfl : k = m := by omega
      have c0' := aa.cell c0
      go_wp2_with fail
      go_ret
      exact ⟨rfl, aa⟩
end Go.Proofs.YtoaoajfjcfcmhaaGreatDoor.Nd2
