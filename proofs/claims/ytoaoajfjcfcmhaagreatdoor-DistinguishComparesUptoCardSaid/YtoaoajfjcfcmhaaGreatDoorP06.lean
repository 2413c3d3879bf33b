/- Walks: slices.Clone at edges, at steps, at integers. Walk: slices.Compact at pairs ([2]int). Walks: slices.SortFunc at edges by two orders; system.Sorted, system.Normal. A region that draws its order, walked once: its loads and its pure operations are each taken first, in an order that is . -/
import Derived.Test.YtoaoajfjcfcmhaaGreatDoorP01
import Derived.WalkLawsBesides
import Derived.Laws.StructEq
import Derived.BigRegion
import Derived.Laws.IdiomCopy
import Derived.StillTailTactics
import Derived.DeepKeys
import Derived.Test.YtoaoajfjcfcmhaaGreatDoorP02
import Derived.Test.YtoaoajfjcfcmhaaGreatDoorLayS
import Derived.Shelf.SlSortCmp.WholeK
import Derived.Shelf.SlSortCmp.NoneTotal
import Derived.OrdersHeld
import Derived.StillTail
import Derived.Maps.AppendAt
set_option linter.unusedVariables false
set_option linter.unusedSimpArgs false
set_option maxHeartbeats 16000000
set_option maxRecDepth 100000
open Go.Proofs.Tryz
namespace Go.Proofs.YtoaoajfjcfcmhaaGreatDoor
open Go.RowKit Go.Sort
def zy4 (e : TypeId) (size n : Nat) (xs : List Value) (w : World) (r : Ending) (w' : World) : Prop := ∃ v', r = .returned v' /\ w'.ownsRow w.heap.size e size v' n xs /\ Below w.heap.size w w'
theorem zk1 (w : World) (e : TypeId) (size : Nat) : (w.alloc (.cells #[] e)).ownsRow w.heap.size e size (.slice (some ⟨w.heap.size, 0, none⟩) 0 0) 0 [] :=
 ⟨by simp, .inr ⟨w.heap.size, 0, #[], rfl, Nat.le_refl _, heap_alloc_new w _, Nat.le_refl _, by simp [maxLen], by simp, by simp⟩⟩
theorem zd7 (b o i : Nat) : (⟨b, o, none⟩ : Addr).add i = ⟨b, o + i, none⟩ := by
 unfold Addr.add
 split
 ·rename_i h; subst h; rfl
 ·rfl
def ivs (l : List Int) : List Value := l.map (Value.int .i64)
theorem zde (l : List Int) : (ivs l).length = l.length := by simp [ivs]
theorem zzu (l : List Int) : ∀ u ∈ ivs l, u.oneCell' = true := by
 intro u hu
 obtain ⟨_, _, rfl⟩ := List.mem_map.1 hu
 rfl
theorem zB9 {w : World} {g off : Nat} {xs : List Int} (h : zk9 w g off xs) : ∀ j u, (ivs xs)[j]? = some u -> w.cell? ((⟨g, off, none⟩ : Addr).add j) = some u := by
 intro j u hj
 have aa : j < xs.length := by have := (List.getElem?_eq_some_iff.1 hj).1; rwa [zde] at this
 rw [show (ivs xs)[j]? = some (.int .i64 (xs.getD j 0)) by simp [ivs, aa], Option.some.injEq] at hj
 rw [<- hj, zd7]
 exact h j aa
theorem zmj {w : World} {g off : Nat} {l : List Sy.Edge} (h : zJ7 w g off l) : ∀ j u, (cells3 l)[j]? = some u -> w.cell? ((⟨g, off, none⟩ : Addr).add j) = some u := by
 intro j u hj
 have aa : j < l.length * 3 := by have := (List.getElem?_eq_some_iff.1 hj).1; rwa [zbn] at this
 rw [zd7]
 obtain ⟨i, c, hc, rfl⟩ : ∃ i c, c < 3 /\ j = i * 3 + c := ⟨j / 3, j % 3, by omega, by omega⟩
 have g1 := zg2 l i (by omega)
 have g2 := h i (by omega)
 match c, hc with
 | 0, _ => rw [Nat.add_zero, g1.1, Option.some.injEq] at hj; rw [<- hj]; exact g2.1
 | 1, _ => rw [g1.2.1, Option.some.injEq] at hj; rw [<- hj, <- Nat.add_assoc]; exact g2.2.1
 | 2, _ => rw [g1.2.2, Option.some.injEq] at hj; rw [<- hj, <- Nat.add_assoc]; exact g2.2.2
theorem Tryz.zFi : (prog.info? 60).map (fun i => (i.zero, i.size, i.bytes)) = some (some (.agg #[.int .i64 0, .int .i64 0, .int .i64 0]), 3, 24) := by kernel_rfl
theorem zia {xs : List Sy.Edge} {v : Value} {w : World} (hv : Ls3 w v xs) (hm : xs.length <= 1000000) :
  Calls prog 118 #[v] w (zy4 60 3 xs.length (cells3 xs) w) := by
 obtain ⟨i0, hi, af, ag, ah⟩ := info_parts Tryz.zFi
 have hq := Lib.run_eql_slice_nil (P := prog)
 obtain ⟨ao, cap, g, off, rfl, ha, hx⟩ := hv
 cases ao with
 | none =>
  obtain rfl : xs = [] := List.eq_nil_of_length_eq_zero (by
   rcases Nat.eq_zero_or_pos xs.length with h | h
   ·exact h
   ·exact absurd (ha h) (by simp))
  have ad := fun w => hq w 22 60 none 0 cap 0 0 underlying22
  clear hx ha hm hq
  simp only [List.length_nil]
  go_enter func118, ntmps118
  go_wp2_with fail
  go_ret
  exact ⟨_, rfl, World.ownsRow_nil _ _ _ _, Below.refl _ _⟩
 | some a =>
  have ad := fun w => hq w 22 60 (some a) xs.length cap 0 0 underlying22
  have ae : ∀ j u, (cells3 xs)[j]? = some u -> (w.alloc (.cells #[] 60)).cell? (a.add j) = some u := by
   intro j u hj
   have hl : 0 < xs.length := by
    have := (List.getElem?_eq_some_iff.1 hj).1
    rw [zbn] at this; omega
   have := ha hl
   simp only [Option.some.injEq] at this
   subst this
   exact ((Up.refl w).alloc _).cell (zmj hx j u hj)
  have ab := zbn xs
  have HL := zh ab
  have ai := zh ae
  obtain ⟨n, hn⟩ := nm (xs.length)
  rw [<- hn] at hm ad ⊢
  have HN := zh hn
  clear hx ha hq ae ab hn
  go_enter func118, ntmps118
  go_wp2_with (at_builtin; refine wpList_append_own _ rfl _ _ 22 rfl w.heap.size 60 i0 (.agg #[.int .i64 0, .int .i64 0, .int .i64 0]) 3 24 underlying22 hi af ag ah rfl (by decide) _ _ _ rfl (zk1 w _ _) a n cap (cells3 xs) rfl (by rw [HL.out, HN.out]) ai.out (zjm xs) (by unfold maxLen; omega) (by omega) (by simp) ?_; intro v1 w1 ac aa _)
  go_ret
  refine ⟨v1, rfl, by simpa using ac, ?_⟩
  exact ((Below.refl _ _).alloc (Nat.le_refl _) _).grown aa (by simp) (fun k hk => by cases hk; exact Nat.le_refl _)
theorem Tryz.zI6 : (prog.info? 169).map (fun i => (i.zero, i.size, i.bytes)) = some (some (.agg #[.int .i64 0, .int .i64 0]), 2, 16) := by kernel_rfl
theorem Tryz.zCp : (prog.info? 3).map (fun i => (i.zero, i.size, i.bytes)) = some (some (.int .i64 0), 1, 8) := by kernel_rfl
theorem zr2 {xs : List Int} {v : Value} {w : World} (hv : Lst w v xs) (hm : xs.length <= 1000000) :
  Calls prog 156 #[v] w (zy4 3 1 xs.length (ivs xs) w) := by
 obtain ⟨i0, hi, af, ag, ah⟩ := info_parts Tryz.zCp
 have hq := Lib.run_eql_slice_nil (P := prog)
 obtain ⟨ao, cap, g, off, rfl, ha, hx⟩ := hv
 cases ao with
 | none =>
  obtain rfl : xs = [] := List.eq_nil_of_length_eq_zero (by
   rcases Nat.eq_zero_or_pos xs.length with h | h
   ·exact h
   ·exact absurd (ha h) (by simp))
  have ad := fun w => hq w 27 3 none 0 cap 0 0 underlying27
  clear hx ha hm hq
  simp only [List.length_nil]
  go_enter func156, ntmps156
  go_wp2_with fail
  go_ret
  exact ⟨_, rfl, World.ownsRow_nil _ _ _ _, Below.refl _ _⟩
 | some a =>
  have ad := fun w => hq w 27 3 (some a) xs.length cap 0 0 underlying27
  have ae : ∀ j u, (ivs xs)[j]? = some u -> (w.alloc (.cells #[] 3)).cell? (a.add j) = some u := by
   intro j u hj
   have hl : 0 < xs.length := by
    have := (List.getElem?_eq_some_iff.1 hj).1
    rw [zde] at this; omega
   have := ha hl
   simp only [Option.some.injEq] at this
   subst this
   exact ((Up.refl w).alloc _).cell (zB9 hx j u hj)
  have ab := zde xs
  have HL := zh ab
  have ai := zh ae
  obtain ⟨n, hn⟩ := nm (xs.length)
  rw [<- hn] at hm ad ⊢
  have HN := zh hn
  clear hx ha hq ae ab hn
  go_enter func156, ntmps156
  go_wp2_with (at_builtin; refine wpList_append_own _ rfl _ _ 27 rfl w.heap.size 3 i0 (.int .i64 0) 1 8 underlying27 hi af ag ah rfl (by decide) _ _ _ rfl (zk1 w _ _) a n cap (ivs xs) rfl (by rw [HL.out, HN.out]; omega) ai.out (zzu xs) (by unfold maxLen; omega) (by omega) (by simp) ?_; intro v1 w1 ac aa _)
  go_ret
  refine ⟨v1, rfl, by simpa using ac, ?_⟩
  exact ((Below.refl _ _).alloc (Nat.le_refl _) _).grown aa (by simp) (fun k hk => by cases hk; exact Nat.le_refl _)
theorem zg3 (a b c d e f : Int) (w : World) : (Op.equalIn 10000 60 (.agg #[.int .i64 a, .int .i64 b, .int .i64 c]) (.agg #[.int .i64 d, .int .i64 e, .int .i64 f])).run prog w = .ok (a == d && (b == e && c == f)) w := by
 have u3 := underlying3
 have a3 := Tryz.isAgg3
 have z3 := Tryz.sizeOf3
 have hS : prog.underlying 60 = some (.struct (prog.fieldsOf 60)) := by kernel_rfl
 rw [show (10000 : Nat) = 9999 + 1 from rfl, run_equalIn_agg w 9999 60 _ _ hS (by kernel_rfl)]
 simp only [Program.fieldsOf, underlying60]
 go_simp
 by_cases h1 : a = d <;> by_cases h2 : b = e <;> by_cases h3 : c = f <;> simp [h1, h2, h3]
theorem zel {w : World} {g c : Nat} {e : TypeId} {m : List Sy.Edge} (h : Row w g e c (cells3 m)) (i j : Nat) (hj : j = i * 3) (hi : i < m.length) (x1 x2 x3 : Int) (hx : m.getD i (0, 0, 0) = (x1, x2, x3)) :
  w.cell? ⟨g, j, none⟩ = some (.int .i64 x1) /\ w.cell? ⟨g, j + 1, none⟩ = some (.int .i64 x2) /\ w.cell? ⟨g, j + 2, none⟩ = some (.int .i64 x3) := by
 subst hj
 have hc := zg2 m i hi
 rw [hx] at hc
 exact ⟨h.cell hc.1, h.cell hc.2.1, h.cell hc.2.2⟩
theorem zka : ∀ (m : List Sy.Edge) (i : Nat) (x1 x2 x3 : Int), cells3 (m.set i (x1, x2, x3)) = (((cells3 m).set (i * 3) (.int .i64 x1)).set (i * 3 + 1) (.int .i64 x2)).set (i * 3 + 2) (.int .i64 x3)
 | [], i, _, _, _ => by simp [cells3]
 | y :: m, 0, x1, x2, x3 => by simp [cells3, tri]
 | y :: m, i + 1, x1, x2, x3 => by
  have ih := zka m i x1 x2 x3
  rw [show (i + 1) * 3 = i * 3 + 3 by omega]
  simp only [cells3, List.set_cons_succ, List.flatMap_cons] at ih ⊢
  rw [ih]
  simp [tri]
theorem zze {w : World} {g c : Nat} {e : TypeId} {m : List Sy.Edge} (h : Row w g e c (cells3 m)) (i j : Nat) (hj : j = i * 3) (x1 x2 x3 : Int) :
  Row (((w.setCell ⟨g, j, none⟩ (.int .i64 x1)).setCell ⟨g, j + 1, none⟩ (.int .i64 x2)).setCell ⟨g, j + 2, none⟩ (.int .i64 x3)) g e c (cells3 (m.set i (x1, x2, x3))) := by
 subst hj
 rw [zka]
 exact ((h.set _ _).set _ _).set _ _
theorem Row.setCells {g cap : Nat} {e : TypeId} : ∀ (vs : List Value) (o : Nat) {w : World} {xs : List Value}, Row w g e cap xs -> o <= xs.length -> Row (w.setCells g o vs) g e cap (xs.take o)
 | [], o, w, xs, h, ho => by
  obtain ⟨cur, hg, hs, hl, ht⟩ := h
  refine ⟨cur, hg, hs, by rw [List.length_take]; omega, ?_⟩
  rw [List.length_take, Nat.min_eq_left ho, <- ht, List.take_take, Nat.min_eq_left (by rw [<- ht] at ho; simp at ho; omega)]
 | v :: vs, o, w, xs, h, ho => by
  have h1 := h.set o v
  by_cases he : o < xs.length
  ·have h2 := Row.setCells vs (o + 1) h1 (by rw [List.length_set]; omega)
   obtain ⟨cur, hg, hs, hl, ht⟩ := h2
   have e1 : ((xs.set o v).take (o + 1)).take o = xs.take o := by
    rw [List.take_take, Nat.min_eq_left (by omega), List.take_set, List.set_eq_of_length_le (by rw [List.length_take]; omega)]
   have e2 : (xs.take o).length = o := by rw [List.length_take]; omega
   have e3 : ((xs.set o v).take (o + 1)).length = o + 1 := by rw [List.length_take, List.length_set]; omega
   refine ⟨cur, hg, hs, by rw [e2]; rw [e3] at hl; omega, ?_⟩
   rw [e3] at ht
   rw [e2, <- e1, <- ht, List.take_take, Nat.min_eq_left (by omega)]
  ·have e : o = xs.length := by omega
   subst e
   have e4 : xs.set xs.length v = xs := List.set_eq_of_length_le (Nat.le_refl _)
   rw [e4] at h1
   rw [List.take_length]
   exact Row.setCells_past vs h1
where
 Row.setCells_past {g cap : Nat} {e : TypeId} {xs : List Value} : ∀ (vs : List Value) {w : World}, Row w g e cap xs -> Row (w.setCells g (xs.length + 1) vs) g e cap xs := by
  suffices h : ∀ (vs : List Value) (o : Nat) {w : World}, xs.length <= o -> Row w g e cap xs -> Row (w.setCells g o vs) g e cap xs from fun vs w hr => h vs _ (by omega) hr
  intro vs
  induction vs with
  | nil => intro o w _ hr; exact hr
  | cons v vs ih =>
   intro o w ho hr
   refine ih (o + 1) (by omega) ?_
   have := hr.set o v
   rwa [List.set_eq_of_length_le ho] at this
theorem zct {S : Nat -> Prop} {w0 : World} (g : Nat) (hS : S g) : ∀ (vs : List Value) (o : Nat) {w : World}, Turned S w0 w -> Turned S w0 (w.setCells g o vs)
 | [], _, _, h => h
 | v :: vs, o, _, h => zct g hS vs (o + 1) (h.setCell (p := ⟨g, o, none⟩) (.inl hS) v)
theorem zfi {P : Program} (w : World) (t e ty : TypeId) (z : Value) (k : Nat) (ht : P.underlying t = some (.slice e)) (hv : ∀ w, (zeroValue e).run P w = .ok z w) (hz : z.cells = Array.replicate k (.int .i64 0)) (hk : 0 < k) (b o n c : Nat) (hn : 0 < n)
  (hc : ∀ j, j < n * k -> (w.cell? ⟨b, o + j, none⟩).isSome = true) (hf : ∀ j, j < n * k -> w.frozen? ⟨b, o + j, none⟩ = false) :
  (Builtin.clear_ #[t] ty #[.slice (some ⟨b, o, none⟩) n c]).run P w = .ok (.tuple #[]) (w.setCells b o (List.replicate (n * k) (.int .i64 0))) := by
 have ac : (Builtin.zeroCells z.cells n).toList = List.replicate (n * k) (.int .i64 0) := by
  rw [hz]
  simp [Builtin.zeroCells]
  apply List.ext_getElem
  ·simp
  ·intro i h1 h2
   have aa := Nat.mod_lt i hk
   simp [aa]
 have ab := run_storeCells_cells (P := P) b o (List.replicate (n * k) (.int .i64 0)) 0 w (by simpa using hc) (by simpa using hf) (by intro v ad; rw [List.eq_of_mem_replicate ad]; rfl)
 simp only [Nat.add_zero] at ab
 obtain ⟨m, rfl⟩ : ∃ m, n = m + 1 := ⟨n - 1, by omega⟩
 simp [Builtin.clear_, run_underlying ht, hv, ac, ab]
theorem zt9 (w : World) : (zeroValue 60).run prog w = .ok (.agg #[.int .i64 0, .int .i64 0, .int .i64 0]) w := by kernel_rfl
theorem zhl : ∀ (m : List Sy.Edge) (i : Nat), cells3 (m.take i) = (cells3 m).take (i * 3)
 | [], i => by simp [cells3]
 | y :: m, 0 => by simp [cells3]
 | y :: m, i + 1 => by
  have ih := zhl m i
  rw [show (i + 1) * 3 = i * 3 + 3 by omega]
  simp only [cells3, List.take_succ_cons, List.flatMap_cons] at ih ⊢
  rw [ih]
  simp [tri]
def zm6 (e : TypeId) (k : Nat) (w : World) (g cap : Nat) (n : Nat) (xs : List Value) (r : Ending) (w' : World) : Prop :=
 r = .returned (.slice (some ⟨g, 0, none⟩) n cap) /\ n <= cap /\ Row w' g e (cap * k) xs /\ Turned (fun j => j = g) w w'
theorem zkr (g cap : Nat) (l : List Sy.Edge) (w : World) (hr : Row w g 60 (cap * 3) (cells3 l)) (hn : l.length <= cap) (hm : l.length <= 1000000) (ag : cap <= maxLen) :
  Calls prog 178 #[.slice (some ⟨g, 0, none⟩) l.length cap] w (zm6 60 3 w g cap (Sy.cpt l).length (cells3 (Sy.cpt l))) := by
 obtain ⟨n, ah⟩ := nm (l.length)
 rw [<- ah] at hn hm ⊢
 have ab := zh ah
 have HR := zh hr
 unfold maxLen at ag
 clear ah hr
 by_cases h2 : n < 2
 ·have he : Hid (Sy.cpt l = l) := zh (by
   match l, ab.out with
   | [], _ => rfl
   | [x], _ => rfl
   | _ :: _ :: _, h => simp at h; omega)
  go_enter func178, ntmps178
  go_wp2_with fail
  go_ret
  exact ⟨by rw [he.out, <- ab.out]; rfl, by rw [he.out, <- ab.out]; exact hn, by rw [he.out]; exact HR.out, Turned.refl _ _⟩
 ·go_enter func178, ntmps178
  go_wp2_with fail
  go_loopw [3] (fun s3 wr => ∃ k q : Nat, s3 = .int .i64 k /\ 1 <= k /\ k <= n /\ wr = w.drewN q /\ Hid (Sy.cpt (l.take k) = l.take k)) (fun s3 _ => n - (intOf s3).toNat)
  case atStart => exact ⟨1, 0, rfl, Nat.le_refl _, by omega, rfl, zh (Sy.zIj l (by rw [<- ab.out]; omega))⟩
  case round =>
   obtain ⟨k, q, rfl, ak, an, rfl, HK⟩ := hrel
   by_cases hlt : k < n
   ·obtain ⟨x, hx⟩ : ∃ x, l.getD k (0, 0, 0) = x := ⟨_, rfl⟩
    obtain ⟨y, hy⟩ : ∃ y, l.getD (k - 1) (0, 0, 0) = y := ⟨_, rfl⟩
    obtain ⟨x1, x2, x3⟩ := x
    obtain ⟨y1, y2, y3⟩ := y
    have ai : k < l.length := by rw [<- ab.out]; exact hlt
    obtain ⟨c1, c2, c3⟩ := zel HR.out k (k * 3) rfl ai x1 x2 x3 hx
    obtain ⟨d1, d2, d3⟩ := zel HR.out (k - 1) ((k - 1) * 3) rfl (by omega) y1 y2 y3 hy
    have HX := zh hx
    have HY := zh hy
    have al := zh ai
    have he := zg3 x1 x2 x3 y1 y2 y3
    clear hx hy ai
    by_cases hdup : (x1, x2, x3) = (y1, y2, y3)
    ·have HE : Hid (l.getD k (0, 0, 0) = l.getD (k - 1) (0, 0, 0)) := zh (by rw [HX.out, HY.out, hdup])
     simp only [Prod.mk.injEq] at hdup
     obtain ⟨rfl, rfl, rfl⟩ := hdup
     simp only [beq_self_eq_true, Bool.and_self] at he
     go_wp2_with fail
     go_quiet (fail)
     go_wp2_with fail
     clear he c1 c2 c3 d1 d2 d3
     obtain ⟨q1, ao⟩ : ∃ q1, w.drewN q1 = (w.drewN q).drew := ⟨q + 1, rfl⟩
     go_loopw [3, 5] (fun s3 s5 wr => ∃ (kk k2 : Nat) (m : List Sy.Edge), s3 = .int .i64 kk /\ s5 = .int .i64 k2 /\ 1 <= k2 /\ k + k2 <= n /\ Row wr g 60 (cap * 3) (cells3 m) /\ Turned (fun j => j = g) w wr /\ Hid (Sy.zDg (0, 0, 0) l m (k + k2) kk)) (fun _ s5 _ => n - (intOf s5).toNat)
     case atStart => exact ⟨k, 1, l, rfl, rfl, Nat.le_refl _, by omega, HR.out, Turned.drewN (Turned.refl _ _) _, zh (Sy.zDg.start HK.out ak al.out HE.out)⟩
     case round =>
      obtain ⟨kk, k2, m, rfl, rfl, h1, aq, aa, hT, HI⟩ := hrel
      have af : m.length = n := by rw [HI.out.len, ab.out]
      have au := HI.out.lt
      by_cases hlt2 : k + k2 < n
      ·obtain ⟨u, hu⟩ : ∃ u, l.getD (k + k2) (0, 0, 0) = u := ⟨_, rfl⟩
       obtain ⟨v, hv⟩ : ∃ v, l.getD (k + k2 - 1) (0, 0, 0) = v := ⟨_, rfl⟩
       obtain ⟨u1, u2, u3⟩ := u
       obtain ⟨v1, v2, v3⟩ := v
       obtain ⟨c1, c2, c3⟩ := zel aa (k + k2) (k * 3 + k2 * 3) (by omega) (by omega) u1 u2 u3 (by rw [HI.out.high _ (by omega)]; exact hu)
       obtain ⟨d1, d2, d3⟩ := zel aa (k + k2 - 1) (k * 3 + (k2 - 1) * 3) (by omega) (by omega) v1 v2 v3 (by rw [HI.out.high _ (by omega)]; exact hv)
       obtain ⟨o, ho⟩ : ∃ o, m.getD kk (0, 0, 0) = o := ⟨_, rfl⟩
       obtain ⟨o1, o2, o3⟩ := o
       obtain ⟨e1, e2, e3⟩ := zel aa kk (kk * 3) rfl (by omega) o1 o2 o3 ho
       have f1 := aa.free (kk * 3)
       have f2 := aa.free (kk * 3 + 1)
       have f3 := aa.free (kk * 3 + 2)
       have ac := zh aa
       have HT := zh hT
       have HU := zh hu
       have HV := zh hv
       have he := zg3 u1 u2 u3 v1 v2 v3
       clear hu hv ho aa hT af
       by_cases huv : (u1, u2, u3) = (v1, v2, v3)
       ·have ad : Hid (l.getD (k + k2) (0, 0, 0) = l.getD (k + k2 - 1) (0, 0, 0)) := zh (by rw [HU.out, HV.out, huv])
        simp only [Prod.mk.injEq] at huv
        obtain ⟨rfl, rfl, rfl⟩ := huv
        simp only [beq_self_eq_true, Bool.and_self] at he
        go_wp2_with fail
        go_quiet (fail)
        go_wp2_with fail
        go_roundw
        case rel => exact ⟨kk, k2 + 1, m, rfl, by go_num, by omega, by omega, ac.out, Turned.drewN HT.out _, zh (HI.out.skip (by rw [<- ab.out]; omega) ad.out)⟩
        case measure => simp [intOf]; omega
       ·have hb : (u1 == v1 && (u2 == v2 && u3 == v3)) = false := by
         cases hq : (u1 == v1 && (u2 == v2 && u3 == v3))
         ·rfl
         ·simp only [Bool.and_eq_true, beq_iff_eq] at hq
          exact absurd (by rw [hq.1, hq.2.1, hq.2.2]) huv
        have ad : Hid (l.getD (k + k2) (0, 0, 0) ≠ l.getD (k + k2 - 1) (0, 0, 0)) := zh (by rw [HU.out, HV.out]; exact huv)
        rw [hb] at he
        clear hb huv
        go_wp2_with fail
        go_quiet (fail)
        go_wp2_with fail
        go_roundw
        case rel => exact ⟨kk + 1, k2 + 1, m.set kk (u1, u2, u3), by go_num, by go_num, by omega, by omega, zze (w := wr.drewN _) ac.out kk (kk * 3) rfl u1 u2 u3, (((Turned.drewN HT.out _).setCell (.inl rfl) _).setCell (.inl rfl) _).setCell (.inl rfl) _, zh (by have := HI.out.keep (by rw [<- ab.out]; omega) ad.out; rw [HU.out] at this; exact this)⟩
        case measure => simp [intOf]; omega
      ·have aj : k + k2 = n := by omega
       have av : kk < n := by omega
       obtain ⟨e1, e2⟩ := (show m.take kk = Sy.cpt l /\ kk = (Sy.cpt l).length from Sy.zDg.zKx (by have := HI.out; rwa [aj, ab.out] at this))
       have ae : ∀ j, j < (n - kk) * 3 -> (wr.cell? ⟨g, kk * 3 + j, none⟩).isSome = true := fun j hj => by
        have am : kk * 3 + j < (cells3 m).length := by rw [zbn, af]; omega
        rw [aa.cell (List.getElem?_eq_getElem am)]; rfl
       have aw : ∀ ty, (Builtin.clear_ #[22] ty #[.slice (some ⟨g, kk * 3, none⟩) (n - kk) (cap - kk)]).run prog wr = .ok (.tuple #[]) (wr.setCells g (kk * 3) (List.replicate ((n - kk) * 3) (.int .i64 0))) :=
        fun ty => zfi wr _ _ ty _ 3 underlying22 zt9 rfl (by omega) g (kk * 3) (n - kk) _ (by omega) ae (fun j _ => aa.free _)
       have ac : Hid (Row (wr.setCells g (kk * 3) (List.replicate ((n - kk) * 3) (.int .i64 0))) g 60 (cap * 3) (cells3 (Sy.cpt l))) := zh (by
        have := aa.setCells (List.replicate ((n - kk) * 3) (.int .i64 0)) (kk * 3) (by rw [zbn, af]; omega)
        rwa [<- zhl, e1] at this)
       have HT := zh (zct (S := fun j => j = g) g rfl (List.replicate ((n - kk) * 3) (.int .i64 0)) (kk * 3) hT)
       have ad := zh e2
       clear ae aa hT af e1 e2
       go_wp2
       go_ret
       exact ⟨by rw [<- ad.out]; rfl, by rw [<- ad.out]; omega, ac.out, HT.out⟩
    ·have hb : (x1 == y1 && (x2 == y2 && x3 == y3)) = false := by
      cases hq : (x1 == y1 && (x2 == y2 && x3 == y3))
      ·rfl
      ·simp only [Bool.and_eq_true, beq_iff_eq] at hq
       exact absurd (by rw [hq.1, hq.2.1, hq.2.2]) hdup
     have HE : Hid (l.getD k (0, 0, 0) ≠ l.getD (k - 1) (0, 0, 0)) := zh (by rw [HX.out, HY.out]; exact hdup)
     rw [hb] at he
     clear hb hdup
     go_wp2_with fail
     go_quiet (fail)
     go_wp2_with fail
     go_roundw
     case rel => exact ⟨k + 1, _, by go_num, by omega, by omega, rfl, zh (Sy.zH2 (0, 0, 0) HK.out ak al.out HE.out)⟩
     case measure => simp [intOf]; omega
   ·obtain rfl : k = n := by omega
    have he : Hid (Sy.cpt l = l) := zh (by have := HK.out; rw [ab.out, List.take_length] at this; exact this)
    go_wp2_with fail
    go_ret
    exact ⟨by rw [he.out, <- ab.out]; rfl, by rw [he.out, <- ab.out]; exact hn, by rw [he.out]; exact HR.out, Turned.drewN (Turned.refl _ _) _⟩
theorem zfz (w : World) : Calls prog 178 #[.slice none 0 0] w fun r w' => r = .returned (.slice none 0 0) /\ w = w' := by
 go_enter func178, ntmps178
 go_wp2_with fail
 go_ret
 exact ⟨rfl, rfl⟩
theorem zyn (a b c d : Int) (w : World) : (Op.equalIn 10000 201 (.agg #[.int .i64 a, .int .i64 b]) (.agg #[.int .i64 c, .int .i64 d])).run prog w = .ok (a == c && b == d) w := by
 have aa : (prog.info? 3).isSome = true := by kernel_rfl
 obtain ⟨i, hi⟩ := Option.isSome_iff_exists.1 aa
 rw [show (10000 : Nat) = 9999 + 1 from rfl, run_equalIn_array w 9999 _ _ underlying201 hi]
 have u3 := underlying3
 have a3 := Tryz.isAgg3
 have hc : prog.cellsOf 3 = 1 := by kernel_rfl
 simp only [hc, List.range, List.range.loop, Op.eqItems]
 go_simp
 by_cases h1 : a = c <;> by_cases h2 : b = d <;> simp [h1, h2]
theorem zn9 {w : World} {g c : Nat} {e : TypeId} {m : List (Int × Int)} (h : Row w g e c (za7 m)) (i j : Nat) (hj : j = i * 2) (hi : i < m.length) (x1 x2 : Int) (hx : m.getD i (0, 0) = (x1, x2)) :
  w.cell? ⟨g, j, none⟩ = some (.int .i64 x1) /\ w.cell? ⟨g, j + 1, none⟩ = some (.int .i64 x2) := by
 subst hj
 have hc := zeg m i hi
 rw [hx] at hc
 exact ⟨h.cell hc.1, h.cell hc.2⟩
theorem zjq : ∀ (m : List (Int × Int)) (i : Nat) (x1 x2 : Int), za7 (m.set i (x1, x2)) = ((za7 m).set (i * 2) (.int .i64 x1)).set (i * 2 + 1) (.int .i64 x2)
 | [], i, _, _ => by simp [za7]
 | y :: m, 0, x1, x2 => by simp [za7, two]
 | y :: m, i + 1, x1, x2 => by
  have ih := zjq m i x1 x2
  rw [show (i + 1) * 2 = i * 2 + 2 by omega]
  simp only [za7, List.set_cons_succ, List.flatMap_cons] at ih ⊢
  rw [ih]
  simp [two]
theorem zys {w : World} {g c : Nat} {e : TypeId} {m : List (Int × Int)} (h : Row w g e c (za7 m)) (i j : Nat) (hj : j = i * 2) (x1 x2 : Int) :
  Row ((w.setCell ⟨g, j, none⟩ (.int .i64 x1)).setCell ⟨g, j + 1, none⟩ (.int .i64 x2)) g e c (za7 (m.set i (x1, x2))) := by
 subst hj
 rw [zjq]
 exact (h.set _ _).set _ _
theorem zw0 (w : World) : (zeroValue 201).run prog w = .ok (.agg #[.int .i64 0, .int .i64 0]) w := by kernel_rfl
theorem zib : ∀ (m : List (Int × Int)) (i : Nat), za7 (m.take i) = (za7 m).take (i * 2)
 | [], i => by simp [za7]
 | y :: m, 0 => by simp [za7]
 | y :: m, i + 1 => by
  have ih := zib m i
  rw [show (i + 1) * 2 = i * 2 + 2 by omega]
  simp only [za7, List.take_succ_cons, List.flatMap_cons] at ih ⊢
  rw [ih]
  simp [two]
theorem zl4 (g cap : Nat) (l : List (Int × Int)) (w : World) (hr : Row w g 201 (cap * 2) (za7 l)) (hn : l.length <= cap) (hm : l.length <= 1000000) (ag : cap <= maxLen) :
  Calls prog 214 #[.slice (some ⟨g, 0, none⟩) l.length cap] w (zm6 201 2 w g cap (Sy.cpt l).length (za7 (Sy.cpt l))) := by
 obtain ⟨n, ah⟩ := nm (l.length)
 rw [<- ah] at hn hm ⊢
 have ab := zh ah
 have HR := zh hr
 unfold maxLen at ag
 clear ah hr
 by_cases h2 : n < 2
 ·have he : Hid (Sy.cpt l = l) := zh (by
   match l, ab.out with
   | [], _ => rfl
   | [x], _ => rfl
   | _ :: _ :: _, h => simp at h; omega)
  go_enter func214, ntmps214
  go_wp2_with fail
  go_ret
  exact ⟨by rw [he.out, <- ab.out]; rfl, by rw [he.out, <- ab.out]; exact hn, by rw [he.out]; exact HR.out, Turned.refl _ _⟩
 ·go_enter func214, ntmps214
  go_wp2_with fail
  go_loopw [3] (fun s3 wr => ∃ k q : Nat, s3 = .int .i64 k /\ 1 <= k /\ k <= n /\ wr = w.drewN q /\ Hid (Sy.cpt (l.take k) = l.take k)) (fun s3 _ => n - (intOf s3).toNat)
  case atStart => exact ⟨1, 0, rfl, Nat.le_refl _, by omega, rfl, zh (Sy.zIj l (by rw [<- ab.out]; omega))⟩
  case round =>
   obtain ⟨k, q, rfl, ak, an, rfl, HK⟩ := hrel
   by_cases hlt : k < n
   ·obtain ⟨x, hx⟩ : ∃ x, l.getD k (0, 0) = x := ⟨_, rfl⟩
    obtain ⟨y, hy⟩ : ∃ y, l.getD (k - 1) (0, 0) = y := ⟨_, rfl⟩
    obtain ⟨x1, x2⟩ := x
    obtain ⟨y1, y2⟩ := y
    have ai : k < l.length := by rw [<- ab.out]; exact hlt
    obtain ⟨c1, c2⟩ := zn9 HR.out k (k * 2) rfl ai x1 x2 hx
    obtain ⟨d1, d2⟩ := zn9 HR.out (k - 1) ((k - 1) * 2) rfl (by omega) y1 y2 hy
    have HX := zh hx
    have HY := zh hy
    have al := zh ai
    have he := zyn x1 x2 y1 y2
    clear hx hy ai
    by_cases hdup : (x1, x2) = (y1, y2)
    ·have HE : Hid (l.getD k (0, 0) = l.getD (k - 1) (0, 0)) := zh (by rw [HX.out, HY.out, hdup])
     simp only [Prod.mk.injEq] at hdup
     obtain ⟨rfl, rfl⟩ := hdup
     simp only [beq_self_eq_true, Bool.and_self] at he
     go_wp2_with fail
     go_quiet (fail)
     go_wp2_with fail
     clear he c1 c2 d1 d2
     obtain ⟨q1, ao⟩ : ∃ q1, w.drewN q1 = (w.drewN q).drew := ⟨q + 1, rfl⟩
     go_loopw [3, 5] (fun s3 s5 wr => ∃ (kk k2 : Nat) (m : List (Int × Int)), s3 = .int .i64 kk /\ s5 = .int .i64 k2 /\ 1 <= k2 /\ k + k2 <= n /\ Row wr g 201 (cap * 2) (za7 m) /\ Turned (fun j => j = g) w wr /\ Hid (Sy.zDg (0, 0) l m (k + k2) kk)) (fun _ s5 _ => n - (intOf s5).toNat)
     case atStart => exact ⟨k, 1, l, rfl, rfl, Nat.le_refl _, by omega, HR.out, Turned.drewN (Turned.refl _ _) _, zh (Sy.zDg.start HK.out ak al.out HE.out)⟩
     case round =>
      obtain ⟨kk, k2, m, rfl, rfl, h1, aq, aa, hT, HI⟩ := hrel
      have af : m.length = n := by rw [HI.out.len, ab.out]
      have au := HI.out.lt
      by_cases hlt2 : k + k2 < n
      ·obtain ⟨u, hu⟩ : ∃ u, l.getD (k + k2) (0, 0) = u := ⟨_, rfl⟩
       obtain ⟨v, hv⟩ : ∃ v, l.getD (k + k2 - 1) (0, 0) = v := ⟨_, rfl⟩
       obtain ⟨u1, u2⟩ := u
       obtain ⟨v1, v2⟩ := v
       obtain ⟨c1, c2⟩ := zn9 aa (k + k2) (k * 2 + k2 * 2) (by omega) (by omega) u1 u2 (by rw [HI.out.high _ (by omega)]; exact hu)
       obtain ⟨d1, d2⟩ := zn9 aa (k + k2 - 1) (k * 2 + (k2 - 1) * 2) (by omega) (by omega) v1 v2 (by rw [HI.out.high _ (by omega)]; exact hv)
       obtain ⟨o, ho⟩ : ∃ o, m.getD kk (0, 0) = o := ⟨_, rfl⟩
       obtain ⟨o1, o2⟩ := o
       obtain ⟨e1, e2⟩ := zn9 aa kk (kk * 2) rfl (by omega) o1 o2 ho
       have f1 := aa.free (kk * 2)
       have f2 := aa.free (kk * 2 + 1)
       have ac := zh aa
       have HT := zh hT
       have HU := zh hu
       have HV := zh hv
       have he := zyn u1 u2 v1 v2
       clear hu hv ho aa hT af
       by_cases huv : (u1, u2) = (v1, v2)
       ·have ad : Hid (l.getD (k + k2) (0, 0) = l.getD (k + k2 - 1) (0, 0)) := zh (by rw [HU.out, HV.out, huv])
        simp only [Prod.mk.injEq] at huv
        obtain ⟨rfl, rfl⟩ := huv
        simp only [beq_self_eq_true, Bool.and_self] at he
        go_wp2_with fail
        go_quiet (fail)
        go_wp2_with fail
        go_roundw
        case rel => exact ⟨kk, k2 + 1, m, rfl, by go_num, by omega, by omega, ac.out, Turned.drewN HT.out _, zh (HI.out.skip (by rw [<- ab.out]; omega) ad.out)⟩
        case measure => simp [intOf]; omega
       ·have hb : (u1 == v1 && u2 == v2) = false := by
         cases hq : (u1 == v1 && u2 == v2)
         ·rfl
         ·simp only [Bool.and_eq_true, beq_iff_eq] at hq
          exact absurd (by rw [hq.1, hq.2]) huv
        have ad : Hid (l.getD (k + k2) (0, 0) ≠ l.getD (k + k2 - 1) (0, 0)) := zh (by rw [HU.out, HV.out]; exact huv)
        rw [hb] at he
        clear hb huv
        go_wp2_with fail
        go_quiet (fail)
        go_wp2_with fail
        go_roundw
        case rel => exact ⟨kk + 1, k2 + 1, m.set kk (u1, u2), by go_num, by go_num, by omega, by omega, zys (w := wr.drewN _) ac.out kk (kk * 2) rfl u1 u2, ((Turned.drewN HT.out _).setCell (.inl rfl) _).setCell (.inl rfl) _, zh (by have := HI.out.keep (by rw [<- ab.out]; omega) ad.out; rw [HU.out] at this; exact this)⟩
        case measure => simp [intOf]; omega
      ·have aj : k + k2 = n := by omega
       have av : kk < n := by omega
       obtain ⟨e1, e2⟩ := (show m.take kk = Sy.cpt l /\ kk = (Sy.cpt l).length from Sy.zDg.zKx (by have := HI.out; rwa [aj, ab.out] at this))
       have ae : ∀ j, j < (n - kk) * 2 -> (wr.cell? ⟨g, kk * 2 + j, none⟩).isSome = true := fun j hj => by
        have am : kk * 2 + j < (za7 m).length := by rw [zbo, af]; omega
        rw [aa.cell (List.getElem?_eq_getElem am)]; rfl
       have aw : ∀ ty, (Builtin.clear_ #[292] ty #[.slice (some ⟨g, kk * 2, none⟩) (n - kk) (cap - kk)]).run prog wr = .ok (.tuple #[]) (wr.setCells g (kk * 2) (List.replicate ((n - kk) * 2) (.int .i64 0))) :=
        fun ty => zfi wr _ _ ty _ 2 underlying292 zw0 rfl (by omega) g (kk * 2) (n - kk) _ (by omega) ae (fun j _ => aa.free _)
       have ac : Hid (Row (wr.setCells g (kk * 2) (List.replicate ((n - kk) * 2) (.int .i64 0))) g 201 (cap * 2) (za7 (Sy.cpt l))) := zh (by
        have := aa.setCells (List.replicate ((n - kk) * 2) (.int .i64 0)) (kk * 2) (by rw [zbo, af]; omega)
        rwa [<- zib, e1] at this)
       have HT := zh (zct (S := fun j => j = g) g rfl (List.replicate ((n - kk) * 2) (.int .i64 0)) (kk * 2) hT)
       have ad := zh e2
       clear ae aa hT af e1 e2
       go_wp2
       go_ret
       exact ⟨by rw [<- ad.out]; rfl, by rw [<- ad.out]; omega, ac.out, HT.out⟩
    ·have hb : (x1 == y1 && x2 == y2) = false := by
      cases hq : (x1 == y1 && x2 == y2)
      ·rfl
      ·simp only [Bool.and_eq_true, beq_iff_eq] at hq
       exact absurd (by rw [hq.1, hq.2]) hdup
     have HE : Hid (l.getD k (0, 0) ≠ l.getD (k - 1) (0, 0)) := zh (by rw [HX.out, HY.out]; exact hdup)
     rw [hb] at he
     clear hb hdup
     go_wp2_with fail
     go_quiet (fail)
     go_wp2_with fail
     go_roundw
     case rel => exact ⟨k + 1, _, by go_num, by omega, by omega, rfl, zh (Sy.zH2 (0, 0) HK.out ak al.out HE.out)⟩
     case measure => simp [intOf]; omega
   ·obtain rfl : k = n := by omega
    have he : Hid (Sy.cpt l = l) := zh (by have := HK.out; rw [ab.out, List.take_length] at this; exact this)
    go_wp2_with fail
    go_ret
    exact ⟨by rw [he.out, <- ab.out]; rfl, by rw [he.out, <- ab.out]; exact hn, by rw [he.out]; exact HR.out, Turned.drewN (Turned.refl _ _) _⟩
theorem zg9 (w : World) : Calls prog 214 #[.slice none 0 0] w fun r w' => r = .returned (.slice none 0 0) /\ w = w' := by
 go_enter func214, ntmps214
 go_wp2_with fail
 go_ret
 exact ⟨rfl, rfl⟩
end Go.Proofs.YtoaoajfjcfcmhaaGreatDoor
namespace Go.Proofs.YtoaoajfjcfcmhaaGreatDoor
open Go.RowKit Go.Sort Go.Shelf
def zfu {α : Type} (enc : α -> List Value) (e : TypeId) (k : Nat) (lt : α -> α -> Bool) (w : World) (g cap : Nat) (l : List α) (r : Ending) (w' : World) : Prop :=
 r = .returned (.tuple #[]) /\ ∃ l' : List α, l'.Perm l /\ l'.Pairwise (fun a b => lt b a = false) /\ Row w' g e (cap * k) (l'.flatMap enc) /\ Turned (fun j => j = g) w w'
theorem ze6 {α : Type} [Inhabited α] {enc : α -> List Value} {e : TypeId} {k : Nat} {lt : α -> α -> Bool} {w w' : World} {g cap n : Nat} {l : List α} {d : Array α} {os : Array Obj} (hk : ∀ x, (enc x).length = k) (hr : Row w g e (cap * k) (l.flatMap enc))
  (hp : PermIn 0 l.toArray.size l.toArray d) (hs : SortedIn lt 0 l.toArray.size d) (hw : w' = sortWorldK enc k w g 0 n d os) : zfu enc e k lt w g cap l (.returned (.tuple #[])) w' := by
 obtain ⟨h1, h2⟩ := permIn_all hp
 rw [<- h1] at hs
 subst hw
 exact ⟨rfl, d.toList, by simpa using h2, znq hs, hr.sorted hk (by simpa using h1) n os, zob n d os⟩
theorem zs1 (g cap : Nat) (l : List Sy.Edge) (w : World) (hr : Row w g 60 (cap * 3) (cells3 l)) (hm : l.length <= 1000000) :
  Calls prog 119 #[.slice (some ⟨g, 0, none⟩) l.length cap, .func (.func 177) #[] #[]] w (zfu tri 60 3 Sy.lt3 w g cap l) := by
 have eg : ∀ args w, (callFunc 177 args).run prog w = .ok (.enter 177 args) w := enters_of func177 (by kernel_rfl) rfl
 have aa := AnyQ.slices_SortFunc Tryz.laysSortE 3 Tryz.isAgg60 Tryz.sizeOf60 tri zd8 zcq cf3 (by rw [zya]; exact zo1 Sy.zIk) 177 #[] g 0 cap l.toArray w eg
  (fun m os dk _ x y => zu9 x y _) (hr.zIi zd8) hr.lt (by simp; omega)
 rw [zya] at aa
 refine aa.mono fun e w' ⟨he, d, n, os, hp, hs, hw⟩ => ?_
 subst he
 exact ze6 zd8 hr hp hs hw
theorem zt4 (g cap : Nat) (l : List Sy.Edge) (w : World) (hr : Row w g 60 (cap * 3) (cells3 l)) (hm : l.length <= 1000000) :
  Calls prog 119 #[.slice (some ⟨g, 0, none⟩) l.length cap, .func (.func 120) #[] #[]] w (zfu tri 60 3 Sy.lt3r w g cap l) := by
 have eg : ∀ args w, (callFunc 120 args).run prog w = .ok (.enter 120 args) w := enters_of func120 (by kernel_rfl) rfl
 have aa := AnyQ.slices_SortFunc Tryz.laysSortE 3 Tryz.isAgg60 Tryz.sizeOf60 tri zd8 zcq zKh (by rw [zsm]; exact zo1 Sy.zIg) 120 #[] g 0 cap l.toArray w eg
  (fun m os dk _ x y => zvx x y _) (hr.zIi zd8) hr.lt (by simp; omega)
 rw [zsm] at aa
 refine aa.mono fun e w' ⟨he, d, n, os, hp, hs, hw⟩ => ?_
 subst he
 exact ze6 zd8 hr hp hs hw
theorem zqo (fv : Value) (w : World) : Calls prog 119 #[.slice none 0 0, fv] w fun r w' => r = .returned (.tuple #[]) /\ w' = w :=
 AnyF.slices_SortFunc_none Tryz.laysSortE none 0 fv w
theorem zBv {w : World} {base g cap : Nat} {l : List Sy.Edge} {e : TypeId} (hb : base <= g) (hr : Row w g e (cap * 3) (cells3 l)) (hn : l.length <= cap) (hc : cap <= maxLen) : w.ownsRow base e 3 (.slice (some ⟨g, 0, none⟩) l.length cap) l.length (cells3 l) := by
 have h := hr.owns (n := l.length) (size := 3) hn hc (zbn l)
 refine ⟨h.1, ?_⟩
 rcases h.2 with ⟨h1, h2⟩ | ⟨g', cap', cur, a, b, r⟩
 ·cases h1
 ·simp only [Value.slice.injEq, Option.some.injEq, Addr.mk.injEq, and_true, true_and] at a
  obtain ⟨rfl, rfl⟩ := a
  exact .inr ⟨_, _, cur, rfl, hb, r⟩
theorem zaj {w w1 w2 : World} {g : Nat} (h : Up w w1) (hg : w.heap.size <= g) (k : Turned (fun j => j = g) w1 w2) : Up w w2 := by
 have h1 : Turned (fun j => w.heap.size <= j) w w1 := Turned.below h
 have h2 := h1.trans k (fun i hi e => by subst e; omega)
 exact ⟨h2.os, h2.tape, h2.output, h2.size, fun i hi => h2.block i hi (by omega)⟩
theorem zqr (l : List Sy.Edge) (v : Value) (w : World) (hv : Ls3 w v l) (hm : l.length <= 1000000) :
  Calls prog 151 #[v] w fun r w' => ∃ v', r = .returned v' /\ w'.ownsRow w.heap.size 60 3 v' (Sy.norm Sy.lt3 l).length (cells3 (Sy.norm Sy.lt3 l)) /\ Up w w' := by
 have HC := zh (zia hv hm)
 obtain ⟨ao, cap0, g0, off0, rfl, -, -⟩ := hv
 go_enter func151, ntmps151
 go_wp2_with fail
 (with_reducible refine HC.out.mono ?_)
 rintro e w1 ⟨v1, rfl, aa, hb⟩
 rcases za4 aa with ⟨rfl, h0, -⟩ | ⟨g, cap, rfl, hr, hn, hc, -⟩
 ·have hl : l = [] := List.eq_nil_of_length_eq_zero h0
  have ak : Hid (Sy.norm Sy.lt3 l = []) := zh (by rw [hl]; rfl)
  have HB := zh hb
  clear hb aa h0 hl
  go_wp2_with (first
   | (go_at_call 119; (with_reducible refine (zqo _ _).mono ?_); rintro e w' ⟨rfl, rfl⟩)
   | (go_at_call 178; (with_reducible refine (zfz _).mono ?_); rintro e w' ⟨rfl, rfl⟩))
  go_ret
  exact ⟨_, rfl, by rw [ak.out]; exact World.ownsRow_nil _ _ _ _, HB.out⟩
 ·have ad : w.heap.size <= g := (aa.lt g rfl).1
  have hS := zs1 g cap l w1 hr hm
  have HS := zh hS
  have HB := zh hb
  have ab := zh ad
  clear hb aa hS hr ad
  go_wp2_with fail
  (with_reducible refine HS.out.mono ?_)
  rintro e w2 ⟨rfl, l', hp, ae, af, ag⟩
  have ah : l'.length = l.length := hp.length_eq
  have hK := zkr g cap l' w2 af (by omega) (by omega) hc
  rw [ah] at hK
  have HK := zh hK
  have HE : Hid (Sy.cpt l' = Sy.norm Sy.lt3 l) := zh (Sy.zG1 Sy.zIk l' l ae (fun x => hp.mem_iff))
  have al := zh ag
  clear hK hp ae af ah ag
  go_wp2_with fail
  (with_reducible refine HK.out.mono ?_)
  rintro e w3 ⟨rfl, ai, ac, aj⟩
  rw [HE.out] at ai ac ⊢
  have am := zh ac
  have an := zh aj
  clear ac aj
  go_wp2_with fail
  go_ret
  exact ⟨_, rfl, zBv ab.out am.out ai hc, zaj (zaj HB.out ab.out al.out) ab.out an.out⟩
end Go.Proofs.YtoaoajfjcfcmhaaGreatDoor
namespace Go.Proofs.YtoaoajfjcfcmhaaGreatDoor
section
variable {P : Program} {ops : Array Oper} {md : Region.Mode} {Q : Exit -> Act -> World -> Prop} {S : World -> Prop}
def zmq (P : Program) (md : Region.Mode) (ops : Array Oper) (Q : Exit -> Act -> World -> Prop) (S : World -> Prop) (n : Nat) : Nat -> Array Bool -> Act -> World -> Prop
 | 0, listed, a, w => wpAny P md ops Q 1 listed a w /\ ∀ j ∈ Region.ready md ops listed, n <= j
 | f + 1, listed, a, w => Region.ready md ops listed ≠ [] /\ ∀ i ∈ Region.ready md ops listed, i < n /\ wpOp P ops Q i (fun a' w' => S w' /\ zmq P md ops Q S n f (listed.setIfInBounds i true) a' w') a w
theorem zge {n : Nat} : ∀ (f : Nat) (listed : Array Bool) (a : Act) (w : World), zmq P md ops Q S n f listed a w -> wpAny P md ops Q (f + 1) listed a w
 | 0, _, _, _, h => h.1
 | f + 1, _, _, _, h => ⟨fun h0 => absurd h0 h.1, fun i hi => wpOp_mono (fun a' w' h' => zge f _ a' w' h'.2) (h.2 i hi).2⟩
theorem zmg {n i : Nat} {oi : Oper} {v : Value} (hi : ops[i]? = some oi) (ad : ∀ (j : Nat) (o : Oper) cs b, ops[j]? = some o -> o.op ≠ .select cs b)
  (hQ : ∀ c a w, Q (.panic c) (a.put oi.dst v) w -> Q (.panic c) a w) (hs : Region.sinkB md ops n = true) (hc : Region.chainB md ops n = true) (hn : n < ops.size) (aj : i < n) :
  ∀ (f : Nat) (listed : Array Bool) (a : Act) (w : World), HeadInv md ops n listed ->
   (∀ j oj, ops[j]? = some oj -> j ≠ i -> listed.getD j true = false -> (∀ e ∈ oj.after, Region.binds md e = true -> e.on ≠ i) -> oi.apart ops oj = true) ->
   i ∈ Region.ready md ops listed -> YieldsIf P ops S oi v a -> S w ->
   zmq P md ops Q S n f (listed.setIfInBounds i true) (a.put oi.dst v) w -> zmq P md ops Q S n (f + 1) listed a w := by
 intro f
 induction f with
 | zero =>
  intro listed a w inv _ hr hy hS H
  have ab := (mem_ready.1 hr).1
  refine ⟨fun h => (by rw [h] at hr; cases hr), fun j hj => ?_⟩
  have af : j < n := by
   rcases Nat.lt_or_ge j n with h | h
   ·exact h
   ·exact absurd hj (tail_waits hs hc hn inv _ i rfl aj ab j h)
  refine ⟨af, ?_⟩
  by_cases hji : j = i
  ·subst hji; exact hy.wpOp hi hS ⟨hS, H⟩
  ·have := H.2 j (ready_mono hj hji)
   omega
 | succ f ih =>
  intro listed a w inv aa hr hy hS H
  have ab := (mem_ready.1 hr).1
  refine ⟨fun h => (by rw [h] at hr; cases hr), fun j hj => ?_⟩
  have af : j < n := by
   rcases Nat.lt_or_ge j n with h | h
   ·exact h
   ·exact absurd hj (tail_waits hs hc hn inv _ i rfl aj ab j h)
  refine ⟨af, ?_⟩
  by_cases hji : j = i
  ·subst hji; exact hy.wpOp hi hS ⟨hS, H⟩
  ·have h1 := (H.2 j (ready_mono hj hji)).2
   obtain ⟨ae, oj, ag, ah⟩ := mem_ready.1 hj
   have ai : ∀ e ∈ oj.after, Region.binds md e = true -> e.on ≠ i := fun e he hb ak => by
    have h1 := ah e he hb
    rw [ak, getD_both ab] at h1
    cases h1
   have h2 := wpOp_putIf ag (aa j oj ag hji ae ai) (fun cs b => ad i oi cs b hi) (fun cs b => ad j oj cs b ag) hQ hy h1
   have ac : ∀ k ok, ops[k]? = some ok -> k ≠ i -> (listed.setIfInBounds j true).getD k true = false ->
     (∀ e ∈ ok.after, Region.binds md e = true -> e.on ≠ i) -> oi.apart ops ok = true := fun k ok hk al ab am => by
    refine aa k ok hk al ?_ am
    by_cases hjk : j = k
    ·subst hjk; exact ae
    ·rw [getD_set_ne true hjk] at ab; exact ab
   refine wpOp_mono (fun a' w' h3 => ⟨h3.2.1, ih (listed.setIfInBounds j true) a' w' (inv.set hj af) ac (ready_mono hr (Ne.symm hji)) h3.1 h3.2.1 ?_⟩) h2
   rw [Array.setIfInBounds_comm _ _ hji]
   exact h3.2.2
def zKa (md : Region.Mode) (ops : Array Oper) (n : Nat) : List (Nat × Bool) -> Array Bool -> Bool
 | [], listed => decide (Region.ready md ops listed = [n]) && decide (Region.ready md ops (listed.setIfInBounds n true) = [])
 | (k, true) :: r, listed => (Region.ready md ops listed).contains k && decide (k < n) && Region.free md ops listed k && zKa md ops n r (listed.setIfInBounds k true)
 | (k, false) :: r, listed => decide (Region.ready md ops listed = [k]) && decide (k < n) && zKa md ops n r (listed.setIfInBounds k true)
def zyf (md : Region.Mode) (ops : Array Oper) (n : Nat) (ord : List (Nat × Bool)) : Bool :=
 Region.noSelect ops && decide (n + 1 = ops.size) && decide (ord.length = n) && Region.sinkB md ops n && Region.chainB md ops n && zKa md ops n ord (Array.replicate ops.size false)
def zr8 (P : Program) (ops : Array Oper) (Q : Exit -> Act -> World -> Prop) (S : World -> Prop) (n : Nat) : List (Nat × Bool) -> Act -> World -> Prop
 | [], a, w => wpOp P ops Q n (fun a' w' => Q .normal a' w') a w
 | (k, true) :: r, a, w => ∃ o v, ops[k]? = some o /\ YieldsIf P ops S o v a /\ zr8 P ops Q S n r (a.put o.dst v) w
 | (k, false) :: r, a, w => wpOp P ops Q k (fun a' w' => S w' /\ zr8 P ops Q S n r a' w') a w
theorem zdq {n : Nat} (aa : Region.noSelect ops = true) (hQ : ∀ c a (d : Tmp) v w, Q (.panic c) (a.put (some d) v) w -> Q (.panic c) a w) (hs : Region.sinkB md ops n = true) (hc : Region.chainB md ops n = true) (hn : n < ops.size) :
  ∀ (ord : List (Nat × Bool)) (listed : Array Bool) (a : Act) (w : World), HeadInv md ops n listed -> zKa md ops n ord listed = true -> S w -> zr8 P ops Q S n ord a w -> zmq P md ops Q S n ord.length listed a w
 | [], listed, a, w, inv, hB, hS, h => by
  simp only [zKa, Bool.and_eq_true, decide_eq_true_eq] at hB
  refine ⟨⟨fun h0 => (by rw [hB.1] at h0; cases h0), fun i hi => ?_⟩, fun j hj => ?_⟩
  ·rw [hB.1] at hi
   obtain rfl : i = n := by simpa using hi
   exact wpOp_mono (fun a' w' h' => ⟨hB.2, h'⟩) h
  ·rw [hB.1] at hj
   exact Nat.le_of_eq (by simpa using hj : j = n).symm
 | (k, true) :: r, listed, a, w, inv, hB, hS, h => by
  simp only [zKa, Bool.and_eq_true, decide_eq_true_eq] at hB
  obtain ⟨⟨⟨h1, h2⟩, h3⟩, h4⟩ := hB
  obtain ⟨o, v, ho, hy, hr⟩ := h
  have ab : k ∈ Region.ready md ops listed := by simpa using h1
  exact zmg ho (Region.noSelect_spec aa) (fun c a w => by
   cases o.dst with
   | none => exact fun h => h
   | some d => exact hQ c a d v w) hs hc hn h2 r.length listed a w inv (Region.free_spec ho h3) ab hy hS
   (zdq aa hQ hs hc hn r _ _ w (inv.set ab h2) h4 hS hr)
 | (k, false) :: r, listed, a, w, inv, hB, hS, h => by
  simp only [zKa, Bool.and_eq_true, decide_eq_true_eq] at hB
  obtain ⟨⟨h1, h2⟩, h3⟩ := hB
  refine ⟨fun h0 => (by rw [h1] at h0; cases h0), fun i hi => ?_⟩
  have hi' := hi
  rw [h1] at hi
  obtain rfl : i = k := by simpa using hi
  exact ⟨h2, wpOp_mono (fun a' w' h' => ⟨h'.1, zdq aa hQ hs hc hn r _ a' w' (inv.set hi' h2) h3 h'.1 h'.2⟩) h⟩
structure WO (P : Program) (ops : Array Oper) (Q : Exit -> Act -> World -> Prop) (S : World -> Prop) (n : Nat) (ord : List (Nat × Bool)) (a : Act) (w : World) : Prop where
 out : zr8 P ops Q S n ord a w
theorem za9 {id : Nat} {a : Act} {w : World} {l : List Oper} (n : Nat) (ord : List (Nat × Bool)) (S : World -> Prop) (hm : P.follows .mixedOrders = true) (hB : zyf .any l.toArray n ord = true)
  (hQ : ∀ c a (d : Tmp) v w, Q (.panic c) (a.put (some d) v) w -> Q (.panic c) a w) (hS : S w.drew) (h : WO P l.toArray Q S n ord a w.drew) : (Code.region id l.toArray true).wp P Q a w := by
 simp only [zyf, Bool.and_eq_true, decide_eq_true_eq] at hB
 obtain ⟨⟨⟨⟨⟨h1, h2⟩, h3⟩, h4⟩, h5⟩, h6⟩ := hB
 have inv0 : HeadInv .any l.toArray n (Array.replicate l.toArray.size false) :=
  ⟨by simp, fun j oj _ hl => (by rw [getD_replicate_false] at hl; cases hl), fun t _ ht => getD_in (by simpa using ht) (getD_replicate_false _ _)⟩
 have H := zdq (md := .any) h1 hQ h4 h5 (by omega) ord _ a w.drew inv0 h6 hS h.out
 refine wp_region_any hm ?_
 have := zge _ _ _ _ H
 rw [h3, h2] at this
 exact this
variable {n k : Nat} {o : Oper} {r : List (Nat × Bool)} {a : Act} {w : World}
theorem WO.still (hk : ops[k]? = some o) (hw : Region.wanted o (yielded ops a.tmps) = true)
  (h : ∀ K : Act -> Prop, (∀ a, WO P ops Q S n r a w -> K a) -> ∃ v, (∀ w, S w -> (execOp a.eval o).run P w = .ok (.value v) w) /\ K (a.put o.dst v)) : WO P ops Q S n ((k, true) :: r) a w := by
 obtain ⟨v, h1, h2⟩ := h (fun a => WO P ops Q S n r a w) (fun _ h => h)
 exact ⟨o, v, hk, .inl ⟨hw, h1⟩, h2.out⟩
theorem WO.act (hk : ops[k]? = some o) (hw : Region.wanted o (yielded ops a.tmps) = true)
  (h : ∀ K : Act -> World -> Prop, (∀ a w, S w -> WO P ops Q S n r a w -> K a w) -> o.wp P a w K Q) : WO P ops Q S n ((k, false) :: r) a w := by
 refine ⟨?_⟩
 unfold zr8 wpOp
 simp only [hk]
 rw [if_pos hw]
 exact .inl (h _ (fun a w h1 h2 => ⟨h1, h2.out⟩))
theorem WO.last (hk : ops[n]? = some o) (hw : Region.wanted o (yielded ops a.tmps) = true) (h : ∀ K : Act -> World -> Prop, (∀ a w, Q .normal a w -> K a w) -> o.wp P a w K Q) : WO P ops Q S n [] a w := by
 refine ⟨?_⟩
 unfold zr8 wpOp
 simp only [hk]
 rw [if_pos hw]
 exact .inl (h _ (fun a w h1 => h1))
theorem wp_append_own {K : Act -> World -> Prop} (s x : Operand) (t : TypeId) (ag : o.op = Op.call { callee := Callee.builtin Builtin.append, args := #[s, x], argTypes := #[t, t] })
  (base : Nat) (e : TypeId) (i : TypeInfo) (z : Value) (size bytes : Nat) (ht : P.underlying t = some (.slice e)) (hi : P.info? e = some i) (hz : i.zero = some z)
  (ab : i.size = size) (ah : i.bytes = bytes) (ai : z.cells.size = size) (aj : 0 < size)
  (v : Value) (n : Nat) (xs : List Value) (hs : a.eval s = v) (af : w.ownsRow base e size v n xs)
  (ad : Addr) (m c : Nat) (news : List Value) (hx : a.eval x = .slice (some ad) m c) (hl : news.length = m * size) (ac : ∀ j u, news[j]? = some u -> w.cell? (ad.add j) = some u) (h1 : ∀ u ∈ news, u.oneCell' = true)
  (ak : n + m <= maxLen) (aa : (n + m) * bytes <= 140737488355328) (ae : base <= w.heap.size)
  (hK : ∀ v' w', w'.ownsRow base e size v' (n + m) (xs ++ news) -> w.grownBy w' v.ownBlock -> (v'.ownBlock = v.ownBlock \/ v'.ownBlock = some w.heap.size) -> K (a.put o.dst v') w') :
  o.wp P a w K Q := by
 obtain ⟨v', w', hr, h2, h3, h4, h5⟩ := run_append_own_at (P := P) w base t o.type e i z size bytes ht hi hz ab ah ai aj v n xs af ad m c news hl ac h1 ak aa ae
 unfold Oper.wp execOp
 simp only [ag, resolve, invoke, builtin, Sem.run_bind, Sem.run_pure, Result.andThen_ok, List.map_toArray, List.map_cons, List.map_nil, hs, hx, hr]
 exact hK v' w' h2 h3 h5
end
end Go.Proofs.YtoaoajfjcfcmhaaGreatDoor
