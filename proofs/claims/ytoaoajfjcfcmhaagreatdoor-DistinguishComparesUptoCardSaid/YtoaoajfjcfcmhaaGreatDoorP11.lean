/- api.Code of the errors that rounds tells: none, a number that is not there, a system that is none (a fault that wraps a . The document's own answer: is a system right; the order of edges. append to nothing, whatever is appended. -/
import Derived.Test.YtoaoajfjcfcmhaaGreatDoorP10
import Derived.Test.YtoaoajfjcfcmhaaGreatDoorP02
import Derived.Test.YtoaoajfjcfcmhaaGreatDoorP01
import Derived.Maps.AppendAt
import Derived.OwnWalk
set_option linter.unusedVariables false
set_option linter.unusedSimpArgs false
set_option maxHeartbeats 16000000
set_option maxRecDepth 100000
open Go.Proofs.Tryz
namespace Go.Proofs.YtoaoajfjcfcmhaaGreatDoor
open Go.RowKit Go.Extern.Stop Go.Stop Go.Extern
def zw5 : List Nat := [5, 2, 1, 6, 7, 8, 9, 10, 11, 12, 14, 15, 16, 13]
structure zF6 (w : World) (a : Nat -> Addr) : Prop where
 sent : ∀ i, i < 14 -> zJm w (zw5.getD i 0) (a i)
 ne : ∀ i j, i < 14 -> j < 14 -> i ≠ j -> a i ≠ a j
theorem zJm.up {w w' : World} {g : Nat} {a : Addr} (h : zJm w g a) (hu : Up w w') : zJm w' g a := by
 obtain ⟨ca, ta, hc⟩ := h.blk
 exact ⟨hu.cell h.var, ca, ta, (hu.block _ (za0 hc)).trans hc⟩
theorem zF6.low {w : World} {a : Nat -> Addr} (S : zF6 w a) :
  w.cell? ⟨5, 0, none⟩ = some (.iface 335 (.pointer (some (a 0)))) /\ w.cell? ⟨2, 0, none⟩ = some (.iface 335 (.pointer (some (a 1)))) /\ w.cell? ⟨1, 0, none⟩ = some (.iface 335 (.pointer (some (a 2)))) /\ w.cell? ⟨6, 0, none⟩ = some (.iface 335 (.pointer (some (a 3)))) /\ w.cell? ⟨7, 0, none⟩ = some (.iface 335 (.pointer (some (a 4)))) /\ w.cell? ⟨8, 0, none⟩ = some (.iface 335 (.pointer (some (a 5)))) /\ w.cell? ⟨9, 0, none⟩ = some (.iface 335 (.pointer (some (a 6)))) /\ w.cell? ⟨10, 0, none⟩ = some (.iface 335 (.pointer (some (a 7)))) /\ w.cell? ⟨11, 0, none⟩ = some (.iface 335 (.pointer (some (a 8)))) /\ w.cell? ⟨12, 0, none⟩ = some (.iface 335 (.pointer (some (a 9)))) :=
 ⟨(S.sent 0 (by decide)).var, (S.sent 1 (by decide)).var, (S.sent 2 (by decide)).var, (S.sent 3 (by decide)).var, (S.sent 4 (by decide)).var, (S.sent 5 (by decide)).var, (S.sent 6 (by decide)).var, (S.sent 7 (by decide)).var, (S.sent 8 (by decide)).var, (S.sent 9 (by decide)).var⟩
theorem zF6.high {w : World} {a : Nat -> Addr} (S : zF6 w a) :
  w.cell? ⟨14, 0, none⟩ = some (.iface 335 (.pointer (some (a 10)))) /\ w.cell? ⟨15, 0, none⟩ = some (.iface 335 (.pointer (some (a 11)))) /\ w.cell? ⟨16, 0, none⟩ = some (.iface 335 (.pointer (some (a 12)))) /\ w.cell? ⟨13, 0, none⟩ = some (.iface 335 (.pointer (some (a 13)))) :=
 ⟨(S.sent 10 (by decide)).var, (S.sent 11 (by decide)).var, (S.sent 12 (by decide)).var, (S.sent 13 (by decide)).var⟩
def zrs (w : World) (v : Value) (a : Addr) : Prop :=
 ∃ qb pb, v = zac qb /\ w.cell? ⟨qb, 3, none⟩ = some (.iface 70 (.pointer (some ⟨pb, 0, none⟩))) /\ w.cell? ⟨pb, 3, none⟩ = some (.iface 335 (.pointer (some a)))
theorem zcg {w : World} {pb : Nat} {l : ByteArray} {v : Value} (h : zas w pb l v) : w.cell? ⟨pb, 3, none⟩ = some v := by
 unfold zas at h
 simp [World.cell?, h]
theorem zws {w : World} {qb pb : Nat} {l1 l2 : ByteArray} {a : Addr} (h1 : zas w qb l1 (zac pb)) (h2 : zas w pb l2 (.iface 335 (.pointer (some a)))) : zrs w (zac qb) a :=
 ⟨qb, pb, rfl, zcg h1, zcg h2⟩
theorem zki {w : World} {pb : Nat} {l : ByteArray} {a : Addr} (h : zas w pb l (.iface 335 (.pointer (some a)))) : Wraps w (zac pb) a := .inr ⟨pb, rfl, zcg h⟩
theorem zz2 {w : World} {v : Value} {a : Addr} (h : zrs w v a) :
  Calls prog 20 #[v, .iface 335 (.pointer (some a))] w fun e w' => e = .returned (.bool true) /\ w = w' := by
 obtain ⟨qb, pb, rfl, h1, h2⟩ := h
 exact zn8 qb pb a w h1 h2
theorem zwx {w : World} {v : Value} {a b : Addr} {ca cb : Array Value} {ta tb : TypeId} (h : zrs w v a) (aa : a ≠ b) (ha : w.heap[a.block]? = some (.cells ca ta (0, 0))) (hb : w.heap[b.block]? = some (.cells cb tb (0, 0))) :
  Calls prog 20 #[v, .iface 335 (.pointer (some b))] w fun e w' => e = .returned (.bool false) /\ w = w' := by
 obtain ⟨qb, pb, rfl, h1, h2⟩ := h
 exact zl0 qb pb b a ca cb ta tb w h1 h2 aa ha hb
theorem zn3 {w : World} {v : Value} {a : Nat -> Addr} (h : zrs w v (a 13)) (S : zF6 w a) : ∀ i, i < 13 ->
  Calls prog 20 #[v, .iface 335 (.pointer (some (a i)))] w fun e w' => e = .returned (.bool false) /\ w = w' := fun i hi => by
 obtain ⟨c, t, hc⟩ := (S.sent 13 (by decide)).blk
 obtain ⟨c1, t1, aa⟩ := (S.sent i (by omega)).blk
 exact zwx h (S.ne 13 i (by decide) (by omega) (by omega)) hc aa
theorem zkb {w : World} {v : Value} {a : Nat -> Addr} (h : Wraps w v (a 2)) (S : zF6 w a) :
  Calls prog 23 #[v] w fun r w' => r = .returned (.int .i64 3) /\ w = w' :=
 zBg h (S.sent 0 (by decide)) (S.sent 1 (by decide)) (S.sent 2 (by decide)) (S.ne 2 0 (by decide) (by decide) (by decide)) (S.ne 2 1 (by decide) (by decide) (by decide))
theorem zz9 {w : World} {v : Value} {a : Nat -> Addr} (h : zrs w v (a 13)) (S : zF6 w a) :
  Calls prog 87 #[v] w fun r w' => r = .returned (.int .i64 14) /\ w = w' := by
 have H := zh (zn3 h S)
 have HT := zh (zz2 h)
 obtain ⟨g10, g11, g12, g13⟩ := S.high
 obtain ⟨qb, pb, rfl, -, -⟩ := h
 unfold zac at H HT ⊢
 clear S
 go_enter func87, ntmps87
 go_wp2_with (first
  | (go_at_call 20; (with_reducible refine HT.out.mono ?_); rintro e w4 ⟨rfl, rfl⟩)
  | (go_at_call 20; (with_reducible refine (H.out _ (by decide)).mono ?_); rintro e w4 ⟨rfl, rfl⟩))
 go_ret
 exact ⟨rfl, rfl⟩
theorem zyx {w : World} {v : Value} {a : Nat -> Addr} (h : zrs w v (a 13)) (S : zF6 w a) :
  Calls prog 23 #[v] w fun r w' => r = .returned (.int .i64 14) /\ w = w' := by
 have H := zh (zn3 h S)
 have HR := zh (zz9 h S)
 obtain ⟨g0, g1, g2, g3, g4, g5, g6, g7, g8, g9⟩ := S.low
 obtain ⟨qb, pb, rfl, -, -⟩ := h
 unfold zac at H HR ⊢
 clear S
 go_enter func23, ntmps23
 go_wp2_with (first
  | (go_at_call 87; refine HR.out.mono ?_; rintro e w4 ⟨rfl, rfl⟩)
  | (go_at_call 20; (with_reducible refine (H.out _ (by decide)).mono ?_); rintro e w4 ⟨rfl, rfl⟩))
 go_ret
 exact ⟨rfl, rfl⟩
end Go.Proofs.YtoaoajfjcfcmhaaGreatDoor
namespace Go.Proofs.YtoaoajfjcfcmhaaGreatDoor
open Go.RowKit Go.Sort Go.Maps
def There (s : Sy.Lts) (p q : Int) : Prop := 0 <= p /\ p < s.n /\ 0 <= q /\ q < s.n
theorem zd2 {s : Sy.Lts} (hR : Sy.Right s) : (Rd.rounds s).length <= 1001 := by
 rw [Rd.zD4]
 have h1 := hR.n1
 by_cases h0 : s.n.toNat = 0
 ·rw [zn4 h0]; omega
 ·have := Rd.zGx s (by omega); omega
theorem zjc {s : Sy.Lts} {c : List Nat} (h : c ∈ Rd.rounds s) : c.length = s.n.toNat := by
 obtain ⟨k, -, rfl⟩ := List.mem_map.1 h
 exact Rd.zD0 s k
theorem zvg {s : Sy.Lts} {w W : World} {b : Nat} {v : Value} {vs : List Value} {p q : Nat} (hR : Sy.Right s) (ho : w.ownsRow b 27 1 v (Rd.last s + 1) vs) (hr : zb4 b w vs (Rd.rounds s)) (hu : Up w W) (hp : p < s.n.toNat) (hq : q < s.n.toNat) :
  Calls prog 127 #[v, .int .i64 (p : Nat), .int .i64 (q : Nat)] W fun r w' => r = .returned (.int .i64 (Rd.rank s p q)) /\ Up W w' := by
 have aa := (zb4.at ho hr (Rd.zD4 s) (by omega)).up hu
 have h1 := hR.n1
 exact zwp aa (zd2 hR) (fun c hc => by have := zjc hc; omega)
theorem zuf {s : Sy.Lts} {ao : Option Addr} {k cap : Nat} {xt : TypeId} {xv : Value} {w : World} (hr : Sy.right s = true) (hT : Tab w) (hG : zFl w) (hs : Ls3 w (.slice ao k cap) s.es) (hE : w.cell? ⟨13, 0, none⟩ = some (.iface xt xv)) (hl : s.es.length <= maxLen) :
  Calls prog 126 #[.agg #[.int .i64 s.n, .int .i64 s.m, .int .i64 s.start, .slice ao k cap]] (w.alloc (.cells #[.int .i64 s.n, .int .i64 s.m, .int .i64 s.start, .slice ao k cap] 24)) fun r w1 =>
   ∃ av cv vs, r = .returned (.tuple #[.slice av (Rd.last s + 1) cv, .nilIface]) /\ Up w w1 /\ w1.heap[w.heap.size]? = some (.cells #[.int .i64 s.n, .int .i64 s.m, .int .i64 s.start, .slice ao k cap] 24 (0, 0)) /\ w1.ownsRow (w.heap.size + 1) 27 1 (.slice av (Rd.last s + 1) cv) (Rd.last s + 1) vs /\ zb4 (w.heap.size + 1) w1 vs (Rd.rounds s) := by
 have hu := (Up.refl w).alloc (.cells #[.int .i64 s.n, .int .i64 s.m, .int .i64 s.start, .slice ao k cap] 24)
 refine (zAh s (.slice ao k cap) xt xv _ (hT.up hu) (hu.cell hG) (hs.up hu) (hu.cell hE) hl).mono ?_
 rintro r w1 ⟨aa, ⟨-, v, vs, rfl, ho, ab⟩ | ⟨h1, -⟩⟩
 ·rw [World.size_alloc] at ho ab
  obtain ⟨av, cv, rfl⟩ := za1 ho
  have ac := (aa.block _ (by simp)).trans (heap_alloc_new w (.cells #[.int .i64 s.n, .int .i64 s.m, .int .i64 s.start, .slice ao k cap] 24))
  exact ⟨av, cv, vs, rfl, hu.trans aa, ac, ho, ab⟩
 ·exact absurd (hr.symm.trans h1) (by decide)
theorem zaf {w : World} {v : Value} {l : List Sy.Edge} (h : Ls3 w v l) : ∃ ao cap, v = .slice ao l.length cap := by
 obtain ⟨ao, cap, g, off, rfl, -, -⟩ := h
 exact ⟨ao, cap, rfl⟩
end Go.Proofs.YtoaoajfjcfcmhaaGreatDoor
namespace Go.Proofs.YtoaoajfjcfcmhaaGreatDoor
open Go.RowKit
theorem zgk (s : Sy.Lts) (se : Value) (w : World) (hs : Ls3 w se s.es) (hl : s.es.length <= maxLen) :
  Calls prog 14 #[zCb s se] w fun r w' => r = .returned (.bool (Sy.right s)) /\ Up w w' := by
 obtain ⟨ao, cap, g, off, rfl, ha, hc⟩ := hs
 obtain ⟨n, m, st, es⟩ := s
 simp only at ha hc hl ⊢
 unfold zCb
 simp only
 obtain ⟨k, hk⟩ := nm (es.length)
 rw [<- hk] at ha hl ⊢
 have HA := zh ha
 have HC := zh hc
 have HK := zh hk
 unfold maxLen at hl
 clear ha hc hk
 by_cases hbad : n < 0 \/ 1000 < n \/ m < 1 \/ 201 < m \/ st < 0 \/ 0 < st /\ n <= st \/ 10000 < k
 ·have HW : Hid (Sy.right ⟨n, m, st, es⟩ = false) := zh (zn1 (by simp only; rw [<- HK.out]; exact hbad))
  rw [HW.out]
  have aa : (decide (n < 0) = true) \/ (decide (n < 0) = false /\ decide (1000 < n) = true) \/ (decide (n < 0) = false /\ decide (1000 < n) = false /\ decide (m < 1) = true) \/ (decide (n < 0) = false /\ decide (1000 < n) = false /\ decide (m < 1) = false /\ decide (201 < m) = true) \/
    (decide (n < 0) = false /\ decide (1000 < n) = false /\ decide (m < 1) = false /\ decide (201 < m) = false /\ 10000 < k) \/
    (decide (n < 0) = false /\ decide (1000 < n) = false /\ decide (m < 1) = false /\ decide (201 < m) = false /\ decide ((10000 : Int) < (k : Int)) = false /\ (n == 0) = true /\ (st != 0) = true) \/
    (decide (n < 0) = false /\ decide (1000 < n) = false /\ decide (m < 1) = false /\ decide (201 < m) = false /\ decide ((10000 : Int) < (k : Int)) = false /\ (n == 0) = false /\ decide (0 < n) = true /\ decide (st < 0) = true) \/
    (decide (n < 0) = false /\ decide (1000 < n) = false /\ decide (m < 1) = false /\ decide (201 < m) = false /\ decide ((10000 : Int) < (k : Int)) = false /\ (n == 0) = false /\ decide (0 < n) = true /\ decide (st < 0) = false /\ decide (n <= st) = true) := by
   simp only [decide_eq_true_eq, decide_eq_false_iff_not, beq_iff_eq, bne_iff_ne, beq_eq_false_iff_ne, ne_eq]
   omega
  clear hbad HW
  rcases aa with q1 | ⟨q1, q2⟩ | ⟨q1, q2, q3⟩ | ⟨q1, q2, q3, q4⟩ | ⟨q1, q2, q3, q4, q5⟩ | ⟨q1, q2, q3, q4, q5, q6, q7⟩ | ⟨q1, q2, q3, q4, q5, q6, q7, q8⟩ | ⟨q1, q2, q3, q4, q5, q6, q7, q8, q9⟩
  all_goals
   go_enter func14, ntmps14
   go_wp2_with fail
   go_ret
   exact ⟨rfl, (Up.refl w).alloc _⟩
 ·have av : 0 <= n := by omega
  have aw : n <= 1000 := by omega
  have ax : 1 <= m := by omega
  have ay : m <= 201 := by omega
  have aA : 0 <= st := by omega
  have aB : Hid (0 < st -> st < n) := zh (by omega)
  have aC : k <= 10000 := by omega
  have q1 : decide (n < 0) = false := by simp; omega
  have q2 : decide (1000 < n) = false := by simp; omega
  have q3 : decide (m < 1) = false := by simp; omega
  have q4 : decide (201 < m) = false := by simp; omega
  have q5 : decide ((10000 : Int) < (k : Int)) = false := by simp; omega
  have aa : ((n == 0) = true /\ (st != 0) = false /\ decide (0 < n) = false) \/ ((n == 0) = false /\ decide (0 < n) = true /\ decide (st < 0) = false /\ decide (n <= st) = false) := by
   simp only [decide_eq_true_eq, decide_eq_false_iff_not, beq_iff_eq, bne_eq_false_iff_eq, beq_eq_false_iff_ne, ne_eq]
   omega
  clear hbad
  obtain ⟨A, hA⟩ := nm (Obj.cells #[.int .i64 n, .int .i64 m, .int .i64 st, .slice ao k cap] 24)
  obtain ⟨w3, ac⟩ := nm (w.alloc A)
  have ai : Up w w3 := by rw [ac]; exact (Up.refl w).alloc _
  have aj : w3.heap[w.heap.size]? = some A := by rw [ac]; exact heap_alloc_new w A
  have ab := zh ai
  have ak := zh aj
  have aD := zh ac
  have al := zh hA
  clear ai aj ac hA
  rcases aa with ⟨q6, q7, q8⟩ | ⟨q6, q7, q8, q9⟩
  all_goals
   go_enter func14, ntmps14
   go_wp2_with fail
   go_loopw [3] (fun i wr => ∃ j : Nat, j <= k /\ i = .int .i64 j /\ Up w3 wr /\ Hid (∀ i, i < j -> Sy.zE9 ⟨n, m, 0, []⟩ (es.getD i (0, 0, 0)) = true)) (fun i _ => k - (intOf i).toNat)
   case atStart => exact ⟨0, Nat.zero_le _, rfl, by rw [aD.out, al.out]; exact Up.refl _, fun i hi => by omega⟩
   case round =>
    obtain ⟨j, hj, rfl, hU, HE⟩ := hrel
    have hb := al.out ▸ (hU.block _ (za0 ak.out)).trans ak.out
    obtain ⟨⟨b0, b1, b2, b3⟩, -⟩ := (show (wr.cell? ⟨w.heap.size, 0, none⟩ = some (.int .i64 n) /\ wr.cell? ⟨w.heap.size, 1, none⟩ = some (.int .i64 m) /\ wr.cell? ⟨w.heap.size, 2, none⟩ = some (.int .i64 st) /\ wr.cell? ⟨w.heap.size, 3, none⟩ = some (.slice ao k cap)) /\ True from ⟨⟨by simp [World.cell?, hb], by simp [World.cell?, hb], by simp [World.cell?, hb], by simp [World.cell?, hb]⟩, trivial⟩)
    clear hb
    by_cases hlt : j < k
    ·obtain rfl := HA.out (by omega)
     have am : j < es.length := by rw [<- HK.out]; exact hlt
     have an := HC.out j am
     obtain ⟨x, hx⟩ := nm (es.getD j (0, 0, 0))
     rw [<- hx] at an
     obtain ⟨x1, x2, x3⟩ := x
     have aq : Hid (es.getD j (0, 0, 0) = (x1, x2, x3)) := hx.symm
     clear hx
     obtain ⟨ad, ae, af⟩ := an
     simp only at ad ae af
     have d0 := (ab.out.trans hU).cell ad
     have d1 := (ab.out.trans hU).cell ae
     have d2 := (ab.out.trans hU).cell af
     have e0 := ((Up.refl wr).alloc (.cells #[.int .i64 x1, .int .i64 x2, .int .i64 x3] 60)).cell b0
     have e1 := ((Up.refl wr).alloc (.cells #[.int .i64 x1, .int .i64 x2, .int .i64 x3] 60)).cell b1
     clear ad ae af
     have aa : (decide (x1 < 0) = true) \/ (decide (x1 < 0) = false /\ decide (n <= x1) = true) \/ (decide (x1 < 0) = false /\ decide (n <= x1) = false /\ decide (x3 < 0) = true) \/ (decide (x1 < 0) = false /\ decide (n <= x1) = false /\ decide (x3 < 0) = false /\ decide (n <= x3) = true) \/
       (decide (x1 < 0) = false /\ decide (n <= x1) = false /\ decide (x3 < 0) = false /\ decide (n <= x3) = false /\ decide (x2 < 0) = true) \/ (decide (x1 < 0) = false /\ decide (n <= x1) = false /\ decide (x3 < 0) = false /\ decide (n <= x3) = false /\ decide (x2 < 0) = false /\ decide (m <= x2) = true) \/
       (decide (x1 < 0) = false /\ decide (n <= x1) = false /\ decide (x3 < 0) = false /\ decide (n <= x3) = false /\ decide (x2 < 0) = false /\ decide (m <= x2) = false) := by
      simp only [decide_eq_true_eq, decide_eq_false_iff_not]
      omega
     have aE : Hid ((0 <= x1 /\ 0 <= x3 /\ 0 <= x2 /\ x1 < n /\ x3 < n /\ x2 < m) -> Sy.zE9 ⟨n, m, 0, []⟩ (es.getD j (0, 0, 0)) = true) := zh (fun h => by rw [aq.out]; unfold Sy.zE9; simpa using h)
     have aF : Hid (¬ (0 <= x1 /\ 0 <= x3 /\ 0 <= x2 /\ x1 < n /\ x3 < n /\ x2 < m) -> Sy.right ⟨n, m, st, es⟩ = false) := zh (fun h => zk2 (i := j) am (by rw [aq.out]; unfold Sy.zE9; simp only [h, decide_false]))
     rcases aa with p1 | ⟨p1, p2⟩ | ⟨p1, p2, p3⟩ | ⟨p1, p2, p3, p4⟩ | ⟨p1, p2, p3, p4, p5⟩ | ⟨p1, p2, p3, p4, p5, p6⟩ | ⟨p1, p2, p3, p4, p5, p6⟩
     rotate_left 6
     ·have au := aE.out (by simp only [decide_eq_true_eq, decide_eq_false_iff_not] at p1 p2 p3 p4 p5 p6; omega)
      have ag := zh au
      clear au
      go_wp2_with fail
      go_roundw
      case rel => exact ⟨j + 1, by omega, by go_num, hU.alloc _, fun i hi => by
       by_cases hij : i = j
       ·subst hij; exact ag.out
       ·exact HE.out i (by omega)⟩
      case measure => simp [intOf]; omega
     all_goals
      have ah := zh (aF.out (by simp only [decide_eq_true_eq, decide_eq_false_iff_not] at *; omega))
      go_wp2_with fail
      go_ret
      exact ⟨zao ah.out.symm, ab.out.trans (hU.alloc _)⟩
    ·obtain rfl : j = k := by omega
     have HR := zh (zmt (s := ⟨n, m, st, es⟩) ⟨av, aw, ax, ay, aA, aB.out, by simp only; rw [<- HK.out]; exact aC⟩ (fun i hi => HE.out i (by rw [HK.out]; exact hi)))
     go_wp2_with fail
     go_ret
     exact ⟨zao HR.out.symm, ab.out.trans hU⟩
theorem zos (a b : Sy.Edge) (w : World) :
  Calls prog 174 #[.agg #[.int .i64 a.1, .int .i64 a.2.1, .int .i64 a.2.2], .agg #[.int .i64 b.1, .int .i64 b.2.1, .int .i64 b.2.2]] w fun r w' => r = .returned (.bool (Sy.lt3 a b)) /\ Up w w' := by
 obtain ⟨a1, a2, a3⟩ := a
 obtain ⟨b1, b2, b3⟩ := b
 simp only
 have aa : ((a1 != b1) = true /\ Sy.lt3 (a1, a2, a3) (b1, b2, b3) = decide (a1 < b1)) \/ ((a1 != b1) = false /\ (a2 != b2) = true /\ Sy.lt3 (a1, a2, a3) (b1, b2, b3) = decide (a2 < b2)) \/ ((a1 != b1) = false /\ (a2 != b2) = false /\ Sy.lt3 (a1, a2, a3) (b1, b2, b3) = decide (a3 < b3)) := by
  unfold Sy.lt3
  simp only [bne_iff_ne, bne_eq_false_iff_eq, decide_eq_decide]
  omega
 rcases aa with ⟨q1, e⟩ | ⟨q1, q2, e⟩ | ⟨q1, q2, e⟩
 all_goals
  rw [e]
  clear e
  go_enter func174, ntmps174
  go_wp2_with fail
  go_ret
  exact ⟨rfl, ((Up.refl w).alloc _).alloc _⟩
end Go.Proofs.YtoaoajfjcfcmhaaGreatDoor
namespace Go.Proofs.YtoaoajfjcfcmhaaGreatDoor
open Go.RowKit Go.Maps
theorem zds {P : Program} {w : World} (t ty e : TypeId) (i : TypeInfo) (z : Value) (size bytes : Nat) (ht : P.underlying t = some (.slice e)) (hi : P.info? e = some i) (hz : i.zero = some z)
  (ab : i.size = size) (ae : i.bytes = bytes) (af : z.cells.size = size) (ag : 0 < size) (ao : Option Addr) (m c : Nat) (news : List Value) (ah : ao = none -> m = 0) (hl : news.length = m * size)
  (ac : ∀ ad, ao = some ad -> ∀ j u, news[j]? = some u -> w.cell? (ad.add j) = some u) (h1 : ∀ u ∈ news, u.oneCell' = true) (ai : m <= maxLen) (aa : m * bytes <= 140737488355328) :
  ∃ v' w', (Builtin.append_ #[t, t] ty #[.slice none 0 0, .slice ao m c]).run P w = .ok v' w' /\ w'.ownsRow w.heap.size e size v' m news /\ Up w w' := by
 cases ao with
 | none =>
  obtain rfl := ah rfl
  obtain rfl : news = [] := List.eq_nil_of_length_eq_zero (by omega)
  refine ⟨.slice none 0 0, w, ?_, World.ownsRow_nil _ _ _ _, Up.refl _⟩
  simp [Builtin.append_, run_underlying ht, sizeOf, typeInfo, hi, Builtin.lenOf, Builtin.firstCells]
 | some ad =>
  obtain ⟨v', w', hr, h2, h3, -, h5⟩ := run_append_own_at (P := P) w w.heap.size t ty e i z size bytes ht hi hz ab ae af ag (.slice none 0 0) 0 [] (World.ownsRow_nil _ _ _ _) ad m c news hl (ac ad rfl) h1 (by omega) (by rw [Nat.zero_add]; exact aa) (Nat.le_refl _)
  rw [Nat.zero_add, List.nil_append] at h2
  exact ⟨v', w', hr, h2, (Up.refl w).grown h3 (fun k hk => by cases hk)⟩
theorem zeu {P : Program} (w : World) {ops : Array Oper} {rest : List Oper} {o : Oper} {a : Act} {Q : Exit -> Act -> World -> Prop} (hg : o.guard = none) (s x : Operand) (t : TypeId)
  (ae : o.op = .call { callee := .builtin .append, args := #[s, x], argTypes := #[t, t] }) (e : TypeId) (i : TypeInfo) (z : Value) (size bytes : Nat) (ht : P.underlying t = some (.slice e)) (hi : P.info? e = some i) (hz : i.zero = some z)
  (ab : i.size = size) (af : i.bytes = bytes) (ag : z.cells.size = size) (ah : 0 < size) (hs : a.eval s = .slice none 0 0) (ao : Option Addr) (m c : Nat) (hx : a.eval x = .slice ao m c) (news : List Value) (ai : ao = none -> m = 0) (hl : news.length = m * size)
  (ac : ∀ ad, ao = some ad -> ∀ j u, news[j]? = some u -> w.cell? (ad.add j) = some u) (h1 : ∀ u ∈ news, u.oneCell' = true) (aj : m <= maxLen) (aa : m * bytes <= 140737488355328)
  (hK : ∀ v' w', w'.ownsRow w.heap.size e size v' m news -> Up w w' -> wpList P ops Q rest (a.put o.dst v') w') : wpList P ops Q (o :: rest) a w := by
 refine wpList_plain hg fun K' ak => ?_
 obtain ⟨v', w', hr, h2, h3⟩ := zds (P := P) (w := w) t o.type e i z size bytes ht hi hz ab af ag ah ao m c news ai hl ac h1 aj aa
 unfold Oper.wp execOp
 simp only [ae, resolve, invoke, builtin, Sem.run_bind, Sem.run_pure, Result.andThen_ok, List.map_toArray, List.map_cons, List.map_nil, hs, hx, hr]
 exact ak _ _ (hK v' w' h2 h3)
end Go.Proofs.YtoaoajfjcfcmhaaGreatDoor
