/- Walks: Split. slices.Clone and slices.Sort at a slice of integers, by the shelf's contracts, in plain form. -/
import Derived.Test.YtoaoajfjcfcmhaaGreatDoorP20
import Derived.Test.YtoaoajfjcfcmhaaGreatDoorP10
import Derived.BigRegion
import Derived.BigQuiet
import Derived.Deep.QuietTactic
import Derived.Test.YtoaoajfjcfcmhaaGreatDoorP21
import Derived.Deep.RegionWith
import Derived.Deep.DeepCutAuto
import Derived.StillTailTactics
import Derived.Maps.AppendAt
import Derived.Deep.RegionLaw
import Derived.Test.YtoaoajfjcfcmhaaGreatDoorP05
import Derived.LaidEql
import Derived.Deep.Quiet
import Derived.Test.YtoaoajfjcfcmhaaGreatDoorP01
import Derived.Ground.NamesProg
import Derived.Ground.Names2Prog
import Derived.Test.YtoaoajfjcfcmhaaGreatDoorLayS
import Derived.Shelf.Slices.In.Clone
import Derived.Shelf.Slices.In.SortNone
import Derived.Sort.OwnSortedInts
import Derived.Sort.EveryDepth
import Derived.Test.YtoaoajfjcfcmhaaGreatDoorP19
set_option linter.unusedVariables false
set_option linter.unusedSimpArgs false
set_option maxHeartbeats 16000000
set_option maxRecDepth 100000
open Go.Proofs.Tryz
namespace Go.Proofs.YtoaoajfjcfcmhaaGreatDoor
open Go.RowKit
def ztl (w : World) (gb b : Nat) (r : Ending) (w' : World) : Prop :=
 r = .returned (.tuple #[.int .i64 0, .bool false, .nilIface]) /\ ∃ q, ((w.alloc (.cells #[.pointer none] 70)).drewN q).setCell ⟨gb, b * 3 + 2, none⟩ (.int .i64 0) = w'
theorem zre (B b n nb ge ce gp cp gi ci gb cb f t m : Nat) (s : Rf.St) (w : World) (h : Ob w B s n ge ce gp cp gi ci gb cb) (hb : b < nb) (ac : nb = s.blocks.length) (hf : f = s.F b) (ht : t = s.T b) (hm : m = s.M b)
  (ad : f < t) (ae : t <= n) (af : f + m <= t) (hn : n <= 1000) (hz : m = 0 \/ t - f - m = 0) :
  Calls prog 200 #[.pointer (some ⟨B, 0, none⟩), .int .i64 b] w (ztl w gb b) := by
 have h' := h.alloc (.cells #[.pointer none] 70)
 have aa : b < s.blocks.length := by omega
 have C3 := h.c3
 have c3 := h'.c3
 have cf := h'.o.rb.cell (zau s.blocks b aa)
 have ct := h'.o.rb.cell (zb1 s.blocks b aa)
 have cm := h'.o.rb.cell (zb2 s.blocks b aa)
 have fm := h'.o.rb.free (b * 3 + 2)
 change _ = some (Value.int .i64 (s.F b : Nat)) at cf
 change _ = some (Value.int .i64 (s.T b : Nat)) at ct
 change _ = some (Value.int .i64 (s.M b : Nat)) at cm
 rw [<- hf] at cf
 rw [<- ht] at ct
 rw [<- hm] at cm
 rw [<- ac] at c3 C3
 clear hf ht hm ac aa h h'
 have s1 : IntKind.i64.wrap ((t : Int) - (f : Int)) = (t : Int) - (f : Int) := IntWalk.i64_in _ (by omega)
 have s2 : IntKind.i64.wrap ((t : Int) - (f : Int) - (m : Int)) = (t : Int) - (f : Int) - (m : Int) := IntWalk.i64_in _ (by omega)
 have ab : w.heap.size <= w.heap.size := Nat.le_refl _
 by_cases hm0 : m = 0
 ·subst hm0
  go_enter func200, ntmps200
  go_wp2_with (first
   | (go_at_call 201; refine (zcr _ _ _ _ _ C3).mono ?_; rintro e w' ⟨rfl, rfl⟩)
   | (go_at_call 204; refine (zdj _ _ _ _ (by omega) (by omega)).mono ?_; rintro e w' ⟨rfl, rfl⟩)
   | (go_at_call 22; refine (zno _ _).mono ?_; rintro e w' ⟨rfl, rfl⟩))
  go_quiet (fail)
  go_wp2_with fail
  go_ret3
  exact ⟨rfl, _, rfl⟩
 ·have ag : ((m : Int) == 0) = false := by simp; omega
  have ah : ((t : Int) - (f : Int) - (m : Int) == 0) = true := by simp; omega
  go_enter func200, ntmps200
  go_wp2_with (first
   | (go_at_call 201; refine (zcr _ _ _ _ _ C3).mono ?_; rintro e w' ⟨rfl, rfl⟩)
   | (go_at_call 204; refine (zdj _ _ _ _ (by omega) (by omega)).mono ?_; rintro e w' ⟨rfl, rfl⟩)
   | (go_at_call 22; refine (zno _ _).mono ?_; rintro e w' ⟨rfl, rfl⟩))
  go_quiet (fail)
  go_wp2_with fail
  go_ret3
  exact ⟨rfl, _, rfl⟩
def zqm (w : World) (B n nb ge ce gp cp gi ci gb : Nat) (s2 : Rf.St) (r : Ending) (w' : World) : Prop :=
 r = .returned (.tuple #[.int .i64 (nb : Nat), .bool true, .nilIface]) /\ ∃ gb' cb', Ob w' B s2 n ge ce gp cp gi ci gb' cb' /\ (gb' = gb \/ w.heap.size <= gb') /\ Turned (fun k => k = B \/ k = gi \/ k = gb) w w'
theorem zju (w : World) (x y : Nat) (t : TypeId) : ∀ j u, (zal [(x, y, 0)])[j]? = some u -> (w.alloc (.cells #[.int .i64 (x : Nat), .int .i64 (y : Nat), .int .i64 0] t)).cell? ((⟨w.heap.size, 0, none⟩ : Addr).add j) = some u := by
 intro j u hj
 match j, hj with
 | 0, hj => simp [zal] at hj; subst hj; simp [Addr.add]
 | 1, hj => simp [zal] at hj; subst hj; simp [Addr.add]
 | 2, hj => simp [zal] at hj; subst hj; simp [Addr.add]
 | j + 3, hj => simp [zal] at hj
theorem ze3 {P : Program} {ops : Array Oper} {o : Oper} {a : Act} {w : World} {K : Act -> World -> Prop} {Q : Exit -> Act -> World -> Prop} {E : Prop}
  (hg : o.guard = none) (s x : Operand) (t : TypeId) (ag : o.op = Op.call { callee := Callee.builtin Builtin.append, args := #[s, x], argTypes := #[t, t] })
  (base : Nat) (e : TypeId) (i : TypeInfo) (z : Value) (size bytes : Nat) (ht : P.underlying t = some (.slice e)) (hi : P.info? e = some i) (hz : i.zero = some z)
  (ab : i.size = size) (ah : i.bytes = bytes) (ai : z.cells.size = size) (aj : 0 < size)
  (v : Value) (n : Nat) (xs : List Value) (hs : a.eval s = v) (af : w.ownsRow base e size v n xs)
  (ad : Addr) (m c : Nat) (news : List Value) (hx : a.eval x = .slice (some ad) m c) (hl : news.length = m * size) (ac : ∀ j u, news[j]? = some u -> w.cell? (ad.add j) = some u) (h1 : ∀ u ∈ news, u.oneCell' = true)
  (ak : n + m <= maxLen) (aa : (n + m) * bytes <= 140737488355328) (ae : base <= w.heap.size)
  (hK : ∀ v' w', w'.ownsRow base e size v' (n + m) (xs ++ news) -> w.grownBy w' v.ownBlock -> (v'.ownBlock = v.ownBlock \/ v'.ownBlock = some w.heap.size) -> K (a.put o.dst v') w') :
  if Region.wanted o (yielded ops a.tmps) = true then Oper.wp P o a w K Q else E := by
 have hw : Region.wanted o (yielded ops a.tmps) = true := by simp [Region.wanted, hg]
 rw [if_pos hw]
 obtain ⟨v', w', hr, h2, h3, h4, h5⟩ := run_append_own_at (P := P) w base t o.type e i z size bytes ht hi hz ab ah ai aj v n xs af ad m c news hl ac h1 ak aa ae
 unfold Oper.wp execOp
 simp only [ag, resolve, invoke, builtin, Sem.run_bind, Sem.run_pure, Result.andThen_ok, List.map_toArray, List.map_cons, List.map_nil, hs, hx, hr]
 exact hK v' w' h2 h3 h5
def zy5 (w : World) (B n nb ge ce gp cp gi ci gb : Nat) (s7 : Rf.St) (w7 : World) : Prop :=
 ∃ gb' c6, Ob w7 B s7 n ge ce gp cp gi ci gb' c6 /\ (gb' = gb \/ w.heap.size <= gb') /\ Turned (fun k => k = B \/ k = gi \/ k = gb) w w7
theorem zqh (l : List Nat) (lo hi k : Nat) (hk : lo + k < hi) (hh : hi <= l.length) : ((l.take hi).drop lo).take (k + 1) = ((l.take hi).drop lo).take k ++ [l.getD (lo + k) 0] := by
 have h1 : k < ((l.take hi).drop lo).length := by simp; omega
 rw [List.take_succ_eq_append_getElem h1]
 congr 1
 simp
 rw [List.getElem?_eq_getElem (by omega)]
 rfl
theorem zi7 (l es : List Nat) (e v : Nat) : Rf.zCa l (es ++ [e]) v = (Rf.zCa l es v).set e v := by simp [Rf.zCa]
theorem zch (l es : List Nat) (v : Nat) : (Rf.zCa l es v).length = l.length := by
 induction es generalizing l with
 | nil => rfl
 | cons e es ih => show (Rf.zCa (l.set e v) es v).length = _; rw [ih]; simp
theorem zym (l : List (Nat × Nat × Nat)) (x : Nat × Nat × Nat) : (l ++ [x]).getD l.length (0, 0, 0) = x := by simp [List.getD]
theorem zp1 (B b n nb ge ce gp cp gi ci gb cb f t m : Nat) (s : Rf.St) (w : World) (h : Ob w B s n ge ce gp cp gi ci gb cb) (hb : b < nb) (aw : nb = s.blocks.length) (hf : f = s.F b) (ht : t = s.T b) (hm : m = s.M b)
  (bb : f < t) (bc : t <= n) (bd : f + m < t) (hn : n <= 1000) (aV : nb <= 1000) (be : 0 < m) (aW : m <= t - f - m) (aJ : s.elems.length = n) (aK : s.inn.length = n) (aq : ∀ i, i < n -> s.E i < n) :
  Calls prog 200 #[.pointer (some ⟨B, 0, none⟩), .int .i64 b] w (zqm w B n nb ge ce gp cp gi ci gb (s.cut b f (f + m) (f + m) t)) := by
 obtain ⟨i0, hi, aX, aY, aZ⟩ := info_parts Tryz.zFh
 have h' := h.alloc (.cells #[.pointer none] 70)
 have ak : b < s.blocks.length := by omega
 have C3 := h.c3
 have c3 := h'.c3
 have cf := h'.o.rb.cell (zau s.blocks b ak)
 have ct := h'.o.rb.cell (zb1 s.blocks b ak)
 have cm := h'.o.rb.cell (zb2 s.blocks b ak)
 change _ = some (Value.int .i64 (s.F b : Nat)) at cf
 change _ = some (Value.int .i64 (s.T b : Nat)) at ct
 change _ = some (Value.int .i64 (s.M b : Nat)) at cm
 rw [<- hf] at cf
 rw [<- ht] at ct
 rw [<- hm] at cm
 rw [<- aw] at c3 C3
 have HF := zh hf
 have HT := zh ht
 have HM := zh hm
 have aL := zh aw
 have HB := zh ak
 have aM := zh aJ
 have a0 := zh aK
 have a1 := zh aq
 clear hf ht hm aw ak aJ aK aq
 have s1 : IntKind.i64.wrap ((t : Int) - (f : Int)) = (t : Int) - (f : Int) := IntWalk.i64_in _ (by omega)
 have s2 : IntKind.i64.wrap ((t : Int) - (f : Int) - (m : Int)) = (t : Int) - (f : Int) - (m : Int) := IntWalk.i64_in _ (by omega)
 have s3 : IntKind.i64.wrap ((f : Int) + (m : Int)) = (f : Int) + (m : Int) := IntWalk.i64_in _ (by omega)
 have a2 : ((m : Int) == 0) = false := by simp; omega
 have a3 : ((t : Int) - (f : Int) - (m : Int) == 0) = false := by simp; omega
 have a4 : (m : Int) <= (t : Int) - (f : Int) - (m : Int) := by omega
 go_enter func200, ntmps200
 go_wp2_with (first
  | (go_at_call 201; refine (zcr _ _ _ _ _ C3).mono ?_; rintro e w' ⟨rfl, rfl⟩)
  | (go_at_call 204; refine (zdj _ _ _ _ (by omega) (by omega)).mono ?_; rintro e w' ⟨rfl, rfl⟩)
  | (go_at_call 22; refine (zno _ _).mono ?_; rintro e w' ⟨rfl, rfl⟩))
 go_quiet (fail)
 obtain ⟨w1, au⟩ : ∃ w1, ((w.alloc (.cells #[.pointer none] 70)).drewN nq) = w1 := ⟨_, rfl⟩
 have h1 : Ob w1 B s n ge ce gp cp gi ci gb cb := by rw [<- au]; exact h'.drewN nq
 have T1 : Turned (fun k => k = B \/ k = gi \/ k = gb) w w1 := by rw [<- au]; exact ((Turned.refl _ _).alloc _).drewN _
 rw [au]
 clear au c3 cf ct cm h' C3 h
 have cm := h1.o.rb.cell (zb2 s.blocks b HB.out)
 have fm := h1.o.rb.free (b * 3 + 2)
 change _ = some (Value.int .i64 (s.M b : Nat)) at cm
 rw [<- HM.out] at cm
 go_upto_region 8 with fail
 have h2 := h1.zJq (b * 3 + 2) (.int .i64 0) _ (zcl s.blocks b 0 HB.out) (by simp)
 have T2 := T1.setCell (p := ⟨gb, b * 3 + 2, none⟩) (.inl (.inr (.inr rfl))) (.int .i64 0)
 obtain ⟨w2, aN⟩ : ∃ w2, w1.setCell ⟨gb, b * 3 + 2, none⟩ (.int .i64 0) = w2 := ⟨_, rfl⟩
 rw [aN] at h2 T2 ⊢
 have aO : (s.blocks.getD b (0, 0, 0)).1 = f := HF.out.symm
 have aP : (s.blocks.getD b (0, 0, 0)).2.1 = t := HT.out.symm
 rw [aO, aP] at h2
 clear aO aP aN cm fm h1 T1
 have bl2 : b < (s.blocks.set b (f, t, 0)).length := by rw [List.length_set]; exact HB.out
 have gb2 : (s.blocks.set b (f, t, 0)).getD b (0, 0, 0) = (f, t, 0) := by simp [List.getD, HB.out]
 have cf : w2.cell? ⟨gb, b * 3, none⟩ = some (.int .i64 (f : Nat)) := by
  have := h2.o.rb.cell (zau _ b bl2)
  rw [show (({ s with blocks := s.blocks.set b (f, t, 0) } : Rf.St).blocks.getD b (0, 0, 0)) = (f, t, 0) from gb2] at this; exact this
 go_upto_region 12 with fail
 have h3 := h2.alloc (.cells #[.int .i64 (f : Int), .int .i64 ((f : Int) + (m : Int)), .int .i64 0] 299)
 have T3 := T2.alloc (.cells #[.int .i64 (f : Int), .int .i64 ((f : Int) + (m : Int)), .int .i64 0] 299)
 have aa := heap_alloc_new w2 (.cells #[.int .i64 (f : Int), .int .i64 ((f : Int) + (m : Int)), .int .i64 0] 299)
 have hN := h2.lt (k := gb) (.inr (.inr (.inr (.inr rfl))))
 obtain ⟨N, ax⟩ := nm (w2.heap.size)
 rw [<- ax] at aa hN ⊢
 have T2s := T2.size
 rw [<- ax] at T2s
 obtain ⟨w3, aQ⟩ : ∃ w3, w2.alloc (.cells #[.int .i64 (f : Int), .int .i64 ((f : Int) + (m : Int)), .int .i64 0] 299) = w3 := ⟨_, rfl⟩
 rw [aQ] at h3 T3 aa ⊢
 have nBN : B ≠ N := by have := h2.lt (k := B) (.inl rfl); omega
 have bf : ∀ k, (k = B \/ k = ge \/ k = gp \/ k = gi \/ k = gb) -> k ≠ N := by intro k hk; have := h2.lt hk; omega
 clear aQ cf h2 T2 ax
 have gN0 : w3.cell? ⟨N, 0, none⟩ = some (.int .i64 (f : Int)) := by simp [World.cell?, aa]
 have gN1 : w3.cell? ⟨N, 1, none⟩ = some (.int .i64 ((f : Int) + (m : Int))) := by simp [World.cell?, aa]
 have gN2 : w3.cell? ⟨N, 2, none⟩ = some (.int .i64 0) := by simp [World.cell?, aa]
 have gF0 : w3.frozen? ⟨N, 0, none⟩ = false := by simp [World.frozen?, aa]
 have gF1 : w3.frozen? ⟨N, 1, none⟩ = false := by simp [World.frozen?, aa]
 have gF2 : w3.frozen? ⟨N, 2, none⟩ = false := by simp [World.frozen?, aa]
 have cf : w3.cell? ⟨gb, b * 3, none⟩ = some (.int .i64 (f : Nat)) := by
  have := h3.o.rb.cell (zau _ b bl2)
  rw [show (({ s with blocks := s.blocks.set b (f, t, 0) } : Rf.St).blocks.getD b (0, 0, 0)) = (f, t, 0) from gb2] at this; exact this
 have ct : w3.cell? ⟨gb, b * 3 + 1, none⟩ = some (.int .i64 (t : Nat)) := by
  have := h3.o.rb.cell (zb1 _ b bl2)
  rw [show (({ s with blocks := s.blocks.set b (f, t, 0) } : Rf.St).blocks.getD b (0, 0, 0)) = (f, t, 0) from gb2] at this; exact this
 have ff := h3.o.rb.free (b * 3)
 have ft := h3.o.rb.free (b * 3 + 1)
 go_upto_region 16 with fail
 have h4 := h3.zJq (b * 3) (.int .i64 ((f + m : Nat) : Int)) _ (zew _ b (f + m) bl2) (by simp)
 have T4 := T3.setCell (p := ⟨gb, b * 3, none⟩) (.inl (.inr (.inr rfl))) (.int .i64 ((f + m : Nat) : Int))
 rw [show (({ s with blocks := s.blocks.set b (f, t, 0) } : Rf.St).blocks.getD b (0, 0, 0)) = (f, t, 0) from gb2] at h4
 have ay : (w3.setCell ⟨gb, b * 3, none⟩ (.int .i64 ((f + m : Nat) : Int))).heap[N]? = some (.cells #[.int .i64 (f : Int), .int .i64 ((f : Int) + (m : Int)), .int .i64 0] 299 (0, 0)) := (Below.heap_setCell _ _ _ _ (by simp; omega)).trans aa
 obtain ⟨w4, aA⟩ : ∃ w4, w3.setCell ⟨gb, b * 3, none⟩ (.int .i64 ((f + m : Nat) : Int)) = w4 := ⟨_, rfl⟩
 rw [aA] at h4 T4 ay
 have al : w3.setCell ⟨gb, b * 3, none⟩ (.int .i64 ((f : Int) + (m : Int))) = w4 := aA
 rw [al]
 clear aA al
 have aR : (({ s with blocks := s.blocks.set b (f, t, 0) } : Rf.St).blocks.set b (f + m, (f, t, 0).2.1, (f, t, 0).2.2)) = s.blocks.set b (f + m, t, 0) := by simp
 rw [aR] at h4
 obtain ⟨bs, ad⟩ := nm (s.blocks.set b (f + m, t, 0))
 obtain ⟨lo, aB⟩ := nm f
 obtain ⟨hi', aC⟩ := nm (f + m)
 have hd : w4.heap[N]? = some (.cells #[.int .i64 (lo : Nat), .int .i64 (hi' : Nat), .int .i64 0] 299 (0, 0)) := by rw [aB, aC]; exact ay
 have a5 : lo < hi' := by omega
 have aS : hi' <= n := by omega
 have HC : Hid (s.cut b f (f + m) (f + m) t = { s with blocks := bs ++ [(lo, hi', 0)], inn := Rf.zCa s.inn ((s.elems.take hi').drop lo) nb }) := by
  rw [ad, aB, aC, aL.out]; rfl
 have ab : bs.length = nb := by rw [ad, List.length_set]; exact aL.out.symm
 rw [<- ad] at h4
 clear h3 T3 aa gN0 gN1 gN2 gF0 gF1 gF2 cf ct ff ft aR bl2 gb2 ad aB aC ay s1 s2 s3 a2 a3 a4 aW
 have d3 : w4.cell? ⟨B, 3, none⟩ = some (.slice (some ⟨gb, 0, none⟩) nb cb) := by have := h4.c3; rw [show ({ s with blocks := bs } : Rf.St).blocks.length = nb from ab] at this; exact this
 have gN0 : w4.cell? ⟨N, 0, none⟩ = some (.int .i64 (lo : Nat)) := by simp [World.cell?, hd]
 have gN1 : w4.cell? ⟨N, 1, none⟩ = some (.int .i64 (hi' : Nat)) := by simp [World.cell?, hd]
 have gN2 : w4.cell? ⟨N, 2, none⟩ = some (.int .i64 0) := by simp [World.cell?, hd]
 go_cut [] (zy5 w B n nb ge ce gp cp gi ci gb { s with blocks := bs ++ [(lo, hi', 0)] })
 case first =>
  have h5 := h4.drew
  have T5 := T4.drew
  have w5s : N < w4.drew.heap.size := lt_of_block hd
  have a6 : B < w4.heap.size := h4.lt (k := B) (.inl rfl)
  have d3' : w4.drew.cell? ⟨B, 3, none⟩ = some (.slice (some ⟨gb, 0, none⟩) nb cb) := d3
  have gN0' : w4.drew.cell? ⟨N, 0, none⟩ = some (.int .i64 (lo : Nat)) := gN0
  have gN1' : w4.drew.cell? ⟨N, 1, none⟩ = some (.int .i64 (hi' : Nat)) := gN1
  have gN2' : w4.drew.cell? ⟨N, 2, none⟩ = some (.int .i64 0) := gN2
  have d3A : (w4.alloc (.cells #[.int .i64 (lo : Nat), .int .i64 (hi' : Nat), .int .i64 0] 299)).cell? ⟨B, 3, none⟩ = some (.slice (some ⟨gb, 0, none⟩) nb cb) := by
   rw [World.cell?_alloc_lt _ _ _ a6]; exact d3
  have aD : w4.ownsRow 0 299 3 (.slice (some ⟨gb, 0, none⟩) nb cb) nb (zal bs) := by
   have := h4.o.rb.owns h4.o.lb.1 h4.o.lb.2 (by rw [zbs])
   rw [show ({ s with blocks := bs } : Rf.St).blocks.length = nb from ab] at this; exact this
  clear hd
  go_region_law (refine ze3 rfl _ _ 255 rfl 0 299 i0 _ 3 24 underlying255 hi aX aY aZ rfl (by decide) (.slice (some ⟨gb, 0, none⟩) nb cb) nb _ rfl (aD.alloc _) ⟨w4.heap.size, 0, none⟩ 1 1 (zal [(lo, hi', 0)]) rfl rfl (zju _ lo hi' _) (zem _) (by unfold maxLen; omega) (by omega) (Nat.zero_le _) ?_; intro v' w6 af ac aE; (obtain ⟨ao6, c6, rfl⟩ := zc0 af); (have am : w6.heap[B]? = some (.cells #[.slice (some ⟨ge, 0, none⟩) n ce, .slice (some ⟨gp, 0, none⟩) n cp, .slice (some ⟨gi, 0, none⟩) n ci, .slice (some ⟨gb, 0, none⟩) nb cb] 257 (0, 0)) := (ac.block B (by show B < (w4.alloc _).heap.size; rw [World.size_alloc]; omega) (by simp [Value.ownBlock]; exact h5.o.nBb)).trans ((Below.heap_alloc _ _ _ (h5.lt (.inl rfl))).trans (by have := h5.box; rw [show ({ s with blocks := bs } : Rf.St).blocks.length = nb from ab] at this; exact this))); (have bh : w6.cell? ⟨B, 3, none⟩ = some (.slice (some ⟨gb, 0, none⟩) nb cb) := by simp [World.cell?, am]); (have bi : w6.frozen? ⟨B, 3, none⟩ = false := by simp [World.frozen?, am]))
  all_goals go_wp2_with fail
  all_goals go_meet
  all_goals
   obtain ⟨gb', cb', aF, h7⟩ := h4.push (x := (lo, hi', 0)) (by rw [show ({ s with blocks := bs } : Rf.St).blocks.length = nb from ab]; exact af) ac (fun k hk => Below.heap_alloc _ _ _ hk) (by show _ <= (w4.alloc _).heap.size; simp)
   rw [show ({ s with blocks := bs } : Rf.St).blocks.length = nb from ab] at aF
   simp only [Value.slice.injEq, true_and] at aF
   obtain ⟨rfl, rfl⟩ := aF
   have T7 := ((T4.alloc (.cells #[.int .i64 (lo : Nat), .int .i64 (hi' : Nat), .int .i64 0] 299)).drew.grown ac (by intro k hk; simp only [Value.ownBlock, Option.some.injEq] at hk; exact .inl (.inr (.inr hk.symm)))).setCell (p := ⟨B, 3, none⟩) (.inl (.inl rfl)) (.slice (some ⟨gb', 0, none⟩) (nb + 1) c6)
   have ah : gb' = gb \/ w.heap.size <= gb' := by
    have h5s := T5.size
    rcases aE with e | e
    ·simp only [Value.ownBlock, Option.some.injEq] at e; exact .inl e
    ·have e' : gb' = (w4.alloc (.cells #[.int .i64 (lo : Nat), .int .i64 (hi' : Nat), .int .i64 0] 299)).heap.size := by simpa [Value.ownBlock] using e
     rw [World.size_alloc] at e'; right; have : w4.drew.heap.size = w4.heap.size := rfl; omega
   exact ⟨gb', c6, h7, ah, T7⟩
 case rest =>
 clear h4 T4 hd d3 gN0 gN1 gN2
 obtain ⟨gb', c6, h7, ah, T7⟩ := hcut
 have bsx : (bs ++ [(lo, hi', 0)]).length = nb + 1 := by rw [List.length_append, ab]; rfl
 have gbx : (bs ++ [(lo, hi', 0)]).getD nb (0, 0, 0) = (lo, hi', 0) := by rw [<- ab]; exact zym bs _
 obtain ⟨s7, an⟩ := nm ({ s with blocks := bs ++ [(lo, hi', 0)] } : Rf.St)
 have ag : Ob wc B s7 n ge ce gp cp gi ci gb' c6 := by rw [an]; exact h7
 clear h7
 have c0 := ag.c0
 have c3 := ag.c3
 have ao : s7.blocks.length = nb + 1 := by rw [an]; exact bsx
 rw [ao] at c3
 have cf := ag.o.rb.cell (zau s7.blocks nb (by omega))
 have ct := ag.o.rb.cell (zb1 s7.blocks nb (by omega))
 have cm := ag.o.rb.cell (zb2 s7.blocks nb (by omega))
 rw [show s7.blocks.getD nb (0, 0, 0) = (lo, hi', 0) by rw [an]; exact gbx] at cf ct cm
 have a7 := ag.o.le
 have s4 : IntKind.i64.wrap (((nb + 1 : Nat) : Int) - 1) = (nb : Int) := (IntWalk.i64_in _ (by omega)).trans (by omega)
 have aG := zh an
 clear an
 go_wp2_with (go_at_call 203; refine (zl6 B (nb + 1) ce c6 ge gb' n nb lo hi' 0 _ (by omega) a5 aS hn a7.1 c0 c3 cf ct cm).mono ?_; rintro e w' ⟨rfl, q, rfl⟩)
 have h8 := (ag.alloc (.cells #[.int .i64 (lo : Nat), .int .i64 (hi' : Nat), .int .i64 0] 299)).drewN q
 have T8 := (T7.alloc (.cells #[.int .i64 (lo : Nat), .int .i64 (hi' : Nat), .int .i64 0] 299)).drewN q
 obtain ⟨w8, aT⟩ : ∃ w8, (wc.alloc (.cells #[.int .i64 (lo : Nat), .int .i64 (hi' : Nat), .int .i64 0] 299)).drewN q = w8 := ⟨_, rfl⟩
 rw [aT] at h8 T8 ⊢
 clear aT ag T7 c0 c3 cf ct cm
 have e7 : s7.elems = s.elems := by rw [aG.out]
 have i7 : s7.inn = s.inn := by rw [aG.out]
 have E7 := zh e7
 have I7 := zh i7
 clear e7 i7
 go_loopw [107] (fun i wr => ∃ k : Nat, k <= hi' - lo /\ i = .int .i64 k /\ Ob wr B { s7 with inn := Rf.zCa s.inn (((s.elems.take hi').drop lo).take k) nb } n ge ce gp cp gi ci gb' c6 /\ Turned (fun k => k = B \/ k = gi \/ k = gb) w wr)
  (fun i _ => (hi' - lo) - (intOf i).toNat)
 case atStart => exact ⟨0, Nat.zero_le _, rfl, by rw [List.take_zero]; rw [show Rf.zCa s.inn [] nb = s7.inn from I7.out.symm]; exact h8, T8⟩
 case round =>
  clear h8 T8
  obtain ⟨k, hk, rfl, hR, hT⟩ := hrel
  obtain ⟨s8, aj⟩ := nm ({ s7 with inn := Rf.zCa s.inn (((s.elems.take hi').drop lo).take k) nb } : Rf.St)
  rw [<- aj] at hR
  have aH : s8.blocks.length = nb + 1 := by rw [aj]; exact ao
  have ae : s8.elems = s.elems := by rw [aj]; exact E7.out
  have ai : s8.inn = Rf.zCa s.inn (((s.elems.take hi').drop lo).take k) nb := by rw [aj]
  have aI := zh aj
  clear aj
  have c2 := hR.c2
  have c3 := hR.c3
  rw [aH] at c3
  by_cases hlk : k < hi' - lo
  ·have a8 : (k : Int) < ((hi' - lo : Nat) : Int) := by omega
   have ce := hR.o.re.cell (zai (l := s8.elems) (i := lo + k) (by rw [ae, aM.out]; omega))
   rw [ae] at ce
   obtain ⟨e, av⟩ := nm (s.elems.getD (lo + k) 0)
   have aq : e < n := by rw [av]; exact a1.out (lo + k) (by omega)
   rw [<- av] at ce
   have HE := zh av
   clear av
   have ci := hR.o.ri.cell (zai (l := s8.inn) (i := e) (by rw [ai, zch, a0.out]; exact aq))
   have fi := hR.o.ri.free e
   have a9 := zh ai
   have bj := zh ae
   clear ai ae
   go_wp2_with fail
   go_region
   have h9 := (hR.zKt e nb).drew
   have T9 := (hT.setCell (p := ⟨gi, e, none⟩) (.inl (.inr (.inl rfl))) (.int .i64 (nb : Nat))).drew
   obtain ⟨w9, aU⟩ : ∃ w9, (wr.setCell ⟨gi, e, none⟩ (.int .i64 (nb : Nat))).drew = w9 := ⟨_, rfl⟩
   rw [aU] at h9 T9 ⊢
   clear aU hR hT c2 c3 ce ci fi
   have ba : Ob w9 B { s7 with inn := Rf.zCa s.inn (((s.elems.take hi').drop lo).take (k + 1)) nb } n ge ce gp cp gi ci gb' c6 := by
    rw [zqh _ _ _ _ (by omega) (by rw [aM.out]; exact aS), zi7, <- HE.out, <- a9.out]
    rw [aI.out] at h9 ⊢; exact h9
   clear h9
   go_wp2_with fail
   go_roundw
   case rel => exact ⟨k + 1, by omega, by go_num, ba, T9⟩
   case measure => simp [intOf]; omega
  ·obtain rfl : k = hi' - lo := by omega
   go_wp2_with fail
   go_ret3
   refine ⟨rfl, gb', c6, ?_, ah, hT⟩
   rw [List.take_of_length_le (by simp; omega)] at aI
   rw [HC.out]
   rw [aI.out, aG.out] at hR
   exact hR
theorem zof (B b n nb ge ce gp cp gi ci gb cb f t m : Nat) (s : Rf.St) (w : World) (h : Ob w B s n ge ce gp cp gi ci gb cb) (hb : b < nb) (ax : nb = s.blocks.length) (hf : f = s.F b) (ht : t = s.T b) (hm : m = s.M b)
  (bd : f < t) (be : t <= n) (bf : f + m < t) (hn : n <= 1000) (aX : nb <= 1000) (bh : 0 < m) (aY : t - f - m < m) (aL : s.elems.length = n) (aM : s.inn.length = n) (au : ∀ i, i < n -> s.E i < n) :
  Calls prog 200 #[.pointer (some ⟨B, 0, none⟩), .int .i64 b] w (zqm w B n nb ge ce gp cp gi ci gb (s.cut b (f + m) t f (f + m))) := by
 obtain ⟨i0, hi, aZ, a0, a1⟩ := info_parts Tryz.zFh
 have h' := h.alloc (.cells #[.pointer none] 70)
 have al : b < s.blocks.length := by omega
 have C3 := h.c3
 have c3 := h'.c3
 have cf := h'.o.rb.cell (zau s.blocks b al)
 have ct := h'.o.rb.cell (zb1 s.blocks b al)
 have cm := h'.o.rb.cell (zb2 s.blocks b al)
 change _ = some (Value.int .i64 (s.F b : Nat)) at cf
 change _ = some (Value.int .i64 (s.T b : Nat)) at ct
 change _ = some (Value.int .i64 (s.M b : Nat)) at cm
 rw [<- hf] at cf
 rw [<- ht] at ct
 rw [<- hm] at cm
 rw [<- ax] at c3 C3
 have HF := zh hf
 have HT := zh ht
 have HM := zh hm
 have aN := zh ax
 have HB := zh al
 have aO := zh aL
 have a2 := zh aM
 have a3 := zh au
 clear hf ht hm ax al aL aM au
 have s1 : IntKind.i64.wrap ((t : Int) - (f : Int)) = (t : Int) - (f : Int) := IntWalk.i64_in _ (by omega)
 have s2 : IntKind.i64.wrap ((t : Int) - (f : Int) - (m : Int)) = (t : Int) - (f : Int) - (m : Int) := IntWalk.i64_in _ (by omega)
 have s3 : IntKind.i64.wrap ((f : Int) + (m : Int)) = (f : Int) + (m : Int) := IntWalk.i64_in _ (by omega)
 have a4 : ((m : Int) == 0) = false := by simp; omega
 have a5 : ((t : Int) - (f : Int) - (m : Int) == 0) = false := by simp; omega
 have a6 : decide ((m : Int) <= (t : Int) - (f : Int) - (m : Int)) = false := by simp; omega
 go_enter func200, ntmps200
 go_wp2_with (first
  | (go_at_call 201; refine (zcr _ _ _ _ _ C3).mono ?_; rintro e w' ⟨rfl, rfl⟩)
  | (go_at_call 204; refine (zdj _ _ _ _ (by omega) (by omega)).mono ?_; rintro e w' ⟨rfl, rfl⟩)
  | (go_at_call 22; refine (zno _ _).mono ?_; rintro e w' ⟨rfl, rfl⟩))
 go_quiet (fail)
 obtain ⟨w1, av⟩ : ∃ w1, ((w.alloc (.cells #[.pointer none] 70)).drewN nq) = w1 := ⟨_, rfl⟩
 have h1 : Ob w1 B s n ge ce gp cp gi ci gb cb := by rw [<- av]; exact h'.drewN nq
 have T1 : Turned (fun k => k = B \/ k = gi \/ k = gb) w w1 := by rw [<- av]; exact ((Turned.refl _ _).alloc _).drewN _
 rw [av]
 clear av c3 cf ct cm h' C3 h
 have cm := h1.o.rb.cell (zb2 s.blocks b HB.out)
 have fm := h1.o.rb.free (b * 3 + 2)
 change _ = some (Value.int .i64 (s.M b : Nat)) at cm
 rw [<- HM.out] at cm
 go_upto_region 8 with fail
 have h2 := h1.zJq (b * 3 + 2) (.int .i64 0) _ (zcl s.blocks b 0 HB.out) (by simp)
 have T2 := T1.setCell (p := ⟨gb, b * 3 + 2, none⟩) (.inl (.inr (.inr rfl))) (.int .i64 0)
 obtain ⟨w2, aP⟩ : ∃ w2, w1.setCell ⟨gb, b * 3 + 2, none⟩ (.int .i64 0) = w2 := ⟨_, rfl⟩
 rw [aP] at h2 T2 ⊢
 have aQ : (s.blocks.getD b (0, 0, 0)).1 = f := HF.out.symm
 have aR : (s.blocks.getD b (0, 0, 0)).2.1 = t := HT.out.symm
 rw [aQ, aR] at h2
 clear aQ aR aP cm fm h1 T1
 have bl2 : b < (s.blocks.set b (f, t, 0)).length := by rw [List.length_set]; exact HB.out
 have gb2 : (s.blocks.set b (f, t, 0)).getD b (0, 0, 0) = (f, t, 0) := by simp [List.getD, HB.out]
 have cf : w2.cell? ⟨gb, b * 3, none⟩ = some (.int .i64 (f : Nat)) := by
  have := h2.o.rb.cell (zau _ b bl2)
  rw [show (({ s with blocks := s.blocks.set b (f, t, 0) } : Rf.St).blocks.getD b (0, 0, 0)) = (f, t, 0) from gb2] at this; exact this
 go_upto_region 12 with fail
 have h3 := h2.alloc (.cells #[.int .i64 (f : Int), .int .i64 ((f : Int) + (m : Int)), .int .i64 0] 299)
 have T3 := T2.alloc (.cells #[.int .i64 (f : Int), .int .i64 ((f : Int) + (m : Int)), .int .i64 0] 299)
 have aa := heap_alloc_new w2 (.cells #[.int .i64 (f : Int), .int .i64 ((f : Int) + (m : Int)), .int .i64 0] 299)
 have hN := h2.lt (k := gb) (.inr (.inr (.inr (.inr rfl))))
 obtain ⟨N, ay⟩ := nm (w2.heap.size)
 rw [<- ay] at aa hN ⊢
 have T2s := T2.size
 rw [<- ay] at T2s
 obtain ⟨w3, aS⟩ : ∃ w3, w2.alloc (.cells #[.int .i64 (f : Int), .int .i64 ((f : Int) + (m : Int)), .int .i64 0] 299) = w3 := ⟨_, rfl⟩
 rw [aS] at h3 T3 aa ⊢
 have nBN : B ≠ N := by have := h2.lt (k := B) (.inl rfl); omega
 have aA : ∀ k, (k = B \/ k = ge \/ k = gp \/ k = gi \/ k = gb) -> k ≠ N := by intro k hk; have := h2.lt hk; omega
 clear aS cf h2 T2 ay
 have gN0 : w3.cell? ⟨N, 0, none⟩ = some (.int .i64 (f : Int)) := by simp [World.cell?, aa]
 have gN1 : w3.cell? ⟨N, 1, none⟩ = some (.int .i64 ((f : Int) + (m : Int))) := by simp [World.cell?, aa]
 have gN2 : w3.cell? ⟨N, 2, none⟩ = some (.int .i64 0) := by simp [World.cell?, aa]
 have gF0 : w3.frozen? ⟨N, 0, none⟩ = false := by simp [World.frozen?, aa]
 have gF1 : w3.frozen? ⟨N, 1, none⟩ = false := by simp [World.frozen?, aa]
 have gF2 : w3.frozen? ⟨N, 2, none⟩ = false := by simp [World.frozen?, aa]
 have cf : w3.cell? ⟨gb, b * 3, none⟩ = some (.int .i64 (f : Nat)) := by
  have := h3.o.rb.cell (zau _ b bl2)
  rw [show (({ s with blocks := s.blocks.set b (f, t, 0) } : Rf.St).blocks.getD b (0, 0, 0)) = (f, t, 0) from gb2] at this; exact this
 have ct : w3.cell? ⟨gb, b * 3 + 1, none⟩ = some (.int .i64 (t : Nat)) := by
  have := h3.o.rb.cell (zb1 _ b bl2)
  rw [show (({ s with blocks := s.blocks.set b (f, t, 0) } : Rf.St).blocks.getD b (0, 0, 0)) = (f, t, 0) from gb2] at this; exact this
 have ff := h3.o.rb.free (b * 3)
 have ft := h3.o.rb.free (b * 3 + 1)
 go_upto_region 14 with fail
 go_upto_region 15 with fail
 have h3b : Ob (((w3.setCell ⟨N, 0, none⟩ (.int .i64 ((f : Int) + (m : Int)))).setCell ⟨N, 1, none⟩ (.int .i64 (t : Int))).setCell ⟨N, 2, none⟩ (.int .i64 0)) B { s with blocks := s.blocks.set b (f, t, 0) } n ge ce gp cp gi ci gb cb :=
  h3.keep (fun k hk => by rw [Below.heap_setCell _ _ _ _ (aA k hk), Below.heap_setCell _ _ _ _ (aA k hk), Below.heap_setCell _ _ _ _ (aA k hk)])
 have T3b := ((T3.setCell (p := ⟨N, 0, none⟩) (.inr T2s) (.int .i64 ((f : Int) + (m : Int)))).setCell (p := ⟨N, 1, none⟩) (.inr T2s) (.int .i64 (t : Int))).setCell (p := ⟨N, 2, none⟩) (.inr T2s) (.int .i64 0)
 have ad : (((w3.setCell ⟨N, 0, none⟩ (.int .i64 ((f : Int) + (m : Int)))).setCell ⟨N, 1, none⟩ (.int .i64 (t : Int))).setCell ⟨N, 2, none⟩ (.int .i64 0)).heap[N]? = some (.cells #[.int .i64 ((f : Int) + (m : Int)), .int .i64 (t : Int), .int .i64 0] 299 (0, 0)) := by
  simp [World.setCell, Array.getElem?_modify, aa]
 obtain ⟨w3b, hw3b⟩ : ∃ w3b, (((w3.setCell ⟨N, 0, none⟩ (.int .i64 ((f : Int) + (m : Int)))).setCell ⟨N, 1, none⟩ (.int .i64 (t : Int))).setCell ⟨N, 2, none⟩ (.int .i64 0)) = w3b := ⟨_, rfl⟩
 rw [hw3b] at h3b T3b ad ⊢
 clear hw3b h3 T3 aa gN0 gN1 gN2 gF0 gF1 gF2 cf ct ff ft
 have ct : w3b.cell? ⟨gb, b * 3 + 1, none⟩ = some (.int .i64 (t : Nat)) := by
  have := h3b.o.rb.cell (zb1 _ b bl2)
  rw [show (({ s with blocks := s.blocks.set b (f, t, 0) } : Rf.St).blocks.getD b (0, 0, 0)) = (f, t, 0) from gb2] at this; exact this
 have ft := h3b.o.rb.free (b * 3 + 1)
 go_upto_region 16 with fail
 have h4 := h3b.zJq (b * 3 + 1) (.int .i64 ((f + m : Nat) : Int)) _ (zf1 _ b (f + m) bl2) (by simp)
 have T4 := T3b.setCell (p := ⟨gb, b * 3 + 1, none⟩) (.inl (.inr (.inr rfl))) (.int .i64 ((f + m : Nat) : Int))
 rw [show (({ s with blocks := s.blocks.set b (f, t, 0) } : Rf.St).blocks.getD b (0, 0, 0)) = (f, t, 0) from gb2] at h4
 have aB : (w3b.setCell ⟨gb, b * 3 + 1, none⟩ (.int .i64 ((f + m : Nat) : Int))).heap[N]? = some (.cells #[.int .i64 ((f : Int) + (m : Int)), .int .i64 (t : Int), .int .i64 0] 299 (0, 0)) := (Below.heap_setCell _ _ _ _ (by simp; omega)).trans ad
 obtain ⟨w4, aC⟩ : ∃ w4, w3b.setCell ⟨gb, b * 3 + 1, none⟩ (.int .i64 ((f + m : Nat) : Int)) = w4 := ⟨_, rfl⟩
 rw [aC] at h4 T4 aB
 have am : w3b.setCell ⟨gb, b * 3 + 1, none⟩ (.int .i64 ((f : Int) + (m : Int))) = w4 := aC
 rw [am]
 clear aC am h3b T3b ad ct ft
 have aT : (({ s with blocks := s.blocks.set b (f, t, 0) } : Rf.St).blocks.set b ((f, t, 0).1, f + m, (f, t, 0).2.2)) = s.blocks.set b (f, f + m, 0) := by simp
 rw [aT] at h4
 obtain ⟨bs, ae⟩ := nm (s.blocks.set b (f, f + m, 0))
 obtain ⟨lo, aD⟩ := nm (f + m)
 obtain ⟨hi', aE⟩ := nm t
 have hd : w4.heap[N]? = some (.cells #[.int .i64 (lo : Nat), .int .i64 (hi' : Nat), .int .i64 0] 299 (0, 0)) := by rw [aD, aE]; exact aB
 have a7 : lo < hi' := by omega
 have aU : hi' <= n := by omega
 have HC : Hid (s.cut b (f + m) t f (f + m) = { s with blocks := bs ++ [(lo, hi', 0)], inn := Rf.zCa s.inn ((s.elems.take hi').drop lo) nb }) := by
  rw [ae, aD, aE, aN.out]; rfl
 have h3 : True := trivial
 have T3 : True := trivial
 have aa : True := trivial
 have gN0 : True := trivial
 have gN1 : True := trivial
 have gN2 : True := trivial
 have gF0 : True := trivial
 have gF1 : True := trivial
 have gF2 : True := trivial
 have cf : True := trivial
 have ct : True := trivial
 have ff : True := trivial
 have ft : True := trivial
 have ab : bs.length = nb := by rw [ae, List.length_set]; exact aN.out.symm
 rw [<- ae] at h4
 clear h3 T3 aa gN0 gN1 gN2 gF0 gF1 gF2 cf ct ff ft aT bl2 gb2 ae aD aE aB s1 s2 s3 a4 a5 a6 aY
 have d3 : w4.cell? ⟨B, 3, none⟩ = some (.slice (some ⟨gb, 0, none⟩) nb cb) := by have := h4.c3; rw [show ({ s with blocks := bs } : Rf.St).blocks.length = nb from ab] at this; exact this
 have gN0 : w4.cell? ⟨N, 0, none⟩ = some (.int .i64 (lo : Nat)) := by simp [World.cell?, hd]
 have gN1 : w4.cell? ⟨N, 1, none⟩ = some (.int .i64 (hi' : Nat)) := by simp [World.cell?, hd]
 have gN2 : w4.cell? ⟨N, 2, none⟩ = some (.int .i64 0) := by simp [World.cell?, hd]
 go_cut [] (zy5 w B n nb ge ce gp cp gi ci gb { s with blocks := bs ++ [(lo, hi', 0)] })
 case first =>
  have h5 := h4.drew
  have T5 := T4.drew
  have w5s : N < w4.drew.heap.size := lt_of_block hd
  have a8 : B < w4.heap.size := h4.lt (k := B) (.inl rfl)
  have d3' : w4.drew.cell? ⟨B, 3, none⟩ = some (.slice (some ⟨gb, 0, none⟩) nb cb) := d3
  have gN0' : w4.drew.cell? ⟨N, 0, none⟩ = some (.int .i64 (lo : Nat)) := gN0
  have gN1' : w4.drew.cell? ⟨N, 1, none⟩ = some (.int .i64 (hi' : Nat)) := gN1
  have gN2' : w4.drew.cell? ⟨N, 2, none⟩ = some (.int .i64 0) := gN2
  have d3A : (w4.alloc (.cells #[.int .i64 (lo : Nat), .int .i64 (hi' : Nat), .int .i64 0] 299)).cell? ⟨B, 3, none⟩ = some (.slice (some ⟨gb, 0, none⟩) nb cb) := by
   rw [World.cell?_alloc_lt _ _ _ a8]; exact d3
  have aF : w4.ownsRow 0 299 3 (.slice (some ⟨gb, 0, none⟩) nb cb) nb (zal bs) := by
   have := h4.o.rb.owns h4.o.lb.1 h4.o.lb.2 (by rw [zbs])
   rw [show ({ s with blocks := bs } : Rf.St).blocks.length = nb from ab] at this; exact this
  clear hd
  go_region_law (refine ze3 rfl _ _ 255 rfl 0 299 i0 _ 3 24 underlying255 hi aZ a0 a1 rfl (by decide) (.slice (some ⟨gb, 0, none⟩) nb cb) nb _ rfl (aF.alloc _) ⟨w4.heap.size, 0, none⟩ 1 1 (zal [(lo, hi', 0)]) rfl rfl (zju _ lo hi' _) (zem _) (by unfold maxLen; omega) (by omega) (Nat.zero_le _) ?_; intro v' w6 ag ac aG; (obtain ⟨ao6, c6, rfl⟩ := zc0 ag); (have an : w6.heap[B]? = some (.cells #[.slice (some ⟨ge, 0, none⟩) n ce, .slice (some ⟨gp, 0, none⟩) n cp, .slice (some ⟨gi, 0, none⟩) n ci, .slice (some ⟨gb, 0, none⟩) nb cb] 257 (0, 0)) := (ac.block B (by show B < (w4.alloc _).heap.size; rw [World.size_alloc]; omega) (by simp [Value.ownBlock]; exact h5.o.nBb)).trans ((Below.heap_alloc _ _ _ (h5.lt (.inl rfl))).trans (by have := h5.box; rw [show ({ s with blocks := bs } : Rf.St).blocks.length = nb from ab] at this; exact this))); (have bi : w6.cell? ⟨B, 3, none⟩ = some (.slice (some ⟨gb, 0, none⟩) nb cb) := by simp [World.cell?, an]); (have bj : w6.frozen? ⟨B, 3, none⟩ = false := by simp [World.frozen?, an]))
  all_goals go_wp2_with fail
  all_goals go_meet
  all_goals
   obtain ⟨gb', cb', aH, h7⟩ := h4.push (x := (lo, hi', 0)) (by rw [show ({ s with blocks := bs } : Rf.St).blocks.length = nb from ab]; exact ag) ac (fun k hk => Below.heap_alloc _ _ _ hk) (by show _ <= (w4.alloc _).heap.size; simp)
   rw [show ({ s with blocks := bs } : Rf.St).blocks.length = nb from ab] at aH
   simp only [Value.slice.injEq, true_and] at aH
   obtain ⟨rfl, rfl⟩ := aH
   have T7 := ((T4.alloc (.cells #[.int .i64 (lo : Nat), .int .i64 (hi' : Nat), .int .i64 0] 299)).drew.grown ac (by intro k hk; simp only [Value.ownBlock, Option.some.injEq] at hk; exact .inl (.inr (.inr hk.symm)))).setCell (p := ⟨B, 3, none⟩) (.inl (.inl rfl)) (.slice (some ⟨gb', 0, none⟩) (nb + 1) c6)
   have ai : gb' = gb \/ w.heap.size <= gb' := by
    have h5s := T5.size
    rcases aG with e | e
    ·simp only [Value.ownBlock, Option.some.injEq] at e; exact .inl e
    ·have e' : gb' = (w4.alloc (.cells #[.int .i64 (lo : Nat), .int .i64 (hi' : Nat), .int .i64 0] 299)).heap.size := by simpa [Value.ownBlock] using e
     rw [World.size_alloc] at e'; right; have : w4.drew.heap.size = w4.heap.size := rfl; omega
   exact ⟨gb', c6, h7, ai, T7⟩
 case rest =>
 clear h4 T4 hd d3 gN0 gN1 gN2
 obtain ⟨gb', c6, h7, ai, T7⟩ := hcut
 have bsx : (bs ++ [(lo, hi', 0)]).length = nb + 1 := by rw [List.length_append, ab]; rfl
 have gbx : (bs ++ [(lo, hi', 0)]).getD nb (0, 0, 0) = (lo, hi', 0) := by rw [<- ab]; exact zym bs _
 obtain ⟨s7, ao⟩ := nm ({ s with blocks := bs ++ [(lo, hi', 0)] } : Rf.St)
 have ah : Ob wc B s7 n ge ce gp cp gi ci gb' c6 := by rw [ao]; exact h7
 clear h7
 have c0 := ah.c0
 have c3 := ah.c3
 have aq : s7.blocks.length = nb + 1 := by rw [ao]; exact bsx
 rw [aq] at c3
 have cf := ah.o.rb.cell (zau s7.blocks nb (by omega))
 have ct := ah.o.rb.cell (zb1 s7.blocks nb (by omega))
 have cm := ah.o.rb.cell (zb2 s7.blocks nb (by omega))
 rw [show s7.blocks.getD nb (0, 0, 0) = (lo, hi', 0) by rw [ao]; exact gbx] at cf ct cm
 have a9 := ah.o.le
 have s4 : IntKind.i64.wrap (((nb + 1 : Nat) : Int) - 1) = (nb : Int) := (IntWalk.i64_in _ (by omega)).trans (by omega)
 have aI := zh ao
 clear ao
 go_wp2_with (go_at_call 203; refine (zl6 B (nb + 1) ce c6 ge gb' n nb lo hi' 0 _ (by omega) a7 aU hn a9.1 c0 c3 cf ct cm).mono ?_; rintro e w' ⟨rfl, q, rfl⟩)
 have h8 := (ah.alloc (.cells #[.int .i64 (lo : Nat), .int .i64 (hi' : Nat), .int .i64 0] 299)).drewN q
 have T8 := (T7.alloc (.cells #[.int .i64 (lo : Nat), .int .i64 (hi' : Nat), .int .i64 0] 299)).drewN q
 obtain ⟨w8, aV⟩ : ∃ w8, (wc.alloc (.cells #[.int .i64 (lo : Nat), .int .i64 (hi' : Nat), .int .i64 0] 299)).drewN q = w8 := ⟨_, rfl⟩
 rw [aV] at h8 T8 ⊢
 clear aV ah T7 c0 c3 cf ct cm
 have e7 : s7.elems = s.elems := by rw [aI.out]
 have i7 : s7.inn = s.inn := by rw [aI.out]
 have E7 := zh e7
 have I7 := zh i7
 clear e7 i7
 go_loopw [107] (fun i wr => ∃ k : Nat, k <= hi' - lo /\ i = .int .i64 k /\ Ob wr B { s7 with inn := Rf.zCa s.inn (((s.elems.take hi').drop lo).take k) nb } n ge ce gp cp gi ci gb' c6 /\ Turned (fun k => k = B \/ k = gi \/ k = gb) w wr)
  (fun i _ => (hi' - lo) - (intOf i).toNat)
 case atStart => exact ⟨0, Nat.zero_le _, rfl, by rw [List.take_zero]; rw [show Rf.zCa s.inn [] nb = s7.inn from I7.out.symm]; exact h8, T8⟩
 case round =>
  clear h8 T8
  obtain ⟨k, hk, rfl, hR, hT⟩ := hrel
  obtain ⟨s8, ak⟩ := nm ({ s7 with inn := Rf.zCa s.inn (((s.elems.take hi').drop lo).take k) nb } : Rf.St)
  rw [<- ak] at hR
  have aJ : s8.blocks.length = nb + 1 := by rw [ak]; exact aq
  have af : s8.elems = s.elems := by rw [ak]; exact E7.out
  have aj : s8.inn = Rf.zCa s.inn (((s.elems.take hi').drop lo).take k) nb := by rw [ak]
  have aK := zh ak
  clear ak
  have c2 := hR.c2
  have c3 := hR.c3
  rw [aJ] at c3
  by_cases hlk : k < hi' - lo
  ·have ba : (k : Int) < ((hi' - lo : Nat) : Int) := by omega
   have ce := hR.o.re.cell (zai (l := s8.elems) (i := lo + k) (by rw [af, aO.out]; omega))
   rw [af] at ce
   obtain ⟨e, aw⟩ := nm (s.elems.getD (lo + k) 0)
   have au : e < n := by rw [aw]; exact a3.out (lo + k) (by omega)
   rw [<- aw] at ce
   have HE := zh aw
   clear aw
   have ci := hR.o.ri.cell (zai (l := s8.inn) (i := e) (by rw [aj, zch, a2.out]; exact au))
   have fi := hR.o.ri.free e
   have bb := zh aj
   have bo := zh af
   clear aj af
   go_wp2_with fail
   go_region
   have h9 := (hR.zKt e nb).drew
   have T9 := (hT.setCell (p := ⟨gi, e, none⟩) (.inl (.inr (.inl rfl))) (.int .i64 (nb : Nat))).drew
   obtain ⟨w9, aW⟩ : ∃ w9, (wr.setCell ⟨gi, e, none⟩ (.int .i64 (nb : Nat))).drew = w9 := ⟨_, rfl⟩
   rw [aW] at h9 T9 ⊢
   clear aW hR hT c2 c3 ce ci fi
   have bc : Ob w9 B { s7 with inn := Rf.zCa s.inn (((s.elems.take hi').drop lo).take (k + 1)) nb } n ge ce gp cp gi ci gb' c6 := by
    rw [zqh _ _ _ _ (by omega) (by rw [aO.out]; exact aU), zi7, <- HE.out, <- bb.out]
    rw [aK.out] at h9 ⊢; exact h9
   clear h9
   go_wp2_with fail
   go_roundw
   case rel => exact ⟨k + 1, by omega, by go_num, bc, T9⟩
   case measure => simp [intOf]; omega
  ·obtain rfl : k = hi' - lo := by omega
   go_wp2_with fail
   go_ret3
   refine ⟨rfl, gb', c6, ?_, ai, hT⟩
   rw [List.take_of_length_le (by simp; omega)] at aK
   rw [HC.out]
   rw [aK.out, aI.out] at hR
   exact hR
def zft (w : World) (B : Nat) (ve vp vi vb : Value) (s : Rf.St) (b : Nat) (r : Ending) (w' : World) : Prop :=
 r = .returned (.tuple #[.int .i64 (((s.split b).1.getD 0 : Nat) : Int), .bool (s.split b).1.isSome, .nilIface]) /\
  ∃ vb', zC7 w' B ve vp vi vb' (s.split b).2 /\ (∀ k, vb'.ownBlock = some k -> vb.ownBlock = some k \/ w.heap.size <= k) /\ Turned (zE5 B ve vp vi vb) w w'
theorem zDo {s : Rf.St} {n : Nat} (hI : Rf.Inv s n) : s.blocks.length <= n := by
 have hE : ∀ b, b < s.blocks.length -> s.I (s.E (s.F b)) = b := fun b hb => hI.in2 b hb _ (Nat.le_refl _) (hI.b1 b hb).1
 have hF : ∀ b, b < s.blocks.length -> s.E (s.F b) < n := fun b hb => (hI.e1 _ (by have := hI.b1 b hb; omega)).1
 have aa : ((List.range s.blocks.length).map fun b => s.E (s.F b)).Nodup := by
  rw [List.nodup_iff_pairwise_ne, List.pairwise_map]
  refine (List.nodup_range (n := s.blocks.length)).imp_of_mem ?_
  intro a c ha hc ab e
  have ac := List.mem_range.1 ha
  have ad := List.mem_range.1 hc
  apply ab
  rw [<- hE a ac, <- hE c ad, e]
 have := aa.length_le_of_subset (l₂ := List.range n) (by
  intro x hx
  obtain ⟨b, hb, rfl⟩ := List.mem_map.1 hx
  exact List.mem_range.2 (hF b (List.mem_range.1 hb)))
 simpa using this
theorem zt6 {w : World} {B n b : Nat} {ve vp vi vb : Value} {s : Rf.St} (h : zC7 w B ve vp vi vb s) (hI : Rf.Inv s n) (hn : n <= 1000) (hb : b < s.blocks.length) :
  Calls prog 200 #[.pointer (some ⟨B, 0, none⟩), .int .i64 b] w (zft w B ve vp vi vb s b) := by
 have bb := hI.b1 b hb
 have ac := zDo hI
 obtain ⟨ge, ce, gp, cp, gi, ci, gb, cb, rfl, rfl, rfl, rfl, o⟩ := h.ob hI (by omega)
 have fe : ∀ k, k = B \/ k = gi \/ k = gb -> zE5 B (.slice (some ⟨ge, 0, none⟩) n ce) (.slice (some ⟨gp, 0, none⟩) n cp) (.slice (some ⟨gi, 0, none⟩) n ci) (.slice (some ⟨gb, 0, none⟩) s.blocks.length cb) k := by
  intro k hk
  rcases hk with rfl | rfl | rfl
  ·exact .inl rfl
  ·exact .inr (.inr (.inr (.inl rfl)))
  ·exact .inr (.inr (.inr (.inr rfl)))
 by_cases hz : s.M b = 0 \/ s.T b - s.F b - s.M b = 0
 ·refine (zre B b n s.blocks.length ge ce gp cp gi ci gb cb (s.F b) (s.T b) (s.M b) s w o hb rfl rfl rfl rfl bb.1 bb.2.1 bb.2.2 hn hz).mono ?_
  rintro r w' ⟨rfl, q, rfl⟩
  have hs : s.split b = (none, s.bare b) := by unfold Rf.St.split; rw [if_pos hz]
  rw [zft, hs]
  refine ⟨rfl, .slice (some ⟨gb, 0, none⟩) s.blocks.length cb, ?_, fun k hk => .inl hk, ?_⟩
  ·have h2 := ((o.alloc (.cells #[.pointer none] 70)).drewN q).zJq (b * 3 + 2) (.int .i64 0) _ (zcl s.blocks b 0 hb) (by simp)
   have h3 := h2.part hI.le hI.lp hI.li
   simpa [Rf.St.bare, Rf.St.F, Rf.St.T] using h3
  ·exact (((Turned.refl _ _).alloc _).drewN q).setCell (.inl (fe _ (.inr (.inr rfl)))) _
 ·have aa : 0 < s.M b := by omega
  have ab : s.F b + s.M b < s.T b := by omega
  by_cases hmo : s.M b <= s.T b - s.F b - s.M b
  ·refine (zp1 B b n s.blocks.length ge ce gp cp gi ci gb cb (s.F b) (s.T b) (s.M b) s w o hb rfl rfl rfl rfl bb.1 bb.2.1 ab hn (by omega) aa hmo hI.le hI.li (fun i hi => (hI.e1 i hi).1)).mono ?_
   rintro r w' ⟨rfl, gb', cb', h2, hg, hT⟩
   have hs : s.split b = (some s.blocks.length, s.cut b (s.F b) (s.F b + s.M b) (s.F b + s.M b) (s.T b)) := by unfold Rf.St.split; rw [if_neg hz, if_pos hmo]
   rw [zft, hs]
   refine ⟨rfl, _, h2.part hI.le hI.lp (by show (Rf.zCa _ _ _).length = n; rw [zch, hI.li]), ?_, hT.mono (fun k _ hk => fe k hk)⟩
   intro k hk
   simp only [Value.ownBlock, Option.some.injEq] at hk ⊢
   rcases hg with rfl | hg
   ·exact .inl hk
   ·right; omega
  ·refine (zof B b n s.blocks.length ge ce gp cp gi ci gb cb (s.F b) (s.T b) (s.M b) s w o hb rfl rfl rfl rfl bb.1 bb.2.1 ab hn (by omega) aa (by omega) hI.le hI.li (fun i hi => (hI.e1 i hi).1)).mono ?_
   rintro r w' ⟨rfl, gb', cb', h2, hg, hT⟩
   have hs : s.split b = (some s.blocks.length, s.cut b (s.F b + s.M b) (s.T b) (s.F b) (s.F b + s.M b)) := by unfold Rf.St.split; rw [if_neg hz, if_neg hmo]
   rw [zft, hs]
   refine ⟨rfl, _, h2.part hI.le hI.lp (by show (Rf.zCa _ _ _).length = n; rw [zch, hI.li]), ?_, hT.mono (fun k _ hk => fe k hk)⟩
   intro k hk
   simp only [Value.ownBlock, Option.some.injEq] at hk ⊢
   rcases hg with rfl | hg
   ·exact .inl hk
   ·right; omega
theorem zg0 {w : World} {B : Nat} {ve vp vi vb : Value} {s : Rf.St} (h : zC7 w B ve vp vi vb s) :
  Calls prog 201 #[.pointer (some ⟨B, 0, none⟩)] w fun e w' => e = .returned (.int .i64 (s.blocks.length : Nat)) /\ w = w' := by
 obtain ⟨ao, cap, rfl⟩ := zc0 h.rb
 exact zcr B ao _ cap w (by simp [World.cell?, h.box])
end Go.Proofs.YtoaoajfjcfcmhaaGreatDoor
namespace Go.Proofs.YtoaoajfjcfcmhaaGreatDoor
open Go.RowKit Go.Shelf Go.Sort
theorem ztn (b off n c : Nat) (zs : List Int) (w : World) (hz : n <= zs.length) (aa : n * 8 <= 140737488355328) (hc : ∀ j, j < zs.length -> w.cell? ⟨b, off + j, none⟩ = some (.int .i64 (zs.getD j 0))) :
  Calls prog 156 #[.slice (some ⟨b, off, none⟩) n c] w fun e w' => ∃ v', e = .returned v' /\ w'.ownsRow w.heap.size 3 1 v' n ((zs.take n).map (Value.int .i64)) /\ v' ≠ .slice none 0 0 /\ Below w.heap.size w w' :=
 calls_of_every_depth fun D => AnyS.slices_Clone_int_in Tryz.laysClone D b off n c zs w hz aa hc
theorem zxe {base g cap : Nat} {zs : List Int} {w : World} (ab : w.ownsRow base 3 1 (.slice (some ⟨g, 0, none⟩) zs.length cap) zs.length (zs.map (Value.int .i64))) (ac : zs.length < 4611686018427387904) :
  Calls prog 205 #[.slice (some ⟨g, 0, none⟩) zs.length cap] w fun e w' => e = .returned (.tuple #[]) /\
   w'.ownsRow base 3 1 (.slice (some ⟨g, 0, none⟩) zs.length cap) zs.length ((zs.mergeSort fun x y => decide (x <= y)).map (Value.int .i64)) /\ w.grownBy w' (some g) := by
 rcases ab.2 with ⟨h0, _⟩ | ⟨g', cap', cur, hv, aa, hb, h1, h2, h3, h4⟩
 ·cases h0
 cases hv
 have ad : cur.toList.take zs.length = zs.map (Value.int .i64) := by rw [Nat.mul_one] at h4; exact h4
 have hg : g < w.heap.size := (Array.getElem?_eq_some_iff.1 hb).1
 refine (calls_of_every_depth fun D => AnyS.slices_Sort_int_alone Tryz.laysSort D g 0 cap zs w (holds_of_blockI hb ad) hg ac).mono ?_
 rintro e w' ⟨rfl, n, os, rfl⟩
 exact ⟨rfl, ownsRow_sortedI (List.length_mergeSort zs) aa hb h1 h2 h3, grownBy_sortedI _⟩
end Go.Proofs.YtoaoajfjcfcmhaaGreatDoor
namespace Go.Proofs.YtoaoajfjcfcmhaaGreatDoor
open Go.RowKit
theorem below_drewN {n : Nat} {a w : World} (h : Below n a w) (q : Nat) : Below n a (w.drewN q) := ⟨h.os, h.tape, h.output, h.size, h.block⟩
theorem zoj {w : World} {B n b : Nat} {ve vp vi vb : Value} {s : Rf.St} (h : zC7 w B ve vp vi vb s) (hI : Rf.Inv s n) (hn : n <= 1000) (hb : b < s.blocks.length) :
  Calls prog 203 #[.pointer (some ⟨B, 0, none⟩), .int .i64 b] w fun r w' =>
   ∃ ge, r = .returned (.slice (some ⟨ge, s.F b, none⟩) (s.T b - s.F b) (s.T b - s.F b)) /\ (∀ j, j < s.T b - s.F b -> w'.cell? ⟨ge, s.F b + j, none⟩ = some (.int .i64 ((s.row b).getD j 0 : Nat))) /\ Below w.heap.size w w' := by
 have bb := hI.b1 b hb
 obtain ⟨ge, ce, gp, cp, gi, ci, gb, cb, rfl, rfl, rfl, rfl, o⟩ := h.ob hI (by omega)
 refine (zl6 B s.blocks.length ce cb ge gb n b (s.F b) (s.T b) (s.M b) w hb bb.1 bb.2.1 hn o.o.le.1 o.c0 o.c3 (o.o.rb.cell (zau _ b hb)) (o.o.rb.cell (zb1 _ b hb)) (o.o.rb.cell (zb2 _ b hb))).mono ?_
 rintro r w' ⟨rfl, q, rfl⟩
 refine ⟨ge, rfl, fun j hj => ?_, below_drewN ((Below.refl _ _).alloc (Nat.le_refl _) _) q⟩
 have o2 := (o.alloc (.cells #[.int .i64 (s.F b : Nat), .int .i64 (s.T b : Nat), .int .i64 (s.M b : Nat)] 299)).drewN q
 have := o2.o.re.cell (zai (l := s.elems) (i := s.F b + j) (by rw [hI.le]; omega))
 rw [this]
 congr 3
 simp only [Rf.St.row, List.getD, List.getElem?_drop, List.getElem?_take]
 rw [if_pos (by omega)]
def zil (w : World) (s : Rf.St) (b : Nat) (r : Ending) (w' : World) : Prop :=
 ∃ g cap, r = .returned (.tuple #[.slice (some ⟨g, 0, none⟩) (s.mem b).length cap, .nilIface]) /\
  w'.ownsRow w.heap.size 3 1 (.slice (some ⟨g, 0, none⟩) (s.mem b).length cap) (s.mem b).length ((s.mem b).map (Value.int .i64)) /\ Below w.heap.size w w'
theorem zxi (b off n c : Nat) (zs : List Int) (w : World) (hz : zs.length = n) (ab : n * 8 <= 140737488355328) (hc : ∀ j, j < zs.length -> w.cell? ⟨b, off + j, none⟩ = some (.int .i64 (zs.getD j 0))) :
  Calls prog 156 #[.slice (some ⟨b, off, none⟩) n c] w fun e w' => ∃ g cap, e = .returned (.slice (some ⟨g, 0, none⟩) zs.length cap) /\
   w'.ownsRow w.heap.size 3 1 (.slice (some ⟨g, 0, none⟩) zs.length cap) zs.length (zs.map (Value.int .i64)) /\ Below w.heap.size w w' := by
 refine (ztn b off n c zs w (by omega) ab hc).mono ?_
 rintro e w' ⟨v, rfl, aa, ac, hb⟩
 rw [List.take_of_length_le (by omega)] at aa
 rcases aa.2 with ⟨h0, _⟩ | ⟨g, cap, cur, rfl, _⟩
 ·exact absurd h0 ac
 ·subst hz; exact ⟨g, cap, rfl, aa, hb⟩
theorem znz {w : World} {B n b : Nat} {ve vp vi vb : Value} {s : Rf.St} (h : zC7 w B ve vp vi vb s) (hI : Rf.Inv s n) (hn : n <= 1000) (hb : b < s.blocks.length) :
  Calls prog 171 #[.pointer (some ⟨B, 0, none⟩), .int .i64 b] w (zil w s b) := by
 have ad := Rf.zF1 hI hb
 have aj := Rf.zIl hI hb
 have bb := hI.b1 b hb
 have HB := zh (zg0 h)
 have HR := zh (zoj h hI hn hb)
 obtain ⟨k, hk⟩ := nm (s.T b - s.F b)
 have al : k <= 1000 := by omega
 rw [<- hk] at ad aj
 obtain ⟨f, hf⟩ := nm (s.F b)
 rw [<- hk, <- hf] at HR
 obtain ⟨nb, af⟩ := nm (s.blocks.length)
 rw [<- af] at HB hb
 obtain ⟨zs, ae⟩ : ∃ zs : List Int, zs = (s.row b).map Int.ofNat := ⟨_, rfl⟩
 have ag : zs.length = k := by rw [ae, List.length_map, ad]
 have hM : s.mem b = zs.mergeSort fun x y => decide (x <= y) := by rw [ae]; rfl
 have HM := zh hM
 have HC : Hid (∀ (w1 : World) (ge : Nat), (∀ j, j < k -> w1.cell? ⟨ge, f + j, none⟩ = some (.int .i64 ((s.row b).getD j 0 : Nat))) -> ∀ j, j < zs.length -> w1.cell? ⟨ge, f + j, none⟩ = some (.int .i64 (zs.getD j 0))) := by
  intro w1 ge hc j hj
  rw [hc j (by omega), ae]
  simp [List.getD, ad, show j < k by omega]
 have HZ := zh ag
 have am : zs.length <= k := by omega
 clear hM ae hf hk af ad h hI bb ag
 go_enter func171, ntmps171
 go_wp2_with (first
  | (go_at_call 201; refine HB.out.mono ?_; rintro e w' ⟨rfl, rfl⟩)
  | (go_at_call 204; refine (zdj _ _ _ _ (by omega) (by omega)).mono ?_; rintro e w' ⟨rfl, rfl⟩)
  | (go_at_call 203; refine HR.out.mono ?_; rintro e w1 ⟨ge, rfl, hc, ab⟩; replace hc := zh (HC.out w1 ge hc))
  | (go_at_call 156; refine (zxi ge f k k zs w1 HZ.out (by omega) hc.out).mono ?_; rintro e w2 ⟨g2, c2, rfl, aa, ah⟩; replace aa := zh aa)
  | (go_at_call 205; refine (zxe aa.out (by omega)).mono ?_; rintro e w3 ⟨rfl, ac, ak⟩))
 go_ret2
 have ai : (s.mem b).length = zs.length := by rw [HM.out, List.length_mergeSort]
 have an : w1.heap.size <= g2 := (aa.out.lt g2 rfl).1
 refine ⟨g2, c2, by rw [ai]; rfl, ?_, ?_⟩
 ·rw [ai, HM.out]
  exact za8 ac ab.size
 ·exact (ab.trans (ah.mono ab.size)).grown ak (by have := ab.size; have := ah.size; omega) (by intro k hk; cases hk; have := ab.size; omega)
structure zKs (w w' : World) (F : Nat) (layer : ByteArray) (x : Value) : Prop where
 cell : w'.heap[F]? = some (.cells #[.string layer, .int .i64 0, .int .i64 0, x] 79 (0, 0))
 new : w.heap.size <= F
 bel : Below w.heap.size w w'
end Go.Proofs.YtoaoajfjcfcmhaaGreatDoor
