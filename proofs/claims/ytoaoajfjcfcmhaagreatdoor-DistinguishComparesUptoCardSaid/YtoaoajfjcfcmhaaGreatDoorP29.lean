/- Walks: the document's Formula of two states, and make1: formulas that are made once. -/
import Derived.Test.YtoaoajfjcfcmhaaGreatDoorP28
import Derived.Test.YtoaoajfjcfcmhaaGreatDoorP11
import Derived.Deep.RegionLaw
import Derived.BigRegion
import Derived.Maps.AppendAt
import Derived.Test.YtoaoajfjcfcmhaaGreatDoorP01
set_option linter.unusedVariables false
set_option linter.unusedSimpArgs false
set_option maxHeartbeats 16000000
set_option maxRecDepth 100000
open Go.Proofs.Tryz
namespace Go.Proofs.YtoaoajfjcfcmhaaGreatDoor
open Go.RowKit Go.Maps Nd2
theorem zfe {w : World} {g : Nat} {e e' : TypeId} {base size n base' size' n' : Nat} {v v' : Value} {xs xs' : List Value} (h : w.ownsRow base e size v n xs) (h' : w.ownsRow base' e' size' v' n' xs') (he : e ≠ e') (hg : v.ownBlock = some g) : v'.ownBlock ≠ some g := fun aa => by
 obtain ⟨c, hc⟩ := za5 h hg
 obtain ⟨c2, ab⟩ := za5 h' aa
 exact zaq hc ab he rfl
section
variable {s : Sy.Lts} {R : zE2} {w w1 w2 wx wr y : World} {az az1 az2 : List (List Ans)}
structure zCl (s : Sy.Lts) (R : zE2) (w : World) (az : List (List Ans)) (w' : World) (az' : List (List Ans)) : Prop where
 dsk : Dsk s R w' az'
 turn : Turned (fun k => k ∈ R.bs) w w'
 foot : ∀ k, ze5 az' k -> ze5 az k \/ w.heap.size <= k
theorem zCl.start (h : Dsk s R w az) (hu : Up w w1) : zCl s R w az w1 az := ⟨h.upto hu, ⟨hu.os, hu.tape, hu.output, hu.size, fun k hk _ => hu.block k hk⟩, fun _ e => .inl e⟩
theorem zCl.trans (h : zCl s R w az w1 az1) (k : zCl s R w1 az1 w2 az2) : zCl s R w az w2 az2 :=
 ⟨k.dsk, h.turn.trans k.turn (fun _ _ h => h), fun g hg => by
  rcases k.foot g hg with e | e
  ·exact h.foot g e
  ·have := h.turn.size
   right; omega⟩
theorem Dsk.zH9 (h : Dsk s R w az) (ht : Turned (fun k => k ∈ R.bs) w w1) : Up R.w0 w1 := by
 have h2 := (Turned.below h.up).trans ht (fun i _ e => h.lo i e)
 exact ⟨h2.os, h2.tape, h2.output, h2.size, fun i hi => h2.block i hi (by omega)⟩
theorem zCl.grown {v : Value} (h0 : Dsk s R w az) (h : zCl s R w az wr az1) (hu : Up wr wx) (hg : wx.grownBy w2 v.ownBlock) (hv : ∀ b, v.ownBlock = some b -> w.heap.size <= b /\ ¬ zm2 R az1 b) : zCl s R w az w2 az1 := by
 have aa : Turned (fun k => k ∈ R.bs) w wx := h.turn.trans (T := fun _ => False) ⟨hu.os, hu.tape, hu.output, hu.size, fun k hk _ => hu.block k hk⟩ (fun _ _ h => h.elim)
 have ht := aa.grown hg (fun k hk => .inr (hv k hk).1)
 refine ⟨h.dsk.keep (h0.zH9 ht) (fun k hk => ?_), ht, h.foot⟩
 have hl := h.dsk.lt hk
 exact (hg.block k (Nat.lt_of_lt_of_le hl hu.size) (fun e => (hv k e.symm).2 hk)).trans (hu.block k hl)
theorem zCl.owns (hd : Dsk s R w az) (h : zCl s R w az w1 az1) {e : TypeId} {base size n : Nat} {v : Value} {xs : List Value} (ho : w.ownsRow base e size v n xs) (he : e ≠ 182) : w1.ownsRow base e size v n xs :=
 za2 ho (fun g hg => h.turn.block g (za3 ho hg) (fun hm => by
  obtain ⟨c, hc⟩ := hd.bty hm
  obtain ⟨c2, aa⟩ := za5 ho hg
  exact zaq aa hc he rfl))
theorem zCl.off (hd : Dsk s R w az) (h : zCl s R w az w1 az1) {e : TypeId} {base size n : Nat} {v : Value} {xs : List Value} (ho : w.ownsRow base e size v n xs) (hv : ∀ b, v.ownBlock = some b -> ¬ ze5 az b) : ∀ b, v.ownBlock = some b -> ¬ ze5 az1 b := fun b hb hf => by
 rcases h.foot b hf with e | e
 ·exact hv b hb e
 ·have := za3 ho hb
  omega
def zcv (s : Sy.Lts) (R : zE2) (p q : Nat) (w : World) (az : List (List Ans)) (r : Ending) (w' : World) : Prop :=
 ∃ az' v, r = .returned (.tuple #[v, .bool (Dt.fits (Dt.F s p q))]) /\ zCl s R w az w' az' /\ w'.ownsRow w.heap.size 81 2 v (Dt.held (Dt.F s p q)).length (za7 (Dt.held (Dt.F s p q))) /\ ∀ b, v.ownBlock = some b -> ¬ ze5 az' b
def zja (s : Sy.Lts) (R : zE2) (p q : Nat) : Prop := ∀ w az, Dsk s R w az -> Calls prog 71 #[.pointer (some ⟨R.D, 0, none⟩), .int .i64 (p : Nat), .int .i64 (q : Nat)] w (zcv s R p q w az)
def zyl (s : Sy.Lts) (R : zE2) (p q : Nat) : Prop := ∀ w az, Dsk s R w az -> Calls prog 111 #[.pointer (some ⟨R.D, 0, none⟩), .int .i64 (p : Nat), .int .i64 (q : Nat)] w (zcv s R p q w az)
theorem zfk {F : List Dt.Nd} (h : F.length <= 5000) : Dt.held F = F /\ Dt.fits F = true := by simp [Dt.held, Dt.fits, h]
theorem zfw {F : List Dt.Nd} (h : 5000 < F.length) : Dt.held F = [] /\ Dt.fits F = false := by
 have : ¬ F.length <= 5000 := by omega
 simp [Dt.held, Dt.fits, this]
theorem zcv.nil {p q : Nat} (hl : 5000 < (Dt.F s p q).length) (h : zCl s R w az w1 az1) : zcv s R p q w az (.returned (.tuple #[.slice none 0 0, .bool false])) w1 := by
 obtain ⟨e1, e2⟩ := zfw hl
 refine ⟨az1, _, by rw [e2], h, ?_, fun b hb => by simp [Value.ownBlock] at hb⟩
 rw [e1]
 exact World.ownsRow_nil _ _ _ _
theorem zcv.some {p q b : Nat} {v : Value} {F : List Dt.Nd} (hF : F = Dt.F s p q) (hl : F.length <= 5000) (h : zCl s R w az w1 az1) (ho : w1.ownsRow b 81 2 v F.length (za7 F)) (hb : w.heap.size <= b) (aa : ∀ b, v.ownBlock = some b -> ¬ ze5 az1 b) : zcv s R p q w az (.returned (.tuple #[v, .bool true])) w1 := by
 obtain ⟨e1, e2⟩ := zfk hl
 subst hF
 refine ⟨az1, v, by rw [e2], h, ?_, aa⟩
 rw [e1]
 exact za8 ho hb
structure zGh (s : Sy.Lts) (R : zE2) (y : World) (az : List (List Ans)) (wr : World) (az' : List (List Ans)) (A : List Dt.Nd) (fs : List (List Dt.Nd)) (v u : Value) (vs : List Value) : Prop where
 go : zCl s R y az wr az'
 all : wr.ownsRow y.heap.size 81 2 v A.length (za7 A)
 off : ∀ b, v.ownBlock = some b -> ¬ ze5 az' b
 len : vs.length = fs.length
 own : wr.ownsRow y.heap.size 28 1 u fs.length vs
 each : ∀ i, i < fs.length -> wr.ownsRow y.heap.size 81 2 (vs.getD i (.slice none 0 0)) (fs.getD i []).length (za7 (fs.getD i []))
 apart : ∀ x ∈ vs, ∀ b, x.ownBlock = some b -> v.ownBlock ≠ some b
theorem zGh.start (h : Dsk s R y az) : zGh s R y az y az [] [] (.slice none 0 0) (.slice none 0 0) [] :=
 ⟨.start h (Up.refl _), World.ownsRow_nil _ _ _ _, fun b hb => by simp [Value.ownBlock] at hb, rfl, World.ownsRow_nil _ _ _ _, fun i hi => by simp at hi, fun x hx => by simp at hx⟩
theorem zGh.call {A : List Dt.Nd} {fs : List (List Dt.Nd)} {v u : Value} {vs : List Value} (h : zGh s R y az wr az1 A fs v u vs) (k : zCl s R wr az1 w2 az2) : zGh s R y az w2 az2 A fs v u vs :=
 ⟨h.go.trans k, k.owns h.go.dsk h.all (by decide), k.off h.go.dsk h.all h.off, h.len, k.owns h.go.dsk h.own (by decide), fun i hi => k.owns h.go.dsk (h.each i hi) (by decide), h.apart⟩
theorem zmf {b n base : Nat} {v : Value} {xs : List Value} (hd : Dsk s R w az) (ho : w.ownsRow base 81 2 v n xs) (aa : ∀ b, v.ownBlock = some b -> ¬ ze5 az b) (hb : v.ownBlock = some b) : ¬ zm2 R az b := by
 obtain ⟨c, hc⟩ := za5 ho hb
 exact hd.other hc (by decide) (by decide) (by decide) (aa b hb)
theorem zGh.grow {A N : List Dt.Nd} {fs : List (List Dt.Nd)} {v v' u : Value} {vs : List Value} (h0 : Dsk s R y az) (h : zGh s R y az wr az1 A fs v u vs) (hu : Up wr wx) (hg : wx.grownBy w2 v.ownBlock)
  (ho : w2.ownsRow y.heap.size 81 2 v' (A.length + N.length) (za7 A ++ za7 N)) (ac : v'.ownBlock = v.ownBlock \/ v'.ownBlock = Option.some wx.heap.size) : zGh s R y az w2 az1 (A ++ N) fs v' u vs := by
 have ad := h.go.grown h0 hu hg (fun b hb => ⟨(h.all.lt b hb).1, zmf h.go.dsk h.all h.off hb⟩)
 have ae := hu.size
 have aa : ∀ {e : TypeId} {base size n : Nat} {x : Value} {xs : List Value}, wr.ownsRow base e size x n xs -> (∀ b, x.ownBlock = Option.some b -> v.ownBlock ≠ Option.some b) -> w2.ownsRow base e size x n xs := fun hx af =>
  za2 hx (fun g ab => (hg.block g (Nat.lt_of_lt_of_le (za3 hx ab) ae) (fun e => af g ab e.symm)).trans (hu.block g (za3 hx ab)))
 refine ⟨ad, by rw [List.length_append, zb7]; exact ho, fun b hb hf => ?_, h.len, aa h.own (fun b hb => zfe h.own h.all (by decide) hb), fun i hi => aa (h.each i hi) (fun b hb => ?_), fun x hx b hb => ?_⟩
 ·rcases ac with e | e
  ·exact h.off b (e ▸ hb) hf
  ·rw [hb, Option.some.injEq] at e
   have := h.go.dsk.alt hf
   omega
 ·refine h.apart _ ?_ b hb
  have : i < vs.length := by rw [h.len]; exact hi
  rw [<- zaa _ this]; exact List.getElem_mem _
 ·rcases ac with e | e
  ·rw [e]; exact h.apart x hx b hb
  ·rw [e]
   intro e2
   rw [Option.some.injEq] at e2
   obtain ⟨i, hi, rfl⟩ := List.mem_iff_getElem.1 hx
   have h2 := h.each i (by rw [<- h.len]; exact hi)
   rw [<- zaa _ hi] at h2
   have := za3 h2 hb
   omega
theorem zGh.push {A F : List Dt.Nd} {fs : List (List Dt.Nd)} {v u u' f : Value} {vs : List Value} {b0 : Nat} (h0 : Dsk s R y az) (h : zGh s R y az wr az1 A fs v u vs) (hu : Up wr wx) (hg : wx.grownBy w2 u.ownBlock)
  (ho : w2.ownsRow y.heap.size 28 1 u' (fs.length + 1) (vs ++ [f])) (hf : wr.ownsRow b0 81 2 f F.length (za7 F)) (ac : y.heap.size <= b0) (ad : ∀ b, f.ownBlock = Option.some b -> v.ownBlock ≠ Option.some b) : zGh s R y az w2 az1 A (fs ++ [F]) v u' (vs ++ [f]) := by
 have ae := hu.size
 have af := h.go.grown h0 hu hg (fun b hb => ⟨(h.own.lt b hb).1, by
  obtain ⟨c, hc⟩ := za5 h.own hb
  exact h.go.dsk.other hc (by decide) (by decide) (by decide) (fun hf => by
   obtain ⟨c2, ag⟩ := h.go.dsk.aty hf
   exact zaq hc ag (by decide) rfl)⟩)
 have aa : ∀ {base n : Nat} {x : Value} {xs : List Value}, wr.ownsRow base 81 2 x n xs -> w2.ownsRow base 81 2 x n xs := fun hx =>
  za2 hx (fun g ab => (hg.block g (Nat.lt_of_lt_of_le (za3 hx ab) ae) (fun e => zfe h.own hx (by decide) e.symm ab)).trans (hu.block g (za3 hx ab)))
 refine ⟨af, aa h.all, h.off, by simp [h.len], by rw [List.length_append]; exact ho, fun i hi => ?_, fun x hx b hb => ?_⟩
 ·rw [List.length_append, List.length_singleton] at hi
  by_cases e : i < fs.length
  ·rw [Dt.zDe vs f _ (by rw [h.len]; exact e), Dt.zDe fs F _ e]
   exact aa (h.each i e)
  ·obtain rfl : i = fs.length := by omega
   rw [Dt.zCi, <- h.len, Dt.zCi]
   exact za8 (aa hf) ac
 ·rcases List.mem_append.1 hx with hx | hx
  ·exact h.apart x hx b hb
  ·rw [List.mem_singleton] at hx
   subst hx
   exact ad b hb
theorem zGh.read {A : List Dt.Nd} {fs : List (List Dt.Nd)} {v u : Value} {vs : List Value} (h : zGh s R y az wr az1 A fs v u vs) : zyd wr u fs := by
 rcases za4 h.own with ⟨rfl, h1, _⟩ | ⟨g, cap, rfl, hr, _⟩
 ·exact ⟨none, 0, 0, by rw [h1], fun h => by omega, fun i hi => by omega⟩
 ·refine ⟨_, cap, g, rfl, fun _ => rfl, fun i hi => ⟨vs.getD i (.slice none 0 0), hr.cell ?_, zc6 (h.each i hi)⟩⟩
  have : i < vs.length := by rw [h.len]; exact hi
  simp [List.getD, this]
end
theorem Tryz.zHr : (prog.info? 28).map (fun i => (i.zero, i.size, i.bytes)) = some (some (.slice none 0 0), 1, 24) := by kernel_rfl
theorem zim (a b : Int) : ∀ u ∈ [Value.int .i64 a, .int .i64 b], u.oneCell' = true := by
 intro u hu
 simp only [List.mem_cons, List.not_mem_nil, or_false] at hu
 rcases hu with rfl | rfl <;> rfl
theorem zx2 (a : Option Addr) (n c : Nat) : ∀ u ∈ [Value.slice a n c], u.oneCell' = true := by
 intro u hu
 rw [List.mem_singleton] at hu
 subst hu; rfl
theorem zdb {P : Program} {ops : Array Oper} {o : Oper} {a : Act} {w : World} {K : Act -> World -> Prop} {Q : Exit -> Act -> World -> Prop} {E : Prop}
  (hg : o.guard = none) (s x : Operand) (t : TypeId) (ae : o.op = Op.call { callee := Callee.builtin Builtin.append, args := #[s, x], argTypes := #[t, t] })
  (e : TypeId) (i : TypeInfo) (z : Value) (size bytes : Nat) (ht : P.underlying t = some (.slice e)) (hi : P.info? e = some i) (hz : i.zero = some z)
  (ab : i.size = size) (af : i.bytes = bytes) (ag : z.cells.size = size) (ah : 0 < size) (hs : a.eval s = .slice none 0 0) (ao : Option Addr) (m c : Nat) (hx : a.eval x = .slice ao m c) (news : List Value) (ai : ao = none -> m = 0) (hl : news.length = m * size)
  (ac : ∀ ad, ao = some ad -> ∀ j u, news[j]? = some u -> w.cell? (ad.add j) = some u) (h1 : ∀ u ∈ news, u.oneCell' = true) (aj : m <= maxLen) (aa : m * bytes <= 140737488355328)
  (hK : ∀ v' w', w'.ownsRow w.heap.size e size v' m news -> Up w w' -> K (a.put o.dst v') w') :
  if Region.wanted o (yielded ops a.tmps) = true then Oper.wp P o a w K Q else E := by
 have hw : Region.wanted o (yielded ops a.tmps) = true := by simp [Region.wanted, hg]
 rw [if_pos hw]
 obtain ⟨v', w', hr, h2, h3⟩ := zds (P := P) (w := w) t o.type e i z size bytes ht hi hz ab af ag ah ao m c news ai hl ac h1 aj aa
 unfold Oper.wp execOp
 simp only [ae, resolve, invoke, builtin, Sem.run_bind, Sem.run_pure, Result.andThen_ok, List.map_toArray, List.map_cons, List.map_nil, hs, hx, hr]
 exact hK v' w' h2 h3
theorem zih {w : World} {base n : Nat} {ao : Option Addr} {c : Nat} {l : List Dt.Nd} (h : w.ownsRow base 81 2 (.slice ao n c) n (za7 l)) : (ao = none -> n = 0) /\ ∀ ad, ao = some ad -> ∀ j u, (za7 l)[j]? = some u -> w.cell? (ad.add j) = some u := by
 rcases za4 h with ⟨e, h1, _⟩ | ⟨g, c2, e, hr, _⟩
 ·simp only [Value.slice.injEq] at e
  obtain ⟨rfl, -, -⟩ := e
  exact ⟨fun _ => h1, fun ad he => by cases he⟩
 ·simp only [Value.slice.injEq] at e
  obtain ⟨rfl, -, -⟩ := e
  refine ⟨fun he => (by cases he), fun ad he j u hu => ?_⟩
  cases he
  have h3 := hr.cell hu
  have : (⟨g, 0, none⟩ : Addr).add j = ⟨g, j, none⟩ := by unfold Addr.add; split <;> simp_all
  rw [this]; exact h3
theorem zyy {W : World} {b : Nat} {a1 a2 a3 : Value} {e : TypeId} (h : W.heap[b]? = some (.cells #[a1, a2, a3] e (0, 0))) (u1 u2 u3 : Value) :
  (((W.setCell ⟨b, 0, none⟩ u1).setCell ⟨b, 2, none⟩ u3).setCell ⟨b, 1, none⟩ u2).heap[b]? = some (.cells #[u1, u2, u3] e (0, 0)) /\ Turned (fun k => k = b) W (((W.setCell ⟨b, 0, none⟩ u1).setCell ⟨b, 2, none⟩ u3).setCell ⟨b, 1, none⟩ u2) := by
 refine ⟨zat (zat (zat h 0 u1) 2 u3) 1 u2, (((Turned.refl (fun k => k = b) W).setCell (p := ⟨b, 0, none⟩) (.inl rfl) u1).setCell (p := ⟨b, 2, none⟩) (.inl rfl) u3).setCell (p := ⟨b, 1, none⟩) (.inl rfl) u2⟩
theorem zcv.copy {s : Sy.Lts} {R : zE2} {p q : Nat} {w wr w5 : World} {az az1 : List (List Ans)} {v : Value} (h : zCl s R w az wr az1) (hu : Up wr w5) (ho : w5.ownsRow wr.heap.size 81 2 v (Dt.held (Dt.F s p q)).length (za7 (Dt.held (Dt.F s p q)))) :
  zcv s R p q w az (.returned (.tuple #[v, .bool (Dt.fits (Dt.F s p q))])) w5 :=
 ⟨az1, v, rfl, h.trans (.start h.dsk hu), za8 ho h.turn.size, fun b hb hf => by
  have h1 := (ho.lt b hb).1
  have h2 := h.dsk.alt hf
  omega⟩
theorem zwg {s : Sy.Lts} {R : zE2} {p q : Nat} {w w1 w2 w3 : World} {az az2 : List (List Ans)} {v : Value} (hD : Dsk s R w az) (hu : Up w w1) (hs : w1.heap.size = w.heap.size + 1) (aa : zCl s R w1 az w2 az2)
  (ho : w2.ownsRow w1.heap.size 81 2 v (Dt.held (Dt.F s p q)).length (za7 (Dt.held (Dt.F s p q)))) (ht : Turned (fun k => k = w.heap.size) w2 w3) :
  zCl s R w az w3 az2 /\ w3.ownsRow w.heap.size 81 2 v (Dt.held (Dt.F s p q)).length (za7 (Dt.held (Dt.F s p q))) := by
 have h1 := (zCl.start hD hu).trans aa
 have ac := hu.size
 have ab : Turned (fun k => k ∈ R.bs) w w3 := h1.turn.trans ht (fun i hi e => by omega)
 refine ⟨⟨h1.dsk.keep (hD.zH9 ab) (fun k hk => ht.block k (h1.dsk.lt hk) (fun e => ?_)), ab, h1.foot⟩, za8 (za2 ho (fun g hg => ht.block g (za3 ho hg) (fun e => by have := (ho.lt g hg).1; omega))) (by omega)⟩
 subst e
 rcases hk with e | e | e | e
 ·have := za0 hD.box; omega
 ·have := hD.mrow.lt; omega
 ·have := hD.blt e; omega
 ·rcases aa.foot _ e with e | e
  ·have := hD.alt e; omega
  ·omega
theorem zvy {s : Sy.Lts} {R : zE2} {p q n cap b : Nat} {w w3 w4 : World} {az az2 : List (List Ans)} {ao : Option Addr} {fv : Bool} (hp : p < R.n) (hq : q < R.n) (hn : n = (Dt.held (Dt.F s p q)).length) (ab : fv = Dt.fits (Dt.F s p q)) (hb : b = R.bs.getD p 0) (h : zCl s R w az w3 az2)
  (ho : w3.ownsRow w.heap.size 81 2 (.slice ao n cap) n (za7 (Dt.held (Dt.F s p q)))) (ac : w4 = (((w3.setCell ⟨b, q * 3, none⟩ (.slice ao n cap)).setCell ⟨b, q * 3 + 1, none⟩ (.bool true)).setCell ⟨b, q * 3 + 2, none⟩ (.bool fv)).drew) :
  zCl s R w az w4 (zJu az2 p q (.slice ao n cap, true, fv)) /\ w4.ownsRow 0 81 2 (.slice ao n cap) n (za7 (Dt.held (Dt.F s p q))) /\ Turned (fun k => k ∈ R.bs) w3 w4 := by
 subst hn
 subst hb
 obtain ⟨h1, h2, h3⟩ := h.dsk.put hp hq ab (za8 ho (Nat.zero_le _))
 have h2d := h2.drew
 have h1d := h1.upto (Up.refl _).drew
 rw [<- ac] at h2d h1d
 have aa : zCl s R w3 az2 w4 (zJu az2 p q (.slice ao (Dt.held (Dt.F s p q)).length cap, true, fv)) -> zCl s R w az w4 (zJu az2 p q (.slice ao (Dt.held (Dt.F s p q)).length cap, true, fv)) := h.trans
 refine ⟨⟨h1d, h.turn.trans h2d (fun _ _ e => e), fun k hk => ?_⟩, ?_, h2d⟩
 ·rcases h3 k hk with e | e
  ·exact h.foot k e
  ·exact .inr (ho.lt k e).1
 ·refine za8 (za2 ho (fun g hg => h2d.block g (za3 ho hg) (fun hm => ?_))) (Nat.zero_le _)
  obtain ⟨c, hc⟩ := h.dsk.bty hm
  obtain ⟨c2, ad⟩ := za5 ho hg
  exact zaq ad hc (by decide) rfl
theorem zv8 (F : List Dt.Nd) : (Dt.held F).length <= 5000 := by unfold Dt.held; split <;> simp_all
theorem zrz {s : Sy.Lts} {R : zE2} {p q : Nat} (hp : p < R.n) (hq : q < R.n) (hM : zyl s R p q) : zja s R p q := by
 intro w az hD
 obtain ⟨j0, aD, gz0, gz1, gz2⟩ := info_parts Tryz.nodeInfo
 obtain ⟨m0, m1, m2, m3⟩ := hD.cell hp hq
 have m4 : w.cell? ⟨R.D, 2, none⟩ = some (.slice (some ⟨R.M, 0, none⟩) R.n R.cm) := by simp [World.cell?, hD.box]
 obtain ⟨x, hx⟩ := nm ((az.getD p []).getD q noAns)
 rw [<- hx] at m1 m2 m3
 have ac := hD.ans p q hp hq
 rw [<- hx] at ac
 obtain ⟨xf, xd, xt⟩ := x
 simp only at m1 m2 m3
 have HD := zh hD
 obtain ⟨b, hb⟩ := nm (R.bs.getD p 0)
 rw [<- hb] at m0 m1 m2 m3
 have HB := zh hb
 cases xd
 ·have e := ac.1 rfl
  simp only [noAns, Prod.mk.injEq] at e
  obtain ⟨rfl, -, rfl⟩ := e
  have ae : Up w (w.alloc (.cells #[.slice none 0 0, .bool false, .bool false] 182)) := (Up.refl w).alloc _
  have aK := zh ae
  have ai := heap_alloc_new w (.cells #[.slice none 0 0, .bool false, .bool false] 182)
  have aE := zh ai
  have HM := zh (hM _ az (hD.upto ae))
  have aL : Hid ((w.alloc (.cells #[.slice none 0 0, .bool false, .bool false] 182)).heap.size = w.heap.size + 1) := zh (World.size_alloc _ _)
  clear hD ac hx hM ae ai hb
  go_enter func71, ntmps71
  go_upto_region 5 with (go_at_call 111; refine HM.out.mono ?_; rintro r w2 ⟨az2, v2, rfl, au, aa, av⟩; (obtain ⟨ao, cap, rfl⟩ := za1 aa); (have aw := (au.turn.block _ (za0 aE.out) (fun hm => Nat.lt_irrefl _ (HD.out.blt hm))).trans aE.out); (have aM := zh aw); (have aN := zh au); (have ax := zh aa); (obtain ⟨⟨k0, k1, k2⟩, f0, f1, f2⟩ := zah aw); clear au aa av aw)
  obtain ⟨fv, ay⟩ := nm (Dt.fits (Dt.F s p q))
  obtain ⟨n, hn⟩ := nm ((Dt.held (Dt.F s p q)).length)
  rw [<- ay]
  rw [<- hn]
  obtain ⟨an, aA⟩ := zyy aM.out (.slice ao n cap) (.bool true) (.bool fv)
  obtain ⟨w3, aF⟩ := nm (((w2.setCell ⟨w.heap.size, 0, none⟩ (.slice ao n cap)).setCell ⟨w.heap.size, 2, none⟩ (.bool fv)).setCell ⟨w.heap.size, 1, none⟩ (.bool true))
  rw [<- aF] at an aA ⊢
  obtain ⟨ab, aB⟩ := zwg HD.out aK.out aL.out aN.out ax.out aA
  rw [<- hn] at aB
  have aO : n <= 5000 := by rw [hn]; exact zv8 _
  have aq := zh ay
  have HN := zh hn
  have aG := zh an
  have aP := zh ab
  have aQ := zh aB
  obtain ⟨⟨c0, c1, c2⟩, -⟩ := zah an
  obtain ⟨e0, e1, e2, e3⟩ := ab.dsk.cell hp hq
  rw [<- HB.out] at e0 e1 e2 e3
  have e4 : w3.cell? ⟨R.D, 2, none⟩ = some (.slice (some ⟨R.M, 0, none⟩) R.n R.cm) := by simp [World.cell?, ab.dsk.box]
  have z0 : w3.frozen? ⟨b, q * 3, none⟩ = false := by rw [HB.out]; exact (ab.dsk.rows p hp).2.free _
  have z1 : w3.frozen? ⟨b, q * 3 + 1, none⟩ = false := by rw [HB.out]; exact (ab.dsk.rows p hp).2.free _
  have z2 : w3.frozen? ⟨b, q * 3 + 2, none⟩ = false := by rw [HB.out]; exact (ab.dsk.rows p hp).2.free _
  clear ay hn an aA ab aB aF k0 k1 k2 f0 f1 f2 m0 m1 m2 m3 m4
  refine za9 10 [(0, true), (1, true), (2, true), (3, true), (4, true), (5, true), (6, true), (7, true), (8, true), (9, true)] (fun w' => w' = w3.drew) (by kernel_rfl) (by kernel_rfl) (fun _ _ _ _ _ h => h) rfl ?_
  iterate 10
   refine WO.still rfl rfl (fun KK hK => ?_)
   apply Exists.intro
   refine ⟨?_, hK _ ?_⟩
   ·rintro w' rfl
    go_simp
    first | done | rfl | exact ⟨rfl, rfl⟩
   clear hK KK
  refine WO.last rfl rfl (fun K hK => ?_)
  go_simp
  refine hK _ _ ?_
  clear hK K
  obtain ⟨w4, af⟩ := nm ((((w3.setCell ⟨b, q * 3, none⟩ (.slice ao n cap)).setCell ⟨b, q * 3 + 1, none⟩ (.bool true)).setCell ⟨b, q * 3 + 2, none⟩ (.bool fv)).drew)
  rw [<- af]
  obtain ⟨aj, ag, aH⟩ := zvy hp hq HN.out aq.out HB.out aP.out aQ.out af
  have aI := (aH.block _ (za0 aG.out) (fun hm => Nat.lt_irrefl _ (HD.out.blt hm))).trans aG.out
  clear af c0 c1 c2 e0 e1 e2 e3 e4 z0 z1 z2
  obtain ⟨⟨c0, c1, c2⟩, -⟩ := zah aI
  have ak := zih ag
  have ah : Hid ((za7 (Dt.held (Dt.F s p q))).length = n * 2) := zh ag.1
  have aC := zh aj
  clear aj ag aH aI
  go_upto_region 6 with fail
  go_region_law (refine zdb rfl (.const (.slice none 0 0)) (.tmp 43) 28 rfl 81 j0 (.agg #[.int .i64 0, .int .i64 0]) 2 16 underlying28 aD gz0 gz1 gz2 rfl (by decide) rfl ao n cap rfl (za7 (Dt.held (Dt.F s p q))) ak.1 ah.out ak.2 (zcf _) (by unfold maxLen; omega) (by omega) ?_; intro v5 w5 ad al; (have k2 := al.cell c2))
  all_goals
   go_wp2_with fail
   go_ret2
   have e := HN.out
   have e2 := aq.out
   subst e
   subst e2
   exact zcv.copy (v := v5) aC.out (((Up.refl w4).drew).trans al) ad
 ·have hd := ac.2 rfl
  simp only at hd
  obtain ⟨am, aa⟩ := hd
  obtain ⟨n, hn⟩ := nm ((Dt.held (Dt.F s p q)).length)
  rw [<- hn] at aa
  obtain ⟨ao, cap, hv⟩ := za1 aa
  subst hv
  have aO : n <= 5000 := by rw [hn]; exact zv8 _
  have ae : Up w (w.alloc (.cells #[.slice ao n cap, .bool true, .bool xt] 182)) := (Up.refl w).alloc _
  have ai := heap_alloc_new w (.cells #[.slice ao n cap, .bool true, .bool xt] 182)
  obtain ⟨w4, af⟩ := nm (w.alloc (.cells #[.slice ao n cap, .bool true, .bool xt] 182))
  rw [<- af] at ae ai
  have aJ := zh af
  have aC := zh (zCl.start hD ae)
  have ag := ae.owns aa
  have ak := zih ag
  have ah : Hid ((za7 (Dt.held (Dt.F s p q))).length = n * 2) := zh ag.1
  have aq := zh am
  have HN := zh hn
  obtain ⟨⟨c0, c1, c2⟩, -⟩ := zah ai
  clear hD ac hx hM ae ai hb af aa am hn ag
  go_enter func71, ntmps71
  go_upto_region 2 with fail
  rw [<- aJ.out]
  clear aJ
  go_upto_region 6 with fail
  go_region_law (refine zdb rfl (.const (.slice none 0 0)) (.tmp 43) 28 rfl 81 j0 (.agg #[.int .i64 0, .int .i64 0]) 2 16 underlying28 aD gz0 gz1 gz2 rfl (by decide) rfl ao n cap rfl (za7 (Dt.held (Dt.F s p q))) ak.1 ah.out ak.2 (zcf _) (by unfold maxLen; omega) (by omega) ?_; intro v5 w5 ad al; (have k2 := al.cell c2))
  all_goals
   go_wp2_with fail
   go_ret2
   have e := HN.out
   have e2 := aq.out
   subst e
   subst e2
   exact zcv.copy (v := v5) aC.out (((Up.refl w4).drew).trans al) ad
theorem zA3 {w : World} {b0 b n size : Nat} {e : TypeId} {v : Value} {xs : List Value} (h : w.ownsRow b0 e size v n xs) (hb : ∀ g, v.ownBlock = some g -> b <= g) : w.ownsRow b e size v n xs := by
 refine ⟨h.1, ?_⟩
 rcases h.2 with h | ⟨g, cap, cur, rfl, _, r⟩
 ·exact .inl h
 ·exact .inr ⟨g, cap, cur, rfl, hb g rfl, r⟩
theorem zuh {s : Sy.Lts} {R : zE2} {p q : Nat} {w : World} {az : List (List Ans)} (hp : p < R.n) (hq : q < R.n) (ht : Dt.telling s p q = none) (hF : Dt.F s p q = Dt.F s q p ++ [(2, 0)]) (IH : zja s R q p) (hD : Dsk s R w az) :
  Calls prog 111 #[.pointer (some ⟨R.D, 0, none⟩), .int .i64 (p : Nat), .int .i64 (q : Nat)] w (zcv s R p q w az) := by
 obtain ⟨j0, aq, gz0, gz1, gz2⟩ := info_parts Tryz.nodeInfo
 have hb : w.cell? ⟨R.D, 0, none⟩ = some (.slice (some ⟨R.O, 0, none⟩) R.n R.n) := by simp [World.cell?, hD.box]
 have an : w.cell? ⟨R.D, 1, none⟩ = some R.rv := by simp [World.cell?, hD.box]
 have hT := zes hb an (hD.out.up hD.up) (hD.rks.up hD.up) hD.right hD.nn hp hq
 rw [ht] at hT
 simp only [zzn, Option.isSome_none] at hT
 have HT := zh hT
 have HD := zh hD
 have HI := zh IH
 obtain ⟨F, al⟩ := nm (Dt.F s q p)
 have HC : Hid (∀ W, Up w W -> Calls prog 71 #[.pointer (some ⟨R.D, 0, none⟩), .int .i64 (q : Nat), .int .i64 (p : Nat)] W fun r w' => ∃ az' v, r = .returned (.tuple #[v, .bool (Dt.fits F)]) /\ zCl s R W az w' az' /\ w'.ownsRow W.heap.size 81 2 v (Dt.held F).length (za7 (Dt.held F)) /\ ∀ b, v.ownBlock = some b -> ¬ ze5 az' b) :=
  zh (fun W hu => by rw [al]; exact HI.out W az (HD.out.upto hu))
 rw [<- al] at hF
 have HF := zh hF
 clear hT hb an hD IH al hF ht
 have au : 5000 < F.length \/ F.length = 5000 \/ F.length < 5000 := by omega
 rcases au with hl | hl | hl
 ·obtain ⟨f1, f2⟩ := zfw hl
  rw [f1, f2] at HC
  have HL : Hid (5000 < (Dt.F s p q).length) := zh (by rw [HF.out]; simp; omega)
  clear f1 f2 hl
  go_enter func111, ntmps111
  go_wp2_with (first
   | (go_at_call 144; refine HT.out.mono ?_; rintro r w1 ⟨rfl, ac⟩; (have ad := zh ac); clear ac)
   | (go_at_call 71; refine (HC.out _ (ad.out.alloc _)).mono ?_; rintro r w3 ⟨az3, v3, rfl, ae, ab, -⟩; (obtain ⟨a3, c3, rfl⟩ := za1 ab); (have am := zh ((zCl.start HD.out (ad.out.alloc _)).trans ae)); clear ae ab))
  go_ret2
  exact zcv.nil HL.out am.out
 ·obtain ⟨f1, f2⟩ := zfk (show F.length <= 5000 by omega)
  rw [f1, f2, hl] at HC
  have HL : Hid (5000 < (Dt.F s p q).length) := zh (by rw [HF.out]; simp; omega)
  clear f1 f2 hl
  go_enter func111, ntmps111
  go_wp2_with (first
   | (go_at_call 144; refine HT.out.mono ?_; rintro r w1 ⟨rfl, ac⟩; (have ad := zh ac); clear ac)
   | (go_at_call 71; refine (HC.out _ (ad.out.alloc _)).mono ?_; rintro r w3 ⟨az3, v3, rfl, ae, ab, -⟩; (obtain ⟨a3, c3, rfl⟩ := za1 ab); (have am := zh ((zCl.start HD.out (ad.out.alloc _)).trans ae)); clear ae ab))
  go_ret2
  exact zcv.nil HL.out am.out
 ·obtain ⟨f1, f2⟩ := zfk (show F.length <= 5000 by omega)
  rw [f1, f2] at HC
  obtain ⟨n, hn⟩ := nm (F.length)
  rw [<- hn] at hl
  have av := zh hn
  have q1 : decide ((5000 : Int) <= (n : Int)) = false := by simp; omega
  clear f1 f2
  rw [<- hn] at HC
  clear hn
  go_enter func111, ntmps111
  go_wp2_with (first
   | (go_at_call 144; refine HT.out.mono ?_; rintro r w1 ⟨rfl, ac⟩; (have ad := zh ac); clear ac)
   | (go_at_call 71; refine (HC.out _ (ad.out.alloc _)).mono ?_; rintro r w3 ⟨az3, v3, rfl, ae, ab, ag⟩; (obtain ⟨a3, c3, rfl⟩ := za1 ab); (have aw := zh ae); (have ak := zh ab); (have ah := zh ag); clear ae ab ag)
   | (at_builtin; refine wpList_append_own_at _ rfl _ _ 28 rfl 0 81 j0 (.agg #[.int .i64 0, .int .i64 0]) 2 16 underlying28 aq gz0 gz1 gz2 rfl (by decide) _ n _ rfl ((za8 ak.out (Nat.zero_le _)).alloc _) ⟨w3.heap.size, 0, none⟩ 1 1 [.int .i64 2, .int .i64 0] rfl rfl (zby _ _ _ _) (zim _ _) (by unfold maxLen; omega) (by omega) (Nat.zero_le _) ?_; intro v4 w4 af aa ai aj; clear ai; (have ax := zh af); (have ay : Hid ((w3.alloc (.cells #[.int .i64 2, .int .i64 0] 81)).grownBy w4 (Value.slice a3 n c3).ownBlock) := zh ⟨aa.os, aa.tape, aa.output, aa.size, aa.block⟩); (have ao : Hid (v4.ownBlock = (Value.slice a3 n c3).ownBlock \/ v4.ownBlock = some (w3.alloc (.cells #[.int .i64 2, .int .i64 0] 81)).heap.size) := zh aj); clear af aa aj))
  go_ret2
  have hu1a : Up w (w1.alloc (.cells #[.int .i64 0, .int .i64 0] 169)) := ad.out.alloc _
  have h1 := (zCl.start HD.out hu1a).trans aw.out
  have h2 : zCl s R w az w4 az3 := h1.grown HD.out ((Up.refl w3).alloc _) ay.out (fun b hb => ⟨Nat.le_trans hu1a.size (ak.out.lt b hb).1, zmf h1.dsk ak.out ah.out hb⟩)
  have e := av.out
  subst e
  refine zcv.some (v := v4) (b := w.heap.size) HF.out.symm (by simp; omega) h2 ?_ (Nat.le_refl _) (fun b hb hf => ?_)
  ·have h3 := ax.out
   rw [List.length_append, zb7]
   have aA : ∀ g, v4.ownBlock = some g -> w.heap.size <= g := fun g hg => by
    rcases ao.out with e | e
    ·exact Nat.le_trans hu1a.size (ak.out.lt g (by rw [<- e]; exact hg)).1
    ·rw [hg, Option.some.injEq] at e
     have h4 := h1.turn.size
     rw [World.size_alloc] at e
     omega
   exact zA3 h3 aA
  ·rcases ao.out with e | e
   ·exact ah.out b (by rw [<- e]; exact hb) hf
   ·rw [hb, Option.some.injEq] at e
    have h4 := h1.dsk.alt hf
    rw [World.size_alloc] at e
    omega
theorem zw3 {g : List (List Dt.Nd)} {k : Nat} : ∀ f ∈ Rd.seen (g.take k), f.length <= (Dt.zEk g k).length := fun f hf => by
 unfold Dt.zEk
 rw [if_neg (fun e => by rw [e] at hf; cases hf)]
 exact Dt.zH4 hf
theorem zyz {g : List (List Dt.Nd)} {k : Nat} (hk : k <= g.length) : (Rd.seen (g.take k)).length <= k := by
 have h := Rd.zCq (g.take k)
 rw [List.length_take] at h
 omega
theorem zut {g : List (List Dt.Nd)} {k : Nat} (h : k < g.length) : Dt.zEk g g.length = Dt.conj (Rd.seen g) := Dt.zJ8 (fun e => by rw [e] at h; simp at h)
theorem ztr (W : World) (l : Int) : (W.alloc (.cells #[.int .i64 1, .int .i64 0, .int .i64 4, .int .i64 l] 81)).ownsRow W.heap.size 81 2 (.slice (some ⟨W.heap.size, 0, none⟩) 2 2) 2 (za7 [(1, 0), (4, l)]) := by
 have h1 : Row (W.alloc (.cells #[.int .i64 1, .int .i64 0, .int .i64 4, .int .i64 l] 81)) W.heap.size 81 (2 * 2) (za7 [(1, 0), (4, l)]) := Row.new W 81 [.int .i64 1, .int .i64 0, .int .i64 4, .int .i64 l]
 exact h1.zFc (Nat.le_refl _) (Nat.le_refl _) (by unfold maxLen; omega) rfl
theorem zvj {s : Sy.Lts} {R : zE2} {p q tn : Nat} {l : Int} {w : World} {az : List (List Ans)} (hp : p < R.n) (hq : q < R.n) (ht : Dt.telling s p q = some (l, (tn : Int))) (hF : Dt.F s p q = Dt.conj (Rd.seen ((Dt.zD3 s q l).map fun t => Dt.F s tn t)) ++ [(4, l)])
  (IH : ∀ z ∈ Dt.zD3 s q l, zja s R tn z /\ 0 < (Dt.F s tn z).length) (hD : Dsk s R w az) :
  Calls prog 111 #[.pointer (some ⟨R.D, 0, none⟩), .int .i64 (p : Nat), .int .i64 (q : Nat)] w (zcv s R p q w az) := by
 obtain ⟨j0, a3, gz0, gz1, gz2⟩ := info_parts Tryz.nodeInfo
 obtain ⟨i0, hi, bP, bQ, bR⟩ := info_parts Tryz.zHr
 have hb : w.cell? ⟨R.D, 0, none⟩ = some (.slice (some ⟨R.O, 0, none⟩) R.n R.n) := by simp [World.cell?, hD.box]
 have bp : w.cell? ⟨R.D, 1, none⟩ = some R.rv := by simp [World.cell?, hD.box]
 have hT := zes hb bp (hD.out.up hD.up) (hD.rks.up hD.up) hD.right hD.nn hp hq
 rw [ht] at hT
 simp only [zzn, Option.isSome_some] at hT
 have HT := zh hT
 have bS : R.n <= 1000 := by have := hD.right.n1; have := hD.nn; omega
 have HM : Hid (∀ W, Up w W -> Calls prog 145 #[.pointer (some ⟨R.D, 0, none⟩), .int .i64 (q : Nat), .int .i64 l] W (zcc W (Rd.byL (Sy.steps s q) l))) :=
  zh (fun W hW => zgb l (hW.cell hb) ((hD.out.up hD.up).up hW) hq bS (zbt hD.right q))
 rw [zeh] at IH hF
 have a4 := zfn hD.right q l
 have bq := ze1 hD.right q l
 obtain ⟨K, hK⟩ := nm (Rd.byL (Sy.steps s q) l)
 rw [<- hK] at IH hF HM a4 bq
 obtain ⟨m, hm⟩ := nm (K.length)
 rw [<- hm] at bq
 obtain ⟨g, hg⟩ := nm ((K.map Int.toNat).map fun t => Dt.F s tn t)
 have br : g.length = m := by rw [hg, hm]; simp
 rw [<- hg] at hF
 have bT : Hid (∀ i, i < m -> ∃ z : Nat, K.getD i 0 = (z : Int) /\ zja s R tn z /\ 0 < (Dt.F s tn z).length /\ g.getD i [] = Dt.F s tn z) := zh (fun i hi => by
  have aI : i < K.length := by rw [<- hm]; exact hi
  have e0 : K.getD i 0 = K[i] := by simp [List.getD, aI]
  have aJ : K[i] ∈ K := List.getElem_mem aI
  have h1 := a4 _ aJ
  have h2 := IH _ (List.mem_map.2 ⟨_, aJ, rfl⟩)
  refine ⟨K[i].toNat, by rw [e0]; omega, h2.1, h2.2, ?_⟩
  rw [hg]
  simp [List.getD, aI])
 have HD := zh hD
 have HF := zh hF
 have aK := zh br
 have a5 := zh hm
 clear hT hb bp hD IH hF ht hK a4 hm hg br
 go_enter func111, ntmps111
 go_upto_region 7 with (go_at_call 144; refine HT.out.mono ?_; rintro r w1 ⟨rfl, bt⟩; (have bU := zh bt); clear bt)
 obtain ⟨w2, aW⟩ := nm (w1.alloc (.cells #[.int .i64 l, .int .i64 (tn : Nat)] 169))
 rw [<- aW]
 have bu : Hid (Up w w2) := zh (by rw [aW]; exact bU.out.alloc _)
 have a6 : Hid (w2.heap[w1.heap.size]? = some (.cells #[.int .i64 l, .int .i64 (tn : Nat)] 169 (0, 0))) := zh (by rw [aW]; exact heap_alloc_new _ _)
 obtain ⟨b0, b1⟩ := zam a6.out
 clear aW
 go_upto_region 8 with (go_at_call 145; refine (HM.out _ bu.out).mono ?_; rintro r w3 ⟨ao, cap, rfl, a7, a8⟩; (have au := zh (bu.out.trans a8)); (have aL := zh ((a8.block _ (za0 a6.out)).trans a6.out)))
 rw [<- a5.out]
 rw [<- a5.out] at a7
 have bv := zh a7
 obtain ⟨c0, c1⟩ := zam aL.out
 clear b0 b1 a7 a8
 by_cases hm0 : m = 0
 ·have bw : g = [] := List.eq_nil_of_length_eq_zero (by rw [aK.out]; exact hm0)
  have a9 : Hid (Dt.F s p q = [(1, 0), (4, l)]) := zh (by rw [HF.out, bw]; rfl)
  have qm : ((m : Int) == 0) = true := by simp; omega
  clear hm0 bw
  go_wp2_with fail
  go_ret2
  have h1 := (zCl.start HD.out au.out)
  have bV : Up w (w3.alloc (.cells #[.int .i64 1, .int .i64 0, .int .i64 4, .int .i64 l] 81)) := au.out.alloc _
  refine zcv.some (v := .slice (some ⟨w3.heap.size, 0, none⟩) 2 2) a9.out.symm (by simp) (zCl.start HD.out bV) (ztr w3 l) au.out.size (fun b hb hf => ?_)
  simp only [Value.ownBlock, Option.some.injEq] at hb
  have h2 := HD.out.alt hf
  have h3 := au.out.size
  omega
 ·have qm : ((m : Int) == 0) = false := by simp; omega
  have ax : Hid (Dsk s R w3 az) := zh (HD.out.upto au.out)
  have bx : zGh s R w3 az w3 az (Dt.zEk g 0) (Rd.seen (g.take 0)) (.slice none 0 0) (.slice none 0 0) [] := zGh.start ax.out
  have ah : (Dt.zEk g 0).length < 5000 := by unfold Dt.zEk; simp [Rd.seen]
  have bz := zh bx
  have bA := zh ah
  have bW : 0 < m := by omega
  clear bx ah c0 c1 hm0
  go_wp2_with fail
  go_loopw [13, 14, 15] (fun v u i wr => ∃ (j : Nat) (az' : List (List Ans)) (vs : List Value), i = .int .i64 j /\ j <= m /\ Hid (zGh s R w3 az wr az' (Dt.zEk g j) (Rd.seen (g.take j)) v u vs) /\ Hid ((Dt.zEk g j).length < 5000)) (fun _ _ i _ => m - (intOf i).toNat)
  case atStart => exact ⟨0, az, [], rfl, Nat.zero_le _, bz, bA⟩
  case round =>
   clear bz bA
   obtain ⟨j, az1, vs, rfl, hj, ae, bB⟩ := hrel
   rename World => wr
   have bC := (ae.out.go.turn.block _ (za0 aL.out) (fun hm => by
    obtain ⟨c, hc⟩ := ax.out.bty hm
    exact zaq aL.out hc (by decide) rfl)).trans aL.out
   obtain ⟨c0, c1⟩ := zam bC
   obtain ⟨va, vc, hv⟩ := za1 ae.out.all
   obtain ⟨ua, uc, hu⟩ := za1 ae.out.own
   subst hv
   subst hu
   obtain ⟨A, hA⟩ := nm ((Dt.zEk g j).length)
   obtain ⟨k, hk⟩ := nm ((Rd.seen (g.take j)).length)
   have cg : k <= j := by rw [hk]; exact zyz (by rw [aK.out]; exact hj)
   have bX : A < 5000 := by rw [hA]; exact bB.out
   rw [<- hA, <- hk] at ae
   rw [<- hA, <- hk]
   have av := zh hA
   have aX := zh hk
   clear bC hA hk
   by_cases hlt : j < m
   ·obtain ⟨z, hz, bD, ay, ba⟩ := bT.out j hlt
    have aA := ae.out.go.owns ax.out bv.out (by decide)
    have aM : ∃ g2, ao = some ⟨g2, 0, none⟩ /\ wr.cell? ⟨g2, j, none⟩ = some (.int .i64 (z : Nat)) := by
     have aI : j < K.length := by rw [<- a5.out]; exact hlt
     rcases za4 aA with ⟨_, h0, _⟩ | ⟨g2, cap2, e, bY, _⟩
     ·omega
     ·simp only [Value.slice.injEq] at e
      exact ⟨g2, e.1, by rw [<- hz]; exact bY.cell (by simp [ivs, List.getD, aI])⟩
    obtain ⟨g2, rfl, cz⟩ := aM
    have bE : Hid (¬ g2 ∈ R.bs) := zh (fun hm => by
     obtain ⟨c, hc⟩ := ax.out.bty hm
     rcases za4 bv.out with ⟨e, _⟩ | ⟨g3, c3, e, bZ, _⟩
     ·cases e
     ·simp only [Value.slice.injEq, Option.some.injEq, Addr.mk.injEq, and_true] at e
      obtain ⟨c4, b2, -⟩ := bZ
      rw [e.1] at hc
      exact zaq b2 hc (by decide) rfl)
    obtain ⟨F, bF⟩ := nm (Dt.F s tn z)
    have HC := zh (bD wr.drew az1 (ae.out.go.dsk.upto (Up.refl wr).drew))
    unfold zcv at HC
    rw [<- bF] at HC ay ba
    have bG : j < g.length := by rw [aK.out]; exact hlt
    have aN : Hid (g.getD j [] = F) := zh ba
    have aO := zh ay
    have aw := zh bG
    clear hz bD aA bF ba ay bG
    have bH : ¬ w1.heap.size ∈ R.bs := fun hm => by
     obtain ⟨c, hc⟩ := ax.out.bty hm
     exact zaq aL.out hc (by decide) rfl
    have bI := zh bH
    have HK1D := zh (ae.out.call (zCl.start ae.out.go.dsk (Up.refl wr).drew))
    clear bH
    by_cases hl5 : 5000 < F.length
    ·obtain ⟨f1, f2⟩ := zfw hl5
     rw [f1, f2] at HC
     have HL : Hid (5000 < (Dt.F s p q).length) := zh (by rw [HF.out]; exact Dt.zI5 (k := j) aw.out (by rw [zaa [] aw.out, aN.out]; exact hl5) _)
     clear f1 f2 hl5
     go_upto_region 15 with fail
     go_region_held3 (fun y => y.cell? ⟨w1.heap.size, 1, none⟩ = some (.int .i64 (tn : Nat)) /\ y.cell? ⟨g2, j, none⟩ = some (.int .i64 (z : Nat))) (first | (refine ⟨?_, ?_⟩ <;> assumption)) (first
      | (go_at_call 71; refine HC.out.mono ?_; rintro r w4 ⟨az4, f4, rfl, ac, aF, ai⟩; (obtain ⟨fo, fc, rfl⟩ := za1 aF); (have k1 := ac.turn.cell (w := wr.drew) c1 bI.out); (have k2 := ac.turn.cell (w := wr.drew) cz bE.out); (have aE := zh ac); clear ac aF ai))
     clear c0 c1 cz k1 k2
     go_wp2_with fail
     go_ret2
     exact zcv.nil HL.out ((zCl.start HD.out au.out).trans (HK1D.out.call aE.out).go)
    ·obtain ⟨f1, f2⟩ := zfk (show F.length <= 5000 by omega)
     rw [f1, f2] at HC
     obtain ⟨fl, bb⟩ := nm (F.length)
     rw [<- bb] at HC aO
     have b3 : fl <= 5000 := by omega
     have ay : 0 < fl := aO.out
     have aB := zh bb
     clear f1 f2 hl5 bb
     go_upto_region 15 with fail
     go_region_held3 (fun y => y.cell? ⟨w1.heap.size, 1, none⟩ = some (.int .i64 (tn : Nat)) /\ y.cell? ⟨g2, j, none⟩ = some (.int .i64 (z : Nat))) (first | (refine ⟨?_, ?_⟩ <;> assumption)) (first
      | (go_at_call 71; refine HC.out.mono ?_; rintro r w4 ⟨az4, f4, rfl, ac, aF, ai⟩; (obtain ⟨fo, fc, rfl⟩ := za1 aF); (have k1 := ac.turn.cell (w := wr.drew) c1 bI.out); (have k2 := ac.turn.cell (w := wr.drew) cz bE.out); (have aE := zh ac); (have aY := zh aF); clear ac aF ai))
     clear c0 c1 cz k1 k2
     obtain ⟨fg, rfl⟩ : ∃ fg, fo = some ⟨fg, 0, none⟩ := by
      rcases za4 aY.out with ⟨_, h0, _⟩ | ⟨g3, c3, e, _⟩
      ·omega
      ·simp only [Value.slice.injEq] at e
       exact ⟨g3, e.1⟩
     have aC := zh (HK1D.out.call aE.out)
     have bJ : ∀ b, (Value.slice (some ⟨fg, 0, none⟩) fl fc).ownBlock = some b -> (Value.slice va A vc).ownBlock ≠ some b := fun b hb b4 => by
      have h1 := (aY.out.lt b hb).1
      have h2 := za3 ae.out.all b4
      have h3 : wr.drew.heap.size = wr.heap.size := rfl
      omega
     have b5 := zh bJ
     have bK : w3.heap.size <= wr.drew.heap.size := ae.out.go.turn.size
     have b6 := zh bK
     obtain ⟨fs, ch⟩ := nm (Rd.seen (g.take j))
     have bL := zrh aC.out.read (zc6 aY.out) (by rw [<- aX.out]; omega) (by rw [<- aB.out]; omega) (fun f hf => by have h1 := zw3 f hf; rw [<- av.out] at h1; omega)
     have aZ := zh bL
     clear bJ bK bL
     by_cases hin : F ∈ Rd.seen (g.take j)
     ·rw [decide_eq_true hin] at aZ
      have HE : Hid (Dt.zEk g (j + 1) = Dt.zEk g j /\ Rd.seen (g.take (j + 1)) = Rd.seen (g.take j)) := zh (by
       have h1 : g[j]'(aw.out) ∈ Rd.seen (g.take j) := by rw [zaa [] aw.out, aN.out]; exact hin
       exact ⟨Dt.zJi aw.out h1, Rd.zEu aw.out h1⟩)
      clear hin
      go_wp2_with (go_at_call 146; refine aZ.out.mono ?_; rintro r w5 ⟨rfl, aG⟩; (have a0 := zh aG); clear aG)
      go_roundw
      case rel => exact ⟨j + 1, az4, vs, by go_num, by omega, zh (by rw [HE.out.1, HE.out.2]; exact aC.out.call (zCl.start aC.out.go.dsk a0.out)), zh (by rw [HE.out.1]; exact bB.out)⟩
      case measure => simp [intOf]; omega
     ·rw [decide_eq_false hin] at aZ
      have HE : Hid (Dt.zEk g (j + 1) = Dt.zEk g j ++ F ++ (if 1 < k + 1 then [(3, 0)] else []) /\ Rd.seen (g.take (j + 1)) = Rd.seen (g.take j) ++ [F]) := zh (by
       have h1 : g[j]'(aw.out) ∉ Rd.seen (g.take j) := by rw [zaa [] aw.out, aN.out]; exact hin
       have h2 := Dt.zJf aw.out h1
       have h3 := Rd.zEz aw.out h1
       rw [h3, List.length_append, <- aX.out, zaa [] aw.out, aN.out] at h2
       rw [zaa [] aw.out, aN.out] at h3
       exact ⟨h2, h3⟩)
      clear hin
      go_upto_region 20 with (first
       | (go_at_call 146; refine aZ.out.mono ?_; rintro r w5 ⟨rfl, aG⟩; (have aj := (aC.out.call (zCl.start aC.out.go.dsk aG)).own); (rw [<- aX.out] at aj); (have a0 := zh aG); (have bc := aG.size); (have bd := aC.out.go.turn.size))
       | (at_builtin; refine wpList_append_own_at _ rfl _ _ 42 rfl w3.heap.size 28 i0 (.slice none 0 0) 1 24 underlying42 hi bP bQ bR rfl (by decide) _ k _ rfl (aj.alloc _) ⟨w5.heap.size, 0, none⟩ 1 1 [.slice (some ⟨fg, 0, none⟩) fl fc] rfl rfl (cell_one_new _ _ _) (zx2 _ _ _) (by unfold maxLen; omega) (by omega) (by simp only [World.size_alloc]; omega) ?_; intro u6 w6 ak af aP be; clear aP be; (obtain ⟨ua6, uc6, rfl⟩ := za1 ak); (have b7 : Hid ((w5.alloc (.cells #[.slice (some ⟨fg, 0, none⟩) fl fc] 28)).grownBy w6 (Value.slice ua k uc).ownBlock) := zh ⟨af.os, af.tape, af.output, af.size, af.block⟩); (have b8 := zh ak); clear af ak))
      have bf := aC.out.call (zCl.start aC.out.go.dsk a0.out)
      have aQ := bf.push ax.out ((Up.refl w5).alloc _) b7.out (by rw [<- aX.out]; exact b8.out) (by rw [<- aB.out]; exact a0.out.owns aY.out) b6.out b5.out
      have a1 := aQ.each (Rd.seen (g.take j)).length (by simp)
      rw [Dt.zCi, <- bf.len, Dt.zCi, <- aB.out] at a1
      have bM := (zih a1).2 _ rfl
      have al := aQ.all
      rw [<- av.out] at al
      have b9 := aQ.go.turn.size
      have aD := a1.1
      have ca := zh aQ
      clear bf aQ a1 aj bc bd
      go_upto_region 21 with (at_builtin; refine wpList_append_own_at _ rfl _ _ 28 rfl w3.heap.size 81 j0 (.agg #[.int .i64 0, .int .i64 0]) 2 16 underlying28 a3 gz0 gz1 gz2 rfl (by decide) _ A _ rfl al ⟨fg, 0, none⟩ fl fc (za7 F) rfl aD bM (zcf _) (by unfold maxLen; omega) (by omega) (by omega) ?_; intro v7 w7 am ag aR aS; clear aR; (obtain ⟨va7, vc7, rfl⟩ := za1 am); (have cc : Hid (w6.grownBy w7 (Value.slice va A vc).ownBlock) := zh ⟨ag.os, ag.tape, ag.output, ag.size, ag.block⟩); (have cd : Hid ((Value.slice va7 (A + fl) vc7).ownBlock = (Value.slice va A vc).ownBlock \/ (Value.slice va7 (A + fl) vc7).ownBlock = some w6.heap.size) := zh aS); (have cf := zh am); clear ag am aS)
      have a2 := ca.out.grow (N := F) ax.out (Up.refl w6) cc.out (by rw [<- av.out, <- aB.out]; exact cf.out) cd.out
      have ad := a2.all
      rw [List.length_append, <- av.out, <- aB.out] at ad
      have cj := a2.go.turn.size
      have bh := zh a2
      clear a2 bM al aD b9
      by_cases hk0 : k = 0
      ·have qk : decide ((1 : Int) < (k : Int) + 1) = false := by simp; omega
       have aT : Hid (Dt.zEk g j ++ F ++ (if 1 < k + 1 then [(3, 0)] else []) = Dt.zEk g j ++ F) := zh (by rw [if_neg (by omega)]; simp)
       have aU : Hid ((Dt.zEk g (j + 1)).length = A + fl) := zh (by rw [HE.out.1, aT.out, List.length_append, <- av.out, <- aB.out])
       clear hk0 ad
       by_cases hbig : 5000 <= A + fl
       ·have qb : decide ((5000 : Int) <= (A : Int) + (fl : Int)) = true := by simp; omega
        have HL : Hid (5000 < (Dt.F s p q).length) := zh (by rw [HF.out]; exact Dt.zG8 (k := j + 1) (by rw [aU.out]; exact hbig) _)
        clear hbig
        go_wp2_with fail
        go_ret2
        exact zcv.nil HL.out ((zCl.start HD.out au.out).trans bh.out.go)
       ·have qb : decide ((5000 : Int) <= (A : Int) + (fl : Int)) = false := by simp; omega
        have HL : Hid ((Dt.zEk g (j + 1)).length < 5000) := zh (by rw [aU.out]; omega)
        clear hbig
        go_wp2_with fail
        go_roundw
        case rel => exact ⟨j + 1, az4, vs ++ [.slice (some ⟨fg, 0, none⟩) fl fc], by go_num, by omega, zh (by rw [HE.out.1, HE.out.2, aT.out]; exact bh.out), HL⟩
        case measure => simp [intOf]; omega
      ·have qk : decide ((1 : Int) < (k : Int) + 1) = true := by simp; omega
       have aT : Hid (Dt.zEk g j ++ F ++ (if 1 < k + 1 then [(3, 0)] else []) = Dt.zEk g j ++ F ++ [(3, 0)]) := zh (by rw [if_pos (by omega)])
       have aU : Hid ((Dt.zEk g (j + 1)).length = A + fl + 1) := zh (by rw [HE.out.1, aT.out, List.length_append, List.length_append, <- av.out, <- aB.out]; rfl)
       clear hk0
       go_upto_region 23 with (at_builtin; refine wpList_append_own_at _ rfl _ _ 28 rfl w3.heap.size 81 j0 (.agg #[.int .i64 0, .int .i64 0]) 2 16 underlying28 a3 gz0 gz1 gz2 rfl (by decide) _ (A + fl) _ rfl (ad.alloc _) ⟨w7.heap.size, 0, none⟩ 1 1 [.int .i64 3, .int .i64 0] rfl rfl (zby _ _ _ _) (zim _ _) (by unfold maxLen; omega) (by omega) (by simp only [World.size_alloc]; omega) ?_; intro v8 w8 ab aa an aq; clear an; (obtain ⟨va8, vc8, rfl⟩ := za1 ab); (have bi : Hid ((w7.alloc (.cells #[.int .i64 3, .int .i64 0] 81)).grownBy w8 (Value.slice va7 (A + fl) vc7).ownBlock) := zh ⟨aa.os, aa.tape, aa.output, aa.size, aa.block⟩); (have bj : Hid ((Value.slice va8 (A + fl + 1) vc8).ownBlock = (Value.slice va7 (A + fl) vc7).ownBlock \/ (Value.slice va8 (A + fl + 1) vc8).ownBlock = some (w7.alloc (.cells #[.int .i64 3, .int .i64 0] 81)).heap.size) := zh aq); (have bo := zh ab); clear aa ab aq)
       have aH := bh.out.grow (N := [(3, 0)]) ax.out ((Up.refl w7).alloc _) bi.out (by rw [List.length_append, <- av.out, <- aB.out]; exact bo.out) bj.out
       have bN := zh aH
       clear aH ad
       by_cases hbig : 5000 <= A + fl + 1
       ·have qb : decide ((5000 : Int) <= (A : Int) + (fl : Int) + 1) = true := by simp; omega
        have HL : Hid (5000 < (Dt.F s p q).length) := zh (by rw [HF.out]; exact Dt.zG8 (k := j + 1) (by rw [aU.out]; exact hbig) _)
        clear hbig
        go_wp2_with fail
        go_ret2
        exact zcv.nil HL.out ((zCl.start HD.out au.out).trans bN.out.go)
       ·have qb : decide ((5000 : Int) <= (A : Int) + (fl : Int) + 1) = false := by simp; omega
        have HL : Hid ((Dt.zEk g (j + 1)).length < 5000) := zh (by rw [aU.out]; omega)
        clear hbig
        go_wp2_with fail
        go_roundw
        case rel => exact ⟨j + 1, az4, vs ++ [.slice (some ⟨fg, 0, none⟩) fl fc], by go_num, by omega, zh (by rw [HE.out.1, HE.out.2, aT.out]; exact bN.out), HL⟩
        case measure => simp [intOf]; omega
   ·obtain rfl : j = m := by omega
    have bO : Dt.zEk g j = Dt.conj (Rd.seen g) := by rw [<- aK.out]; exact zut (k := 0) (by rw [aK.out]; exact bW)
    have a9 : Hid (Dt.F s p q = Dt.zEk g j ++ [(4, l)]) := zh (by rw [HF.out, bO])
    have aV := ae.out.all
    rw [<- av.out] at aV
    have ck := ae.out.go.turn.size
    clear bO
    go_wp2_with (at_builtin; refine wpList_append_own_at _ rfl _ _ 28 rfl w3.heap.size 81 j0 (.agg #[.int .i64 0, .int .i64 0]) 2 16 underlying28 a3 gz0 gz1 gz2 rfl (by decide) _ A _ rfl (aV.alloc _) ⟨wr.heap.size, 0, none⟩ 1 1 [.int .i64 4, .int .i64 l] rfl rfl (zby _ _ _ _) (zim _ _) (by unfold maxLen; omega) (by omega) (by simp only [World.size_alloc]; omega) ?_; intro v8 w8 ab aa an aq; clear an; (have bi : Hid ((wr.alloc (.cells #[.int .i64 4, .int .i64 l] 81)).grownBy w8 (Value.slice va A vc).ownBlock) := zh ⟨aa.os, aa.tape, aa.output, aa.size, aa.block⟩); (have bj : Hid (v8.ownBlock = (Value.slice va A vc).ownBlock \/ v8.ownBlock = some (wr.alloc (.cells #[.int .i64 4, .int .i64 l] 81)).heap.size) := zh aq); (have bo := zh ab); clear aa ab aq)
    go_ret2
    have aH := ae.out.grow (N := [(4, l)]) ax.out ((Up.refl wr).alloc _) bi.out (by rw [<- av.out]; exact bo.out) bj.out
    refine zcv.some (v := v8) a9.out.symm (by rw [List.length_append, <- av.out]; exact bX) ((zCl.start HD.out au.out).trans aH.go) aH.all au.out.size aH.off
theorem zzh {s : Sy.Lts} {R : zE2} {p q : Nat} (hp : p < R.n) (hq : q < R.n) (h0 : 0 <= Rd.rank s p q) (IH : ∀ a b, a < R.n -> b < R.n -> 0 <= Rd.rank s a b -> Dt.fuel s a b < Dt.fuel s p q -> zja s R a b) : zyl s R p q := by
 intro w az hD
 have hR := hD.right
 have hn := hD.nn
 cases ht : Dt.telling s p q with
 | none =>
  have aa := Dt.zDw hR (by omega) (by omega) h0 ht
  have ae : Dt.fuel s p q = 2 * (Rd.rank s p q).toNat + 1 := by simp [Dt.fuel, ht]
  have af : Dt.fuel s q p = 2 * (Rd.rank s p q).toNat := by simp [Dt.fuel, aa, Rd.zCu s q p]
  exact zuh hp hq ht (Dt.zIw hR (by omega) (by omega) h0 ht) (IH q p hq hp (by rw [Rd.zCu]; exact h0) (by omega)) hD
 | some x =>
  obtain ⟨l, t⟩ := x
  obtain ⟨hx, ab⟩ := Dt.zDb ht
  have ac := zcz hR p _ hx
  obtain ⟨tn, rfl⟩ : ∃ tn : Nat, t = (tn : Int) := ⟨t.toNat, by simp only at ac; omega⟩
  have hF := Dt.zIx hR (by omega) (by omega) h0 ht
  simp only [Int.toNat_natCast] at hF ab ac
  have ag : Dt.fuel s p q = 2 * (Rd.rank s p q).toNat := by simp [Dt.fuel, ht]
  refine zvj hp hq ht hF (fun z hz => ?_) hD
  have ad := Dt.zEc hR hz
  have h1 := ab z hz
  have h2 : Dt.fuel s tn z <= 2 * (Rd.rank s tn z).toNat + 1 := by unfold Dt.fuel; split <;> omega
  exact ⟨IH tn z (by omega) (by omega) h1.1 (by omega), (Dt.zHe hR tn z (by omega) ad h1.1).pos⟩
theorem zqf {s : Sy.Lts} {R : zE2} : ∀ (d p q : Nat), Dt.fuel s p q < d -> p < R.n -> q < R.n -> 0 <= Rd.rank s p q -> zja s R p q
 | 0, _, _, h, _, _, _ => absurd h (Nat.not_lt_zero _)
 | d + 1, p, q, h, hp, hq, h0 => zrz hp hq (zzh hp hq h0 (fun a b ha hb h1 h2 => zqf d a b (by omega) ha hb h1))
end Go.Proofs.YtoaoajfjcfcmhaaGreatDoor
