/- Walk: strong's split: each block is parted by which states have steps into some states. -/
import Derived.Test.YtoaoajfjcfcmhaaGreatDoorP23
import Derived.Test.YtoaoajfjcfcmhaaGreatDoorP06
import Derived.Test.YtoaoajfjcfcmhaaGreatDoorP01
set_option linter.unusedVariables false
set_option linter.unusedSimpArgs false
set_option maxHeartbeats 16000000
set_option maxRecDepth 100000
open Go.Proofs.Tryz
namespace Go.Proofs.YtoaoajfjcfcmhaaGreatDoor
open Go.RowKit Go.Sort Go.Maps
def into (s : Sy.Lts) (L : List Nat) : List (Int × Int) := L.flatMap (Sy.backs s)
theorem zsv (s : Sy.Lts) (L : List Nat) (k : Nat) (h : k < L.length) : into s (L.take (k + 1)) = into s (L.take k) ++ Sy.backs s (L.getD k 0) := by
 unfold into
 rw [List.take_succ_eq_append_getElem h, List.flatMap_append]
 congr 1
 simp [List.getD, h]
theorem zms {s : Sy.Lts} (hR : Sy.Right s) {p : Nat} {x : Int × Int} (hx : x ∈ Sy.backs s p) : ∃ l e : Nat, x = ((l : Int), (e : Int)) /\ l < s.m.toNat /\ e < s.n.toNat /\ Sg.Step s e l p := by
 have h := (Sy.zGc s p x).1 hx
 have hk := hR.ok _ h
 simp only at hk
 refine ⟨x.1.toNat, x.2.toNat, ?_, by omega, by omega, ?_⟩
 ·rw [Int.toNat_of_nonneg (by omega), Int.toNat_of_nonneg (by omega)]
 ·unfold Sg.Step
  rw [Int.toNat_of_nonneg (by omega), Int.toNat_of_nonneg (by omega)]; exact h
theorem zmx {s : Sy.Lts} (hR : Sy.Right s) (p : Nat) : (Sy.backs s p).length <= 10000 := by
 unfold Sy.backs
 rw [List.length_map]
 have h1 := List.length_filter_le (fun e : Sy.Edge => e.2.2 == (p : Int)) (Sy.turned s)
 have h2 : (Sy.turned s).length <= s.es.length := Sy.zCo _
 have h3 := hR.len
 omega
theorem zkf {s : Sy.Lts} (hR : Sy.Right s) : ∀ L : List Nat, (into s L).length <= L.length * 10000
 | [] => by simp [into]
 | x :: L => by
  have h1 := zkf hR L
  have h2 := zmx hR x
  simp only [into, List.flatMap_cons, List.length_append, List.length_cons] at h1 ⊢
  omega
theorem zgz {s : Sy.Lts} (hR : Sy.Right s) (L : List Nat) (l x : Nat) : ((l : Int), (x : Int)) ∈ into s L ↔ Sg.Into s (fun z => z ∈ L) x l := by
 simp only [into, List.mem_flatMap, Sy.zGc]
 constructor
 ·rintro ⟨z, hz, h⟩; exact ⟨z, hz, h⟩
 ·rintro ⟨z, hz, h⟩; exact ⟨z, hz, h⟩
theorem zx1 {s : Sy.Lts} (hR : Sy.Right s) {L : List Nat} {x : Int × Int} (hx : x ∈ into s L) : ∃ l e : Nat, x = ((l : Int), (e : Int)) /\ l < s.m.toNat /\ e < s.n.toNat := by
 simp only [into, List.mem_flatMap] at hx
 obtain ⟨z, -, h⟩ := hx
 obtain ⟨l, e, h1, h2, h3, -⟩ := zms hR h
 exact ⟨l, e, h1, h2, h3⟩
structure zEo (p p3 : Rf.St) (n m l : Nat) (st : List (Int × Int)) (B : Nat) (ve vp vi vb vb3 : Value) (wf w3 : World) : Prop where
 inv : Rf.Inv p3 n
 un : ∀ x, x < n -> p3.marked x = false
 eq : ∀ x y, x < n -> y < n -> (p3.I x = p3.I y ↔ p.I x = p.I y /\ ∀ k, k < l -> (((k : Int), (x : Int)) ∈ st ↔ ((k : Int), (y : Int)) ∈ st))
 part : zC7 w3 B ve vp vi vb3 p3
 own : ∀ k, vb3.ownBlock = some k -> vb.ownBlock = some k \/ wf.heap.size <= k
 turned : Turned (zE5 B ve vp vi vb) wf w3
theorem zgs {B : Nat} {ve vp vi vb vb3 : Value} {wf : World} (h : ∀ k, vb3.ownBlock = some k -> vb.ownBlock = some k \/ wf.heap.size <= k) {k : Nat} (hk : zE5 B ve vp vi vb3 k) : zE5 B ve vp vi vb k \/ wf.heap.size <= k := by
 rcases hk with e | e | e | e | e
 ·exact .inl (.inl e)
 ·exact .inl (.inr (.inl e))
 ·exact .inl (.inr (.inr (.inl e)))
 ·exact .inl (.inr (.inr (.inr (.inl e))))
 ·rcases h k e with e | e
  ·exact .inl (.inr (.inr (.inr (.inr e))))
  ·exact .inr e
theorem zEo.start {p : Rf.St} {n m B : Nat} {st : List (Int × Int)} {ve vp vi vb : Value} {wf : World} (hI : Rf.Inv p n) (h0 : ∀ x, x < n -> p.marked x = false) (hp : zC7 wf B ve vp vi vb p) : zEo p p n m 0 st B ve vp vi vb vb wf wf :=
 ⟨hI, h0, fun x y _ _ => ⟨fun h => ⟨h, fun k hk => by omega⟩, fun h => h.1⟩, hp, fun k hk => .inl hk, Turned.refl _ _⟩
theorem zEo.skip {p p3 : Rf.St} {n m l B : Nat} {st : List (Int × Int)} {ve vp vi vb vb3 : Value} {wf w3 : World} (h : zEo p p3 n m l st B ve vp vi vb vb3 wf w3) (hl : l < m) (he : ((Sg.bucket m st).getD l []).length = 0) : zEo p p3 n m (l + 1) st B ve vp vi vb vb3 wf w3 := by
 have aa : ∀ x : Int, ((l : Int), x) ∉ st := fun x hx => by
  have := (Sg.zDy hl x).2 hx
  rw [List.eq_nil_of_length_eq_zero he] at this
  cases this
 refine ⟨h.inv, h.un, fun x y hx hy => ?_, h.part, h.own, h.turned⟩
 rw [h.eq x y hx hy]
 constructor
 ·rintro ⟨h1, h2⟩
  refine ⟨h1, fun k hk => ?_⟩
  by_cases e : k = l
  ·subst e; exact ⟨fun hh => absurd hh (aa _), fun hh => absurd hh (aa _)⟩
  ·exact h2 k (by omega)
 ·rintro ⟨h1, h2⟩; exact ⟨h1, fun k hk => h2 k (by omega)⟩
theorem zEo.next {p p3 p4 p5 : Rf.St} {n m l B : Nat} {st : List (Int × Int)} {ve vp vi vb vb3 vb5 : Value} {wf w3 w4 w5s w5 : World} (h : zEo p p3 n m l st B ve vp vi vb vb3 wf w3) (hl : l < m) {P : Nat -> Prop}
  (hm : Rf.zE8 p3 p4 n (fun x => (x : Int) ∈ (Sg.bucket m st).getD l [])) (hs : Rf.zDf p4 p5 n P) (hP : ∀ x, x < n -> p4.marked x = true -> P (p4.I x)) (hp : zC7 w5 B ve vp vi vb5 p5)
  (ho : ∀ k, vb5.ownBlock = some k -> vb3.ownBlock = some k \/ w5s.heap.size <= k) (aa : Turned (zE5 B ve vp vi vb3) w3 w4) (hu : Up w4 w5s) (ac : Turned (zE5 B ve vp vi vb3) w5s w5) : zEo p p5 n m (l + 1) st B ve vp vi vb vb5 wf w5 := by
 obtain ⟨i5, u5, e5⟩ := Rf.zIz hm hs hP
 have ad := h.turned.size
 have ae := aa.size
 have af := hu.size
 have ab : ∀ i, i < wf.heap.size -> zE5 B ve vp vi vb3 i -> zE5 B ve vp vi vb i := fun i hi hf => by
  rcases zgs h.own hf with e | e
  ·exact e
  ·omega
 refine ⟨i5, u5, fun x y hx hy => ?_, hp, fun k hk => ?_, ?_⟩
 ·rw [e5 x y hx hy, h.eq x y hx hy, Sg.zDy hl, Sg.zDy hl]
  constructor
  ·rintro ⟨⟨h1, h2⟩, h3⟩
   refine ⟨h1, fun k hk => ?_⟩
   by_cases e : k = l
   ·subst e; exact h3
   ·exact h2 k (by omega)
  ·rintro ⟨h1, h2⟩; exact ⟨⟨h1, fun k hk => h2 k (by omega)⟩, h2 l (by omega)⟩
 ·rcases ho k hk with e | e
  ·exact h.own k e
  ·right; omega
 ·have t1 := (h.turned.trans aa ab)
  have t2 : Turned (zE5 B ve vp vi vb) wf w5s := t1.trans (T := fun _ => False) ⟨hu.os, hu.tape, hu.output, hu.size, fun k hk _ => hu.block k hk⟩ (fun _ _ h => h.elim)
  exact t2.trans ac ab
theorem zEo.done {p p3 : Rf.St} {n m B : Nat} {s : Sy.Lts} {L : List Nat} {ve vp vi vb vb3 : Value} {wf w3 : World} (h : zEo p p3 n m m (into s L) B ve vp vi vb vb3 wf w3) (hR : Sy.Right s) (hn : s.n.toNat = n) (hm : s.m.toNat = m) : Sg.zCz s (fun z => z ∈ L) p.I p3.I := fun x y hx hy => by
 rw [h.eq x y (by omega) (by omega)]
 constructor
 ·rintro ⟨h1, h2⟩
  refine ⟨h1, fun l => ?_⟩
  by_cases hl : 0 <= l /\ l < s.m
  ·obtain ⟨k, rfl⟩ := Int.eq_ofNat_of_zero_le hl.1
   rw [<- zgz hR, <- zgz hR]
   exact h2 k (by omega)
  ·exact ⟨fun ⟨z, _, hs⟩ => absurd ⟨(hs.lt hR).2.2.1, (hs.lt hR).2.2.2⟩ hl, fun ⟨z, _, hs⟩ => absurd ⟨(hs.lt hR).2.2.1, (hs.lt hR).2.2.2⟩ hl⟩
 ·rintro ⟨h1, h2⟩
  refine ⟨h1, fun k hk => ?_⟩
  rw [zgz hR, zgz hR]
  exact h2 k
theorem zsc {s : Sy.Lts} (hR : Sy.Right s) {L : List Nat} {n m l j : Nat} (hn : s.n.toNat = n) (hl : l < m) (hj : j < ((Sg.bucket m (into s L)).getD l []).length) : ∃ x : Nat, ((Sg.bucket m (into s L)).getD l []).getD j 0 = (x : Int) /\ x < n := by
 have e : ((Sg.bucket m (into s L)).getD l []).getD j 0 = ((Sg.bucket m (into s L)).getD l [])[j] := (zaa 0 hj).symm
 have hm := (Sg.zDy hl _).1 (List.getElem_mem hj)
 rw [<- e] at hm
 obtain ⟨k, x, h1, h2, h3⟩ := zx1 hR hm
 refine ⟨x, ?_, by omega⟩
 have := congrArg Prod.snd h1
 simpa using this
theorem zo8 {S : Nat -> Prop} {w w' : World} {b e size n : Nat} {v : Value} {xs : List Value} (ht : Turned S w w') (h : w.ownsRow b e size v n xs) (hS : ∀ k, b <= k -> k < w.heap.size -> ¬ S k) : w'.ownsRow b e size v n xs :=
 za2 h (fun g hg => ht.block g (za3 h hg) (hS g (h.lt g hg).1 (za3 h hg)))
def zd0 (p3 : Rf.St) (n : Nat) (row : List Int) (B : Nat) (ve vp vi vb3 : Value) (w3 : World) (j : Nat) (p4 : Rf.St) (w4 : World) : Prop :=
 Rf.zE8 p3 p4 n (fun x => (x : Int) ∈ row.take j) /\ zC7 w4 B ve vp vi vb3 p4 /\ Turned (zE5 B ve vp vi vb3) w3 w4
def zc8 (p4 : Rf.St) (n : Nat) (hot : List Int) (B : Nat) (ve vp vi vb3 : Value) (w5 : World) (j : Nat) (p6 : Rf.St) (vb6 : Value) (w6 : World) : Prop :=
 Rf.zDf p4 p6 n (fun b => (b : Int) ∈ hot.take j) /\ zC7 w6 B ve vp vi vb6 p6 /\ (∀ k, vb6.ownBlock = some k -> vb3.ownBlock = some k \/ w5.heap.size <= k) /\ Turned (zE5 B ve vp vi vb3) w5 w6
theorem zd0.start {p p3 : Rf.St} {n m l B : Nat} {st : List (Int × Int)} {ve vp vi vb vb3 : Value} {wf w3 : World} (h : zEo p p3 n m l st B ve vp vi vb vb3 wf w3) (row : List Int) : zd0 p3 n row B ve vp vi vb3 w3 0 p3 w3 :=
 ⟨(Rf.zE8.start h.inv h.un).congr (fun x _ => by simp), h.part, Turned.refl _ _⟩
theorem zd0.step {p3 p4 : Rf.St} {n B j x : Nat} {row : List Int} {ve vp vi vb3 : Value} {w3 w4 w5 : World} (h : zd0 p3 n row B ve vp vi vb3 w3 j p4 w4) (hj : j < row.length) (hx : row.getD j 0 = (x : Int)) (aa : x < n)
  (hp : zC7 w5 B ve vp vi vb3 (p4.mark x).2) (ht : Turned (zE5 B ve vp vi vb3) w4 w5) : zd0 p3 n row B ve vp vi vb3 w3 (j + 1) (p4.mark x).2 w5 :=
 ⟨(h.1.step aa).congr (fun y _ => by rw [Rf.zEt hj, hx]; simp only [Int.natCast_inj]), hp, h.2.2.trans ht (fun _ _ h => h)⟩
theorem zc8.start {p4 : Rf.St} {n B : Nat} {ve vp vi vb3 : Value} {w5 : World} (hI : Rf.Inv p4 n) (hp : zC7 w5 B ve vp vi vb3 p4) (hot : List Int) : zc8 p4 n hot B ve vp vi vb3 w5 0 p4 vb3 w5 :=
 ⟨(Rf.zDf.start hI).congr (fun b => by simp), hp, fun k hk => .inl hk, Turned.refl _ _⟩
theorem zc8.step {p4 p6 : Rf.St} {n B j b : Nat} {ve vp vi vb3 vb6 vb7 : Value} {w5 w6 w7 : World} (h : zc8 p4 n (p4.hot p4.blocks.length) B ve vp vi vb3 w5 j p6 vb6 w6) (hI : Rf.Inv p4 n) (hj : j < (p4.hot p4.blocks.length).length)
  (hb : (p4.hot p4.blocks.length).getD j 0 = (b : Int)) (hp : zC7 w7 B ve vp vi vb7 (p6.split b).2) (ho : ∀ k, vb7.ownBlock = some k -> vb6.ownBlock = some k \/ w6.heap.size <= k) (ht : Turned (zE5 B ve vp vi vb6) w6 w7) :
  zc8 p4 n (p4.hot p4.blocks.length) B ve vp vi vb3 w5 (j + 1) (p6.split b).2 vb7 w7 := by
 have ab : b < p4.blocks.length := by
  have hm : (p4.hot p4.blocks.length).getD j 0 ∈ p4.hot p4.blocks.length := by
   have e : (p4.hot p4.blocks.length).getD j 0 = (p4.hot p4.blocks.length)[j] := (zaa 0 hj).symm
   rw [e]; exact List.getElem_mem _
  obtain ⟨c, h1, h2, -⟩ := (Rf.zG0 p4 _ _).1 hm
  omega
 have aa := Rf.zFm (Rf.zI7 p4 p4.blocks.length) hj
 rw [hb] at aa
 have hs := h.2.2.2.size
 refine ⟨(h.1.step hI ab aa).congr (fun c => by rw [Rf.zEt hj, hb]; simp only [Int.natCast_inj]), hp, fun k hk => ?_, h.2.2.2.trans ht (fun i hi hf => ?_)⟩
 ·rcases ho k hk with e | e
  ·exact h.2.2.1 k e
  ·right; omega
 ·rcases zgs h.2.2.1 hf with e | e
  ·exact e
  ·omega
theorem zBc {p4 : Rf.St} {j : Nat} (hj : j < (p4.hot p4.blocks.length).length) : ∃ b : Nat, (p4.hot p4.blocks.length).getD j 0 = (b : Int) /\ b < p4.blocks.length := by
 have hm : (p4.hot p4.blocks.length).getD j 0 ∈ p4.hot p4.blocks.length := by
  have e : (p4.hot p4.blocks.length).getD j 0 = (p4.hot p4.blocks.length)[j] := (zaa 0 hj).symm
  rw [e]; exact List.getElem_mem _
 obtain ⟨c, h1, h2, -⟩ := (Rf.zG0 p4 _ _).1 hm
 exact ⟨c, h1, h2⟩
theorem zEo.both {p p3 p4 p6 : Rf.St} {n m l B : Nat} {st : List (Int × Int)} {ve vp vi vb vb3 vb6 : Value} {wf w3 w4 w5 w6 : World} (h : zEo p p3 n m l st B ve vp vi vb vb3 wf w3) (hl : l < m) {row : List Int} (aa : (Sg.bucket m st).getD l [] = row)
  (hm : zd0 p3 n row B ve vp vi vb3 w3 row.length p4 w4) (hu : Up w4 w5) (hs : zc8 p4 n (p4.hot p4.blocks.length) B ve vp vi vb3 w5 (p4.hot p4.blocks.length).length p6 vb6 w6) : zEo p p6 n m (l + 1) st B ve vp vi vb vb6 wf w6 := by
 subst aa
 obtain ⟨m1, m2, m3⟩ := hm
 obtain ⟨s1, s2, s3, s4⟩ := hs
 rw [List.take_length] at m1 s1
 exact h.next hl m1 s1 (fun x hx ab => Rf.zFt m1.inv hx ab) s2 s3 m3 hu s4
def zfr (s : Sy.Lts) (F : Nat -> Prop) (w : World) (X gB B n : Nat) (p : Rf.St) (hp : List Nat) (nh nt : Nat) (L : List Nat) (r : Ending) (w' : World) : Prop :=
 r = .returned (.tuple #[]) /\ Turned F w w' /\ ∃ p', zF4 (fun k => F k \/ w.heap.size <= k) w' X gB B n p' hp nh nt /\ Rf.Inv p' n /\ (∀ x, x < n -> p'.marked x = false) /\ Sg.zCz s (fun z => z ∈ L) p.I p'.I
theorem zke {F : Nat -> Prop} {w : World} {X gB B n : Nat} {p : Rf.St} {hp : List Nat} {nh nt : Nat} {s : Sy.Lts} (h : zF4 F w X gB B n p hp nh nt) (hG : zCg w gB s) (hR : Sy.Right s) (hn : s.n.toNat = n) (hI : Rf.Inv p n) (h0 : ∀ x, x < n -> p.marked x = false)
  {v : Value} {L : List Nat} (hv : Lst w v (L.map Int.ofNat)) (hL : ∀ x ∈ L, x < n) (bF : L.length <= 1000) :
  Calls prog 166 #[.pointer (some ⟨X, 0, none⟩), v] w (zfr s F w X gB B n p hp nh nt L) := by
 obtain ⟨ve, vp, vi, vb, gh, gg, vs0, vt, sz, gz, ts, hA⟩ := h
 obtain ⟨m, hm⟩ : ∃ m : Nat, s.m = (m : Nat) := ⟨s.m.toNat, by have := hR.m1; omega⟩
 have cd : m <= 201 := by have := hR.m2; omega
 have aP : n <= 1000 := by have := hR.n1; omega
 have a6 : s.m.toNat = m := by rw [hm]; rfl
 obtain ⟨i0, hi, bG, bH, bI⟩ := info_parts Tryz.zD6
 obtain ⟨j0, hj, gz0, gz1, gz2⟩ := info_parts Tryz.zCp
 have hC : ∀ W, Up w W -> W.cell? ⟨X, 0, none⟩ = some (.pointer (some ⟨gB, 0, none⟩)) := fun W hu => hu.cell hA.cells.1
 have c0 := hA.cells.1
 have bJ : Hid (Calls prog 196 #[.pointer (some ⟨gB, 0, none⟩)] w fun r w' => r = .returned (.int .i64 (m : Nat)) /\ Up w w') := zh (by have := zvm hG; rw [hm] at this; exact this)
 obtain ⟨ao, cap, g, off, rfl, ha, hc⟩ := hv
 obtain ⟨nL, aQ⟩ := nm (L.length)
 have a7 : (L.map Int.ofNat).length = nL := by rw [List.length_map, aQ]
 rw [a7] at ha ⊢
 have HV : Hid (∀ k, k < nL -> ao = some ⟨g, off, none⟩ /\ w.cell? ⟨g, off + k, none⟩ = some (.int .i64 ((L.getD k 0 : Nat) : Int))) := zh (fun k hk => ⟨ha (by omega), by
  rw [hc k (by omega)]
  simp [List.getD, show k < L.length by omega]⟩)
 have bK : Hid (∀ k, k < nL -> L.getD k 0 < n) := zh (fun k hk => hL _ (by
  have : k < L.length := by omega
  have e : L.getD k 0 = L[k] := by simp [List.getD, this]
  rw [e]; exact List.getElem_mem _))
 have aR := zh aQ
 have HA := zh hA
 have HG := zh hG
 have HR := zh hR
 have HN := zh hn
 have HI := zh hI
 have H0 := zh h0
 have HC := zh hC
 have a8 := zh a6
 have bL : nL <= 1000 := by omega
 clear hA hG hR hn hI h0 hC hL bF a7 ha hc aQ hm a6
 go_enter func166, ntmps166
 go_wp2_with (first
  | (go_at_call 196; refine bJ.out.mono ?_; rintro r w1 ⟨rfl, a9⟩; (have bM := zh a9); clear a9)
  | (at_make; refine wpList_make_full _ rfl _ _ 36 rfl w1.heap.size 27 i0 (.slice none 0 0) 1 underlying36 hi bG bH _ _ _ _ m rfl rfl rfl rfl (by rw [bI]; omega) (by unfold maxLen; omega) (Nat.le_refl _) ?_; intro w2 aA al))
 obtain ⟨ab, -, -, -⟩ := Row.of aA
 have e : (madeCells (Value.slice none 0 0).cells (m * 1)).toList = List.replicate m (Value.slice none 0 0) := by rw [Nat.mul_one]; exact toList_madeCells_one _ _
 rw [e, Nat.mul_one] at ab
 have aB : Up w1 w2 := (Up.refl w1).grown al (fun k hk => by cases hk)
 have aS := zh (zCs.start bM.out ab aB)
 obtain ⟨O, hO⟩ := nm (w1.heap.size)
 rw [<- hO] at aS ⊢
 clear e ab al aB aA hO c0
 go_loopw [23] (fun i wr => ∃ (k : Nat) (vs : List Value), i = .int .i64 k /\ k <= nL /\ Hid (zCs w wr O m (into s (L.take k)) vs)) (fun i _ => nL - (intOf i).toNat)
 case atStart => exact ⟨0, _, rfl, Nat.zero_le _, by rw [List.take_zero]; exact aS⟩
 case round =>
  clear aS
  obtain ⟨k, vs1, rfl, hk, HF⟩ := hrel
  rename World => wo
  by_cases hlt : k < nL
  ·obtain ⟨rfl, d1⟩ := HV.out k hlt
   have ba := bK.out k hlt
   have y1 := HF.out.up.cell d1
   have cx := HC.out wo HF.out.up
   obtain ⟨e, he⟩ := nm (L.getD k 0)
   rw [<- he] at y1 ba
   have HE := zh he
   obtain ⟨K, hK⟩ := nm ((Sy.backs s e).length)
   have bN : Hid (Calls prog 197 #[.pointer (some ⟨gB, 0, none⟩), .int .i64 (e : Nat)] wo fun r w' => ∃ a3 c3 g3 o3, r = .returned (.slice a3 K c3) /\ Hid (Up wo w') /\ Hid ((0 < K -> a3 = some ⟨g3, o3, none⟩) /\ zJj w g3 o3 (Sy.backs s e))) := zh (by
    refine (zw1 HG.out HF.out.up HR.out (p := e) (by rw [HN.out]; exact ba)).mono ?_
    rintro r w' ⟨v, rfl, hu, a3, c3, g3, o3, rfl, h1, h2⟩
    rw [<- hK] at h1 ⊢
    exact ⟨a3, c3, g3, o3, rfl, zh hu, zh ⟨h1, h2⟩⟩)
   have cf : K <= 10000 := by rw [hK]; exact zmx HR.out e
   have HK := zh hK
   clear he d1 hK
   go_wp2_with (go_at_call 197; refine bN.out.mono ?_; rintro r w3 ⟨a3, c3, g3, o3, rfl, bO, bb⟩)
   go_loopw [34] (fun i wq => ∃ (j : Nat) (vs2 : List Value), i = .int .i64 j /\ j <= K /\ Hid (zCs w wq O m (into s (L.take k) ++ (Sy.backs s e).take j) vs2)) (fun i _ => K - (intOf i).toNat)
   case atStart => exact ⟨0, vs1, rfl, Nat.zero_le _, zh (by rw [List.take_zero, List.append_nil]; exact HF.out.ups bO.out)⟩
   case round =>
    obtain ⟨j, vs2, rfl, cg, ag⟩ := hrel
    by_cases hlt2 : j < K
    ·have aC : j < (Sy.backs s e).length := by rw [<- HK.out]; exact hlt2
     obtain ⟨l, x, hx, am, aH, -⟩ := zms HR.out (List.getElem_mem aC)
     have bc : (Sy.backs s e).getD j (0, 0) = ((l : Int), (x : Int)) := by rw [<- hx]; simp [List.getD, aC]
     have aI : l < m := by rw [a8.out] at am; exact am
     have bP := bb.out.1 (by omega)
     subst bP
     have z := bb.out.2 j aC
     rw [bc] at z
     have z0 := ag.out.up.cell z.1
     have z1 := ag.out.up.cell z.2
     simp only at z0 z1
     have ad := ag.out.own aI
     have aJ := ag.out.cell aI
     have bd := ag.out.row.lt
     have ch := ag.out.row.free l
     obtain ⟨KL, ah⟩ := nm (((Sg.bucket m (into s (L.take k) ++ (Sy.backs s e).take j)).getD l []).length)
     have bQ : KL <= 100000000 := by
      rw [ah]
      have h1 := Sg.zEy (into s (L.take k) ++ (Sy.backs s e).take j) aI
      have h2 := zkf HR.out (L.take k)
      have h3 : (L.take k).length <= k := List.length_take_le _ _
      rw [List.length_append, List.length_take] at h1
      omega
     obtain ⟨a4, c4, an⟩ := za1 ad
     rw [<- ah] at an ad
     obtain ⟨va, aq⟩ := nm (vs2.getD l undef)
     rw [<- aq] at an ad aJ
     subst an
     have be := zh aq
     have bf := zh ad
     have au := zh ah
     have bR := zh (show (Sy.backs s e).take (j + 1) = (Sy.backs s e).take j ++ [((l : Int), (x : Int))] by rw [List.take_succ_eq_append_getElem aC, hx])
     have aT := zh aI
     clear z bc hx aq ad ah am aH aC
     have q1 : (l : Int) < (m : Int) := by omega
     go_upto_region 7 with fail
     obtain ⟨bx, aK⟩ := nm (wr.heap.size)
     obtain ⟨wb, aL⟩ := nm (wr.alloc (.cells #[.int .i64 (l : Nat), .int .i64 (x : Nat)] 169))
     have bh : Up wr wb := by rw [aL]; exact (Up.refl wr).alloc _
     have aU : wb.heap[bx]? = some (.cells #[.int .i64 (l : Nat), .int .i64 (x : Nat)] 169 (0, 0)) := by rw [aL, aK]; exact heap_alloc_new wr _
     obtain ⟨b0, b1⟩ := zam aU
     have bi : bx < wb.heap.size := za0 aU
     rw [<- aL, <- aK]
     have aV := zh bh
     have bS := zh aK
     clear aL bh aU aK
     refine za9 13 [(0, true), (1, true), (2, true), (3, true), (4, true), (5, true), (6, true), (7, true), (8, true), (9, true), (10, false), (11, false), (12, true)] (fun y => y.cell? ⟨O, l, none⟩ = some (.slice a4 KL c4) /\ y.cell? ⟨bx, 0, none⟩ = some (.int .i64 (l : Nat)) /\ y.cell? ⟨bx, 1, none⟩ = some (.int .i64 (x : Nat))) (by kernel_rfl) (by kernel_rfl) (fun _ _ _ _ _ h => h) ⟨aV.out.cell aJ, b0, b1⟩ ?_
     obtain ⟨wd, aD⟩ := nm (wb.drew)
     have aE : Hid (Up wr wd) := zh (by rw [aD]; exact aV.out.drew)
     have hd : wd.cell? ⟨O, l, none⟩ = some (.slice a4 KL c4) /\ wd.cell? ⟨bx, 0, none⟩ = some (.int .i64 (l : Nat)) /\ wd.cell? ⟨bx, 1, none⟩ = some (.int .i64 (x : Nat)) := by rw [aD]; exact ⟨aV.out.cell aJ, b0, b1⟩
     have cj : bx < wd.heap.size := by rw [aD]; exact bi
     rw [<- aD]
     clear aD b0 b1 aJ bi
     iterate 10
      refine WO.still rfl rfl (fun K hK => ?_)
      apply Exists.intro
      refine ⟨?_, hK _ ?_⟩
      ·intro w' hS
       have s1 : w'.cell? ⟨O, l, none⟩ = some (.slice a4 KL c4) := hS.1
       have s2 : w'.cell? ⟨bx, 0, none⟩ = some (.int .i64 (l : Nat)) := hS.2.1
       have s3 : w'.cell? ⟨bx, 1, none⟩ = some (.int .i64 (x : Nat)) := hS.2.2
       go_simp
       first | done | rfl | exact ⟨rfl, rfl⟩
      clear hK K
     refine WO.act rfl rfl (fun K hK => ?_)
     go_simp
     refine hK _ _ ?_ ?_
     ·exact ⟨((Up.refl wd).alloc _).cell hd.1, ((Up.refl wd).alloc _).cell hd.2.1, ((Up.refl wd).alloc _).cell hd.2.2⟩
     clear hK K
     refine WO.act rfl rfl (fun K hK => ?_)
     refine wp_append_own (.tmp 45) (.tmp 48) 27 rfl (O + 1) 3 j0 (.int .i64 0) 1 8 underlying27 hj gz0 gz1 gz2 rfl (by decide) (.slice a4 KL c4) KL _ rfl (Up.owns (aE.out.alloc _) bf.out) _ 1 1 [.int .i64 (x : Nat)] rfl rfl (cell_one_new _ _ _) (fun u hu => by simp only [List.mem_singleton] at hu; subst hu; rfl) (by unfold maxLen; omega) (by omega) (by have := aE.out.size; simp only [World.size_alloc]; omega) ?_
     intro v' w4 ae aa aF
     obtain ⟨a5, c5, ay⟩ := za1 ae
     subst ay
     have av : (wd.alloc (.cells #[.int .i64 (x : Nat)] 3)).grownBy w4 (Value.slice a4 KL c4).ownBlock := ⟨aa.os, aa.tape, aa.output, aa.size, aa.block⟩
     have aw := bf.out.lt
     have aW : (Value.slice a4 KL c4).ownBlock ≠ some O := fun e => by have := (aw O e).1; omega
     have ax : (Value.slice a4 KL c4).ownBlock ≠ some bx := fun e => by have := (aw bx e).2; have := bS.out; omega
     have bT := And.intro (zaw av (((Up.refl wd).alloc _).cell hd.1) aW) (And.intro (zaw av (((Up.refl wd).alloc _).cell hd.2.1) ax) (zaw av (((Up.refl wd).alloc _).cell hd.2.2) ax))
     have ck : w4.frozen? ⟨O, l, none⟩ = false := (ag.out.row.keep ((av.block O (Nat.lt_of_lt_of_le bd ((aE.out.alloc _).size)) (fun e => aW e.symm)).trans ((aE.out.alloc _).block O bd))).free l
     have HP : Hid (zCs w (w4.setCell ⟨O, l, none⟩ (.slice a5 (KL + 1) c5)) O m ((into s (L.take k) ++ (Sy.backs s e).take j) ++ [((l : Int), (x : Int))]) (vs2.set l (.slice a5 (KL + 1) c5))) := zh (ag.out.push aT.out (aE.out.alloc _) (by rw [<- au.out]; exact ae) (by rw [<- be.out]; exact av) (by rw [<- be.out]; exact aF))
     refine hK _ _ bT ?_
     clear hK K ae aa aF av aW ax aw
     refine WO.still rfl rfl (fun K hK => ?_)
     apply Exists.intro
     refine ⟨?_, hK _ ?_⟩
     ·intro w' hS
      go_simp
      first | done | rfl | exact ⟨rfl, rfl⟩
     clear hK K
     refine WO.last rfl rfl (fun K hK => ?_)
     go_simp
     refine hK _ _ ?_
     clear hK K
     go_wp2_with fail
     go_roundw
     case rel => exact ⟨j + 1, _, by go_num, by omega, zh (by rw [bR.out, <- List.append_assoc]; exact HP.out)⟩
     case measure => simp [intOf]; omega
    ·obtain rfl : j = K := by omega
     have bU : Hid (zCs w wr O m (into s (L.take (k + 1))) vs2) := zh (by
      have h1 := ag.out
      rw [HK.out, List.take_length] at h1
      rw [zsv s L k (by rw [<- aR.out]; exact hlt), <- HE.out]; exact h1)
     go_wp2_with fail
     go_roundw
     case rel => exact ⟨k + 1, vs2, by go_num, by omega, bU⟩
     case measure => simp [intOf]; omega
  ·obtain rfl : k = nL := by omega
   have hF : zCs w wo O m (into s L) vs1 := by
    have h1 := HF.out
    rw [aR.out, List.take_length] at h1; exact h1
   have bj : ∀ i, zE5 B ve vp vi vb i -> i < w.heap.size := fun i hi => HA.out.part.zCn hi
   have bo : ∀ W, Turned (zE5 B ve vp vi vb) wo W -> W.cell? ⟨X, 1, none⟩ = some (.pointer (some ⟨B, 0, none⟩)) := fun W ht => by
    have e1 := ht.block X (Nat.lt_of_lt_of_le HA.out.lt hF.up.size) (fun e => (HA.out.nP X e).1 rfl)
    have e2 := hF.up.cell HA.out.cells.2.1
    simp only [World.cell?] at e2 ⊢
    rw [e1]; exact e2
   have bp := zh (zEo.start (m := m) (st := into s L) HI.out H0.out (HA.out.part.below hF.up))
   have cn := hF.hO
   have bq := hF.row.lt
   have ai := zh hF
   have br := zh bj
   have bV := zh bo
   clear HF hF bj bo
   go_wp2_with fail
   go_loopw [55] (fun i w3 => ∃ (l : Nat) (p3 : Rf.St) (vb3 : Value), i = .int .i64 l /\ l <= m /\ Hid (zEo p p3 n m l (into s L) B ve vp vi vb vb3 wo w3)) (fun i _ => m - (intOf i).toNat)
   case atStart => exact ⟨0, p, vb, rfl, Nat.zero_le _, bp⟩
   case round =>
    clear bp
    obtain ⟨l, p3, vb3, rfl, hl, ac⟩ := hrel
    rename World => w3
    by_cases hlt : l < m
    ·have aM : ∀ k, O <= k -> k < wo.heap.size -> ¬ zE5 B ve vp vi vb k := fun k hk _ hf => by have := br.out k hf; omega
     have aG : w3.cell? ⟨O, l, none⟩ = some (vs1.getD l undef) := by
      have e1 := ac.out.turned.block O bq (aM O (Nat.le_refl _) bq)
      have e2 := ai.out.cell hlt
      simp only [World.cell?] at e2 ⊢
      rw [e1]; exact e2
     have ad := zo8 ac.out.turned (ai.out.own hlt) (fun k hk bW => aM k (by omega) bW)
     have aj := (ai.out.own hlt).lt
     obtain ⟨row, ab⟩ := nm ((Sg.bucket m (into s L)).getD l [])
     rw [<- ab] at ad
     have bX : row.length <= 100000000 := by
      rw [ab]
      have h1 := Sg.zEy (into s L) hlt
      have h2 := zkf HR.out L
      have h3 := aR.out
      omega
     obtain ⟨KL, ah⟩ := nm (row.length)
     obtain ⟨va, aq⟩ := nm (vs1.getD l undef)
     rw [<- aq] at ad aG aj
     rw [<- ah] at ad bX
     have ak := zh ab
     have au := zh ah
     by_cases hK0 : KL = 0
     ·subst hK0
      obtain ⟨a4, c4, an⟩ := za1 ad
      subst an
      have HS := zh (ac.out.skip hlt (by rw [<- ak.out, <- au.out]))
      clear ad aq ab ah aj aM
      go_wp2_with fail
      go_roundw
      case rel => exact ⟨l + 1, p3, vb3, by go_num, by omega, HS⟩
      case measure => simp [intOf]; omega
     ·obtain ⟨g4, c4, an, bt, -⟩ := zcx ad (by omega)
      subst an
      have av := aj g4 rfl
      have bu := zh bt
      have bY : Hid (∀ j, j < KL -> ∃ x : Nat, row.getD j 0 = (x : Int) /\ x < n) := zh (fun j hj => by
       rw [ak.out]
       refine zsc HR.out HN.out hlt ?_
       rw [<- ak.out, <- au.out]; exact hj)
      have qk : ((KL : Int) == 0) = false := by simp; omega
      have aX : Hid (∀ i, i < wo.heap.size -> O <= i -> ¬ zE5 B ve vp vi vb3 i) := zh (fun i hi co hf => by
       rcases zgs ac.out.own hf with e | e
       ·have := br.out i e; omega
       ·omega)
      have bv : Hid (∀ W, Turned (zE5 B ve vp vi vb3) w3 W -> W.cell? ⟨X, 1, none⟩ = some (.pointer (some ⟨B, 0, none⟩))) := zh (fun W ht => bV.out W (ac.out.turned.trans ht (fun i hi hf => by
       rcases zgs ac.out.own hf with e | e
       ·exact e
       ·omega)))
      have bw := zh (zd0.start ac.out row)
      have cq := ac.out.turned.size
      clear ad aq ab ah aj aM bt hK0
      go_wp2_with fail
      go_loopw [64] (fun i w4 => ∃ (j : Nat) (p4 : Rf.St), i = .int .i64 j /\ j <= KL /\ Hid (zd0 p3 n row B ve vp vi vb3 w3 j p4 w4)) (fun i _ => KL - (intOf i).toNat)
      case atStart => exact ⟨0, p3, rfl, Nat.zero_le _, bw⟩
      case round =>
       clear bw
       obtain ⟨j, p4, rfl, cr, HM⟩ := hrel
       rename World => w4
       have cx := bv.out w4 HM.out.2.2
       by_cases hlt2 : j < KL
       ·obtain ⟨x, hx, aH⟩ := bY.out j hlt2
        have ct : w4.cell? ⟨g4, j, none⟩ = some (.int .i64 (x : Nat)) := by
         have h1 := bu.out.keep (HM.out.2.2.block g4 bu.out.lt (aX.out g4 (by omega) (by omega)))
         refine h1.cell ?_
         rw [<- hx]
         simp [ivs, List.getD, show j < row.length by rw [<- au.out]; exact hlt2]
        obtain ⟨b, hb⟩ := nm ((p4.mark x).1)
        have bZ : Hid (Calls prog 198 #[.pointer (some ⟨B, 0, none⟩), .int .i64 (x : Nat)] w4 fun r w' => r = .returned (.tuple #[.bool b, .nilIface]) /\ Hid (zC7 w' B ve vp vi vb3 (p4.mark x).2 /\ Turned (zE5 B ve vp vi vb3) w4 w')) := zh (by
         refine (zw9 HM.out.2.1 HM.out.1.inv aP aH).mono ?_
         rintro r w' ⟨rfl, h1, h2, -⟩
         exact ⟨by rw [hb], zh ⟨h1, h2⟩⟩)
        have HX := zh (And.intro hx aH)
        clear hx hb
        go_wp2_with (go_at_call 198; refine bZ.out.mono ?_; rintro r w5 ⟨rfl, bz⟩)
        go_roundw
        case rel => exact ⟨j + 1, _, by go_num, by omega, zh (HM.out.step (by rw [<- au.out]; exact hlt2) HX.out.1 HX.out.2 bz.out.1 bz.out.2)⟩
        case measure => simp [intOf]; omega
       ·obtain rfl : j = KL := by omega
        have aY := HM.out
        rw [au.out] at aY
        have b2 := zh aY
        have bA : Hid (Calls prog 199 #[.pointer (some ⟨B, 0, none⟩)] w4 (zup w4 (p4.hot p4.blocks.length))) := zh (zr1 HM.out.2.1 HM.out.1.inv aP)
        obtain ⟨K5, aN⟩ := nm ((p4.hot p4.blocks.length).length)
        have hK5b : K5 <= 1000 := by rw [aN]; have h1 := Rf.zIc p4 p4.blocks.length; have h2 := Rf.zDo HM.out.1.inv; omega
        have aZ : Hid (Calls prog 199 #[.pointer (some ⟨B, 0, none⟩)] w4 fun r w' => ∃ a5 c5, r = .returned (.slice a5 K5 c5) /\ Hid (w'.ownsRow w4.heap.size 3 1 (.slice a5 K5 c5) K5 (ivs (p4.hot p4.blocks.length)) /\ Up w4 w')) := zh (by
         refine bA.out.mono ?_
         rintro r w' ⟨v, rfl, ho, hu⟩
         rw [<- aN] at ho
         obtain ⟨a5, c5, ay⟩ := za1 ho
         subst ay
         exact ⟨a5, c5, rfl, zh ⟨ho, hu⟩⟩)
        have aO := zh aN
        have b3 := HM.out.2.2.size
        clear aN bA aY
        go_wp2_with (go_at_call 199; refine aZ.out.mono ?_; rintro r w5 ⟨a5, c5, rfl, af⟩)
        have bB := zh (zc8.start HM.out.1.inv (HM.out.2.1.below af.out.2) (p4.hot p4.blocks.length))
        have b4 := af.out.2.size
        have b5 : Hid (∀ W, Turned (zE5 B ve vp vi vb3) w5 W -> W.cell? ⟨X, 1, none⟩ = some (.pointer (some ⟨B, 0, none⟩))) := zh (fun W ht => bv.out W ((HM.out.2.2.trans (T := fun _ => False) ⟨af.out.2.os, af.out.2.tape, af.out.2.output, af.out.2.size, fun k hk _ => af.out.2.block k hk⟩ (fun _ _ h => h.elim)).trans ht (fun i _ hf => hf)))
        have b6 : Hid (∀ i, zE5 B ve vp vi vb3 i -> i < w4.heap.size) := zh (fun i hi => HM.out.2.1.zCn hi)
        go_loopw [81] (fun i w6 => ∃ (j : Nat) (p6 : Rf.St) (vb6 : Value), i = .int .i64 j /\ j <= K5 /\ Hid (zc8 p4 n (p4.hot p4.blocks.length) B ve vp vi vb3 w5 j p6 vb6 w6)) (fun i _ => K5 - (intOf i).toNat)
        case atStart => exact ⟨0, p4, vb3, rfl, Nat.zero_le _, bB⟩
        case round =>
         clear bB
         obtain ⟨j5, p6, vb6, rfl, cu, HS⟩ := hrel
         rename World => w6
         have cx6 := b5.out w6 HS.out.2.2.2
         by_cases hlt5 : j5 < K5
         ·obtain ⟨b, hb, bC⟩ := zBc (p4 := p4) (j := j5) (by rw [<- aO.out]; exact hlt5)
          obtain ⟨g5, cc5, ay, a0, -⟩ := zcx af.out.1 (by omega)
          simp only [Value.slice.injEq, true_and] at ay
          obtain ⟨rfl, -⟩ := ay
          have cv := af.out.1.lt g5 rfl
          have cw : w6.cell? ⟨g5, j5, none⟩ = some (.int .i64 (b : Nat)) := by
           have h1 := a0.keep (HS.out.2.2.2.block g5 a0.lt (fun hf => by have := b6.out g5 hf; omega))
           refine h1.cell ?_
           rw [<- hb]
           simp [ivs, List.getD, show j5 < (p4.hot p4.blocks.length).length by rw [<- aO.out]; exact hlt5]
          obtain ⟨x1, bD⟩ := nm (((p6.split b).1.getD 0 : Nat) : Int)
          obtain ⟨x2, bE⟩ := nm ((p6.split b).1.isSome)
          have b7 : Hid (Calls prog 200 #[.pointer (some ⟨B, 0, none⟩), .int .i64 (b : Nat)] w6 fun r w' => r = .returned (.tuple #[.int .i64 x1, .bool x2, .nilIface]) /\ Hid (∃ vb7, zC7 w' B ve vp vi vb7 (p6.split b).2 /\ (∀ k, vb7.ownBlock = some k -> vb6.ownBlock = some k \/ w6.heap.size <= k) /\ Turned (zE5 B ve vp vi vb6) w6 w')) := zh (by
           refine (zt6 HS.out.2.1 HS.out.1.inv aP (Nat.lt_of_lt_of_le bC HS.out.1.len)).mono ?_
           rintro r w' ⟨rfl, h1⟩
           exact ⟨by rw [bD, bE], zh h1⟩)
          have HB := zh hb
          clear hb bD bE a0 bC
          go_wp2_with (go_at_call 200; refine b7.out.mono ?_; rintro r w7 ⟨rfl, b8⟩)
          go_roundw
          case rel =>
           obtain ⟨vb7, e1, e2, e3⟩ := b8.out
           exact ⟨j5 + 1, _, vb7, by go_num, by omega, zh (HS.out.step HM.out.1.inv (by rw [<- aO.out]; exact hlt5) HB.out e1 e2 e3)⟩
          case measure => simp [intOf]; omega
         ·obtain rfl : j5 = K5 := by omega
          have a1 := HS.out
          rw [aO.out] at a1
          have a2 := zh (ac.out.both hlt ak.out.symm b2.out af.out.2 a1)
          clear a1
          go_wp2_with fail
          go_roundw
          case rel => exact ⟨l + 1, p6, vb6, by go_num, by omega, a2⟩
          case measure => simp [intOf]; omega
    ·obtain rfl : l = m := by omega
     go_wp2_with fail
     go_end0
     have b9 := HA.out.up ai.out.up
     have ca := ai.out.up.size
     have ht := ac.out.turned
     refine ⟨rfl, ⟨ht.os.trans ai.out.up.os, ht.tape.trans ai.out.up.tape, ht.output.trans ai.out.up.output, Nat.le_trans ca ht.size, fun k hk cc => (ht.block k (by omega) (fun hf => cc (HA.out.inP k hf))).trans (ai.out.up.block k hk)⟩, p3, ?_, ac.out.inv, ac.out.un, ac.out.done HR.out HN.out a8.out⟩
     exact ⟨_, _, _, _, _, _, _, _, _, _, _, (b9.parted ac.out.part ac.out.own ac.out.turned).mono (fun k hk => by
      rcases hk with e | e
      ·exact .inl e
      ·exact .inr (by omega))⟩
end Go.Proofs.YtoaoajfjcfcmhaaGreatDoor
