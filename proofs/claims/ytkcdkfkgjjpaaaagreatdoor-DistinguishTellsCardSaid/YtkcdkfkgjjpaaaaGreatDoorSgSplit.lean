/- Walk: strong's split: each block is parted by which states have steps into some states. -/
import Derived.Test.YtkcdkfkgjjpaaaaGreatDoorSgMem
import Derived.Test.YtkcdkfkgjjpaaaaGreatDoorQOrd
namespace Go.Proofs.YtkcdkfkgjjpaaaaGreatDoor
open Go.RowKit Go.Sort Go.Maps
set_option linter.unusedVariables false
set_option linter.unusedSimpArgs false

/-- The steps to the first states of a list, label and where from. -/
def into (s : Sy.Lts) (L : List Nat) : List (Int × Int) := L.flatMap (Sy.backs s)

theorem into_succ (s : Sy.Lts) (L : List Nat) (k : Nat) (h : k < L.length) : into s (L.take (k + 1)) = into s (L.take k) ++ Sy.backs s (L.getD k 0) := by
  unfold into
  rw [List.take_succ_eq_append_getElem h, List.flatMap_append]
  congr 1
  simp [List.getD, h]

theorem backs_nat {s : Sy.Lts} (hR : Sy.Right s) {p : Nat} {x : Int × Int} (hx : x ∈ Sy.backs s p) : ∃ l e : Nat, x = ((l : Int), (e : Int)) ∧ l < s.m.toNat ∧ e < s.n.toNat ∧ Sg.Step s e l p := by
  have h := (Sy.mem_backs s p x).1 hx
  have hk := hR.ok _ h
  simp only at hk
  refine ⟨x.1.toNat, x.2.toNat, ?_, by omega, by omega, ?_⟩
  · rw [Int.toNat_of_nonneg (by omega), Int.toNat_of_nonneg (by omega)]
  · unfold Sg.Step
    rw [Int.toNat_of_nonneg (by omega), Int.toNat_of_nonneg (by omega)]; exact h

theorem backs_len {s : Sy.Lts} (hR : Sy.Right s) (p : Nat) : (Sy.backs s p).length ≤ 10000 := by
  unfold Sy.backs
  rw [List.length_map]
  have h1 := List.length_filter_le (fun e : Sy.Edge => e.2.2 == (p : Int)) (Sy.turned s)
  have h2 : (Sy.turned s).length ≤ s.es.length := Sy.norm_len _
  have h3 := hR.len
  omega

theorem into_len {s : Sy.Lts} (hR : Sy.Right s) : ∀ L : List Nat, (into s L).length ≤ L.length * 10000
  | [] => by simp [into]
  | x :: L => by
    have h1 := into_len hR L
    have h2 := backs_len hR x
    simp only [into, List.flatMap_cons, List.length_append, List.length_cons] at h1 ⊢
    omega

/-- Whom the steps of a label come from. -/
theorem mem_into {s : Sy.Lts} (hR : Sy.Right s) (L : List Nat) (l x : Nat) : ((l : Int), (x : Int)) ∈ into s L ↔ Sg.Into s (fun z => z ∈ L) x l := by
  simp only [into, List.mem_flatMap, Sy.mem_backs]
  constructor
  · rintro ⟨z, hz, h⟩; exact ⟨z, hz, h⟩
  · rintro ⟨z, hz, h⟩; exact ⟨z, hz, h⟩

theorem into_nat {s : Sy.Lts} (hR : Sy.Right s) {L : List Nat} {x : Int × Int} (hx : x ∈ into s L) : ∃ l e : Nat, x = ((l : Int), (e : Int)) ∧ l < s.m.toNat ∧ e < s.n.toNat := by
  simp only [into, List.mem_flatMap] at hx
  obtain ⟨z, -, h⟩ := hx
  obtain ⟨l, e, h1, h2, h3, -⟩ := backs_nat hR h
  exact ⟨l, e, h1, h2, h3⟩

/-- What stands at the head of the loop over the labels. -/
structure LabAt (p p3 : Rf.St) (n m l : Nat) (st : List (Int × Int)) (B : Nat) (ve vp vi vb vb3 : Value) (wf w3 : World) : Prop where
  inv : Rf.Inv p3 n
  un : ∀ x, x < n → p3.marked x = false
  eq : ∀ x y, x < n → y < n → (p3.I x = p3.I y ↔ p.I x = p.I y ∧ ∀ k, k < l → (((k : Int), (x : Int)) ∈ st ↔ ((k : Int), (y : Int)) ∈ st))
  part : PartAt w3 B ve vp vi vb3 p3
  own : ∀ k, vb3.ownBlock = some k → vb.ownBlock = some k ∨ wf.heap.size ≤ k
  turned : Turned (Foot B ve vp vi vb) wf w3

theorem foot_new {B : Nat} {ve vp vi vb vb3 : Value} {wf : World} (h : ∀ k, vb3.ownBlock = some k → vb.ownBlock = some k ∨ wf.heap.size ≤ k) {k : Nat} (hk : Foot B ve vp vi vb3 k) : Foot B ve vp vi vb k ∨ wf.heap.size ≤ k := by
  rcases hk with e | e | e | e | e
  · exact .inl (.inl e)
  · exact .inl (.inr (.inl e))
  · exact .inl (.inr (.inr (.inl e)))
  · exact .inl (.inr (.inr (.inr (.inl e))))
  · rcases h k e with e | e
    · exact .inl (.inr (.inr (.inr (.inr e))))
    · exact .inr e

theorem LabAt.start {p : Rf.St} {n m B : Nat} {st : List (Int × Int)} {ve vp vi vb : Value} {wf : World} (hI : Rf.Inv p n) (h0 : ∀ x, x < n → p.marked x = false) (hp : PartAt wf B ve vp vi vb p) : LabAt p p n m 0 st B ve vp vi vb vb wf wf :=
  ⟨hI, h0, fun x y _ _ => ⟨fun h => ⟨h, fun k hk => by omega⟩, fun h => h.1⟩, hp, fun k hk => .inl hk, Turned.refl _ _⟩

/-- A label that leads nowhere. -/
theorem LabAt.skip {p p3 : Rf.St} {n m l B : Nat} {st : List (Int × Int)} {ve vp vi vb vb3 : Value} {wf w3 : World} (h : LabAt p p3 n m l st B ve vp vi vb vb3 wf w3) (hl : l < m) (he : ((Sg.bucket m st).getD l []).length = 0) : LabAt p p3 n m (l + 1) st B ve vp vi vb vb3 wf w3 := by
  have hno : ∀ x : Int, ((l : Int), x) ∉ st := fun x hx => by
    have := (Sg.mem_bucket hl x).2 hx
    rw [List.eq_nil_of_length_eq_zero he] at this
    cases this
  refine ⟨h.inv, h.un, fun x y hx hy => ?_, h.part, h.own, h.turned⟩
  rw [h.eq x y hx hy]
  constructor
  · rintro ⟨h1, h2⟩
    refine ⟨h1, fun k hk => ?_⟩
    by_cases e : k = l
    · subst e; exact ⟨fun hh => absurd hh (hno _), fun hh => absurd hh (hno _)⟩
    · exact h2 k (by omega)
  · rintro ⟨h1, h2⟩; exact ⟨h1, fun k hk => h2 k (by omega)⟩

/-- A label by which the blocks were split. -/
theorem LabAt.next {p p3 p4 p5 : Rf.St} {n m l B : Nat} {st : List (Int × Int)} {ve vp vi vb vb3 vb5 : Value} {wf w3 w4 w5s w5 : World} (h : LabAt p p3 n m l st B ve vp vi vb vb3 wf w3) (hl : l < m) {P : Nat → Prop}
    (hm : Rf.MarkSt p3 p4 n (fun x => (x : Int) ∈ (Sg.bucket m st).getD l [])) (hs : Rf.SplitSt p4 p5 n P) (hP : ∀ x, x < n → p4.marked x = true → P (p4.I x)) (hp : PartAt w5 B ve vp vi vb5 p5)
    (ho : ∀ k, vb5.ownBlock = some k → vb3.ownBlock = some k ∨ w5s.heap.size ≤ k) (ht4 : Turned (Foot B ve vp vi vb3) w3 w4) (hu : Up w4 w5s) (ht5 : Turned (Foot B ve vp vi vb3) w5s w5) : LabAt p p5 n m (l + 1) st B ve vp vi vb vb5 wf w5 := by
  obtain ⟨i5, u5, e5⟩ := Rf.split_all hm hs hP
  have hsz := h.turned.size
  have hs4 := ht4.size
  have hs5 := hu.size
  have hft : ∀ i, i < wf.heap.size → Foot B ve vp vi vb3 i → Foot B ve vp vi vb i := fun i hi hf => by
    rcases foot_new h.own hf with e | e
    · exact e
    · omega
  refine ⟨i5, u5, fun x y hx hy => ?_, hp, fun k hk => ?_, ?_⟩
  · rw [e5 x y hx hy, h.eq x y hx hy, Sg.mem_bucket hl, Sg.mem_bucket hl]
    constructor
    · rintro ⟨⟨h1, h2⟩, h3⟩
      refine ⟨h1, fun k hk => ?_⟩
      by_cases e : k = l
      · subst e; exact h3
      · exact h2 k (by omega)
    · rintro ⟨h1, h2⟩; exact ⟨⟨h1, fun k hk => h2 k (by omega)⟩, h2 l (by omega)⟩
  · rcases ho k hk with e | e
    · exact h.own k e
    · right; omega
  · have t1 := (h.turned.trans ht4 hft)
    have t2 : Turned (Foot B ve vp vi vb) wf w5s := t1.trans (T := fun _ => False) ⟨hu.os, hu.tape, hu.output, hu.size, fun k hk _ => hu.block k hk⟩ (fun _ _ h => h.elim)
    exact t2.trans ht5 hft

/-- All labels are done. -/
theorem LabAt.done {p p3 : Rf.St} {n m B : Nat} {s : Sy.Lts} {L : List Nat} {ve vp vi vb vb3 : Value} {wf w3 : World} (h : LabAt p p3 n m m (into s L) B ve vp vi vb vb3 wf w3) (hR : Sy.Right s) (hn : s.n.toNat = n) (hm : s.m.toNat = m) : Sg.SplitBy s (fun z => z ∈ L) p.I p3.I := fun x y hx hy => by
  rw [h.eq x y (by omega) (by omega)]
  constructor
  · rintro ⟨h1, h2⟩
    refine ⟨h1, fun l => ?_⟩
    by_cases hl : 0 ≤ l ∧ l < s.m
    · obtain ⟨k, rfl⟩ := Int.eq_ofNat_of_zero_le hl.1
      rw [← mem_into hR, ← mem_into hR]
      exact h2 k (by omega)
    · exact ⟨fun ⟨z, _, hs⟩ => absurd ⟨(hs.lt hR).2.2.1, (hs.lt hR).2.2.2⟩ hl, fun ⟨z, _, hs⟩ => absurd ⟨(hs.lt hR).2.2.1, (hs.lt hR).2.2.2⟩ hl⟩
  · rintro ⟨h1, h2⟩
    refine ⟨h1, fun k hk => ?_⟩
    rw [mem_into hR, mem_into hR]
    exact h2 k

/-- What a label's row holds. -/
theorem bucket_nat {s : Sy.Lts} (hR : Sy.Right s) {L : List Nat} {n m l j : Nat} (hn : s.n.toNat = n) (hl : l < m) (hj : j < ((Sg.bucket m (into s L)).getD l []).length) : ∃ x : Nat, ((Sg.bucket m (into s L)).getD l []).getD j 0 = (x : Int) ∧ x < n := by
  have e : ((Sg.bucket m (into s L)).getD l []).getD j 0 = ((Sg.bucket m (into s L)).getD l [])[j] := (getD_of 0 hj).symm
  have hm := (Sg.mem_bucket hl _).1 (List.getElem_mem hj)
  rw [← e] at hm
  obtain ⟨k, x, h1, h2, h3⟩ := into_nat hR hm
  refine ⟨x, ?_, by omega⟩
  have := congrArg Prod.snd h1
  simpa using this

/-- What was made ahead stands while a partition turns. -/
theorem turned_owns {S : Nat → Prop} {w w' : World} {b e size n : Nat} {v : Value} {xs : List Value} (ht : Turned S w w') (h : w.ownsRow b e size v n xs) (hS : ∀ k, b ≤ k → k < w.heap.size → ¬ S k) : w'.ownsRow b e size v n xs :=
  owns_keep h (fun g hg => ht.block g (owns_lt h hg) (hS g (h.lt g hg).1 (owns_lt h hg)))

/-- While a label's states are marked. -/
def MarkLoop (p3 : Rf.St) (n : Nat) (row : List Int) (B : Nat) (ve vp vi vb3 : Value) (w3 : World) (j : Nat) (p4 : Rf.St) (w4 : World) : Prop :=
  Rf.MarkSt p3 p4 n (fun x => (x : Int) ∈ row.take j) ∧ PartAt w4 B ve vp vi vb3 p4 ∧ Turned (Foot B ve vp vi vb3) w3 w4

/-- While the blocks with a mark are split. -/
def SplitLoop (p4 : Rf.St) (n : Nat) (hot : List Int) (B : Nat) (ve vp vi vb3 : Value) (w5 : World) (j : Nat) (p6 : Rf.St) (vb6 : Value) (w6 : World) : Prop :=
  Rf.SplitSt p4 p6 n (fun b => (b : Int) ∈ hot.take j) ∧ PartAt w6 B ve vp vi vb6 p6 ∧ (∀ k, vb6.ownBlock = some k → vb3.ownBlock = some k ∨ w5.heap.size ≤ k) ∧ Turned (Foot B ve vp vi vb3) w5 w6

theorem MarkLoop.start {p p3 : Rf.St} {n m l B : Nat} {st : List (Int × Int)} {ve vp vi vb vb3 : Value} {wf w3 : World} (h : LabAt p p3 n m l st B ve vp vi vb vb3 wf w3) (row : List Int) : MarkLoop p3 n row B ve vp vi vb3 w3 0 p3 w3 :=
  ⟨(Rf.MarkSt.start h.inv h.un).congr (fun x _ => by simp), h.part, Turned.refl _ _⟩

theorem MarkLoop.step {p3 p4 : Rf.St} {n B j x : Nat} {row : List Int} {ve vp vi vb3 : Value} {w3 w4 w5 : World} (h : MarkLoop p3 n row B ve vp vi vb3 w3 j p4 w4) (hj : j < row.length) (hx : row.getD j 0 = (x : Int)) (hxn : x < n)
    (hp : PartAt w5 B ve vp vi vb3 (p4.mark x).2) (ht : Turned (Foot B ve vp vi vb3) w4 w5) : MarkLoop p3 n row B ve vp vi vb3 w3 (j + 1) (p4.mark x).2 w5 :=
  ⟨(h.1.step hxn).congr (fun y _ => by rw [Rf.mem_take_succ hj, hx]; simp only [Int.natCast_inj]), hp, h.2.2.trans ht (fun _ _ h => h)⟩

theorem SplitLoop.start {p4 : Rf.St} {n B : Nat} {ve vp vi vb3 : Value} {w5 : World} (hI : Rf.Inv p4 n) (hp : PartAt w5 B ve vp vi vb3 p4) (hot : List Int) : SplitLoop p4 n hot B ve vp vi vb3 w5 0 p4 vb3 w5 :=
  ⟨(Rf.SplitSt.start hI).congr (fun b => by simp), hp, fun k hk => .inl hk, Turned.refl _ _⟩

theorem SplitLoop.step {p4 p6 : Rf.St} {n B j b : Nat} {ve vp vi vb3 vb6 vb7 : Value} {w5 w6 w7 : World} (h : SplitLoop p4 n (p4.hot p4.blocks.length) B ve vp vi vb3 w5 j p6 vb6 w6) (hI : Rf.Inv p4 n) (hj : j < (p4.hot p4.blocks.length).length)
    (hb : (p4.hot p4.blocks.length).getD j 0 = (b : Int)) (hp : PartAt w7 B ve vp vi vb7 (p6.split b).2) (ho : ∀ k, vb7.ownBlock = some k → vb6.ownBlock = some k ∨ w6.heap.size ≤ k) (ht : Turned (Foot B ve vp vi vb6) w6 w7) :
    SplitLoop p4 n (p4.hot p4.blocks.length) B ve vp vi vb3 w5 (j + 1) (p6.split b).2 vb7 w7 := by
  have hbm : b < p4.blocks.length := by
    have hm : (p4.hot p4.blocks.length).getD j 0 ∈ p4.hot p4.blocks.length := by
      have e : (p4.hot p4.blocks.length).getD j 0 = (p4.hot p4.blocks.length)[j] := (getD_of 0 hj).symm
      rw [e]; exact List.getElem_mem _
    obtain ⟨c, h1, h2, -⟩ := (Rf.mem_hot p4 _ _).1 hm
    omega
  have hnt := Rf.nodup_not_take (Rf.hot_nodup p4 p4.blocks.length) hj
  rw [hb] at hnt
  have hs := h.2.2.2.size
  refine ⟨(h.1.step hI hbm hnt).congr (fun c => by rw [Rf.mem_take_succ hj, hb]; simp only [Int.natCast_inj]), hp, fun k hk => ?_, h.2.2.2.trans ht (fun i hi hf => ?_)⟩
  · rcases ho k hk with e | e
    · exact h.2.2.1 k e
    · right; omega
  · rcases foot_new h.2.2.1 hf with e | e
    · exact e
    · omega

theorem hot_at {p4 : Rf.St} {j : Nat} (hj : j < (p4.hot p4.blocks.length).length) : ∃ b : Nat, (p4.hot p4.blocks.length).getD j 0 = (b : Int) ∧ b < p4.blocks.length := by
  have hm : (p4.hot p4.blocks.length).getD j 0 ∈ p4.hot p4.blocks.length := by
    have e : (p4.hot p4.blocks.length).getD j 0 = (p4.hot p4.blocks.length)[j] := (getD_of 0 hj).symm
    rw [e]; exact List.getElem_mem _
  obtain ⟨c, h1, h2, -⟩ := (Rf.mem_hot p4 _ _).1 hm
  exact ⟨c, h1, h2⟩

/-- A label is done. -/
theorem LabAt.both {p p3 p4 p6 : Rf.St} {n m l B : Nat} {st : List (Int × Int)} {ve vp vi vb vb3 vb6 : Value} {wf w3 w4 w5 w6 : World} (h : LabAt p p3 n m l st B ve vp vi vb vb3 wf w3) (hl : l < m) {row : List Int} (hrow : (Sg.bucket m st).getD l [] = row)
    (hm : MarkLoop p3 n row B ve vp vi vb3 w3 row.length p4 w4) (hu : Up w4 w5) (hs : SplitLoop p4 n (p4.hot p4.blocks.length) B ve vp vi vb3 w5 (p4.hot p4.blocks.length).length p6 vb6 w6) : LabAt p p6 n m (l + 1) st B ve vp vi vb vb6 wf w6 := by
  subst hrow
  obtain ⟨m1, m2, m3⟩ := hm
  obtain ⟨s1, s2, s3, s4⟩ := hs
  rw [List.take_length] at m1 s1
  exact h.next hl m1 s1 (fun x hx hmk => Rf.hot_of_marked m1.inv hx hmk) s2 s3 m3 hu s4

/-- What split leaves. -/
def SplitPlay (s : Sy.Lts) (F : Nat → Prop) (w : World) (X gB B n : Nat) (p : Rf.St) (hp : List Nat) (nh nt : Nat) (L : List Nat) (r : Ending) (w' : World) : Prop :=
  r = .returned (.tuple #[]) ∧ Turned F w w' ∧ ∃ p', Play (fun k => F k ∨ w.heap.size ≤ k) w' X gB B n p' hp nh nt ∧ Rf.Inv p' n ∧ (∀ x, x < n → p'.marked x = false) ∧ Sg.SplitBy s (fun z => z ∈ L) p.I p'.I

set_option maxHeartbeats 16000000 in
set_option maxRecDepth 100000 in
theorem split_in {F : Nat → Prop} {w : World} {X gB B n : Nat} {p : Rf.St} {hp : List Nat} {nh nt : Nat} {s : Sy.Lts} (h : Play F w X gB B n p hp nh nt) (hG : GraphAt w gB s) (hR : Sy.Right s) (hn : s.n.toNat = n) (hI : Rf.Inv p n) (h0 : ∀ x, x < n → p.marked x = false)
    {v : Value} {L : List Nat} (hv : Lst w v (L.map Int.ofNat)) (hL : ∀ x ∈ L, x < n) (hLl : L.length ≤ 1000) :
    Calls Tryz.prog 188 #[.pointer (some ⟨X, 0, none⟩), v] w (SplitPlay s F w X gB B n p hp nh nt L) := by
  obtain ⟨ve, vp, vi, vb, gh, gg, vs0, vt, sz, gz, ts, hA⟩ := h
  obtain ⟨m, hm⟩ : ∃ m : Nat, s.m = (m : Nat) := ⟨s.m.toNat, by have := hR.m1; omega⟩
  have hm2 : m ≤ 201 := by have := hR.m2; omega
  have hn1 : n ≤ 1000 := by have := hR.n1; omega
  have hmm : s.m.toNat = m := by rw [hm]; rfl
  obtain ⟨i0, hi, hz0, hz1, hz2⟩ := info_parts Tryz.sliceInfoD
  obtain ⟨j0, hj, gz0, gz1, gz2⟩ := info_parts Tryz.intsInfo
  have hC : ∀ W, Up w W → W.cell? ⟨X, 0, none⟩ = some (.pointer (some ⟨gB, 0, none⟩)) := fun W hu => hu.cell hA.cells.1
  have c0 := hA.cells.1
  have hLB : Hid (Calls Tryz.prog 220 #[.pointer (some ⟨gB, 0, none⟩)] w fun r w' => r = .returned (.int .i64 (m : Nat)) ∧ Up w w') := Lib.hid (by have := labels_in hG; rw [hm] at this; exact this)
  obtain ⟨ao, cap, g, off, rfl, ha, hc⟩ := hv
  obtain ⟨nL, hnL⟩ : ∃ k, k = L.length := ⟨_, rfl⟩
  have hml : (L.map Int.ofNat).length = nL := by rw [List.length_map, hnL]
  rw [hml] at ha ⊢
  have HV : Hid (∀ k, k < nL → ao = some ⟨g, off, none⟩ ∧ w.cell? ⟨g, off + k, none⟩ = some (.int .i64 ((L.getD k 0 : Nat) : Int))) := Lib.hid (fun k hk => ⟨ha (by omega), by
    rw [hc k (by omega)]
    simp [List.getD, show k < L.length by omega]⟩)
  have HLM : Hid (∀ k, k < nL → L.getD k 0 < n) := Lib.hid (fun k hk => hL _ (by
    have : k < L.length := by omega
    have e : L.getD k 0 = L[k] := by simp [List.getD, this]
    rw [e]; exact List.getElem_mem _))
  have HNL := Lib.hid hnL
  have HA := Lib.hid hA
  have HG := Lib.hid hG
  have HR := Lib.hid hR
  have HN := Lib.hid hn
  have HI := Lib.hid hI
  have H0 := Lib.hid h0
  have HC := Lib.hid hC
  have HMM := Lib.hid hmm
  have hLl' : nL ≤ 1000 := by omega
  clear hA hG hR hn hI h0 hC hL hLl hml ha hc hnL hm hmm
  go_enter Tryz.func188, Tryz.ntmps188
  go_wp2_with (first
    | (go_at_call 220; refine hLB.out.mono ?_; rintro r w1 ⟨rfl, hu1⟩; (have HU1 := Lib.hid hu1); clear hu1)
    | (at_make; refine wpList_make_full _ rfl _ _ 48 rfl w1.heap.size 35 i0 (.slice none 0 0) 1 Tryz.underlying48 hi hz0 hz1 _ _ _ _ m rfl rfl rfl rfl (by rw [hz2]; omega) (by unfold maxLen; omega) (Nat.le_refl _) ?_; intro w2 hown hgrow))
  obtain ⟨hrow, -, -, -⟩ := Row.of hown
  have e : (madeCells (Value.slice none 0 0).cells (m * 1)).toList = List.replicate m (Value.slice none 0 0) := by rw [Nat.mul_one]; exact toList_madeCells_one _ _
  rw [e, Nat.mul_one] at hrow
  have hu12 : Up w1 w2 := (Up.refl w1).grown hgrow (fun k hk => by cases hk)
  have HF0 := Lib.hid (FromAt.start HU1.out hrow hu12)
  obtain ⟨O, hO⟩ : ∃ O, O = w1.heap.size := ⟨_, rfl⟩
  rw [← hO] at HF0 ⊢
  clear e hrow hgrow hu12 hown hO c0
  go_loopw [23] (fun i wr => ∃ (k : Nat) (vs : List Value), i = .int .i64 k ∧ k ≤ nL ∧ Hid (FromAt w wr O m (into s (L.take k)) vs)) (fun i _ => nL - (intOf i).toNat)
  case atStart => exact ⟨0, _, rfl, Nat.zero_le _, by rw [List.take_zero]; exact HF0⟩
  case round =>
    clear HF0
    obtain ⟨k, vs1, rfl, hk, HF⟩ := hrel
    rename World => wo
    by_cases hlt : k < nL
    · obtain ⟨rfl, d1⟩ := HV.out k hlt
      have hkn := HLM.out k hlt
      have y1 := HF.out.up.cell d1
      have cx := HC.out wo HF.out.up
      obtain ⟨e, he⟩ : ∃ e, e = L.getD k 0 := ⟨_, rfl⟩
      rw [← he] at y1 hkn
      have HE := Lib.hid he
      obtain ⟨K, hK⟩ : ∃ K, K = (Sy.backs s e).length := ⟨_, rfl⟩
      have HBK : Hid (Calls Tryz.prog 221 #[.pointer (some ⟨gB, 0, none⟩), .int .i64 (e : Nat)] wo fun r w' => ∃ a3 c3 g3 o3, r = .returned (.slice a3 K c3) ∧ Hid (Up wo w') ∧ Hid ((0 < K → a3 = some ⟨g3, o3, none⟩) ∧ Twos w g3 o3 (Sy.backs s e))) := Lib.hid (by
        refine (back_old HG.out HF.out.up HR.out (p := e) (by rw [HN.out]; exact hkn)).mono ?_
        rintro r w' ⟨v, rfl, hu, a3, c3, g3, o3, rfl, h1, h2⟩
        rw [← hK] at h1 ⊢
        exact ⟨a3, c3, g3, o3, rfl, Lib.hid hu, Lib.hid ⟨h1, h2⟩⟩)
      have hK1 : K ≤ 10000 := by rw [hK]; exact backs_len HR.out e
      have HK := Lib.hid hK
      clear he d1 hK
      go_wp2_with (go_at_call 221; refine HBK.out.mono ?_; rintro r w3 ⟨a3, c3, g3, o3, rfl, HU3, HT3⟩)
      go_loopw [34] (fun i wq => ∃ (j : Nat) (vs2 : List Value), i = .int .i64 j ∧ j ≤ K ∧ Hid (FromAt w wq O m (into s (L.take k) ++ (Sy.backs s e).take j) vs2)) (fun i _ => K - (intOf i).toNat)
      case atStart => exact ⟨0, vs1, rfl, Nat.zero_le _, Lib.hid (by rw [List.take_zero, List.append_nil]; exact HF.out.ups HU3.out)⟩
      case round =>
        obtain ⟨j, vs2, rfl, hj2, HF2⟩ := hrel
        by_cases hlt2 : j < K
        · have hjb : j < (Sy.backs s e).length := by rw [← HK.out]; exact hlt2
          obtain ⟨l, x, hx, hlm', hxn, -⟩ := backs_nat HR.out (List.getElem_mem hjb)
          have hgd : (Sy.backs s e).getD j (0, 0) = ((l : Int), (x : Int)) := by rw [← hx]; simp [List.getD, hjb]
          have hlm : l < m := by rw [HMM.out] at hlm'; exact hlm'
          have ha3 := HT3.out.1 (by omega)
          subst ha3
          have z := HT3.out.2 j hjb
          rw [hgd] at z
          have z0 := HF2.out.up.cell z.1
          have z1 := HF2.out.up.cell z.2
          simp only at z0 z1
          have hol := HF2.out.own hlm
          have hcl := HF2.out.cell hlm
          have hOl := HF2.out.row.lt
          have hOf := HF2.out.row.free l
          obtain ⟨KL, hKL⟩ : ∃ KL, KL = ((Sg.bucket m (into s (L.take k) ++ (Sy.backs s e).take j)).getD l []).length := ⟨_, rfl⟩
          have hKLb : KL ≤ 100000000 := by
            rw [hKL]
            have h1 := Sg.bucket_le (into s (L.take k) ++ (Sy.backs s e).take j) hlm
            have h2 := into_len HR.out (L.take k)
            have h3 : (L.take k).length ≤ k := List.length_take_le _ _
            rw [List.length_append, List.length_take] at h1
            omega
          obtain ⟨a4, c4, hv4⟩ := owns_shape' hol
          rw [← hKL] at hv4 hol
          obtain ⟨va, hva⟩ : ∃ va, va = vs2.getD l undef := ⟨_, rfl⟩
          rw [← hva] at hv4 hol hcl
          subst hv4
          have HVA := Lib.hid hva
          have HOL := Lib.hid hol
          have HKL := Lib.hid hKL
          have HGD := Lib.hid (show (Sy.backs s e).take (j + 1) = (Sy.backs s e).take j ++ [((l : Int), (x : Int))] by rw [List.take_succ_eq_append_getElem hjb, hx])
          have HLM2 := Lib.hid hlm
          clear z hgd hx hva hol hKL hlm' hxn hjb
          have q1 : (l : Int) < (m : Int) := by omega
          go_upto_region 7 with fail
          obtain ⟨bx, hbx⟩ : ∃ b, b = wr.heap.size := ⟨_, rfl⟩
          obtain ⟨wb, hwb⟩ : ∃ wb, wb = wr.alloc (.cells #[.int .i64 (l : Nat), .int .i64 (x : Nat)] 92) := ⟨_, rfl⟩
          have hub : Up wr wb := by rw [hwb]; exact (Up.refl wr).alloc _
          have hbb : wb.heap[bx]? = some (.cells #[.int .i64 (l : Nat), .int .i64 (x : Nat)] 92 (0, 0)) := by rw [hwb, hbx]; exact heap_alloc_new wr _
          obtain ⟨b0, b1⟩ := two_cells hbb
          have hbl : bx < wb.heap.size := lt_of_block' hbb
          rw [← hwb, ← hbx]
          have HUB := Lib.hid hub
          have HBX := Lib.hid hbx
          clear hwb hub hbb hbx
          refine wp_region_ord 13 [(0, true), (1, true), (2, true), (3, true), (4, true), (5, true), (6, true), (7, true), (8, true), (9, true), (10, false), (11, false), (12, true)] (fun y => y.cell? ⟨O, l, none⟩ = some (.slice a4 KL c4) ∧ y.cell? ⟨bx, 0, none⟩ = some (.int .i64 (l : Nat)) ∧ y.cell? ⟨bx, 1, none⟩ = some (.int .i64 (x : Nat))) (by kernel_rfl) (by kernel_rfl) (fun _ _ _ _ _ h => h) ⟨HUB.out.cell hcl, b0, b1⟩ ?_
          obtain ⟨wd, hwd⟩ : ∃ wd, wd = wb.drew := ⟨_, rfl⟩
          have HUD : Hid (Up wr wd) := Lib.hid (by rw [hwd]; exact HUB.out.drew)
          have hd : wd.cell? ⟨O, l, none⟩ = some (.slice a4 KL c4) ∧ wd.cell? ⟨bx, 0, none⟩ = some (.int .i64 (l : Nat)) ∧ wd.cell? ⟨bx, 1, none⟩ = some (.int .i64 (x : Nat)) := by rw [hwd]; exact ⟨HUB.out.cell hcl, b0, b1⟩
          have hbd : bx < wd.heap.size := by rw [hwd]; exact hbl
          rw [← hwd]
          clear hwd b0 b1 hcl hbl
          iterate 10
            refine WO.still rfl rfl (fun K hK => ?_)
            apply Exists.intro
            refine ⟨?_, hK _ ?_⟩
            · intro w' hS
              have s1 : w'.cell? ⟨O, l, none⟩ = some (.slice a4 KL c4) := hS.1
              have s2 : w'.cell? ⟨bx, 0, none⟩ = some (.int .i64 (l : Nat)) := hS.2.1
              have s3 : w'.cell? ⟨bx, 1, none⟩ = some (.int .i64 (x : Nat)) := hS.2.2
              go_simp
              first | done | rfl | exact ⟨rfl, rfl⟩
            clear hK K
          refine WO.act rfl rfl (fun K hK => ?_)
          go_simp
          refine hK _ _ ?_ ?_
          · exact ⟨((Up.refl wd).alloc _).cell hd.1, ((Up.refl wd).alloc _).cell hd.2.1, ((Up.refl wd).alloc _).cell hd.2.2⟩
          clear hK K
          refine WO.act rfl rfl (fun K hK => ?_)
          refine wp_append_own (.tmp 45) (.tmp 48) 35 rfl (O + 1) 3 j0 (.int .i64 0) 1 8 Tryz.underlying35 hj gz0 gz1 gz2 rfl (by decide) (.slice a4 KL c4) KL _ rfl (Up.owns (HUD.out.alloc _) HOL.out) _ 1 1 [.int .i64 (x : Nat)] rfl rfl (cell_one_new _ _ _) (fun u hu => by simp only [List.mem_singleton] at hu; subst hu; rfl) (by unfold maxLen; omega) (by omega) (by have := HUD.out.size; simp only [World.size_alloc]; omega) ?_
          intro v' w4 hown4 hgrow4 hat4
          obtain ⟨a5, c5, hv5⟩ := owns_shape' hown4
          subst hv5
          have hg4 : (wd.alloc (.cells #[.int .i64 (x : Nat)] 3)).grownBy w4 (Value.slice a4 KL c4).ownBlock := ⟨hgrow4.os, hgrow4.tape, hgrow4.output, hgrow4.size, hgrow4.block⟩
          have hlt4 := HOL.out.lt
          have hne : (Value.slice a4 KL c4).ownBlock ≠ some O := fun e => by have := (hlt4 O e).1; omega
          have hne2 : (Value.slice a4 KL c4).ownBlock ≠ some bx := fun e => by have := (hlt4 bx e).2; have := HBX.out; omega
          have hS4 := And.intro (grown_cell hg4 (((Up.refl wd).alloc _).cell hd.1) hne) (And.intro (grown_cell hg4 (((Up.refl wd).alloc _).cell hd.2.1) hne2) (grown_cell hg4 (((Up.refl wd).alloc _).cell hd.2.2) hne2))
          have hf4 : w4.frozen? ⟨O, l, none⟩ = false := (HF2.out.row.keep ((hg4.block O (Nat.lt_of_lt_of_le hOl ((HUD.out.alloc _).size)) (fun e => hne e.symm)).trans ((HUD.out.alloc _).block O hOl))).free l
          have HP : Hid (FromAt w (w4.setCell ⟨O, l, none⟩ (.slice a5 (KL + 1) c5)) O m ((into s (L.take k) ++ (Sy.backs s e).take j) ++ [((l : Int), (x : Int))]) (vs2.set l (.slice a5 (KL + 1) c5))) := Lib.hid (HF2.out.push HLM2.out (HUD.out.alloc _) (by rw [← HKL.out]; exact hown4) (by rw [← HVA.out]; exact hg4) (by rw [← HVA.out]; exact hat4))
          refine hK _ _ hS4 ?_
          clear hK K hown4 hgrow4 hat4 hg4 hne hne2 hlt4
          refine WO.still rfl rfl (fun K hK => ?_)
          apply Exists.intro
          refine ⟨?_, hK _ ?_⟩
          · intro w' hS
            go_simp
            first | done | rfl | exact ⟨rfl, rfl⟩
          clear hK K
          refine WO.last rfl rfl (fun K hK => ?_)
          go_simp
          refine hK _ _ ?_
          clear hK K
          go_wp2_with fail
          go_roundw
          case rel => exact ⟨j + 1, _, by go_num, by omega, Lib.hid (by rw [HGD.out, ← List.append_assoc]; exact HP.out)⟩
          case measure => simp [intOf]; omega
        · obtain rfl : j = K := by omega
          have HFn : Hid (FromAt w wr O m (into s (L.take (k + 1))) vs2) := Lib.hid (by
            have h1 := HF2.out
            rw [HK.out, List.take_length] at h1
            rw [into_succ s L k (by rw [← HNL.out]; exact hlt), ← HE.out]; exact h1)
          go_wp2_with fail
          go_roundw
          case rel => exact ⟨k + 1, vs2, by go_num, by omega, HFn⟩
          case measure => simp [intOf]; omega
    · obtain rfl : k = nL := by omega
      have hF : FromAt w wo O m (into s L) vs1 := by
        have h1 := HF.out
        rw [HNL.out, List.take_length] at h1; exact h1
      have hft : ∀ i, Foot B ve vp vi vb i → i < w.heap.size := fun i hi => HA.out.part.foot_lt hi
      have hX1 : ∀ W, Turned (Foot B ve vp vi vb) wo W → W.cell? ⟨X, 1, none⟩ = some (.pointer (some ⟨B, 0, none⟩)) := fun W ht => by
        have e1 := ht.block X (Nat.lt_of_lt_of_le HA.out.lt hF.up.size) (fun e => (HA.out.nP X e).1 rfl)
        have e2 := hF.up.cell HA.out.cells.2.1
        simp only [World.cell?] at e2 ⊢
        rw [e1]; exact e2
      have HL0 := Lib.hid (LabAt.start (m := m) (st := into s L) HI.out H0.out (HA.out.part.below hF.up))
      have hOw := hF.hO
      have hOo := hF.row.lt
      have HF3 := Lib.hid hF
      have HFT := Lib.hid hft
      have HX1 := Lib.hid hX1
      clear HF hF hft hX1
      go_wp2_with fail
      go_loopw [55] (fun i w3 => ∃ (l : Nat) (p3 : Rf.St) (vb3 : Value), i = .int .i64 l ∧ l ≤ m ∧ Hid (LabAt p p3 n m l (into s L) B ve vp vi vb vb3 wo w3)) (fun i _ => m - (intOf i).toNat)
      case atStart => exact ⟨0, p, vb, rfl, Nat.zero_le _, HL0⟩
      case round =>
        clear HL0
        obtain ⟨l, p3, vb3, rfl, hl, HLb⟩ := hrel
        rename World => w3
        by_cases hlt : l < m
        · have htO : ∀ k, O ≤ k → k < wo.heap.size → ¬ Foot B ve vp vi vb k := fun k hk _ hf => by have := HFT.out k hf; omega
          have hrowc : w3.cell? ⟨O, l, none⟩ = some (vs1.getD l undef) := by
            have e1 := HLb.out.turned.block O hOo (htO O (Nat.le_refl _) hOo)
            have e2 := HF3.out.cell hlt
            simp only [World.cell?] at e2 ⊢
            rw [e1]; exact e2
          have hol := turned_owns HLb.out.turned (HF3.out.own hlt) (fun k hk hk2 => htO k (by omega) hk2)
          have holt := (HF3.out.own hlt).lt
          obtain ⟨row, hrow⟩ : ∃ row, row = (Sg.bucket m (into s L)).getD l [] := ⟨_, rfl⟩
          rw [← hrow] at hol
          have hrl : row.length ≤ 100000000 := by
            rw [hrow]
            have h1 := Sg.bucket_le (into s L) hlt
            have h2 := into_len HR.out L
            have h3 := HNL.out
            omega
          obtain ⟨KL, hKL⟩ : ∃ KL, KL = row.length := ⟨_, rfl⟩
          obtain ⟨va, hva⟩ : ∃ va, va = vs1.getD l undef := ⟨_, rfl⟩
          rw [← hva] at hol hrowc holt
          rw [← hKL] at hol hrl
          have HROW := Lib.hid hrow
          have HKL := Lib.hid hKL
          by_cases hK0 : KL = 0
          · subst hK0
            obtain ⟨a4, c4, hv4⟩ := owns_shape' hol
            subst hv4
            have HS := Lib.hid (HLb.out.skip hlt (by rw [← HROW.out, ← HKL.out]))
            clear hol hva hrow hKL holt htO
            go_wp2_with fail
            go_roundw
            case rel => exact ⟨l + 1, p3, vb3, by go_num, by omega, HS⟩
            case measure => simp [intOf]; omega
          · obtain ⟨g4, c4, hv4, hr4, -⟩ := owns_pos hol (by omega)
            subst hv4
            have hg4 := holt g4 rfl
            have HR4 := Lib.hid hr4
            have HNX : Hid (∀ j, j < KL → ∃ x : Nat, row.getD j 0 = (x : Int) ∧ x < n) := Lib.hid (fun j hj => by
              rw [HROW.out]
              refine bucket_nat HR.out HN.out hlt ?_
              rw [← HROW.out, ← HKL.out]; exact hj)
            have qk : ((KL : Int) == 0) = false := by simp; omega
            have HFT3 : Hid (∀ i, i < wo.heap.size → O ≤ i → ¬ Foot B ve vp vi vb3 i) := Lib.hid (fun i hi hO2 hf => by
              rcases foot_new HLb.out.own hf with e | e
              · have := HFT.out i e; omega
              · omega)
            have HX3 : Hid (∀ W, Turned (Foot B ve vp vi vb3) w3 W → W.cell? ⟨X, 1, none⟩ = some (.pointer (some ⟨B, 0, none⟩))) := Lib.hid (fun W ht => HX1.out W (HLb.out.turned.trans ht (fun i hi hf => by
              rcases foot_new HLb.out.own hf with e | e
              · exact e
              · omega)))
            have HM0 := Lib.hid (MarkLoop.start HLb.out row)
            have hws := HLb.out.turned.size
            clear hol hva hrow hKL holt htO hr4 hK0
            go_wp2_with fail
            go_loopw [64] (fun i w4 => ∃ (j : Nat) (p4 : Rf.St), i = .int .i64 j ∧ j ≤ KL ∧ Hid (MarkLoop p3 n row B ve vp vi vb3 w3 j p4 w4)) (fun i _ => KL - (intOf i).toNat)
            case atStart => exact ⟨0, p3, rfl, Nat.zero_le _, HM0⟩
            case round =>
              clear HM0
              obtain ⟨j, p4, rfl, hj4, HM⟩ := hrel
              rename World => w4
              have cx := HX3.out w4 HM.out.2.2
              by_cases hlt2 : j < KL
              · obtain ⟨x, hx, hxn⟩ := HNX.out j hlt2
                have hc4 : w4.cell? ⟨g4, j, none⟩ = some (.int .i64 (x : Nat)) := by
                  have h1 := HR4.out.keep (HM.out.2.2.block g4 HR4.out.lt (HFT3.out g4 (by omega) (by omega)))
                  refine h1.cell ?_
                  rw [← hx]
                  simp [ivs, List.getD, show j < row.length by rw [← HKL.out]; exact hlt2]
                obtain ⟨b, hb⟩ : ∃ b, b = (p4.mark x).1 := ⟨_, rfl⟩
                have HMK : Hid (Calls Tryz.prog 222 #[.pointer (some ⟨B, 0, none⟩), .int .i64 (x : Nat)] w4 fun r w' => r = .returned (.tuple #[.bool b, .nilIface]) ∧ Hid (PartAt w' B ve vp vi vb3 (p4.mark x).2 ∧ Turned (Foot B ve vp vi vb3) w4 w')) := Lib.hid (by
                  refine (mark_any HM.out.2.1 HM.out.1.inv hn1 hxn).mono ?_
                  rintro r w' ⟨rfl, h1, h2, -⟩
                  exact ⟨by rw [hb], Lib.hid ⟨h1, h2⟩⟩)
                have HX := Lib.hid (And.intro hx hxn)
                clear hx hb
                go_wp2_with (go_at_call 222; refine HMK.out.mono ?_; rintro r w5 ⟨rfl, HP5⟩)
                go_roundw
                case rel => exact ⟨j + 1, _, by go_num, by omega, Lib.hid (HM.out.step (by rw [← HKL.out]; exact hlt2) HX.out.1 HX.out.2 HP5.out.1 HP5.out.2)⟩
                case measure => simp [intOf]; omega
              · obtain rfl : j = KL := by omega
                have hm4 := HM.out
                rw [HKL.out] at hm4
                have HM4 := Lib.hid hm4
                have HMD : Hid (Calls Tryz.prog 223 #[.pointer (some ⟨B, 0, none⟩)] w4 (LstDone w4 (p4.hot p4.blocks.length))) := Lib.hid (marked_all HM.out.2.1 HM.out.1.inv hn1)
                obtain ⟨K5, hK5⟩ : ∃ K5, K5 = (p4.hot p4.blocks.length).length := ⟨_, rfl⟩
                have hK5b : K5 ≤ 1000 := by rw [hK5]; have h1 := Rf.hot_len p4 p4.blocks.length; have h2 := Rf.blocks_le HM.out.1.inv; omega
                have HMD2 : Hid (Calls Tryz.prog 223 #[.pointer (some ⟨B, 0, none⟩)] w4 fun r w' => ∃ a5 c5, r = .returned (.slice a5 K5 c5) ∧ Hid (w'.ownsRow w4.heap.size 3 1 (.slice a5 K5 c5) K5 (ivs (p4.hot p4.blocks.length)) ∧ Up w4 w')) := Lib.hid (by
                  refine HMD.out.mono ?_
                  rintro r w' ⟨v, rfl, ho, hu⟩
                  rw [← hK5] at ho
                  obtain ⟨a5, c5, hv5⟩ := owns_shape' ho
                  subst hv5
                  exact ⟨a5, c5, rfl, Lib.hid ⟨ho, hu⟩⟩)
                have HK5 := Lib.hid hK5
                have hmsz := HM.out.2.2.size
                clear hK5 HMD hm4
                go_wp2_with (go_at_call 223; refine HMD2.out.mono ?_; rintro r w5 ⟨a5, c5, rfl, HO5⟩)
                have HS0 := Lib.hid (SplitLoop.start HM.out.1.inv (HM.out.2.1.below HO5.out.2) (p4.hot p4.blocks.length))
                have hsz5 := HO5.out.2.size
                have HX5 : Hid (∀ W, Turned (Foot B ve vp vi vb3) w5 W → W.cell? ⟨X, 1, none⟩ = some (.pointer (some ⟨B, 0, none⟩))) := Lib.hid (fun W ht => HX3.out W ((HM.out.2.2.trans (T := fun _ => False) ⟨HO5.out.2.os, HO5.out.2.tape, HO5.out.2.output, HO5.out.2.size, fun k hk _ => HO5.out.2.block k hk⟩ (fun _ _ h => h.elim)).trans ht (fun i _ hf => hf)))
                have HF5 : Hid (∀ i, Foot B ve vp vi vb3 i → i < w4.heap.size) := Lib.hid (fun i hi => HM.out.2.1.foot_lt hi)
                go_loopw [81] (fun i w6 => ∃ (j : Nat) (p6 : Rf.St) (vb6 : Value), i = .int .i64 j ∧ j ≤ K5 ∧ Hid (SplitLoop p4 n (p4.hot p4.blocks.length) B ve vp vi vb3 w5 j p6 vb6 w6)) (fun i _ => K5 - (intOf i).toNat)
                case atStart => exact ⟨0, p4, vb3, rfl, Nat.zero_le _, HS0⟩
                case round =>
                  clear HS0
                  obtain ⟨j5, p6, vb6, rfl, hj5, HS⟩ := hrel
                  rename World => w6
                  have cx6 := HX5.out w6 HS.out.2.2.2
                  by_cases hlt5 : j5 < K5
                  · obtain ⟨b, hb, hbn⟩ := hot_at (p4 := p4) (j := j5) (by rw [← HK5.out]; exact hlt5)
                    obtain ⟨g5, cc5, hv5, hr5, -⟩ := owns_pos HO5.out.1 (by omega)
                    simp only [Value.slice.injEq, true_and] at hv5
                    obtain ⟨rfl, -⟩ := hv5
                    have hgl := HO5.out.1.lt g5 rfl
                    have hc6 : w6.cell? ⟨g5, j5, none⟩ = some (.int .i64 (b : Nat)) := by
                      have h1 := hr5.keep (HS.out.2.2.2.block g5 hr5.lt (fun hf => by have := HF5.out g5 hf; omega))
                      refine h1.cell ?_
                      rw [← hb]
                      simp [ivs, List.getD, show j5 < (p4.hot p4.blocks.length).length by rw [← HK5.out]; exact hlt5]
                    obtain ⟨x1, hx1⟩ : ∃ x, x = (((p6.split b).1.getD 0 : Nat) : Int) := ⟨_, rfl⟩
                    obtain ⟨x2, hx2⟩ : ∃ x, x = (p6.split b).1.isSome := ⟨_, rfl⟩
                    have HSP : Hid (Calls Tryz.prog 224 #[.pointer (some ⟨B, 0, none⟩), .int .i64 (b : Nat)] w6 fun r w' => r = .returned (.tuple #[.int .i64 x1, .bool x2, .nilIface]) ∧ Hid (∃ vb7, PartAt w' B ve vp vi vb7 (p6.split b).2 ∧ (∀ k, vb7.ownBlock = some k → vb6.ownBlock = some k ∨ w6.heap.size ≤ k) ∧ Turned (Foot B ve vp vi vb6) w6 w')) := Lib.hid (by
                      refine (split_any HS.out.2.1 HS.out.1.inv hn1 (Nat.lt_of_lt_of_le hbn HS.out.1.len)).mono ?_
                      rintro r w' ⟨rfl, h1⟩
                      exact ⟨by rw [hx1, hx2], Lib.hid h1⟩)
                    have HB := Lib.hid hb
                    clear hb hx1 hx2 hr5 hbn
                    go_wp2_with (go_at_call 224; refine HSP.out.mono ?_; rintro r w7 ⟨rfl, HP7⟩)
                    go_roundw
                    case rel =>
                      obtain ⟨vb7, e1, e2, e3⟩ := HP7.out
                      exact ⟨j5 + 1, _, vb7, by go_num, by omega, Lib.hid (HS.out.step HM.out.1.inv (by rw [← HK5.out]; exact hlt5) HB.out e1 e2 e3)⟩
                    case measure => simp [intOf]; omega
                  · obtain rfl : j5 = K5 := by omega
                    have hs6 := HS.out
                    rw [HK5.out] at hs6
                    have HNX2 := Lib.hid (HLb.out.both hlt HROW.out.symm HM4.out HO5.out.2 hs6)
                    clear hs6
                    go_wp2_with fail
                    go_roundw
                    case rel => exact ⟨l + 1, p6, vb6, by go_num, by omega, HNX2⟩
                    case measure => simp [intOf]; omega
        · obtain rfl : l = m := by omega
          go_wp2_with fail
          go_end0
          have hpl := HA.out.up HF3.out.up
          have hsz := HF3.out.up.size
          have ht := HLb.out.turned
          refine ⟨rfl, ⟨ht.os.trans HF3.out.up.os, ht.tape.trans HF3.out.up.tape, ht.output.trans HF3.out.up.output, Nat.le_trans hsz ht.size, fun k hk hnF => (ht.block k (by omega) (fun hf => hnF (HA.out.inP k hf))).trans (HF3.out.up.block k hk)⟩, p3, ?_, HLb.out.inv, HLb.out.un, HLb.out.done HR.out HN.out HMM.out⟩
          exact ⟨_, _, _, _, _, _, _, _, _, _, _, (hpl.parted HLb.out.part HLb.out.own HLb.out.turned).mono (fun k hk => by
            rcases hk with e | e
            · exact .inl e
            · exact .inr (by omega))⟩

end Go.Proofs.YtkcdkfkgjjpaaaaGreatDoor
