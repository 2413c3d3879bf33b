/- The plain side of strong's play: heaps of blocks, split by the steps into a heap; what is left is the last round. Rows of integers that grow one by one, by a key: what they hold; in memory. -/
import Derived.Test.YtoaoajfjcfcmhaaGreatDoorP08
import Derived.Test.YtoaoajfjcfcmhaaGreatDoorP01
import Derived.Test.YtoaoajfjcfcmhaaGreatDoorP15
import Derived.Test.YtoaoajfjcfcmhaaGreatDoorP19
import Derived.Test.YtoaoajfjcfcmhaaGreatDoorP22
import Derived.Test.YtoaoajfjcfcmhaaGreatDoorP13
set_option linter.unusedVariables false
set_option linter.unusedSimpArgs false
set_option maxHeartbeats 16000000
set_option maxRecDepth 100000
open Go.Proofs.Tryz
namespace Go.Proofs.YtoaoajfjcfcmhaaGreatDoor.Sg
open Go.Proofs.YtoaoajfjcfcmhaaGreatDoor.Sy Go.Proofs.YtoaoajfjcfcmhaaGreatDoor.Rd
def Step (s : Lts) (x : Nat) (l : Int) (y : Nat) : Prop := ((x : Int), l, (y : Int)) ∈ s.es
def E (s : Lts) (x y : Nat) : Prop := (R s (last s)).getD x 0 = (R s (last s)).getD y 0
theorem zts {s : Lts} (hR : Right s) {x : Nat} {l t : Int} (h : ((x : Int), l, t) ∈ s.es) : ∃ y : Nat, t = (y : Int) /\ y < s.n.toNat /\ Step s x l y := by
 have := hR.ok _ h
 refine ⟨t.toNat, by simp at this; omega, by simp at this; omega, ?_⟩
 unfold Step
 rwa [Int.toNat_of_nonneg (by simp at this; omega)]
theorem Step.lt {s : Lts} (hR : Right s) {x y : Nat} {l : Int} (h : Step s x l y) : x < s.n.toNat /\ y < s.n.toNat /\ 0 <= l /\ l < s.m := by
 have := hR.ok _ h
 simp at this
 omega
theorem zrf {s : Lts} (hR : Right s) {c : List Nat} {p q : Nat} (h : meets s c p q = true) {l : Int} {z : Nat} (hz : Step s p l z) : ∃ z', Step s q l z' /\ c.getD z 0 = c.getD z' 0 := by
 simp only [meets, List.all_eq_true, List.any_eq_true, Bool.and_eq_true, beq_iff_eq] at h
 obtain ⟨y, hy, h1, h2⟩ := h (l, (z : Int)) ((zDn s p _).2 hz)
 have aa := (zDn s q y).1 hy
 obtain ⟨z', e, -, hs⟩ := zts hR aa
 simp only at h1 h2
 rw [h1] at hs
 refine ⟨z', hs, ?_⟩
 rw [e] at h2
 simpa using h2.symm
theorem zqe {s : Lts} (hR : Right s) {c : List Nat} {p q : Nat} (h : ∀ l z, Step s p l z -> ∃ z', Step s q l z' /\ c.getD z 0 = c.getD z' 0) : meets s c p q = true := by
 simp only [meets, List.all_eq_true, List.any_eq_true, Bool.and_eq_true, beq_iff_eq]
 rintro ⟨l, t⟩ hx
 obtain ⟨z, e, -, hs⟩ := zts hR ((zDn s p (l, t)).1 hx)
 obtain ⟨z', aa, hc⟩ := h l z hs
 refine ⟨(l, (z' : Int)), (zDn s q _).2 aa, rfl, ?_⟩
 simp only at e
 subst e
 simpa using hc.symm
theorem zBt {s : Lts} {x y : Nat} (hx : x < s.n.toNat) (hy : y < s.n.toNat) : E s x y ↔ E s x y /\ meets s (R s (last s)) x y = true /\ meets s (R s (last s)) y x = true := by
 have h := zez s (R s (last s)) (p := x) (q := y) (by rw [zD0]; exact hx) (by rw [zD0]; exact hy)
 have e : next s (R s (last s)) = R s (last s) := zHb s
 rw [e] at h
 exact h
theorem zyq {s : Lts} (hR : Right s) {x y z : Nat} {l : Int} (hx : x < s.n.toNat) (hy : y < s.n.toNat) (h : E s x y) (hz : Step s x l z) : ∃ z', Step s y l z' /\ E s z z' :=
 zrf hR ((zBt hx hy).1 h).2.1 hz
theorem zBi {s : Lts} {x y : Nat} (h : E s x y) : E s y x := Eq.symm h
theorem zxr {s : Lts} (hR : Right s) {P : Nat -> Nat -> Prop} (hs : ∀ x y, P x y -> P y x)
  (hP : ∀ x y, x < s.n.toNat -> y < s.n.toNat -> P x y -> ∀ l z, Step s x l z -> ∃ z', Step s y l z' /\ P z z') :
  ∀ k x y, x < s.n.toNat -> y < s.n.toNat -> P x y -> (R s k).getD x 0 = (R s k).getD y 0 := by
 intro k
 induction k with
 | zero => intro x y _ _ _; rw [zn5, zn5]
 | succ k ih =>
  intro x y hx hy aa
  have h := zez s (R s k) (p := x) (q := y) (by rw [zD0]; exact hx) (by rw [zD0]; exact hy)
  refine h.2 ⟨ih x y hx hy aa, zqe hR (fun l z hz => ?_), zqe hR (fun l z hz => ?_)⟩
  ·obtain ⟨z', h1, h2⟩ := hP x y hx hy aa l z hz
   exact ⟨z', h1, ih z z' (hz.lt hR).2.1 (h1.lt hR).2.1 h2⟩
  ·obtain ⟨z', h1, h2⟩ := hP y x hy hx (hs _ _ aa) l z hz
   exact ⟨z', h1, ih z z' (hz.lt hR).2.1 (h1.lt hR).2.1 h2⟩
def Into (s : Lts) (C : Nat -> Prop) (x : Nat) (l : Int) : Prop := ∃ z, C z /\ Step s x l z
def zCz (s : Lts) (C : Nat -> Prop) (I I' : Nat -> Nat) : Prop :=
 ∀ x y, x < s.n.toNat -> y < s.n.toNat -> (I' x = I' y ↔ I x = I y /\ ∀ l, Into s C x l ↔ Into s C y l)
structure Fit (s : Lts) (I H : Nat -> Nat) : Prop where
 fine : ∀ x y, x < s.n.toNat -> y < s.n.toNat -> I x = I y -> H x = H y
 stable : ∀ x y, x < s.n.toNat -> y < s.n.toNat -> I x = I y -> ∀ l h, Into s (fun z => H z = h) x l ↔ Into s (fun z => H z = h) y l
 coarse : ∀ x y, x < s.n.toNat -> y < s.n.toNat -> E s x y -> I x = I y
theorem zBl {s : Lts} (hR : Right s) {C : Nat -> Prop} (hC : ∀ z z', z < s.n.toNat -> z' < s.n.toNat -> E s z z' -> C z -> C z') {x y : Nat} (hx : x < s.n.toNat) (hy : y < s.n.toNat) (h : E s x y) (l : Int) :
  Into s C x l ↔ Into s C y l := by
 have key : ∀ x y, x < s.n.toNat -> y < s.n.toNat -> E s x y -> Into s C x l -> Into s C y l := by
  rintro x y hx hy h ⟨z, hz, aa⟩
  obtain ⟨z', h1, h2⟩ := zyq hR hx hy h aa
  exact ⟨z', hC z z' (aa.lt hR).2.1 (h1.lt hR).2.1 h2 hz, h1⟩
 exact ⟨key x y hx hy h, key y x hy hx (zBi h)⟩
theorem zdx {s : Lts} (hR : Right s) {C : Nat -> Prop} {I I' : Nat -> Nat} (hI : ∀ x y, x < s.n.toNat -> y < s.n.toNat -> E s x y -> I x = I y)
  (hC : ∀ z z', z < s.n.toNat -> z' < s.n.toNat -> E s z z' -> C z -> C z') (h : zCz s C I I') : ∀ x y, x < s.n.toNat -> y < s.n.toNat -> E s x y -> I' x = I' y :=
 fun x y hx hy he => (h x y hx hy).2 ⟨hI x y hx hy he, fun l => zBl hR hC hx hy he l⟩
theorem zav {s : Lts} (hR : Right s) {C D : Nat -> Prop} (h : ∀ z, z < s.n.toNat -> (C z ↔ D z)) (x : Nat) (l : Int) : Into s C x l ↔ Into s D x l :=
 ⟨fun ⟨z, hz, hs⟩ => ⟨z, (h z (hs.lt hR).2.1).1 hz, hs⟩, fun ⟨z, hz, hs⟩ => ⟨z, (h z (hs.lt hR).2.1).2 hz, hs⟩⟩
theorem zCz.congr {s : Lts} (hR : Right s) {C D : Nat -> Prop} {I I' : Nat -> Nat} (h : ∀ z, z < s.n.toNat -> (C z ↔ D z)) (hs : zCz s C I I') : zCz s D I I' := fun x y hx hy => by
 rw [hs x y hx hy]
 constructor
 ·rintro ⟨h1, h2⟩; exact ⟨h1, fun l => by rw [<- zav hR h, <- zav hR h]; exact h2 l⟩
 ·rintro ⟨h1, h2⟩; exact ⟨h1, fun l => by rw [zav hR h, zav hR h]; exact h2 l⟩
theorem Fit.begin {s : Lts} (hR : Right s) {I : Nat -> Nat} (h : zCz s (fun _ => True) (fun _ => 0) I) : Fit s I (fun _ => 0) where
 fine := fun _ _ _ _ _ => rfl
 stable := fun x y hx hy he l c => by
  have h1 := ((h x y hx hy).1 he).2 l
  by_cases hc : 0 = c
  ·rw [zav hR (D := fun _ => True) (fun z _ => by simp [hc]) x l, zav hR (D := fun _ => True) (fun z _ => by simp [hc]) y l]; exact h1
  ·rw [zav hR (D := fun _ => False) (fun z _ => by simp [hc]) x l, zav hR (D := fun _ => False) (fun z _ => by simp [hc]) y l]
   exact ⟨fun ⟨_, h, _⟩ => h.elim, fun ⟨_, h, _⟩ => h.elim⟩
 coarse := zdx hR (fun _ _ _ _ _ => rfl) (fun _ _ _ _ _ _ => trivial) h
theorem Fit.take {s : Lts} (hR : Right s) {I H I1 I2 : Nat -> Nat} {b h k : Nat} (hF : Fit s I H) (hb : ∀ x, x < s.n.toNat -> I x = b -> H x = h) (hk : ∀ x, x < s.n.toNat -> H x ≠ k) (ab : h ≠ k)
  (h1 : zCz s (fun z => I z = b) I I1) (h2 : zCz s (fun z => H z = h /\ I z ≠ b) I1 I2) : Fit s I2 (fun x => if I x = b then k else H x) where
 fine := fun x y hx hy he => by
  have e1 := ((h2 x y hx hy).1 he).1
  have e0 := ((h1 x y hx hy).1 e1).1
  show (if I x = b then k else H x) = (if I y = b then k else H y)
  rw [e0, hF.fine x y hx hy e0]
 stable := fun x y hx hy he l c => by
  have e1 := (h2 x y hx hy).1 he
  have e0 := (h1 x y hx hy).1 e1.1
  by_cases hck : c = k
  ·subst hck
   have hz : ∀ z, z < s.n.toNat -> (((if I z = b then c else H z) = c) ↔ I z = b) := fun z hz => by
    constructor
    ·intro hh
     by_cases hi : I z = b
     ·exact hi
     ·rw [if_neg hi] at hh; exact absurd hh (hk z hz)
    ·intro hi; rw [if_pos hi]
   rw [zav hR hz, zav hR hz]; exact e0.2 l
  ·by_cases hch : c = h
   ·subst hch
    have hz : ∀ z, z < s.n.toNat -> (((if I z = b then k else H z) = c) ↔ (H z = c /\ I z ≠ b)) := fun z hz => by
     by_cases hi : I z = b
     ·rw [if_pos hi]; exact ⟨fun hh => absurd hh.symm hck, fun hh => absurd hi hh.2⟩
     ·rw [if_neg hi]; exact ⟨fun hh => ⟨hh, hi⟩, fun hh => hh.1⟩
    rw [zav hR hz, zav hR hz]; exact e1.2 l
   ·have hz : ∀ z, z < s.n.toNat -> (((if I z = b then k else H z) = c) ↔ H z = c) := fun z hz => by
     by_cases hi : I z = b
     ·rw [if_pos hi]
      have := hb z hz hi
      constructor
      ·intro hh; exact absurd hh.symm hck
      ·intro hh; exact absurd (hh.symm.trans this) hch
     ·rw [if_neg hi]
    rw [zav hR hz, zav hR hz]; exact hF.stable x y hx hy e0.1 l c
 coarse := by
  have c1 := zdx hR hF.coarse (fun z z' hz aa he hi => (hF.coarse z z' hz aa he).symm.trans hi) h1
  refine zdx hR c1 (fun z z' hz aa he hi => ?_) h2
  have e0 := hF.coarse z z' hz aa he
  exact ⟨(hF.fine z z' hz aa e0).symm.trans hi.1, fun hh => hi.2 (e0.trans hh)⟩
theorem Fit.congr {s : Lts} (hR : Right s) {I H H' : Nat -> Nat} (hF : Fit s I H) (h : ∀ z, z < s.n.toNat -> H z = H' z) : Fit s I H' where
 fine := fun x y hx hy he => by rw [<- h x hx, <- h y hy]; exact hF.fine x y hx hy he
 stable := fun x y hx hy he l c => by
  rw [<- zav hR (C := fun z => H z = c) (fun z hz => by rw [h z hz]) x l, <- zav hR (C := fun z => H z = c) (fun z hz => by rw [h z hz]) y l]
  exact hF.stable x y hx hy he l c
 coarse := hF.coarse
theorem zJ9 {n nh : Nat} {H : Nat -> Nat} (h : ∀ k, k < nh -> ∃ x, x < n /\ H x = k) : nh <= n := by
 have hf : ∀ k, ∃ x, k < nh -> x < n /\ H x = k := fun k => by
  by_cases hk : k < nh
  ·obtain ⟨x, hx⟩ := h k hk; exact ⟨x, fun _ => hx⟩
  ·exact ⟨0, fun e => absurd e hk⟩
 have aa := Classical.axiomOfChoice hf
 obtain ⟨f, hf⟩ := aa
 have ab : ((List.range nh).map f).Nodup := by
  rw [List.nodup_iff_pairwise_ne, List.pairwise_map]
  refine (List.nodup_range (n := nh)).imp_of_mem ?_
  intro a c ha hc ac e
  apply ac
  rw [<- (hf a (List.mem_range.1 ha)).2, <- (hf c (List.mem_range.1 hc)).2, e]
 have := ab.length_le_of_subset (l₂ := List.range n) (by
  intro x hx
  obtain ⟨b, hb, rfl⟩ := List.mem_map.1 hx
  exact List.mem_range.2 (hf b (List.mem_range.1 hb)).1)
 simpa using this
theorem Fit.last {s : Lts} (hR : Right s) {I H : Nat -> Nat} (hF : Fit s I H) (h1 : ∀ x y, x < s.n.toNat -> y < s.n.toNat -> H x = H y -> I x = I y) {x y : Nat} (hx : x < s.n.toNat) (hy : y < s.n.toNat) : I x = I y ↔ E s x y := by
 refine ⟨fun h => ?_, hF.coarse x y hx hy⟩
 have := zxr hR (P := fun x y => x < s.n.toNat /\ y < s.n.toNat /\ I x = I y) (fun x y h => ⟨h.2.1, h.1, h.2.2.symm⟩) (fun x y hx hy h l z hz => by
  obtain ⟨z', aa, hs⟩ := (hF.stable x y hx hy h.2.2 l (H z)).1 ⟨z, rfl, hz⟩
  exact ⟨z', hs, (hz.lt hR).2.1, (hs.lt hR).2.1, (h1 z z' (hz.lt hR).2.1 (hs.lt hR).2.1 aa.symm)⟩) (Rd.last s) x y hx hy ⟨hx, hy, h⟩
 exact this
theorem zI0 {s : Lts} {c : List Int} (hl : c.length = s.n.toNat) (h : ∀ x y, x < s.n.toNat -> y < s.n.toNat -> (c.getD x 0 = c.getD y 0 ↔ E s x y)) : canon c = R s (last s) := by
 rw [<- zt7 s (last s)]
 refine zhn c (R s (last s)) (by rw [hl, zD0]) (fun i j hi hj => ?_)
 have := h i j (by omega) (by omega)
 unfold E at this
 have l1 : i < (R s (Rd.last s)).length := by rw [zD0]; omega
 have l2 : j < (R s (Rd.last s)).length := by rw [zD0]; omega
 simpa [List.getD, hi, hj, l1, l2] using this
end Go.Proofs.YtoaoajfjcfcmhaaGreatDoor.Sg
namespace Go.Proofs.YtoaoajfjcfcmhaaGreatDoor
open Go.RowKit
theorem zvh {w : World} {n : Nat} {e base : Nat} {v : Value} {xs : List Value} (h : w.ownsRow base e 1 v n xs) :
  ∃ ao cap g, v = .slice ao n cap /\ (0 < n -> ao = some ⟨g, 0, none⟩ /\ v.ownBlock = some g /\ Row w g e cap xs) := by
 rcases za4 h with ⟨rfl, h0, _⟩ | ⟨g, cap, rfl, hr, _⟩
 ·exact ⟨none, 0, 0, by rw [h0], fun hn => by omega⟩
 ·rw [Nat.mul_one] at hr
  exact ⟨_, cap, g, rfl, fun _ => ⟨rfl, rfl, hr⟩⟩
def zup (w : World) (xs : List Int) (r : Ending) (w' : World) : Prop :=
 ∃ v, r = .returned v /\ w'.ownsRow w.heap.size 3 1 v xs.length (xs.map (Value.int .i64)) /\ Up w w'
def zn0 (w : World) (l : List Nat) (n : Nat) (r : Ending) (w' : World) : Prop :=
 ∃ g, r = .returned (.slice (some ⟨g, 0, none⟩) n n) /\ Row w' g 3 n (ints l) /\ w.heap.size <= g /\ Up w w'
theorem zp9 {w : World} {B n : Nat} {ve vp vi vb : Value} {s : Rf.St} (h : zC7 w B ve vp vi vb s) (hI : Rf.Inv s n) (hn : n <= 1000) :
  Calls prog 137 #[.pointer (some ⟨B, 0, none⟩)] w (zn0 w (Cn.canon (s.inn.map Int.ofNat)) n) := by
 have ri := h.ri
 rw [hI.li] at ri
 have aa := h.box
 obtain ⟨ao, ci, gi, rfl, ab⟩ := zvh ri
 have c2 : w.cell? ⟨B, 2, none⟩ = some (.slice ao n ci) := by simp [World.cell?, aa]
 have ae : (s.inn.map Int.ofNat).length = n := by rw [List.length_map, hI.li]
 have hb : ∀ k, k < n -> (s.inn.map Int.ofNat).getD k 0 = (s.inn.getD k 0 : Nat) := by
  intro k hk
  simp [List.getD, show k < s.inn.length by rw [hI.li]; exact hk]
 have HC := zh (zj8 gi 0 n ci ao (fun h0 => (ab h0).1) (s.inn.map Int.ofNat) w ae (by omega) (by
  intro k hk
  rw [hb k hk]
  have := (hI.in1 k hk).1
  have h2 := Rf.zDo hI
  have h3 : s.inn.getD k 0 = s.I k := rfl
  exact WalkArith.wf_i64 (by omega)) (by
  intro k hk
  rw [hb k hk, Nat.zero_add]
  exact (ab (by omega)).2.2.cell (zai (by rw [hI.li]; exact hk))))
 clear h hI ae hb aa ab ri
 go_enter func137, ntmps137
 go_wp2_with (first
  | (go_at_call 173; refine (zh4 _ _).mono ?_; rintro e w' ⟨rfl, rfl⟩)
  | (go_at_call 172; refine HC.out.mono ?_; rintro e w1 ⟨rfl, ac, ad⟩))
 go_ret
 exact ⟨_, rfl, ac, by omega, ad⟩
theorem zr1 {w : World} {B n : Nat} {ve vp vi vb : Value} {s : Rf.St} (h : zC7 w B ve vp vi vb s) (hI : Rf.Inv s n) (hn : n <= 1000) :
  Calls prog 199 #[.pointer (some ⟨B, 0, none⟩)] w (zup w (s.hot s.blocks.length)) := by
 obtain ⟨i0, hi, ak, al, am⟩ := info_parts Tryz.zFf
 have an := Rf.zDo hI
 have rb := h.rb
 have ad := h.box
 obtain ⟨nb, ag⟩ := nm (s.blocks.length)
 rw [<- ag] at an rb ⊢
 have hk : ∃ ao cap g, vb = .slice ao nb cap /\ (0 < nb -> ao = some ⟨g, 0, none⟩ /\ Row w g 299 (cap * 3) (zal s.blocks)) := by
  rcases za4 rb with ⟨rfl, h0, _⟩ | ⟨g, cap, rfl, hr, _⟩
  ·exact ⟨none, 0, 0, by rw [h0], fun h => by omega⟩
  ·exact ⟨_, cap, g, rfl, fun _ => ⟨rfl, hr⟩⟩
 obtain ⟨ao, cap, gb, rfl, ah⟩ := hk
 have c3 : w.cell? ⟨B, 3, none⟩ = some (.slice ao nb cap) := by simp [World.cell?, ad]
 have HB : Hid (∀ k, k < nb -> ao = some ⟨gb, 0, none⟩ /\ w.cell? ⟨gb, k * 3, none⟩ = some (.int .i64 (s.F k : Nat)) /\ w.cell? ⟨gb, k * 3 + 1, none⟩ = some (.int .i64 (s.T k : Nat)) /\ w.cell? ⟨gb, k * 3 + 2, none⟩ = some (.int .i64 (s.M k : Nat))) := by
  intro k hk
  obtain ⟨h1, h2⟩ := ah (by omega)
  rw [ag] at hk
  exact ⟨h1, h2.cell (zau _ _ hk), h2.cell (zb1 _ _ hk), h2.cell (zb2 _ _ hk)⟩
 have aq : Hid (∀ k, (s.hot k).length <= k) := fun k => Rf.zIc s k
 clear ah rb ad h hI ag
 go_enter func199, ntmps199
 go_wp2_with (go_at_call 173; refine (zh4 _ _).mono ?_; rintro e w' ⟨rfl, rfl⟩)
 go_loopw [3, 12] (fun lv i wr => ∃ k : Nat, k <= nb /\ i = .int .i64 k /\ wr.ownsRow w.heap.size 3 1 lv (s.hot k).length ((s.hot k).map (Value.int .i64)) /\ Up w wr) (fun _ i _ => nb - (intOf i).toNat)
 case atStart => exact ⟨0, Nat.zero_le _, rfl, World.ownsRow_nil _ _ _ _, Up.refl w⟩
 case round =>
  obtain ⟨k, hk, rfl, aa, ab⟩ := hrel
  by_cases hlt : k < nb
  ·obtain ⟨rfl, x0, x1, x2⟩ := HB.out k hlt
   have y0 := ab.cell x0
   have y1 := ab.cell x1
   have y2 := ab.cell x2
   have av := ab.size
   have ai := aq.out k
   have HN : Hid (s.hot (k + 1) = if 0 < s.M k then s.hot k ++ [(k : Int)] else s.hot k) := rfl
   obtain ⟨x, hx⟩ := nm (s.M k)
   obtain ⟨l, hl⟩ := nm (s.hot k)
   rw [<- hx] at y2 HN
   rw [<- hl] at aa ai HN
   obtain ⟨so, sc, rfl⟩ := za1 aa
   obtain ⟨m, hm⟩ := nm (l.length)
   rw [<- hm] at aa ai ⊢
   have aj := zh hm
   clear hx hl hm x0 x1 x2
   by_cases hx0 : 0 < x
   ·have qx : decide ((0 : Int) < (x : Int)) = true := by simp; omega
    have e := HN.out
    rw [if_pos hx0] at e
    have HE := zh e
    have au : Hid ((s.hot (k + 1)).length = m + 1) := by rw [e, List.length_append, <- aj.out]; rfl
    clear e HN
    go_wp2_with (at_builtin; (refine wpList_append_own _ rfl _ _ 27 rfl w.heap.size 3 i0 (.int .i64 0) 1 8 underlying27 hi ak al am rfl (by decide) _ m _ rfl ((aa.alloc _).alloc _) ⟨wr.heap.size + 1, 0, none⟩ 1 1 [.int .i64 (k : Nat)] rfl rfl (by simpa using cell_one_new (wr.alloc _) _ _) (ints_oneCell .i64 [(k : Int)]) (by unfold maxLen; omega) (by omega) (by simp; omega) ?_); intro v' w2 ae ac af; clear af)
    go_roundw
    case rel => exact ⟨k + 1, by omega, by go_num, by rw [au.out, HE.out, List.map_append]; exact ae, ((ab.alloc _).alloc _).grown ac (fun g hg => (aa.lt g hg).1)⟩
    case measure => simp [intOf]; omega
   ·obtain rfl : x = 0 := by omega
    have e := HN.out
    rw [if_neg hx0] at e
    have HE := zh e
    clear e HN
    go_wp2_with fail
    go_roundw
    case rel => exact ⟨k + 1, by omega, by go_num, by rw [HE.out, <- aj.out]; exact aa.alloc _, ab.alloc _⟩
    case measure => simp [intOf]; omega
  ·obtain rfl : k = nb := by omega
   go_wp2_with fail
   go_ret
   exact ⟨_, rfl, aa, ab⟩
end Go.Proofs.YtoaoajfjcfcmhaaGreatDoor
namespace Go.Proofs.YtoaoajfjcfcmhaaGreatDoor.Sg
def bucket (m : Nat) (st : List (Int × Int)) : List (List Int) := (List.range m).map fun (l : Nat) => (st.filter fun x => x.1 == (l : Int)).map (·.2)
theorem zF2 (m : Nat) (st : List (Int × Int)) : (bucket m st).length = m := by simp [bucket]
theorem zEi {m l : Nat} (st : List (Int × Int)) (h : l < m) : (bucket m st).getD l [] = (st.filter fun x => x.1 == (l : Int)).map (·.2) := by simp [bucket, List.getD, h]
theorem zHx (m : Nat) : bucket m [] = List.replicate m [] := by
 refine List.ext_getElem (by simp [bucket]) (fun i h1 h2 => by simp [bucket])
theorem zDy {m l : Nat} {st : List (Int × Int)} (h : l < m) (y : Int) : y ∈ (bucket m st).getD l [] ↔ ((l : Int), y) ∈ st := by
 rw [zEi st h]
 simp only [List.mem_map, List.mem_filter, beq_iff_eq]
 constructor
 ·rintro ⟨⟨a, b⟩, ⟨h1, h2⟩, rfl⟩; simp only at h2; subst h2; exact h1
 ·intro h; exact ⟨_, ⟨h, rfl⟩, rfl⟩
theorem zEy {m l : Nat} (st : List (Int × Int)) (h : l < m) : ((bucket m st).getD l []).length <= st.length := by
 rw [zEi st h, List.length_map]; exact List.length_filter_le _ _
theorem zGq {m l : Nat} (st : List (Int × Int)) (y : Int) (h : l < m) : bucket m (st ++ [((l : Int), y)]) = (bucket m st).set l ((bucket m st).getD l [] ++ [y]) := by
 refine List.ext_getElem (by simp [bucket]) (fun i h1 h2 => ?_)
 have hi : i < m := by simpa [bucket] using h1
 rw [List.getElem_set]
 by_cases e : l = i
 ·subst e
  rw [if_pos rfl, zEi st h]
  simp [bucket, List.filter_append]
 ·rw [if_neg e]
  have aa : (l : Int) ≠ (i : Int) := by omega
  simp [bucket, List.filter_append, aa]
end Go.Proofs.YtoaoajfjcfcmhaaGreatDoor.Sg
namespace Go.Proofs.YtoaoajfjcfcmhaaGreatDoor
open Go.RowKit
structure Bks (base : Nat) (w : World) (vs : List Value) (rows : List (List Int)) : Prop where
 len : vs.length = rows.length
 own : ∀ i, i < rows.length -> w.ownsRow base 3 1 (vs.getD i undef) (rows.getD i []).length (ivs (rows.getD i []))
 apart : ∀ i j g, i ≠ j -> i < rows.length -> j < rows.length -> (vs.getD i undef).ownBlock = some g -> (vs.getD j undef).ownBlock ≠ some g
theorem Bks.keep {base : Nat} {w w1 : World} {vs : List Value} {rows : List (List Int)} (h : Bks base w vs rows) (hk : ∀ g, base <= g -> g < w.heap.size -> w1.heap[g]? = w.heap[g]?) : Bks base w1 vs rows :=
 ⟨h.len, fun i hi => za2 (h.own i hi) (fun g hg => hk g ((h.own i hi).lt g hg).1 ((h.own i hi).lt g hg).2), h.apart⟩
theorem Bks.up {base : Nat} {w w1 : World} {vs : List Value} {rows : List (List Int)} (h : Bks base w vs rows) (hu : Up w w1) : Bks base w1 vs rows :=
 h.keep (fun g _ hl => hu.block g hl)
theorem Bks.start (base m : Nat) (w : World) : Bks base w (List.replicate m (.slice none 0 0)) (List.replicate m []) := by
 refine ⟨by simp, fun i hi => ?_, fun i j g _ hi _ h => ?_⟩
 ·have hi' : i < m := by simpa using hi
  have e1 : (List.replicate m (Value.slice none 0 0)).getD i undef = .slice none 0 0 := by simp [List.getD, hi']
  have e2 : (List.replicate m ([] : List Int)).getD i [] = [] := by simp [List.getD, hi']
  rw [e1, e2]
  exact World.ownsRow_nil _ _ _ _
 ·have hi' : i < m := by simpa using hi
  have e1 : (List.replicate m (Value.slice none 0 0)).getD i undef = .slice none 0 0 := by simp [List.getD, hi']
  rw [e1] at h
  cases h
theorem zdf {α : Type} (l : List α) (i : Nat) (v d : α) (h : i < l.length) : (l.set i v).getD i d = v := by simp [List.getD, h]
theorem zck {α : Type} (l : List α) (i j : Nat) (v d : α) (h : i ≠ j) : (l.set i v).getD j d = l.getD j d := by simp [List.getD, List.getElem?_set_ne h]
theorem Bks.push {base i : Nat} {w w4 : World} {vs : List Value} {rows : List (List Int)} {v' : Value} {x : Int} (h : Bks base w vs rows) (hi : i < rows.length)
  (aa : w4.ownsRow base 3 1 v' ((rows.getD i []).length + 1) (ivs (rows.getD i []) ++ [.int .i64 x])) (hg : w.grownBy w4 (vs.getD i undef).ownBlock)
  (ad : v'.ownBlock = (vs.getD i undef).ownBlock \/ v'.ownBlock = some w.heap.size) : Bks base w4 (vs.set i v') (rows.set i (rows.getD i [] ++ [x])) := by
 have hl := h.len
 refine ⟨by simp [hl], fun j hj => ?_, fun j k g ab hj hk h1 h2 => ?_⟩
 ·rw [List.length_set] at hj
  by_cases e : i = j
  ·subst e
   rw [zdf _ _ _ _ (by omega), zdf _ _ _ _ hi]
   simpa [ivs] using aa
  ·rw [zck _ _ _ _ _ e, zck _ _ _ _ _ e]
   exact za2 (h.own j hj) (fun g ac => hg.block g (za3 (h.own j hj) ac) (fun e2 => h.apart i j g e hi hj e2.symm ac))
 ·rw [List.length_set] at hj hk
  have key : ∀ j, j < rows.length -> i ≠ j -> ∀ g, v'.ownBlock = some g -> (vs.getD j undef).ownBlock ≠ some g := fun j hj e g h1 h2 => by
   rcases ad with e2 | e2
   ·exact h.apart i j g e hi hj (e2 ▸ h1) h2
   ·have := za3 (h.own j hj) h2
    rw [e2] at h1
    simp only [Option.some.injEq] at h1
    omega
  by_cases ej : i = j
  ·subst ej
   rw [zdf _ _ _ _ (by omega)] at h1
   rw [zck _ _ _ _ _ ab] at h2
   exact key k hk ab g h1 h2
  ·rw [zck _ _ _ _ _ ej] at h1
   by_cases ek : i = k
   ·subst ek
    rw [zdf _ _ _ _ (by omega)] at h2
    exact key j hj ej g h2 h1
   ·rw [zck _ _ _ _ _ ek] at h2
    exact h.apart j k g ab hj hk h1 h2
end Go.Proofs.YtoaoajfjcfcmhaaGreatDoor
namespace Go.Proofs.YtoaoajfjcfcmhaaGreatDoor
open Go.RowKit Go.Sort
def zu1 (w0 w : World) (xs : List (Int × Int)) (a b : Nat) (r : Ending) (w' : World) : Prop := ∃ v, r = .returned v /\ Up w w' /\ Ls2 w0 v ((xs.drop a).take (b - a))
theorem zz5 {w0 w : World} {vo fo : Value} {n p : Nat} {xs : List (Int × Int)} {cs : List Nat} (h : RowsIn w0 vo fo n xs cs) (hu : Up w0 w) (a b : Nat) (ha : cs.getD p 0 = a) (hb : cs.getD (p + 1) 0 = b) (am : a <= b) (al : b <= xs.length) (hp : p < n) (hn : n <= 1000) (hx : xs.length <= 1000000) (hc : cs.length = n + 1) :
  Calls prog 159 #[.agg #[vo, fo], .int .i64 (p : Nat)] w (zu1 w0 w xs a b) := by
 obtain ⟨aj, gf, rfl, ab⟩ := h
 have ag : w.cell? ⟨gf, p, none⟩ = some (.int .i64 (a : Nat)) := (hu.row ab).cell (by rw [zai (by omega), ha])
 have ah : w.cell? ⟨gf, p + 1, none⟩ = some (.int .i64 (b : Nat)) := (hu.row ab).cell (by rw [zai (by omega), hb])
 have q1 : (p : Int) < ((n + 1 : Nat) : Int) - 1 := by omega
 have q2 : (p : Int) + 1 < ((n + 1 : Nat) : Int) := by omega
 have q3 : (0 : Int) <= (p : Int) + 1 := by omega
 have q4 : IntKind.i64.wrap ((p : Int) + 1) = (p : Int) + 1 := by simp [IntKind.wrap, IntKind.bits, IntKind.signed]; omega
 have q5 : ((p : Int) + 1).toNat = p + 1 := by omega
 have q6 : (a : Int) <= (b : Int) := by omega
 have q7 : (0 : Int) <= (a : Int) := by omega
 have q8 : (0 : Int) <= (b : Int) := by omega
 have q9 : (p : Int) < ((n + 1 : Nat) : Int) := by omega
 have q10 : IntKind.i64.wrap (((n + 1 : Nat) : Int) - 1) = (n : Int) := by simp [IntKind.wrap, IntKind.bits, IntKind.signed]; omega
 rcases aj with ⟨rfl, rfl⟩ | ⟨g, c, rfl, an, ao, ak⟩
 ·obtain rfl : b = 0 := by simpa using al
  obtain rfl : a = 0 := by omega
  obtain ⟨w1, aa⟩ := nm (w.alloc (.cells #[.slice none 0 0, .slice (some ⟨gf, 0, none⟩) (n + 1) (n + 1)] 188))
  have ae : w1.heap[w.heap.size]? = some (.cells #[.slice none 0 0, .slice (some ⟨gf, 0, none⟩) (n + 1) (n + 1)] 188 (0, 0)) := by rw [aa]; exact heap_alloc_new w _
  have ac : Up w w1 := by rw [aa]; exact (Up.refl w).alloc _
  obtain ⟨b0, b1⟩ := zam ae
  have k0 := ac.cell ag
  have k1 := ac.cell ah
  have ai := zh ac
  clear ab ha hb ag ah ac ae
  go_enter func159, ntmps159
  go_upto_region 1 with fail
  rw [<- aa]
  clear aa
  go_wp2_with fail
  go_quiet (fail)
  go_wp2_with fail
  go_ret
  exact ⟨_, rfl, ai.out.drewN _, ⟨none, 0, 0, 0, rfl, fun h => by simp at h, fun i hi => by simp at hi⟩⟩
 ·have q11 : (b : Int) <= (c : Int) := by omega
  obtain ⟨m, hm⟩ := nm (xs.length)
  rw [<- hm]
  obtain ⟨w1, aa⟩ := nm (w.alloc (.cells #[.slice (some ⟨g, 0, none⟩) m c, .slice (some ⟨gf, 0, none⟩) (n + 1) (n + 1)] 188))
  have ae : w1.heap[w.heap.size]? = some (.cells #[.slice (some ⟨g, 0, none⟩) m c, .slice (some ⟨gf, 0, none⟩) (n + 1) (n + 1)] 188 (0, 0)) := by rw [aa]; exact heap_alloc_new w _
  have ac : Up w w1 := by rw [aa]; exact (Up.refl w).alloc _
  obtain ⟨b0, b1⟩ := zam ae
  have k0 := ac.cell ag
  have k1 := ac.cell ah
  have ai := zh ac
  have ad := ak.part a (b - a) (by omega)
  have af : ((xs.drop a).take (b - a)).length = b - a := by rw [List.length_take, List.length_drop]; omega
  have HP : Hid (Ls2 w0 (.slice (some ⟨g, a * 2, none⟩) (b - a) (b - a)) ((xs.drop a).take (b - a))) := zh ⟨_, _, g, a * 2, by rw [af], fun _ => rfl, fun i hi => by
   have := ad i hi
   rw [Nat.zero_add] at this
   exact ⟨this.1, this.2⟩⟩
  clear ab ha hb ag ah ac ae ak ad af hm
  by_cases hEq : a = b
  ·subst hEq
   have HN : Hid ((xs.drop a).take (a - a) = []) := zh (by simp)
   go_enter func159, ntmps159
   go_upto_region 1 with fail
   rw [<- aa]
   clear aa
   go_wp2_with fail
   go_quiet (fail)
   go_wp2_with fail
   go_ret
   exact ⟨_, rfl, ai.out.drewN _, by rw [HN.out]; exact ⟨_, _, 0, 0, rfl, fun h => by simp at h, fun i hi => by simp at hi⟩⟩
  ·have q12 : (a : Int) < (b : Int) := by omega
   have q13 : 0 < b - a := by omega
   go_enter func159, ntmps159
   go_upto_region 1 with fail
   rw [<- aa]
   clear aa
   go_wp2_with fail
   go_quiet (fail)
   go_wp2_with fail
   go_ret
   exact ⟨_, rfl, ai.out.drewN _, HP.out⟩
def zBb (w0 w : World) (xs : List (Int × Int)) (r : Ending) (w' : World) : Prop := ∃ v, r = .returned v /\ Up w w' /\ Ls2 w0 v xs
theorem zw1 {w0 w : World} {B p : Nat} {s : Sy.Lts} (h : zCg w0 B s) (hu : Up w0 w) (hR : Sy.Right s) (hp : p < s.n.toNat) :
  Calls prog 197 #[.pointer (some ⟨B, 0, none⟩), .int .i64 (p : Nat)] w (zBb w0 w (Sy.backs s p)) := by
 obtain ⟨se, vo, fo, vi, fi, hb, h1, h2, h3⟩ := zKp h
 have c6 := hu.cell (hb 6 _ rfl)
 have c7 := hu.cell (hb 7 _ rfl)
 have hl : ((Sy.turned s).map sIn).length <= 1000000 := by rw [List.length_map]; have := Sy.zCo (lt := Sy.lt3r) s.es; have := hR.len; unfold Sy.turned; omega
 have aa := zz5 h3 hu _ _ (zgx kIn _ _ p (by omega)) (zgx kIn _ _ (p + 1) (by omega)) (Sy.zF5 _ _ (by omega)) (by rw [List.length_map]; exact Sy.below_le _ _ _) hp (by have := hR.n1; omega) hl (zpz _ _ _)
 unfold zu1 at aa
 rw [<- zrl hR p] at aa
 have ab := zh aa
 have ae : ∃ ao n c, vi = .slice ao n c := by
  rcases h3.all with ⟨rfl, _⟩ | ⟨g, c, rfl, _⟩ <;> exact ⟨_, _, _, rfl⟩
 obtain ⟨ao, nn, cc, rfl⟩ := ae
 obtain ⟨gf, rfl, -⟩ := h3.frm
 clear hu hb h h1 h2 h3 aa hl
 go_enter func197, ntmps197
 go_wp2_with fail
 (with_reducible refine ab.out.mono ?_)
 rintro e w1 ⟨v1, rfl, ac, ad⟩
 have HU := zh ac
 have HL := zh ad
 obtain ⟨a1, q1, g1, o1, rfl, -, -⟩ := ad
 clear ac
 go_wp2_with fail
 go_ret
 exact ⟨_, rfl, HU.out, HL.out⟩
theorem zrd (a b c : Int) (ao : Option Addr) (k cap : Nat) (w : World) : (Instr.field 24 (.agg #[.int .i64 a, .int .i64 b, .int .i64 c, .slice ao k cap]) 1).run prog w = .ok (.int .i64 b) w := by kernel_rfl
theorem zvm {w : World} {B : Nat} {s : Sy.Lts} (h : zCg w B s) :
  Calls prog 196 #[.pointer (some ⟨B, 0, none⟩)] w fun r w' => r = .returned (.int .i64 s.m) /\ Up w w' := by
 have HO := zh (zy6 h)
 clear h
 go_enter func196, ntmps196
 go_wp2_with fail
 (with_reducible refine HO.out.mono ?_)
 rintro e w1 ⟨ao, k, c, rfl, hu, -⟩
 have aa := zrd s.n s.m s.start ao k c
 go_wp2_with fail
 go_ret
 exact ⟨rfl, hu⟩
theorem zxt {w : World} {B n b : Nat} {ve vp vi vb : Value} {s : Rf.St} (h : zC7 w B ve vp vi vb s) (hI : Rf.Inv s n) (hn : n <= 1000) (hb : b < s.blocks.length) :
  Calls prog 202 #[.pointer (some ⟨B, 0, none⟩), .int .i64 b] w fun r w' => r = .returned (.int .i64 ((s.row b).getD 0 0 : Nat)) /\ Up w w' := by
 have bb := hI.b1 b hb
 have HR := zh (zoj h hI hn hb)
 obtain ⟨k, hk⟩ := nm (s.T b - s.F b)
 obtain ⟨x, hx⟩ := nm ((s.row b).getD 0 0)
 have ab : 0 < k := by omega
 have ac : (0 : Int) < (k : Int) := by omega
 rw [<- hk] at HR
 rw [<- hx]
 have HX := zh hx
 clear h hI bb hk hx
 go_enter func202, ntmps202
 go_wp2_with (go_at_call 203; refine HR.out.mono ?_; rintro e w1 ⟨ge, rfl, hc, aa⟩; (have c0 := hc 0 ab); rw [<- HX.out, Nat.add_zero] at c0; (have HU := zh aa); clear hc aa)
 go_ret
 exact ⟨rfl, HU.out⟩
theorem zBd {w : World} {B n b : Nat} {ve vp vi vb : Value} {s : Rf.St} (h : zC7 w B ve vp vi vb s) (hI : Rf.Inv s n) (hn : n <= 1000) (hb : b < s.blocks.length) :
  Calls prog 170 #[.pointer (some ⟨B, 0, none⟩), .int .i64 b] w fun r w' => r = .returned (.int .i64 ((s.T b - s.F b : Nat) : Int)) /\ Up w w' := by
 have HR := zh (zoj h hI hn hb)
 obtain ⟨k, hk⟩ := nm (s.T b - s.F b)
 rw [<- hk] at HR
 rw [<- hk]
 clear h hI hk
 go_enter func170, ntmps170
 go_wp2_with (go_at_call 203; refine HR.out.mono ?_; rintro e w1 ⟨ge, rfl, hc, aa⟩; (have HU := zh aa); clear hc aa)
 go_ret
 exact ⟨rfl, HU.out⟩
end Go.Proofs.YtoaoajfjcfcmhaaGreatDoor
namespace Go.Proofs.YtoaoajfjcfcmhaaGreatDoor.Rf
theorem zG0 (s : St) (y : Int) : ∀ k, y ∈ s.hot k ↔ ∃ b : Nat, y = (b : Int) /\ b < k /\ 0 < s.M b := by
 intro k
 induction k with
 | zero => simp [St.hot]
 | succ k ih =>
  simp only [St.hot]
  split
  ·rename_i h
   rw [List.mem_append, ih, List.mem_singleton]
   constructor
   ·rintro (⟨b, h1, h2, h3⟩ | h1)
    ·exact ⟨b, h1, by omega, h3⟩
    ·exact ⟨k, h1, by omega, h⟩
   ·rintro ⟨b, h1, h2, h3⟩
    by_cases e : b = k
    ·subst e; exact .inr h1
    ·exact .inl ⟨b, h1, by omega, h3⟩
  ·rename_i h
   rw [ih]
   constructor
   ·rintro ⟨b, h1, h2, h3⟩; exact ⟨b, h1, by omega, h3⟩
   ·rintro ⟨b, h1, h2, h3⟩
    have e : b ≠ k := fun e => h (e ▸ h3)
    exact ⟨b, h1, by omega, h3⟩
theorem zI7 (s : St) : ∀ k, (s.hot k).Nodup := by
 intro k
 induction k with
 | zero => simp [St.hot]
 | succ k ih =>
  simp only [St.hot]
  split
  ·refine List.nodup_append.2 ⟨ih, by simp, fun a ha b hb e => ?_⟩
   obtain ⟨c, h1, h2, -⟩ := (zG0 s a k).1 ha
   have := List.mem_singleton.1 hb
   omega
  ·exact ih
theorem zFt {s : St} {n x : Nat} (hI : Inv s n) (hx : x < n) (h : s.marked x = true) : ((s.I x : Nat) : Int) ∈ s.hot s.blocks.length := by
 have hi := hI.in1 x hx
 have := (zc2 s x).1 h
 exact (zG0 s _ _).2 ⟨_, rfl, hi.1, by omega⟩
theorem zFm {l : List Int} (h : l.Nodup) {j : Nat} (hj : j < l.length) : l.getD j 0 ∉ l.take j := by
 intro hm
 obtain ⟨i, hi, he⟩ := List.mem_iff_getElem.1 hm
 rw [List.length_take] at hi
 have e1 : l.getD j 0 = l[j] := by simp [List.getD, hj]
 rw [List.getElem_take, e1] at he
 exact (List.pairwise_iff_getElem.1 h) i j (by omega) hj (by omega) he
theorem zEt {l : List Int} {j : Nat} (hj : j < l.length) (y : Int) : y ∈ l.take (j + 1) ↔ y ∈ l.take j \/ y = l.getD j 0 := by
 rw [List.take_succ_eq_append_getElem hj, List.mem_append, List.mem_singleton]
 simp [List.getD, hj]
end Go.Proofs.YtoaoajfjcfcmhaaGreatDoor.Rf
namespace Go.Proofs.YtoaoajfjcfcmhaaGreatDoor
open Go.RowKit
structure zCs (w wr : World) (O m : Nat) (st : List (Int × Int)) (vs : List Value) : Prop where
 up : Up w wr
 hO : w.heap.size <= O
 row : Row wr O 27 m vs
 bks : Bks (O + 1) wr vs (Sg.bucket m st)
theorem zCs.len {w wr : World} {O m : Nat} {st : List (Int × Int)} {vs : List Value} (h : zCs w wr O m st vs) : vs.length = m := by rw [h.bks.len, Sg.zF2]
theorem zCs.ups {w wr w2 : World} {O m : Nat} {st : List (Int × Int)} {vs : List Value} (h : zCs w wr O m st vs) (hu : Up wr w2) : zCs w w2 O m st vs :=
 ⟨h.up.trans hu, h.hO, hu.row h.row, h.bks.up hu⟩
theorem zCs.start {w w1 w2 : World} {m : Nat} (h1 : Up w w1) (hr : Row w2 w1.heap.size 27 m (List.replicate m (.slice none 0 0))) (hu : Up w1 w2) : zCs w w2 w1.heap.size m [] (List.replicate m (.slice none 0 0)) :=
 ⟨h1.trans hu, h1.size, hr, by rw [Sg.zHx]; exact Bks.start _ _ _⟩
theorem zCs.cell {w wr : World} {O m l : Nat} {st : List (Int × Int)} {vs : List Value} (h : zCs w wr O m st vs) (hl : l < m) : wr.cell? ⟨O, l, none⟩ = some (vs.getD l undef) := by
 have := h.len
 exact h.row.cell (by simp [List.getD, this, hl])
theorem zCs.own {w wr : World} {O m l : Nat} {st : List (Int × Int)} {vs : List Value} (h : zCs w wr O m st vs) (hl : l < m) :
  wr.ownsRow (O + 1) 3 1 (vs.getD l undef) ((Sg.bucket m st).getD l []).length (ivs ((Sg.bucket m st).getD l [])) := h.bks.own l (by rw [Sg.zF2]; exact hl)
theorem zCs.push {w wr w2 w4 : World} {O m l : Nat} {st : List (Int × Int)} {vs : List Value} {v' : Value} {y : Int} (h : zCs w wr O m st vs) (hl : l < m) (hu : Up wr w2)
  (aa : w4.ownsRow (O + 1) 3 1 v' (((Sg.bucket m st).getD l []).length + 1) (ivs ((Sg.bucket m st).getD l []) ++ [.int .i64 y])) (hg : w2.grownBy w4 (vs.getD l undef).ownBlock)
  (ac : v'.ownBlock = (vs.getD l undef).ownBlock \/ v'.ownBlock = some w2.heap.size) : zCs w (w4.setCell ⟨O, l, none⟩ v') O m (st ++ [((l : Int), y)]) (vs.set l v') := by
 have hb := (h.bks.up hu).push (by rw [Sg.zF2]; exact hl) aa hg ac
 have ho := h.own hl
 have ab := h.row.lt
 have ad : w4.heap[O]? = wr.heap[O]? := (hg.block O (Nat.lt_of_lt_of_le ab hu.size) (fun e => by have := (ho.lt O e.symm).1; omega)).trans (hu.block O ab)
 refine ⟨?_, h.hO, (h.row.keep ad).set l v', ?_⟩
 ·have := h.hO
  exact ((h.up.trans hu).grown hg (fun k hk => by have := (ho.lt k hk).1; omega)).setCell (by simpa using this) _
 ·rw [Sg.zGq st y hl]
  exact hb.keep (fun g ae _ => Below.heap_setCell w4 ⟨O, l, none⟩ v' g (by simp only; omega))
structure zC4 (F : Nat -> Prop) (w : World) (X gB B n : Nat) (p : Rf.St) (hp : List Nat) (nh nt : Nat) (ve vp vi vb : Value) (gh gg : Nat) (vs vt : Value) (sz gz : List Int) (ts : List Value) : Prop where
 box : w.heap[X]? = some (.cells #[.pointer (some ⟨gB, 0, none⟩), .pointer (some ⟨B, 0, none⟩), .slice (some ⟨gh, 0, none⟩) n n, vs, .slice none 0 0, vt, .slice (some ⟨gg, 0, none⟩) n n] 222 (0, 0))
 part : zC7 w B ve vp vi vb p
 heap : Row w gh 3 n (ints hp)
 size : w.ownsRow 0 3 1 vs nh (ivs sz)
 took : w.ownsRow 0 27 1 vt nt ts
 gauge : Row w gg 3 n (ivs gz)
 hl : hp.length = n
 gl : gz.length = n
 inX : F X
 inH : F gh
 inG : F gg
 inS : ∀ k, vs.ownBlock = some k -> F k
 inT : ∀ k, vt.ownBlock = some k -> F k
 inP : ∀ k, zE5 B ve vp vi vb k -> F k
 nHG : gh ≠ gg
 nSH : vs.ownBlock ≠ some gh
 nSG : vs.ownBlock ≠ some gg
 nP : ∀ k, zE5 B ve vp vi vb k -> k ≠ X /\ k ≠ gh /\ k ≠ gg /\ vs.ownBlock ≠ some k /\ vt.ownBlock ≠ some k
section
variable {F : Nat -> Prop} {w w' : World} {X gB B n : Nat} {p p' : Rf.St} {hp : List Nat} {nh nt : Nat} {ve vp vi vb vb' : Value} {gh gg : Nat} {vs vt : Value} {sz gz : List Int} {ts : List Value}
theorem zC4.sl (h : zC4 F w X gB B n p hp nh nt ve vp vi vb gh gg vs vt sz gz ts) : sz.length = nh := by
 have := h.size.1; rw [zde, Nat.mul_one] at this; exact this
theorem zC4.types (h : zC4 F w X gB B n p hp nh nt ve vp vi vb gh gg vs vt sz gz ts) : X ≠ gh /\ X ≠ gg /\ vs.ownBlock ≠ some X /\ vt.ownBlock ≠ some X /\ vt.ownBlock ≠ some gh /\ vt.ownBlock ≠ some gg /\ ∀ k, vs.ownBlock = some k -> vt.ownBlock ≠ some k := by
 have hb := h.box
 have ty : ∀ {k : Nat} {a b : Array Value} {e e' : TypeId}, w.heap[k]? = some (.cells a e (0, 0)) -> w.heap[k]? = some (.cells b e' (0, 0)) -> e = e' := fun h1 h2 => by
  rw [h1] at h2
  simp only [Option.some.injEq, Obj.cells.injEq] at h2
  exact h2.2.1
 obtain ⟨ch, h1, -⟩ := h.heap
 obtain ⟨cg, h2, -⟩ := h.gauge
 refine ⟨fun e => ?_, fun e => ?_, fun e => ?_, fun e => ?_, fun e => ?_, fun e => ?_, fun k e1 e2 => ?_⟩
 ·subst e; exact absurd (ty hb h1) (by decide)
 ·subst e; exact absurd (ty hb h2) (by decide)
 ·obtain ⟨c, hc⟩ := za5 h.size e; exact absurd (ty hb hc) (by decide)
 ·obtain ⟨c, hc⟩ := za5 h.took e; exact absurd (ty hb hc) (by decide)
 ·obtain ⟨c, hc⟩ := za5 h.took e; exact absurd (ty h1 hc) (by decide)
 ·obtain ⟨c, hc⟩ := za5 h.took e; exact absurd (ty h2 hc) (by decide)
 ·obtain ⟨c, hc⟩ := za5 h.size e1
  obtain ⟨d, hd⟩ := za5 h.took e2
  exact absurd (ty hc hd) (by decide)
theorem zC4.lt (h : zC4 F w X gB B n p hp nh nt ve vp vi vb gh gg vs vt sz gz ts) : X < w.heap.size := za0 h.box
theorem zC4.cells (h : zC4 F w X gB B n p hp nh nt ve vp vi vb gh gg vs vt sz gz ts) : w.cell? ⟨X, 0, none⟩ = some (.pointer (some ⟨gB, 0, none⟩)) /\ w.cell? ⟨X, 1, none⟩ = some (.pointer (some ⟨B, 0, none⟩)) /\
  w.cell? ⟨X, 2, none⟩ = some (.slice (some ⟨gh, 0, none⟩) n n) /\ w.cell? ⟨X, 3, none⟩ = some vs /\ w.cell? ⟨X, 4, none⟩ = some (.slice none 0 0) /\ w.cell? ⟨X, 5, none⟩ = some vt /\ w.cell? ⟨X, 6, none⟩ = some (.slice (some ⟨gg, 0, none⟩) n n) := by
 have := h.box
 refine ⟨?_, ?_, ?_, ?_, ?_, ?_, ?_⟩ <;> simp [World.cell?, this]
theorem zC4.keep (h : zC4 F w X gB B n p hp nh nt ve vp vi vb gh gg vs vt sz gz ts) (hk : ∀ k, k < w.heap.size -> F k -> w'.heap[k]? = w.heap[k]?) : zC4 F w' X gB B n p hp nh nt ve vp vi vb gh gg vs vt sz gz ts :=
 ⟨(hk X h.lt h.inX).trans h.box, h.part.keep (fun k hf => hk k (h.part.zCn hf) (h.inP k hf)), h.heap.keep (hk gh h.heap.lt h.inH), za2 h.size (fun g hg => hk g (za3 h.size hg) (h.inS g hg)),
  za2 h.took (fun g hg => hk g (za3 h.took hg) (h.inT g hg)), h.gauge.keep (hk gg h.gauge.lt h.inG), h.hl, h.gl, h.inX, h.inH, h.inG, h.inS, h.inT, h.inP, h.nHG, h.nSH, h.nSG, h.nP⟩
theorem zC4.up (h : zC4 F w X gB B n p hp nh nt ve vp vi vb gh gg vs vt sz gz ts) (hu : Up w w') : zC4 F w' X gB B n p hp nh nt ve vp vi vb gh gg vs vt sz gz ts := h.keep (fun k hk _ => hu.block k hk)
theorem zC4.mono {F' : Nat -> Prop} (h : zC4 F w X gB B n p hp nh nt ve vp vi vb gh gg vs vt sz gz ts) (hF : ∀ k, F k -> F' k) : zC4 F' w X gB B n p hp nh nt ve vp vi vb gh gg vs vt sz gz ts :=
 ⟨h.box, h.part, h.heap, h.size, h.took, h.gauge, h.hl, h.gl, hF _ h.inX, hF _ h.inH, hF _ h.inG, fun k hk => hF _ (h.inS k hk), fun k hk => hF _ (h.inT k hk), fun k hk => hF _ (h.inP k hk), h.nHG, h.nSH, h.nSG, h.nP⟩
theorem zC4.parted (h : zC4 F w X gB B n p hp nh nt ve vp vi vb gh gg vs vt sz gz ts) (aa : zC7 w' B ve vp vi vb' p') (ho : ∀ k, vb'.ownBlock = some k -> vb.ownBlock = some k \/ w.heap.size <= k)
  (ht : Turned (zE5 B ve vp vi vb) w w') : zC4 (fun k => F k \/ w.heap.size <= k) w' X gB B n p' hp nh nt ve vp vi vb' gh gg vs vt sz gz ts := by
 have hf : ∀ k, zE5 B ve vp vi vb' k -> zE5 B ve vp vi vb k \/ w.heap.size <= k := fun k hk => by
  rcases hk with e | e | e | e | e
  ·exact .inl (.inl e)
  ·exact .inl (.inr (.inl e))
  ·exact .inl (.inr (.inr (.inl e)))
  ·exact .inl (.inr (.inr (.inr (.inl e))))
  ·rcases ho k e with e | e
   ·exact .inl (.inr (.inr (.inr (.inr e))))
   ·exact .inr e
 refine ⟨(ht.block X h.lt (fun e => (h.nP X e).1 rfl)).trans h.box, aa, h.heap.keep (ht.block gh h.heap.lt (fun e => (h.nP gh e).2.1 rfl)), za2 h.size (fun g hg => ht.block g (za3 h.size hg) (fun e => (h.nP g e).2.2.2.1 hg)),
  za2 h.took (fun g hg => ht.block g (za3 h.took hg) (fun e => (h.nP g e).2.2.2.2 hg)), h.gauge.keep (ht.block gg h.gauge.lt (fun e => (h.nP gg e).2.2.1 rfl)), h.hl, h.gl, .inl h.inX, .inl h.inH, .inl h.inG, fun k hk => .inl (h.inS k hk), fun k hk => .inl (h.inT k hk), fun k hk => ?_, h.nHG, h.nSH, h.nSG, fun k hk => ?_⟩
 ·rcases hf k hk with e | e
  ·exact .inl (h.inP k e)
  ·exact .inr e
 ·rcases hf k hk with e | e
  ·exact h.nP k e
  ·have l1 := h.lt
   have l2 := h.heap.lt
   have l3 := h.gauge.lt
   refine ⟨by omega, by omega, by omega, fun e2 => ?_, fun e2 => ?_⟩
   ·have := za3 h.size e2; omega
   ·have := za3 h.took e2; omega
end
def zF4 (F : Nat -> Prop) (w : World) (X gB B n : Nat) (p : Rf.St) (hp : List Nat) (nh nt : Nat) : Prop :=
 ∃ ve vp vi vb gh gg vs vt sz gz ts, zC4 F w X gB B n p hp nh nt ve vp vi vb gh gg vs vt sz gz ts
theorem zF4.up {F : Nat -> Prop} {w w' : World} {X gB B n : Nat} {p : Rf.St} {hp : List Nat} {nh nt : Nat} (h : zF4 F w X gB B n p hp nh nt) (hu : Up w w') : zF4 F w' X gB B n p hp nh nt := by
 obtain ⟨ve, vp, vi, vb, gh, gg, vs, vt, sz, gz, ts, h⟩ := h
 exact ⟨ve, vp, vi, vb, gh, gg, vs, vt, sz, gz, ts, h.up hu⟩
theorem zF4.mono {F F' : Nat -> Prop} {w : World} {X gB B n : Nat} {p : Rf.St} {hp : List Nat} {nh nt : Nat} (h : zF4 F w X gB B n p hp nh nt) (hF : ∀ k, F k -> F' k) : zF4 F' w X gB B n p hp nh nt := by
 obtain ⟨ve, vp, vi, vb, gh, gg, vs, vt, sz, gz, ts, h⟩ := h
 exact ⟨ve, vp, vi, vb, gh, gg, vs, vt, sz, gz, ts, h.mono hF⟩
end Go.Proofs.YtoaoajfjcfcmhaaGreatDoor
