/- The plain law behind the partition of package refine: a list model of its elements, places, classes and blocks, the inva. -/
import Derived.Test.YtoaoajfjcfcmhaaGreatDoorP14
import Derived.Test.YtoaoajfjcfcmhaaGreatDoorP01
set_option linter.unusedVariables false
set_option linter.unusedSimpArgs false
set_option maxHeartbeats 16000000
set_option maxRecDepth 100000
open Go.Proofs.Tryz
namespace Go.Proofs.YtoaoajfjcfcmhaaGreatDoor.Rf
structure St where
 elems : List Nat
 place : List Nat
 inn : List Nat
 blocks : List (Nat × Nat × Nat)
def St.E (s : St) (i : Nat) : Nat := s.elems.getD i 0
def St.P (s : St) (e : Nat) : Nat := s.place.getD e 0
def St.I (s : St) (e : Nat) : Nat := s.inn.getD e 0
def St.F (s : St) (b : Nat) : Nat := (s.blocks.getD b (0, 0, 0)).1
def St.T (s : St) (b : Nat) : Nat := (s.blocks.getD b (0, 0, 0)).2.1
def St.M (s : St) (b : Nat) : Nat := (s.blocks.getD b (0, 0, 0)).2.2
theorem zbj {α : Type} (l : List α) (i j : Nat) (v d : α) : (l.set i v).getD j d = if i = j /\ i < l.length then v else l.getD j d := by
 simp only [List.getD, List.getElem?_set]
 by_cases h : i = j
 ·subst h
  by_cases h2 : i < l.length
  ·simp [h2]
  ·simp [h2]
 ·simp [h]
theorem zbu {α : Type} (l : List α) (j : Nat) (v d : α) : (l ++ [v]).getD j d = if j = l.length then v else l.getD j d := by
 simp only [List.getD, List.getElem?_append]
 by_cases h : j < l.length
 ·simp [h, show ¬ j = l.length by omega]
 ·by_cases h2 : j = l.length
  ·subst h2; simp
  ·simp [h, h2, show ¬ j - l.length = 0 by omega]
def St.swap (s : St) (i k : Nat) : St :=
 { s with elems := (s.elems.set i (s.E k)).set k (s.E i), place := (s.place.set (s.E k) i).set (s.E i) k }
def St.zDd (s : St) (b : Nat) : St := { s with blocks := s.blocks.set b (s.F b, s.T b, s.M b + 1) }
def St.mark (s : St) (e : Nat) : Bool × St :=
 if s.P e < s.F (s.I e) + s.M (s.I e) then (false, s) else (true, (s.swap (s.P e) (s.F (s.I e) + s.M (s.I e))).zDd (s.I e))
def zCa (l : List Nat) (es : List Nat) (v : Nat) : List Nat := es.foldl (fun a e => a.set e v) l
def St.cut (s : St) (b lo hi lo' hi' : Nat) : St :=
 { s with blocks := s.blocks.set b (lo', hi', 0) ++ [(lo, hi, 0)], inn := zCa s.inn ((s.elems.take hi).drop lo) s.blocks.length }
def St.bare (s : St) (b : Nat) : St := { s with blocks := s.blocks.set b (s.F b, s.T b, 0) }
def St.split (s : St) (b : Nat) : Option Nat × St :=
 if s.M b = 0 \/ s.T b - s.F b - s.M b = 0 then (none, s.bare b)
 else if s.M b <= s.T b - s.F b - s.M b then (some s.blocks.length, s.cut b (s.F b) (s.F b + s.M b) (s.F b + s.M b) (s.T b))
 else (some s.blocks.length, s.cut b (s.F b + s.M b) (s.T b) (s.F b) (s.F b + s.M b))
structure Inv (s : St) (n : Nat) : Prop where
 le : s.elems.length = n
 lp : s.place.length = n
 li : s.inn.length = n
 e1 : ∀ i, i < n -> s.E i < n /\ s.P (s.E i) = i
 p1 : ∀ e, e < n -> s.P e < n /\ s.E (s.P e) = e
 in1 : ∀ e, e < n -> s.I e < s.blocks.length /\ s.F (s.I e) <= s.P e /\ s.P e < s.T (s.I e)
 b1 : ∀ b, b < s.blocks.length -> s.F b < s.T b /\ s.T b <= n /\ s.F b + s.M b <= s.T b
 in2 : ∀ b, b < s.blocks.length -> ∀ i, s.F b <= i -> i < s.T b -> s.I (s.E i) = b
def St.marked (s : St) (e : Nat) : Bool := decide (s.P e < s.F (s.I e) + s.M (s.I e))
theorem zB0 (s : St) (n i k j : Nat) (h : Inv s n) (hi : i < n) (hk : k < n) : (s.swap i k).E j = if j = k then s.E i else if j = i then s.E k else s.E j := by
 have hl := h.le
 simp only [St.swap, St.E, zbj, List.length_set, hl]
 grind
theorem zy2 (s : St) (n i k e : Nat) (h : Inv s n) (hi : i < n) (hk : k < n) : (s.swap i k).P e = if e = s.E i then k else if e = s.E k then i else s.P e := by
 have hl := h.lp
 have h1 := (h.e1 i hi).1
 have h2 := (h.e1 k hk).1
 simp only [St.swap, St.P, zbj, List.length_set, hl]
 grind
theorem zI4 {s : St} {n i j : Nat} (h : Inv s n) (hi : i < n) (hj : j < n) (e : s.E i = s.E j) : i = j := by
 rw [<- (h.e1 i hi).2, <- (h.e1 j hj).2, e]
theorem zko (s : St) (b e : Nat) : (s.zDd b).I e = s.I e := rfl
theorem zx8 (s : St) (b e : Nat) : (s.zDd b).E e = s.E e := rfl
theorem zpv (s : St) (b e : Nat) : (s.zDd b).P e = s.P e := rfl
theorem zgu (s : St) (b c : Nat) : (s.zDd b).F c = s.F c := by
 simp only [St.zDd, St.F, zbj]; split
 ·rename_i h; rw [h.1]
 ·rfl
theorem zl5 (s : St) (b c : Nat) : (s.zDd b).T c = s.T c := by
 simp only [St.zDd, St.T, zbj]; split
 ·rename_i h; rw [h.1]
 ·rfl
theorem zpt (s : St) (b c : Nat) (hb : b < s.blocks.length) : (s.zDd b).M c = if c = b then s.M b + 1 else s.M c := by
 simp only [St.zDd, St.M, zbj]
 grind
theorem zDl (s : St) (b : Nat) : (s.zDd b).blocks.length = s.blocks.length := by simp [St.zDd]
theorem zw6 {s : St} {n i k : Nat} (h : Inv s n) (hi : i < n) (hk : k < n) (hb : s.I (s.E i) = s.I (s.E k)) : Inv (s.swap i k) n := by
 have hE := fun j => zB0 s n i k j h hi hk
 have hP := fun e => zy2 s n i k e h hi hk
 have hI : ∀ e, (s.swap i k).I e = s.I e := fun _ => rfl
 have hF : ∀ e, (s.swap i k).F e = s.F e := fun _ => rfl
 have hT : ∀ e, (s.swap i k).T e = s.T e := fun _ => rfl
 have hM : ∀ e, (s.swap i k).M e = s.M e := fun _ => rfl
 have hB : (s.swap i k).blocks.length = s.blocks.length := rfl
 have ei := h.e1 i hi
 have ek := h.e1 k hk
 have i1 := h.in1 (s.E i) ei.1
 have k1 := h.in1 (s.E k) ek.1
 rw [ei.2] at i1
 rw [ek.2] at k1
 constructor
 ·simp [St.swap, h.le]
 ·simp [St.swap, h.lp]
 ·exact h.li
 ·intro j hj
  have ej := h.e1 j hj
  rw [hE, hP]
  by_cases g1 : j = k
  ·subst g1; simp [ei.1]
  ·by_cases g2 : j = i
   ·subst g2
    simp only [g1, if_false, if_true, ek.1, true_and]
    split
    ·rename_i g3; exact (zI4 h hk hi g3)
    ·rfl
   ·simp only [g1, g2, if_false, ej.1, true_and]
    rw [if_neg (fun g3 => g2 (zI4 h hj hi g3)), if_neg (fun g3 => g1 (zI4 h hj hk g3))]
    exact ej.2
 ·intro e he
  have pe := h.p1 e he
  rw [hP]
  by_cases g1 : e = s.E i
  ·subst g1; simp [hE, hk]
  ·by_cases g2 : e = s.E k
   ·subst g2
    simp only [g1, if_false, if_true, hi, true_and, hE]
    split
    ·rename_i g3; rw [g3]
    ·rfl
   ·simp only [g1, g2, if_false, pe.1, true_and, hE]
    rw [if_neg (fun g3 => g2 (by rw [<- g3]; exact pe.2.symm)), if_neg (fun g3 => g1 (by rw [<- g3]; exact pe.2.symm))]
    exact pe.2
 ·intro e he
  have oe := h.in1 e he
  rw [hI, hF, hT, hP, hB]
  refine ⟨oe.1, ?_⟩
  by_cases g1 : e = s.E i
  ·subst g1; rw [if_pos rfl, hb]; exact k1.2
  ·by_cases g2 : e = s.E k
   ·subst g2; rw [if_neg g1, if_pos rfl, <- hb]; exact i1.2
   ·rw [if_neg g1, if_neg g2]; exact oe.2
 ·exact h.b1
 ·intro b aa j ab ac
  rw [hF] at ab
  rw [hT] at ac
  rw [hI, hE]
  have tb := h.b1 b aa
  by_cases g1 : j = k
  ·subst g1; rw [if_pos rfl, hb]; exact h.in2 b aa j ab ac
  ·by_cases g2 : j = i
   ·subst g2; rw [if_neg g1, if_pos rfl, <- hb]; exact h.in2 b aa j ab ac
   ·rw [if_neg g1, if_neg g2]; exact h.in2 b aa j ab ac
theorem zrk {s : St} {n b : Nat} (h : Inv s n) (hb : b < s.blocks.length) (hm : s.F b + s.M b < s.T b) : Inv (s.zDd b) n := by
 constructor
 ·exact h.le
 ·exact h.lp
 ·exact h.li
 ·exact h.e1
 ·exact h.p1
 ·intro e he
  rw [zko, zgu, zl5, zpv, zDl]
  exact h.in1 e he
 ·intro c hc
  rw [zDl] at hc
  rw [zgu, zl5, zpt _ _ _ hb]
  have := h.b1 c hc
  split
  ·rename_i g; subst g; omega
  ·exact this
 ·intro c hc j h1 h2
  rw [zDl] at hc
  rw [zgu] at h1
  rw [zl5] at h2
  rw [zko, zx8]
  exact h.in2 c hc j h1 h2
theorem zwk {s : St} {n e : Nat} (h : Inv s n) (he : e < n) : Inv (s.mark e).2 n := by
 unfold St.mark
 split
 ·exact h
 ·rename_i hm
  have o := h.in1 e he
  have bb := h.b1 _ o.1
  have pe := h.p1 e he
  have hk : s.F (s.I e) + s.M (s.I e) < n := by omega
  have aa : s.I (s.E (s.P e)) = s.I (s.E (s.F (s.I e) + s.M (s.I e))) := by
   rw [pe.2, h.in2 (s.I e) o.1 _ (by omega) (by omega)]
  have hs := zw6 h pe.1 hk aa
  exact zrk (b := s.I e) hs o.1 (show s.F (s.I e) + s.M (s.I e) < s.T (s.I e) by omega)
theorem zch (es : List Nat) (v : Nat) : ∀ l : List Nat, (zCa l es v).length = l.length := by
 induction es with
 | nil => intro l; rfl
 | cons e es ih => intro l; simp only [zCa, List.foldl_cons]; exact (ih _).trans (List.length_set ..)
theorem zFg (es : List Nat) (v j d : Nat) : ∀ l : List Nat, (zCa l es v).getD j d = if j ∈ es /\ j < l.length then v else l.getD j d := by
 induction es with
 | nil => intro l; simp [zCa]
 | cons e es ih =>
  intro l
  have := ih (l.set e v)
  simp only [zCa, List.foldl_cons] at this ⊢
  rw [this, zbj, List.length_set]
  simp only [List.mem_cons]
  grind
theorem mem_range {s : St} {n lo hi e : Nat} (h : Inv s n) (ac : hi <= n) (he : e < n) : e ∈ (s.elems.take hi).drop lo ↔ lo <= s.P e /\ s.P e < hi := by
 have hl := h.le
 have pe := h.p1 e he
 constructor
 ·intro hm
  obtain ⟨j, hj, aa⟩ := List.mem_iff_getElem.1 hm
  simp only [List.length_drop, List.length_take] at hj
  rw [List.getElem_drop, List.getElem_take] at aa
  have ab : lo + j < n := by omega
  have hE : s.E (lo + j) = e := by
   rw [<- aa]
   simp only [St.E, List.getD]
   rw [List.getElem?_eq_getElem (by omega)]
   rfl
  have := (h.e1 (lo + j) ab).2
  rw [hE] at this
  omega
 ·intro hp
  refine List.mem_iff_getElem.2 ⟨s.P e - lo, ?_, ?_⟩
  ·simp only [List.length_drop, List.length_take]; omega
  ·rw [List.getElem_drop, List.getElem_take]
   have := pe.2
   simp only [St.E, List.getD] at this
   rw [List.getElem?_eq_getElem (by omega)] at this
   simp only [Option.getD_some] at this
   simp only [show lo + (s.P e - lo) = s.P e by omega]
   exact this
theorem zhq {s : St} {n b lo hi lo' hi' : Nat} (h : Inv s n) (hb : b < s.blocks.length) (h1 : lo < hi) (h2 : lo' < hi')
  (hc : (lo = s.F b /\ hi = lo' /\ hi' = s.T b) \/ (lo' = s.F b /\ hi' = lo /\ hi = s.T b)) : Inv (s.cut b lo hi lo' hi') n /\
  (∀ e, e < n -> (s.cut b lo hi lo' hi').I e = if lo <= s.P e /\ s.P e < hi then s.blocks.length else s.I e) := by
 have bb := h.b1 b hb
 have ac : (s.cut b lo hi lo' hi').blocks.length = s.blocks.length + 1 := by simp [St.cut]
 have aa : ∀ c, (s.cut b lo hi lo' hi').blocks.getD c (0, 0, 0) = if c = s.blocks.length then (lo, hi, 0) else if c = b then (lo', hi', 0) else s.blocks.getD c (0, 0, 0) := by
  intro c
  simp only [St.cut, zbu, zbj, List.length_set]
  grind
 have hI : ∀ e, e < n -> (s.cut b lo hi lo' hi').I e = if lo <= s.P e /\ s.P e < hi then s.blocks.length else s.I e := by
  intro e he
  have hl := h.li
  have hm := mem_range (lo := lo) (hi := hi) h (by omega) he
  simp only [St.I, St.cut, zFg, hm]
  grind
 refine ⟨?_, hI⟩
 have hE : ∀ e, (s.cut b lo hi lo' hi').E e = s.E e := fun _ => rfl
 have hP : ∀ e, (s.cut b lo hi lo' hi').P e = s.P e := fun _ => rfl
 constructor
 ·exact h.le
 ·exact h.lp
 ·simp only [St.cut, zch]; exact h.li
 ·exact h.e1
 ·exact h.p1
 ·intro e he
  have o := h.in1 e he
  rw [hI e he, hP, ac]
  simp only [St.F, St.T, aa]
  by_cases g : lo <= s.P e /\ s.P e < hi
  ·simp only [g, and_self, if_true]
   exact ⟨by omega, trivial⟩
  ·rw [if_neg g]
   have ag : s.I e ≠ s.blocks.length := by omega
   simp only [ag, if_false]
   by_cases g2 : s.I e = b
   ·simp only [g2, if_true]; rw [g2] at o; omega
   ·simp only [g2, if_false]; exact ⟨by omega, o.2⟩
 ·intro c ae
  rw [ac] at ae
  simp only [St.F, St.T, St.M, aa]
  by_cases g : c = s.blocks.length
  ·simp only [g, if_true]; omega
  ·simp only [g, if_false]
   by_cases g2 : c = b
   ·simp only [g2, if_true]; omega
   ·simp only [g2, if_false]; exact h.b1 c (by omega)
 ·intro c ae j ad ab
  rw [ac] at ae
  rw [hE]
  simp only [St.F, aa] at ad
  simp only [St.T, aa] at ab
  by_cases g : c = s.blocks.length
  ·simp only [g, if_true] at ad ab ⊢
   have ej := h.e1 j (by omega)
   rw [hI _ ej.1, ej.2, if_pos ⟨ad, ab⟩]
  ·simp only [g, if_false] at ad ab
   by_cases g2 : c = b
   ·simp only [g2, if_true] at ad ab
    have ej := h.e1 j (by omega)
    rw [hI _ ej.1, ej.2, if_neg (by omega), g2]
    exact h.in2 b hb j (by omega) (by omega)
   ·simp only [g2, if_false] at ad ab
    have af : c < s.blocks.length := by omega
    have bc := h.b1 c af
    have ah : j < n := by have h3 : j < s.T c := ab; omega
    have ej := h.e1 j ah
    have ic := h.in2 c af j ad ab
    rw [hI _ ej.1, ej.2, if_neg ?_]
    ·exact ic
    ·intro hx
     have ib := h.in2 b hb j (by omega) (by omega)
     exact g2 (ic.symm.trans ib)
theorem zq8 {s : St} {n b : Nat} (h : Inv s n) : Inv (s.bare b) n /\ (∀ c, (s.bare b).F c = s.F c) /\ (∀ c, (s.bare b).T c = s.T c) := by
 have hF : ∀ c, (s.bare b).F c = s.F c := by intro c; simp only [St.bare, St.F, zbj]; grind
 have hT : ∀ c, (s.bare b).T c = s.T c := by intro c; simp only [St.bare, St.T, zbj]; grind
 have hM : ∀ c, (s.bare b).M c <= s.M c := by intro c; simp only [St.bare, St.M, zbj]; grind
 have aa : (s.bare b).blocks.length = s.blocks.length := by simp [St.bare]
 refine ⟨⟨h.le, h.lp, h.li, h.e1, h.p1, ?_, ?_, ?_⟩, hF, hT⟩
 ·intro e he; have := h.in1 e he; rw [aa, hF, hT]; exact this
 ·intro c hc; rw [aa] at hc; have := h.b1 c hc; have := hM c; rw [hF, hT]; omega
 ·intro c hc j h1 h2; rw [aa] at hc; rw [hF] at h1; rw [hT] at h2; exact h.in2 c hc j h1 h2
theorem zsq {s : St} {n b : Nat} (h : Inv s n) (hb : b < s.blocks.length) : Inv (s.split b).2 n := by
 unfold St.split
 have bb := h.b1 b hb
 split
 ·exact (zq8 h).1
 ·split
  ·exact (zhq h hb (by omega) (by omega) (.inl ⟨rfl, rfl, rfl⟩)).1
  ·exact (zhq h hb (by omega) (by omega) (.inr ⟨rfl, rfl, rfl⟩)).1
def St.tot (s : St) : Nat -> Nat
 | 0 => 0
 | b + 1 => s.tot b + (s.T b - s.F b)
theorem zng (f : Nat -> Nat) (l : List Nat) (m : Nat) : l.countP (fun i => f i < m + 1) = l.countP (fun i => f i < m) + l.countP (fun i => f i = m) := by
 induction l with
 | nil => rfl
 | cons x l ih =>
  simp only [List.countP_cons, ih]
  by_cases h1 : f x < m
  ·have : f x < m + 1 := by omega
   have : ¬ f x = m := by omega
   simp [*]; omega
  ·by_cases h2 : f x = m
   ·simp [h2]; omega
   ·have : ¬ f x < m + 1 := by omega
    simp [*]
theorem countP_range (a b : Nat) : ∀ n, a <= b -> b <= n -> (List.range n).countP (fun i => decide (a <= i /\ i < b)) = b - a := by
 intro n
 induction n generalizing b with
 | zero => intro h1 h2; simp; omega
 | succ n ih =>
  intro h1 h2
  rw [List.range_succ, List.countP_append]
  by_cases h : b <= n
  ·rw [ih b h1 h]
   simp; omega
  ·obtain rfl : b = n + 1 := by omega
   by_cases ha : a <= n
   ·have := ih n ha (Nat.le_refl _)
    have e : (List.range n).countP (fun i => decide (a <= i /\ i < n + 1)) = (List.range n).countP (fun i => decide (a <= i /\ i < n)) := by
     apply List.countP_congr
     intro i hi
     have := List.mem_range.1 hi
     simp; omega
    rw [e, this]
    simp [ha]; omega
   ·obtain rfl : a = n + 1 := by omega
    have e : (List.range n).countP (fun i => decide (n + 1 <= i /\ i < n + 1)) = 0 := by
     rw [List.countP_eq_zero]; intro i hi; simp
    rw [e]; simp
theorem zqx {s : St} {n b : Nat} (h : Inv s n) (hb : b < s.blocks.length) : (List.range n).countP (fun i => s.I (s.E i) = b) = s.T b - s.F b := by
 have bb := h.b1 b hb
 rw [<- countP_range (s.F b) (s.T b) n (by omega) bb.2.1]
 apply List.countP_congr
 intro i hi
 have hi := List.mem_range.1 hi
 simp only [decide_eq_true_eq]
 constructor
 ·intro e
  have ei := h.e1 i hi
  have oi := h.in1 _ ei.1
  rw [ei.2, e] at oi
  exact oi.2
 ·intro hx
  exact h.in2 b hb i hx.1 hx.2
theorem zu8 {s : St} {n : Nat} (h : Inv s n) : ∀ b, b <= s.blocks.length -> s.tot b = (List.range n).countP (fun i => s.I (s.E i) < b) := by
 intro b
 induction b with
 | zero => intro _; simp [St.tot]
 | succ b ih =>
  intro hb
  rw [St.tot, ih (by omega), zng (fun i => s.I (s.E i)), zqx h (by omega)]
theorem zA2 {s : St} {n : Nat} (h : Inv s n) : s.tot s.blocks.length = n := by
 rw [zu8 h _ (Nat.le_refl _), List.countP_eq_length.2, List.length_range]
 intro i hi
 have := (h.in1 _ (h.e1 i (List.mem_range.1 hi)).1).1
 simpa using this
theorem zDo {s : St} {n : Nat} (h : Inv s n) : s.blocks.length <= n := by
 have : ∀ b, b <= s.blocks.length -> b <= s.tot b := by
  intro b
  induction b with
  | zero => intro _; simp [St.tot]
  | succ b ih => intro hb; have := ih (by omega); have := (h.b1 b (by omega)).1; rw [St.tot]; omega
 have h1 := this _ (Nat.le_refl _)
 rw [zA2 h] at h1; exact h1
def St.row (s : St) (b : Nat) : List Nat := (s.elems.take (s.T b)).drop (s.F b)
theorem zF1 {s : St} {n b : Nat} (hI : Inv s n) (hb : b < s.blocks.length) : (s.row b).length = s.T b - s.F b := by
 have := hI.b1 b hb
 simp only [St.row, List.length_drop, List.length_take, hI.le]; omega
theorem zpi {s : St} {n b j : Nat} (hI : Inv s n) (hb : b < s.blocks.length) (hj : j < (s.row b).length) : (s.row b)[j] = s.E (s.F b + j) := by
 have := hI.b1 b hb
 have hl := zF1 hI hb
 simp only [St.row, List.getElem_drop, List.getElem_take, St.E, List.getD]
 rw [List.getElem?_eq_getElem (by rw [hI.le]; omega)]
 rfl
def St.mem (s : St) (b : Nat) : List Int := ((s.row b).map Int.ofNat).mergeSort fun x y => decide (x <= y)
theorem zIl {s : St} {n b : Nat} (hI : Inv s n) (hb : b < s.blocks.length) : (s.mem b).length = s.T b - s.F b := by
 simp only [St.mem, List.length_mergeSort, List.length_map, zF1 hI hb]
theorem mem_row {s : St} {n b e : Nat} (hI : Inv s n) (hb : b < s.blocks.length) : e ∈ s.row b ↔ e < n /\ s.I e = b := by
 have bb := hI.b1 b hb
 constructor
 ·intro h
  obtain ⟨j, hj, rfl⟩ := List.mem_iff_getElem.1 h
  have hl := zF1 hI hb
  rw [zpi hI hb hj]
  exact ⟨(hI.e1 _ (by omega)).1, hI.in2 b hb _ (by omega) (by omega)⟩
 ·rintro ⟨he, hi⟩
  have := hI.in1 e he
  rw [hi] at this
  exact (mem_range hI bb.2.1 he).2 this.2
theorem zGw {s : St} {n b : Nat} {x : Int} (hI : Inv s n) (hb : b < s.blocks.length) : x ∈ s.mem b ↔ ∃ e : Nat, x = e /\ e < n /\ s.I e = b := by
 rw [St.mem, List.mem_mergeSort, List.mem_map]
 constructor
 ·rintro ⟨e, he, rfl⟩
  exact ⟨e, rfl, (mem_row hI hb).1 he⟩
 ·rintro ⟨e, rfl, h⟩
  exact ⟨e, (mem_row hI hb).2 h, rfl⟩
theorem row_nodup {s : St} {n b : Nat} (hI : Inv s n) (hb : b < s.blocks.length) : (s.row b).Nodup := by
 have bb := hI.b1 b hb
 have hl := zF1 hI hb
 refine List.pairwise_iff_getElem.2 ?_
 intro i j hi hj aa
 rw [zpi hI hb hi, zpi hI hb hj]
 intro e
 have := zI4 hI (by omega) (by omega) e
 omega
theorem mem_sorted {s : St} {n b : Nat} (hI : Inv s n) (hb : b < s.blocks.length) : (s.mem b).Pairwise (· < ·) := by
 have h1 : (s.mem b).Pairwise (fun x y => decide (x <= y) = true) := List.pairwise_mergeSort (by intro a b c; simp; omega) (by intro a b; simp; omega) _
 have h2 : (s.mem b).Nodup := by
  rw [St.mem, (List.mergeSort_perm _ _).nodup_iff, List.Nodup, List.pairwise_map]
  exact (row_nodup hI hb).imp (fun h e => h (Int.ofNat.inj e))
 exact (h1.and h2).imp (fun ⟨a, b⟩ => by simp at a; omega)
theorem zc2 (s : St) (x : Nat) : s.marked x = true ↔ s.P x < s.F (s.I x) + s.M (s.I x) := by simp [St.marked]
theorem zdo {a b : Bool} (h : a = true ↔ b = true) : a = b := by cases a <;> cases b <;> simp_all
theorem zo4 {s : St} {n e : Nat} (h : Inv s n) (he : e < n) (x : Nat) (hx : x < n) : (s.mark e).2.marked x = (decide (x = e) || s.marked x) := by
 unfold St.mark
 have oe := h.in1 e he
 have be := h.b1 _ oe.1
 have pe := h.p1 e he
 have ox := h.in1 x hx
 have px := h.p1 x hx
 split
 ·rename_i hm
  by_cases g : x = e
  ·subst g; simp [zc2, hm]
  ·simp [g]
 ·rename_i hm
  have hk : s.F (s.I e) + s.M (s.I e) < n := by omega
  have hP := zy2 s n (s.P e) (s.F (s.I e) + s.M (s.I e)) x h pe.1 hk
  have hM := zpt (s.swap (s.P e) (s.F (s.I e) + s.M (s.I e))) (s.I e) (s.I x) oe.1
  have ek := h.e1 _ hk
  have ik := h.in2 (s.I e) oe.1 (s.F (s.I e) + s.M (s.I e)) (by omega) (by omega)
  have aa : (s.swap (s.P e) (s.F (s.I e) + s.M (s.I e))).M = s.M := rfl
  rw [aa] at hM
  apply zdo
  rw [zc2, zpv, zko, zgu]
  show _ < s.F (s.I x) + St.M _ (s.I x) ↔ _
  show (s.swap _ _).P x < s.F (s.I x) + St.M _ (s.I x) ↔ _
  rw [hM, hP, pe.2]
  simp only [Bool.or_eq_true, decide_eq_true_eq, zc2]
  by_cases g : x = e
  ·subst g; simp
  ·simp only [g, if_false, false_or]
   by_cases g2 : x = s.E (s.F (s.I e) + s.M (s.I e))
   ·rw [if_pos g2]
    rw [<- g2] at ek ik
    rw [ik, if_pos rfl]
    have : s.P e ≠ s.F (s.I e) + s.M (s.I e) := by
     intro hh; rw [<- hh, pe.2] at g2; exact g g2
    omega
   ·rw [if_neg g2]
    have : s.P x ≠ s.F (s.I e) + s.M (s.I e) := by
     intro hh; rw [<- hh, px.2] at g2; exact g2 rfl
    split
    ·rename_i g3; rw [g3]; omega
    ·exact Iff.rfl
theorem zB6 (s : St) (b c : Nat) (hb : b < s.blocks.length) : (s.bare b).M c = if c = b then 0 else s.M c := by
 simp only [St.bare, St.M, zbj]; grind
theorem zpf {s : St} {n b : Nat} (h : Inv s n) (hb : b < s.blocks.length) (x : Nat) (hx : x < n) : (s.bare b).marked x = (s.marked x && decide (s.I x ≠ b)) := by
 have ox := h.in1 x hx
 apply zdo
 simp only [Bool.and_eq_true, decide_eq_true_eq, zc2]
 rw [(zq8 h).2.1]
 show s.P x < s.F (s.I x) + (s.bare b).M (s.I x) ↔ _
 rw [zB6 _ _ _ hb]
 split
 ·rename_i g; constructor
  ·intro _; omega
  ·intro hh; exact absurd g hh.2
 ·rename_i g; constructor
  ·intro hh; exact ⟨hh, g⟩
  ·intro hh; exact hh.1
theorem zll {s : St} {b lo hi lo' hi' : Nat} (hb : b < s.blocks.length) (c : Nat) : (s.cut b lo hi lo' hi').blocks.getD c (0, 0, 0) = if c = s.blocks.length then (lo, hi, 0) else if c = b then (lo', hi', 0) else s.blocks.getD c (0, 0, 0) := by
 simp only [St.cut, zbu, zbj, List.length_set]
 grind
theorem zjv {s : St} {n b lo hi lo' hi' : Nat} (h : Inv s n) (hb : b < s.blocks.length) (h1 : lo < hi) (h2 : lo' < hi')
  (hc : (lo = s.F b /\ hi = lo' /\ hi' = s.T b) \/ (lo' = s.F b /\ hi' = lo /\ hi = s.T b)) (x : Nat) (hx : x < n) : (s.cut b lo hi lo' hi').marked x = (s.marked x && decide (s.I x ≠ b)) := by
 obtain ⟨ab, hI⟩ := zhq h hb h1 h2 hc
 have ox := h.in1 x hx
 have ox2 := ab.in1 x hx
 have bb := h.b1 b hb
 have hP : (s.cut b lo hi lo' hi').P x = s.P x := rfl
 apply zdo
 simp only [Bool.and_eq_true, decide_eq_true_eq, zc2]
 by_cases g : s.I x = b
 ·have hM : (s.cut b lo hi lo' hi').M ((s.cut b lo hi lo' hi').I x) = 0 := by
   rw [hI x hx]
   simp only [St.M, zll hb]
   repeat' split
   all_goals first | rfl | (exfalso; omega) | contradiction
  rw [hM]
  constructor
  ·intro _; omega
  ·intro hh; exact absurd g hh.2
 ·have aa : ¬ (lo <= s.P x /\ s.P x < hi) := by
   intro hh
   have hp := h.p1 x hx
   have := h.in2 b hb (s.P x) (by omega) (by omega)
   rw [hp.2] at this; exact g this
  have ac : (s.cut b lo hi lo' hi').I x = s.I x := by rw [hI x hx, if_neg aa]
  rw [ac, hP]
  simp only [St.M, St.F, zll hb]
  rw [if_neg (by omega), if_neg g]
  constructor
  ·intro hh; exact ⟨hh, g⟩
  ·intro hh; exact hh.1
theorem zne {s : St} {n b : Nat} (h : Inv s n) (hb : b < s.blocks.length) (x : Nat) (hx : x < n) : (s.split b).2.marked x = (s.marked x && decide (s.I x ≠ b)) := by
 have bb := h.b1 b hb
 unfold St.split
 split
 ·exact zpf h hb x hx
 ·split
  ·exact zjv h hb (by omega) (by omega) (.inl ⟨rfl, rfl, rfl⟩) x hx
  ·exact zjv h hb (by omega) (by omega) (.inr ⟨rfl, rfl, rfl⟩) x hx
theorem zqp {s : St} {n b : Nat} (h : Inv s n) (hb : b < s.blocks.length) (hs : (s.split b).1 = none) :
  (s.split b).2.inn = s.inn /\ ∃ mv : Bool, ∀ x, x < n -> s.I x = b -> s.marked x = mv := by
 have bb := h.b1 b hb
 unfold St.split at hs ⊢
 split at hs
 ·rename_i hc
  rw [if_pos hc]
  refine ⟨rfl, decide (s.M b ≠ 0), fun x hx hi => ?_⟩
  have ox := h.in1 x hx
  apply zdo
  rw [zc2]
  rw [hi] at ox ⊢
  simp only [decide_eq_true_eq]
  omega
 ·split at hs <;> cases hs
theorem zp6 {s : St} {b lo hi lo' hi' : Nat} : (s.cut b lo hi lo' hi').blocks.length = s.blocks.length + 1 := by simp [St.cut]
structure zJt (s : St) (n b : Nat) (mv : Bool) : Prop where
 len : (s.split b).2.blocks.length = s.blocks.length + 1
 half : 2 * ((s.split b).2.T s.blocks.length - (s.split b).2.F s.blocks.length) <= s.T b - s.F b
 sum : ((s.split b).2.T s.blocks.length - (s.split b).2.F s.blocks.length) + ((s.split b).2.T b - (s.split b).2.F b) = s.T b - s.F b
 new : ∀ x, x < n -> (s.split b).2.I x = s.blocks.length -> s.marked x = mv
 old : ∀ x, x < n -> (s.split b).2.I x = b -> s.marked x = !mv
theorem zjl {s : St} {n b lo hi lo' hi' : Nat} {mv : Bool} (h : Inv s n) (hb : b < s.blocks.length) (h1 : lo < hi) (h2 : lo' < hi')
  (hc : (lo = s.F b /\ hi = lo' /\ hi' = s.T b) \/ (lo' = s.F b /\ hi' = lo /\ hi = s.T b)) (hh : 2 * (hi - lo) <= s.T b - s.F b) (hs : (s.split b).2 = s.cut b lo hi lo' hi')
  (hn : ∀ i, lo <= i -> i < hi -> decide (i < s.F b + s.M b) = mv) (ho : ∀ i, lo' <= i -> i < hi' -> decide (i < s.F b + s.M b) = !mv) : zJt s n b mv := by
 obtain ⟨ac, hI⟩ := zhq h hb h1 h2 hc
 have bb := h.b1 b hb
 have aa : ∀ x, x < n -> s.I x = b -> s.marked x = decide (s.P x < s.F b + s.M b) := by
  intro x _ hi; rw [St.marked, hi]
 have ab : ∀ x, x < n -> lo <= s.P x /\ s.P x < hi -> s.I x = b := by
  intro x hx hp
  have := h.in2 b hb (s.P x) (by omega) (by omega)
  rw [(h.p1 x hx).2] at this; exact this
 refine ⟨by rw [hs]; exact zp6, ?_, ?_, ?_, ?_⟩
 ·rw [hs]; simp only [St.T, St.F, zll hb, if_true]; exact hh
 ·rw [hs]; simp only [St.T, St.F, zll hb, if_true, show ¬ b = s.blocks.length by omega, if_false]
  have e1 : s.F b = (s.blocks.getD b (0,0,0)).1 := rfl
  have e2 : s.T b = (s.blocks.getD b (0,0,0)).2.1 := rfl
  omega
 ·intro x hx hi'
  rw [hs, hI x hx] at hi'
  have ox := h.in1 x hx
  split at hi'
  ·rename_i g
   rw [aa x hx (ab x hx g)]
   exact hn _ g.1 g.2
  ·omega
 ·intro x hx hi'
  rw [hs, hI x hx] at hi'
  have ox := h.in1 x hx
  split at hi'
  ·omega
  ·rename_i g
   rw [hi'] at ox
   rw [aa x hx hi']
   exact ho _ (by omega) (by omega)
theorem zqs {s : St} {n b k : Nat} (h : Inv s n) (hb : b < s.blocks.length) (hs : (s.split b).1 = some k) : k = s.blocks.length /\ ∃ mv : Bool, zJt s n b mv := by
 have bb := h.b1 b hb
 by_cases hc : s.M b = 0 \/ s.T b - s.F b - s.M b = 0
 ·unfold St.split at hs; rw [if_pos hc] at hs; cases hs
 ·by_cases hd : s.M b <= s.T b - s.F b - s.M b
  ·have e : s.split b = (some s.blocks.length, s.cut b (s.F b) (s.F b + s.M b) (s.F b + s.M b) (s.T b)) := by unfold St.split; rw [if_neg hc, if_pos hd]
   refine ⟨by rw [e] at hs; exact (Option.some.inj hs).symm, true, zjl (lo := s.F b) (hi := s.F b + s.M b) (lo' := s.F b + s.M b) (hi' := s.T b) h hb (by omega) (by omega) (.inl ⟨rfl, rfl, rfl⟩) (by omega) (by rw [e]) ?_ ?_⟩
   ·intro i h1 h2; simp; omega
   ·intro i h1 h2; simp; omega
  ·have e : s.split b = (some s.blocks.length, s.cut b (s.F b + s.M b) (s.T b) (s.F b) (s.F b + s.M b)) := by unfold St.split; rw [if_neg hc, if_neg hd]
   refine ⟨by rw [e] at hs; exact (Option.some.inj hs).symm, false, zjl (lo := s.F b + s.M b) (hi := s.T b) (lo' := s.F b) (hi' := s.F b + s.M b) h hb (by omega) (by omega) (.inr ⟨rfl, rfl, rfl⟩) (by omega) (by rw [e]) ?_ ?_⟩
   ·intro i h1 h2; simp; omega
   ·intro i h1 h2; simp; omega
def St.marks (s : St) (n : Nat) : List Bool := (List.range n).map s.marked
theorem zab (s : St) (n : Nat) : (s.marks n).length = n := by simp [St.marks]
def zFv (inn : List Nat) (b : Nat) (q : List Nat × List Nat) (e : Nat) : List Nat × List Nat :=
 if inn.getD e 0 = b then (q.1 ++ [e], q.2.set e q.1.length) else q
def inner (inn : List Nat) (b k : Nat) (q : List Nat × List Nat) : List Nat × List Nat := (List.range k).foldl (zFv inn b) q
def outer (inn : List Nat) (n : Nat) : Nat -> (List Nat × List Nat) × List (Nat × Nat × Nat)
 | 0 => (([], List.replicate n 0), [])
 | b + 1 => (inner inn b n (outer inn n b).1, (outer inn n b).2 ++ [((outer inn n b).1.1.length, (inner inn b n (outer inn n b).1).1.length, 0)])
theorem zDj (inn : List Nat) (b k : Nat) (q : List Nat × List Nat) : inner inn b (k + 1) q = zFv inn b (inner inn b k q) k := by
 simp [inner, List.range_succ, List.foldl_append]
theorem zGg (inn : List Nat) (b : Nat) (q : List Nat × List Nat) : ∀ k, (inner inn b k q).2.length = q.2.length /\ (inner inn b k q).1.length <= q.1.length + k := by
 intro k
 induction k with
 | zero => exact ⟨rfl, Nat.le_refl _⟩
 | succ k ih =>
  rw [zDj]
  unfold zFv
  split
  ·simp only [List.length_set, List.length_append, List.length_cons, List.length_nil]; exact ⟨ih.1, by omega⟩
  ·exact ⟨ih.1, by omega⟩
theorem zCw (inn : List Nat) (n : Nat) : ∀ b, (outer inn n b).2.length = b := by
 intro b
 induction b with
 | zero => rfl
 | succ b ih => simp [outer, ih]
theorem zFd (inn : List Nat) (n : Nat) : ∀ b, (outer inn n b).1.2.length = n := by
 intro b
 induction b with
 | zero => simp [outer]
 | succ b ih => simp only [outer]; rw [(zGg _ _ _ _).1, ih]
structure Mid (inn : List Nat) (n b k : Nat) (q : List Nat × List Nat) : Prop where
 lp : q.2.length = n
 e1 : ∀ i, i < q.1.length -> q.1.getD i 0 < n /\ q.2.getD (q.1.getD i 0) 0 = i /\ (inn.getD (q.1.getD i 0) 0 < b \/ inn.getD (q.1.getD i 0) 0 = b /\ q.1.getD i 0 < k)
 p1 : ∀ e, e < n -> (inn.getD e 0 < b \/ inn.getD e 0 = b /\ e < k) -> q.2.getD e 0 < q.1.length /\ q.1.getD (q.2.getD e 0) 0 = e
theorem zm1 (l t : List Nat) (j : Nat) (h : j < l.length) : (l ++ t).getD j 0 = l.getD j 0 := by
 simp [List.getD, List.getElem?_append, h]
theorem zq7 (l : List Nat) (v j : Nat) : (l ++ [v]).getD j 0 = if j = l.length then v else l.getD j 0 := zbu l j v 0
theorem Mid.step {inn : List Nat} {n b k : Nat} {q : List Nat × List Nat} (h : Mid inn n b k q) (hk : k < n) : Mid inn n b (k + 1) (zFv inn b q k) := by
 unfold zFv
 split
 ·rename_i hb
  have aa : ∀ i, i < q.1.length -> q.1.getD i 0 ≠ k := by
   intro i hi e
   have := (h.e1 i hi).2.2
   rw [e, hb] at this
   omega
  constructor
  ·simp [h.lp]
  ·intro i hi
   simp only [List.length_append, List.length_cons, List.length_nil] at hi
   simp only [zq7, zbj, h.lp]
   by_cases g : i = q.1.length
   ·simp only [g, if_true]
    refine ⟨hk, by simp [hk], .inr ⟨hb, by omega⟩⟩
   ·simp only [g, if_false]
    have := h.e1 i (by omega)
    have hf := aa i (by omega)
    refine ⟨this.1, ?_, by omega⟩
    rw [if_neg (by intro e; exact hf e.1.symm)]
    exact this.2.1
  ·intro e he hc
   simp only [List.length_append, List.length_cons, List.length_nil, zq7, zbj, h.lp]
   by_cases g : k = e
   ·subst g; simp [hk]
   ·have := h.p1 e he (by omega)
    rw [if_neg (by intro x; exact g x.1)]
    refine ⟨by omega, ?_⟩
    rw [if_neg (by omega)]
    exact this.2
 ·rename_i hb
  constructor
  ·exact h.lp
  ·intro i hi
   have := h.e1 i hi
   exact ⟨this.1, this.2.1, by omega⟩
  ·intro e he hc
   refine h.p1 e he ?_
   rcases hc with hc | ⟨hc, ab⟩
   ·exact .inl hc
   ·right
    refine ⟨hc, ?_⟩
    rcases Nat.lt_or_ge e k with g | g
    ·exact g
    ·have : e = k := by omega
     subst this; exact absurd hc hb
theorem Mid.inner {inn : List Nat} {n b : Nat} {q : List Nat × List Nat} (h : Mid inn n b 0 q) : ∀ k, k <= n -> Mid inn n b k (inner inn b k q) := by
 intro k
 induction k with
 | zero => intro _; exact h
 | succ k ih => intro hk; rw [zDj]; exact (ih (by omega)).step (by omega)
theorem Mid.next {inn : List Nat} {n b : Nat} {q : List Nat × List Nat} (h : Mid inn n b n q) : Mid inn n (b + 1) 0 q := by
 refine ⟨h.lp, fun i hi => ?_, fun e he hc => h.p1 e he (by omega)⟩
 have := h.e1 i hi
 exact ⟨this.1, this.2.1, by omega⟩
theorem zf9 (inn : List Nat) (n : Nat) : ∀ b, Mid inn n b 0 (outer inn n b).1 := by
 intro b
 induction b with
 | zero =>
  refine ⟨by simp [outer], fun i hi => ?_, fun e he hc => ?_⟩
  ·simp [outer] at hi
  ·omega
 | succ b ih => exact (ih.inner n (Nat.le_refl _)).next
theorem zv0 (inn : List Nat) (b : Nat) (q : List Nat × List Nat) : ∀ k, ∃ t, (inner inn b k q).1 = q.1 ++ t := by
 intro k
 induction k with
 | zero => exact ⟨[], by simp [inner]⟩
 | succ k ih =>
  obtain ⟨t, ht⟩ := ih
  rw [zDj]
  unfold zFv
  split
  ·exact ⟨t ++ [k], by simp [ht]⟩
  ·exact ⟨t, ht⟩
theorem zcu (inn : List Nat) (n b : Nat) : ∀ c, b <= c -> ∃ t, (outer inn n c).1.1 = (outer inn n b).1.1 ++ t := by
  intro c
  induction c with
  | zero => intro h; obtain rfl : b = 0 := by omega
            exact ⟨[], by simp⟩
  | succ c ih =>
    intro h
    by_cases g : b = c + 1
    · subst g; exact ⟨[], by simp⟩
    · obtain ⟨t, ht⟩ := ih (by omega)
      obtain ⟨u, hu⟩ := zv0 inn c (outer inn n c).1 n
      exact ⟨t ++ u, by simp [outer, hu, ht]⟩
theorem zE4 (inn : List Nat) (n b : Nat) : ∀ c, b < c -> (outer inn n c).2.getD b (0, 0, 0) = ((outer inn n b).1.1.length, (outer inn n (b + 1)).1.1.length, 0) := by
 intro c
 induction c with
 | zero => intro h; omega
 | succ c ih =>
  intro h
  simp only [outer, zbu, zCw]
  by_cases g : b = c
  ·subst g; simp [outer]
  ·rw [if_neg g, ih (by omega)]
   simp [outer]
def zEv (l : List Int) : St :=
 { elems := (outer (Cn.canon l) l.length (Cn.seen l).length).1.1, place := (outer (Cn.canon l) l.length (Cn.seen l).length).1.2, inn := Cn.canon l, blocks := (outer (Cn.canon l) l.length (Cn.seen l).length).2 }
theorem stand (inn : List Nat) (n m c e : Nat) (hc : c < m) (he : e < n) (ae : inn.getD e 0 = c) :
  (outer inn n c).1.1.length <= (outer inn n m).1.2.getD e 0 /\ (outer inn n m).1.2.getD e 0 < (outer inn n (c + 1)).1.1.length := by
 have hm := zf9 inn n m
 have h1 := zf9 inn n c
 have h2 := zf9 inn n (c + 1)
 have hp := hm.p1 e he (by omega)
 obtain ⟨t1, ac⟩ := zcu inn n c m (by omega)
 obtain ⟨t2, aa⟩ := zcu inn n (c + 1) m (by omega)
 constructor
 ·rcases Nat.lt_or_ge ((outer inn n m).1.2.getD e 0) (outer inn n c).1.1.length with g | g
  ·exfalso
   have := (h1.e1 _ g).2.2
   have hx : (outer inn n c).1.1.getD ((outer inn n m).1.2.getD e 0) 0 = e := by
    have h3 := hp.2
    rw [ac, zm1 _ _ _ g] at h3
    exact h3
   rw [hx] at this
   omega
  ·exact g
 ·have ab := h2.p1 e he (by omega)
  have hx : (outer inn n m).1.1.getD ((outer inn n (c + 1)).1.2.getD e 0) 0 = e := by
   have h3 := ab.2
   rw [aa, zm1 _ _ _ ab.1]
   exact h3
  have ad : (outer inn n (c + 1)).1.1.length <= (outer inn n m).1.1.length := by rw [aa]; simp
  have := (hm.e1 ((outer inn n (c + 1)).1.2.getD e 0) (by omega)).2.1
  rw [hx] at this
  omega
theorem zH8 (l : List Int) : Inv (zEv l) l.length := by
 have hm := zf9 (Cn.canon l) l.length (Cn.seen l).length
 have ab : ∀ e, e < l.length -> (Cn.canon l).getD e 0 < (Cn.seen l).length := fun e he => Cn.zEj l e he
 have aa : (outer (Cn.canon l) l.length (Cn.seen l).length).1.1.length = l.length := by
  have ac : (outer (Cn.canon l) l.length (Cn.seen l).length).1.1.Perm (List.range l.length) := by
   refine (List.perm_ext_iff_of_nodup ?_ List.nodup_range).2 ?_
   ·refine List.pairwise_iff_getElem.2 ?_
    intro a b af ag al ah
    have ha := (hm.e1 a af).2.1
    have hb := (hm.e1 b ag).2.1
    have ai : (outer (Cn.canon l) l.length (Cn.seen l).length).1.1.getD a 0 = (outer (Cn.canon l) l.length (Cn.seen l).length).1.1[a] := by simp [List.getD, af]
    have aj : (outer (Cn.canon l) l.length (Cn.seen l).length).1.1.getD b 0 = (outer (Cn.canon l) l.length (Cn.seen l).length).1.1[b] := by simp [List.getD, ag]
    rw [ai, ah, <- aj, hb] at ha
    omega
   ·intro e
    rw [List.mem_range]
    constructor
    ·intro ad
     obtain ⟨i, hi, rfl⟩ := List.mem_iff_getElem.1 ad
     have := (hm.e1 i hi).1
     simpa [List.getD, hi] using this
    ·intro he
     have := hm.p1 e he (.inl (ab e he))
     obtain ⟨j, hj⟩ := nm ((outer (Cn.canon l) l.length (Cn.seen l).length).1.2.getD e 0)
     rw [<- hj] at this
     refine List.mem_iff_getElem.2 ⟨j, this.1, ?_⟩
     have h2 := this.2
     simp only [List.getD, List.getElem?_eq_getElem this.1, Option.getD_some] at h2
     exact h2
  rw [ac.length_eq, List.length_range]
 have hF : ∀ c, c < (Cn.seen l).length -> (zEv l).F c = (outer (Cn.canon l) l.length c).1.1.length := by
  intro c hc; simp only [St.F, zEv, zE4 _ _ _ _ hc]
 have hT : ∀ c, c < (Cn.seen l).length -> (zEv l).T c = (outer (Cn.canon l) l.length (c + 1)).1.1.length := by
  intro c hc; simp only [St.T, zEv, zE4 _ _ _ _ hc]
 have hM : ∀ c, c < (Cn.seen l).length -> (zEv l).M c = 0 := by
  intro c hc; simp only [St.M, zEv, zE4 _ _ _ _ hc]
 have hB : (zEv l).blocks.length = (Cn.seen l).length := zCw _ _ _
 constructor
 ·exact aa
 ·exact hm.lp
 ·exact Cn.zC8 l
 ·intro i hi
  have := hm.e1 i (by rw [aa]; exact hi)
  exact ⟨this.1, this.2.1⟩
 ·intro e he
  have := hm.p1 e he (.inl (ab e he))
  refine ⟨?_, this.2⟩
  have h1 := this.1
  rw [aa] at h1
  exact h1
 ·intro e he
  have hc := ab e he
  have st := stand (Cn.canon l) l.length (Cn.seen l).length _ e hc he rfl
  rw [hB]
  refine ⟨hc, ?_, ?_⟩
  ·show (zEv l).F ((Cn.canon l).getD e 0) <= _; rw [hF _ hc]; exact st.1
  ·show _ < (zEv l).T ((Cn.canon l).getD e 0); rw [hT _ hc]; exact st.2
 ·intro c hc
  rw [hB] at hc
  rw [hF _ hc, hT _ hc, hM _ hc]
  obtain ⟨k, hk, ak⟩ := Cn.zFr l c hc
  have st := stand (Cn.canon l) l.length (Cn.seen l).length c k hc hk ak
  obtain ⟨t2, ae⟩ := zcu (Cn.canon l) l.length (c + 1) (Cn.seen l).length (by omega)
  have h3 : (outer (Cn.canon l) l.length (c + 1)).1.1.length <= l.length := by have h4 := congrArg List.length ae; rw [aa, List.length_append] at h4; omega
  omega
 ·intro c hc i h1 h2
  rw [hB] at hc
  rw [hF _ hc] at h1
  rw [hT _ hc] at h2
  obtain ⟨t2, ae⟩ := zcu (Cn.canon l) l.length (c + 1) (Cn.seen l).length (by omega)
  have h3 : (outer (Cn.canon l) l.length (c + 1)).1.1.length <= l.length := by have h4 := congrArg List.length ae; rw [aa, List.length_append] at h4; omega
  have hi : i < l.length := by omega
  have he := hm.e1 i (by rw [aa]; exact hi)
  have st := stand (Cn.canon l) l.length (Cn.seen l).length _ _ (ab _ he.1) he.1 rfl
  rw [he.2.1] at st
  have hI : (zEv l).I ((zEv l).E i) = (Cn.canon l).getD ((outer (Cn.canon l) l.length (Cn.seen l).length).1.1.getD i 0) 0 := rfl
  rw [hI]
  generalize hd : (Cn.canon l).getD ((outer (Cn.canon l) l.length (Cn.seen l).length).1.1.getD i 0) 0 = d at st
  rcases Nat.lt_trichotomy d c with g | g | g
  ·obtain ⟨t, ht⟩ := zcu (Cn.canon l) l.length (d + 1) c (by omega)
   have : (outer (Cn.canon l) l.length (d + 1)).1.1.length <= (outer (Cn.canon l) l.length c).1.1.length := by rw [ht]; simp
   omega
  ·exact g
  ·obtain ⟨t, ht⟩ := zcu (Cn.canon l) l.length (c + 1) d (by omega)
   have : (outer (Cn.canon l) l.length (c + 1)).1.1.length <= (outer (Cn.canon l) l.length d).1.1.length := by rw [ht]; simp
   omega
theorem zHh (l : List Int) (b : Nat) (h : b <= (Cn.seen l).length) : (outer (Cn.canon l) l.length b).1.1.length <= l.length := by
 obtain ⟨t, ht⟩ := zcu (Cn.canon l) l.length b _ h
 have h1 := (zH8 l).le
 have h2 := congrArg List.length ht
 rw [List.length_append] at h2
 have h3 : (outer (Cn.canon l) l.length (Cn.seen l).length).1.1.length = l.length := h1
 omega
theorem zqz (inn : List Nat) (b : Nat) (q : List Nat × List Nat) (k : Nat) : ∀ c, k <= c -> ∃ t, (inner inn b c q).1 = (inner inn b k q).1 ++ t := by
  intro c
  induction c with
  | zero => intro h; obtain rfl : k = 0 := by omega
            exact ⟨[], by simp⟩
  | succ c ih =>
    intro h
    by_cases g : k = c + 1
    · subst g; exact ⟨[], by simp⟩
    · obtain ⟨t, ht⟩ := ih (by omega)
      rw [zDj]
      unfold zFv
      split
      · exact ⟨t ++ [c], by simp [ht]⟩
      · exact ⟨t, ht⟩
theorem zHa (l : List Int) (b k : Nat) (h : b < (Cn.seen l).length) (hk : k <= l.length) : (inner (Cn.canon l) b k (outer (Cn.canon l) l.length b).1).1.length <= l.length := by
 obtain ⟨t, ht⟩ := zqz (Cn.canon l) b (outer (Cn.canon l) l.length b).1 k l.length hk
 have h1 := zHh l (b + 1) h
 have h2 := congrArg List.length ht
 rw [List.length_append] at h2
 have h3 : (outer (Cn.canon l) l.length (b + 1)).1.1 = (inner (Cn.canon l) b l.length (outer (Cn.canon l) l.length b).1).1 := rfl
 rw [h3] at h1
 omega
def St.hot (s : St) : Nat -> List Int
 | 0 => []
 | b + 1 => if 0 < s.M b then s.hot b ++ [(b : Int)] else s.hot b
theorem zIc (s : St) : ∀ b, (s.hot b).length <= b := by
 intro b
 induction b with
 | zero => simp [St.hot]
 | succ b ih =>
  simp only [St.hot]
  split
  ·simp; omega
  ·omega
theorem zz6 {a b : List Nat} (hl : a.length = b.length) (h : ∀ x, x < a.length -> a.getD x 0 = b.getD x 0) : a = b := by
 apply List.ext_getElem hl
 intro i h1 h2
 have := h i h1
 simpa [List.getD, h1, h2] using this
theorem zrp (n : Nat) : (zEv (List.replicate n 0)).blocks.length = if 0 < n then 1 else 0 := by
 have hB : (zEv (List.replicate n 0)).blocks.length = (Cn.seen (List.replicate n 0)).length := zCw _ _ _
 rw [hB]
 have : ∀ k, Cn.seen (List.replicate k 0) = if 0 < k then [0] else [] := by
  intro k
  induction k with
  | zero => rfl
  | succ k ih =>
   rw [List.replicate_succ', Cn.zC9, ih]
   by_cases h : 0 < k
   ·simp [h]
   ·simp [h]
 rw [this]; split <;> rfl
theorem zK5 (n : Nat) : (zEv (List.replicate n 0)).inn = List.replicate n 0 := by
 apply zz6
 ·show (Cn.canon _).length = _; rw [Cn.zC8]; simp
 ·intro x hx
  have aa : x < n := by have : x < (Cn.canon (List.replicate n 0)).length := hx; rw [Cn.zC8] at this; simpa using this
  have h1 := (zH8 (List.replicate n 0)).in1 x (by simpa using aa)
  rw [zrp] at h1
  have h2 : (zEv (List.replicate n 0)).I x = 0 := by
   have := h1.1; split at this <;> omega
  show (zEv (List.replicate n 0)).I x = _
  rw [h2]; simp [List.getD, aa]
theorem zpx (s : St) (e : Nat) : (s.mark e).2.inn = s.inn /\ (s.mark e).2.blocks.length = s.blocks.length := by
 unfold St.mark
 split
 ·exact ⟨rfl, rfl⟩
 ·exact ⟨rfl, zDl _ _⟩
theorem zpl {s : St} {n b : Nat} (h : Inv s n) (hb : b < s.blocks.length) {x : Nat} (hx : x < n) : (s.split b).2.I x = s.I x \/ (s.I x = b /\ (s.split b).2.I x = s.blocks.length) := by
  have bb := h.b1 b hb
  by_cases hc : s.M b = 0 \/ s.T b - s.F b - s.M b = 0
  · left; unfold St.split; rw [if_pos hc]; rfl
  · have key : ∀ lo hi lo' hi', lo < hi -> lo' < hi' -> ((lo = s.F b /\ hi = lo' /\ hi' = s.T b) \/ (lo' = s.F b /\ hi' = lo /\ hi = s.T b)) -> (s.split b).2 = s.cut b lo hi lo' hi' ->
        (s.split b).2.I x = s.I x \/ (s.I x = b /\ (s.split b).2.I x = s.blocks.length) := by
      intro lo hi lo' hi' h1 h2 aa he
      rw [he, (zhq h hb h1 h2 aa).2 x hx]
      split
      · rename_i g
        right
        have := h.in2 b hb (s.P x) (by omega) (by omega)
        rw [(h.p1 x hx).2] at this
        exact ⟨this, rfl⟩
      · exact .inl rfl
    by_cases hd : s.M b <= s.T b - s.F b - s.M b
    · exact key (s.F b) (s.F b + s.M b) (s.F b + s.M b) (s.T b) (by omega) (by omega) (.inl ⟨rfl, rfl, rfl⟩) (by unfold St.split; rw [if_neg hc, if_pos hd])
    · exact key (s.F b + s.M b) (s.T b) (s.F b) (s.F b + s.M b) (by omega) (by omega) (.inr ⟨rfl, rfl, rfl⟩) (by unfold St.split; rw [if_neg hc, if_neg hd])
theorem zv2 (s : St) (b : Nat) : s.blocks.length <= (s.split b).2.blocks.length := by
 unfold St.split
 split
 ·simp [St.bare]
 ·split
  ·rw [zp6]; omega
  ·rw [zp6]; omega
theorem zwz {s : St} {n b : Nat} (h : Inv s n) (hb : b < s.blocks.length) {x y : Nat} (hx : x < n) (hy : y < n) : ((s.split b).2.I x = (s.split b).2.I y) ↔ s.I x = s.I y /\ (s.I x = b -> s.marked x = s.marked y) := by
 have ix := (h.in1 x hx).1
 have iy := (h.in1 y hy).1
 rcases ho : (s.split b).1 with _ | k
 ·obtain ⟨hi, mv, hm⟩ := zqp h hb ho
  have e : ∀ z, (s.split b).2.I z = s.I z := fun z => by unfold St.I; rw [hi]
  rw [e, e]
  exact ⟨fun hh => ⟨hh, fun aa => by rw [hm x hx aa, hm y hy (hh ▸ aa)]⟩, fun hh => hh.1⟩
 ·obtain ⟨rfl, mv, hp⟩ := zqs h hb ho
  have key : ∀ z, z < n -> s.I z = b -> ((s.split b).2.I z = b /\ s.marked z = !mv) \/ ((s.split b).2.I z = s.blocks.length /\ s.marked z = mv) := fun z hz ac => by
   rcases zpl h hb hz with e | ⟨_, e⟩
   ·rw [ac] at e; exact .inl ⟨e, hp.old z hz e⟩
   ·exact .inr ⟨e, hp.new z hz e⟩
  have other : ∀ z, z < n -> s.I z ≠ b -> (s.split b).2.I z = s.I z := fun z hz ac => by
   rcases zpl h hb hz with e | ⟨e, _⟩
   ·exact e
   ·exact absurd e ac
  by_cases aa : s.I x = b
  ·by_cases ab : s.I y = b
   ·rcases key x hx aa with ⟨e1, m1⟩ | ⟨e1, m1⟩ <;> rcases key y hy ab with ⟨e2, m2⟩ | ⟨e2, m2⟩ <;> rw [e1, e2, m1, m2, aa, ab] <;> cases mv <;> simp <;> omega
   ·rw [other y hy ab]
    constructor
    ·intro hh
     rcases key x hx aa with ⟨e1, _⟩ | ⟨e1, _⟩ <;> rw [e1] at hh
     ·exact absurd hh.symm ab
     ·omega
    ·intro hh; exact absurd (hh.1.symm.trans aa) ab
  ·by_cases ab : s.I y = b
   ·rw [other x hx aa]
    constructor
    ·intro hh
     rcases key y hy ab with ⟨e1, _⟩ | ⟨e1, _⟩ <;> rw [e1] at hh
     ·exact absurd hh aa
     ·omega
    ·intro hh; exact absurd (hh.1.trans ab) aa
   ·rw [other x hx aa, other y hy ab]
    exact ⟨fun hh => ⟨hh, fun e => absurd e aa⟩, fun hh => hh.1⟩
structure zE8 (s0 s : St) (n : Nat) (L : Nat -> Prop) : Prop where
 inv : Inv s n
 inn : s.inn = s0.inn
 len : s.blocks.length = s0.blocks.length
 mks : ∀ x, x < n -> (s.marked x = true ↔ L x)
theorem zE8.start {s : St} {n : Nat} (h : Inv s n) (h0 : ∀ x, x < n -> s.marked x = false) : zE8 s s n (fun _ => False) := ⟨h, rfl, rfl, fun x hx => by rw [h0 x hx]; simp⟩
theorem zE8.step {s0 s : St} {n e : Nat} {L : Nat -> Prop} (h : zE8 s0 s n L) (he : e < n) : zE8 s0 (s.mark e).2 n (fun x => L x \/ x = e) :=
 ⟨zwk h.inv he, (zpx s e).1.trans h.inn, (zpx s e).2.trans h.len, fun x hx => by
  rw [zo4 h.inv he x hx, Bool.or_eq_true, h.mks x hx, decide_eq_true_eq]; exact Or.comm⟩
theorem zE8.congr {s0 s : St} {n : Nat} {L L' : Nat -> Prop} (h : zE8 s0 s n L) (hl : ∀ x, x < n -> (L x ↔ L' x)) : zE8 s0 s n L' := ⟨h.inv, h.inn, h.len, fun x hx => (h.mks x hx).trans (hl x hx)⟩
structure zDf (s0 s : St) (n : Nat) (P : Nat -> Prop) : Prop where
 inv : Inv s n
 len : s0.blocks.length <= s.blocks.length
 mks : ∀ x, x < n -> (s.marked x = true ↔ s0.marked x = true /\ ¬ P (s0.I x))
 eq : ∀ x y, x < n -> y < n -> (s.I x = s.I y ↔ s0.I x = s0.I y /\ (P (s0.I x) -> s0.marked x = s0.marked y))
 old : ∀ x, x < n -> s.I x = s0.I x \/ (P (s0.I x) /\ s0.blocks.length <= s.I x)
theorem zDf.start {s : St} {n : Nat} (h : Inv s n) : zDf s s n (fun _ => False) :=
 ⟨h, Nat.le_refl _, fun x hx => by simp, fun x y hx hy => by simp, fun x hx => .inl rfl⟩
theorem zDf.step {s0 s : St} {n b : Nat} {P : Nat -> Prop} (h : zDf s0 s n P) (h0 : Inv s0 n) (hb : b < s0.blocks.length) (hP : ¬ P b) : zDf s0 (s.split b).2 n (fun x => P x \/ x = b) := by
 have aa : b < s.blocks.length := Nat.lt_of_lt_of_le hb h.len
 have ab : ∀ x, x < n -> (s.I x = b ↔ s0.I x = b) := fun x hx => by
  constructor
  ·intro e
   rcases h.old x hx with e1 | ⟨_, e1⟩
   ·exact e1.symm.trans e
   ·omega
  ·intro e
   rcases h.old x hx with e1 | ⟨e1, _⟩
   ·exact e1.trans e
   ·rw [e] at e1; exact absurd e1 hP
 refine ⟨zsq h.inv aa, Nat.le_trans h.len (zv2 s b), fun x hx => ?_, fun x y hx hy => ?_, fun x hx => ?_⟩
 ·rw [zne h.inv aa x hx, Bool.and_eq_true, h.mks x hx, decide_eq_true_eq, Ne, ab x hx]
  constructor
  ·rintro ⟨⟨a, b1⟩, c⟩; exact ⟨a, fun hh => hh.elim b1 c⟩
  ·rintro ⟨a, b1⟩; exact ⟨⟨a, fun hh => b1 (.inl hh)⟩, fun hh => b1 (.inr hh)⟩
 ·rw [zwz h.inv aa hx hy, h.eq x y hx hy, ab x hx]
  constructor
  ·rintro ⟨⟨e, hm⟩, ad⟩
   refine ⟨e, fun hh => ?_⟩
   rcases hh with hh | hh
   ·exact hm hh
   ·have ac : ¬ P (s0.I x) := by rw [hh]; exact hP
    have m2 := ad hh
    have ex := h.mks x hx
    have ey := h.mks y hy
    rw [<- e] at ey
    apply zdo
    rw [m2] at ex
    constructor
    ·intro hq; exact (ey.1 (ex.2 ⟨hq, ac⟩)).1
    ·intro hq; exact (ex.1 (ey.2 ⟨hq, ac⟩)).1
  ·rintro ⟨e, hm⟩
   refine ⟨⟨e, fun hh => hm (.inl hh)⟩, fun hh => ?_⟩
   have := hm (.inr hh)
   apply zdo
   rw [h.mks x hx, h.mks y hy, this, e]
 ·rcases zpl h.inv aa hx with e | ⟨e1, e2⟩
  ·rw [e]
   rcases h.old x hx with e3 | ⟨e3, e4⟩
   ·exact .inl e3
   ·exact .inr ⟨.inl e3, e4⟩
  ·right
   refine ⟨.inr ((ab x hx).1 e1), by rw [e2]; exact h.len⟩
theorem zDf.congr {s0 s : St} {n : Nat} {P P' : Nat -> Prop} (h : zDf s0 s n P) (hp : ∀ b, P b ↔ P' b) : zDf s0 s n P' := by
 have e : P = P' := funext fun b => propext (hp b)
 rw [<- e]; exact h
theorem zIz {s0 s1 s2 : St} {n : Nat} {L P : Nat -> Prop} (h1 : zE8 s0 s1 n L) (h2 : zDf s1 s2 n P) (hP : ∀ x, x < n -> s1.marked x = true -> P (s1.I x)) :
  Inv s2 n /\ (∀ x, x < n -> s2.marked x = false) /\ ∀ x y, x < n -> y < n -> (s2.I x = s2.I y ↔ s0.I x = s0.I y /\ (L x ↔ L y)) := by
 have e : ∀ x, s1.I x = s0.I x := fun x => by unfold St.I; rw [h1.inn]
 refine ⟨h2.inv, fun x hx => ?_, fun x y hx hy => ?_⟩
 ·rcases hm : s2.marked x with _ | _
  ·rfl
  ·obtain ⟨a, b⟩ := (h2.mks x hx).1 hm
   exact absurd (hP x hx a) b
 ·rw [h2.eq x y hx hy, e, e]
  constructor
  ·rintro ⟨a, b⟩
   refine ⟨a, ?_⟩
   rw [<- h1.mks x hx, <- h1.mks y hy]
   by_cases hp : P (s0.I x)
   ·rw [b hp]
   ·have nx : ¬ s1.marked x = true := fun hh => hp (by have := hP x hx hh; rwa [e] at this)
    have ny : ¬ s1.marked y = true := fun hh => hp (by have := hP y hy hh; rw [e, <- a] at this; exact this)
    exact ⟨fun hh => absurd hh nx, fun hh => absurd hh ny⟩
  ·rintro ⟨a, b⟩
   refine ⟨a, fun _ => ?_⟩
   apply zdo
   rw [h1.mks x hx, h1.mks y hy]; exact b
end Go.Proofs.YtoaoajfjcfcmhaaGreatDoor.Rf
