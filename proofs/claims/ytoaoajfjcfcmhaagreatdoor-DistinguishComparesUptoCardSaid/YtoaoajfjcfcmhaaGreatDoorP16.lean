/- The plain side of distinguish: the formula of two states, as its nodes one behind the other; what it is by steps and ran. Walk: Bound. -/
import Derived.Test.YtoaoajfjcfcmhaaGreatDoorP08
import Derived.Maps.OwnSet
import Derived.Test.YtoaoajfjcfcmhaaGreatDoorP01
set_option linter.unusedVariables false
set_option linter.unusedSimpArgs false
set_option maxHeartbeats 16000000
set_option maxRecDepth 100000
open Go.Proofs.Tryz
namespace Go.Proofs.YtoaoajfjcfcmhaaGreatDoor.Dt
open Go.Proofs.YtoaoajfjcfcmhaaGreatDoor.Sy Go.Proofs.YtoaoajfjcfcmhaaGreatDoor.Rd
abbrev Nd := Int × Int
def wt (x : Nd) : Int := if x.1 = 1 then 1 else if x.1 = 3 then -1 else 0
def wts : List Nd -> Int
 | [] => 0
 | x :: l => wt x + wts l
theorem zc3 (a b : List Nd) : wts (a ++ b) = wts a + wts b := by
 induction a with
 | nil => simp [wts]
 | cons x a ih => simp [wts, ih]; omega
structure zCm (f : List Nd) : Prop where
 one : wts f = 1
 rest : ∀ a b, f = a ++ b -> a ≠ [] -> wts b <= 0
theorem zCm.ne {f : List Nd} (h : zCm f) : f ≠ [] := fun e => by
 have := h.one
 rw [e] at this
 simp [wts] at this
theorem zCm.pos {f : List Nd} (h : zCm f) : 0 < f.length := List.length_pos_iff.2 h.ne
theorem zot : zCm [((1 : Int), (0 : Int))] := by
 refine ⟨by simp [wts, wt], fun a b h ha => ?_⟩
 cases a with
 | nil => exact absurd rfl ha
 | cons x a =>
  simp only [List.cons_append, List.cons.injEq] at h
  have : b = [] := (List.append_eq_nil_iff.1 h.2.symm).2
  rw [this]; simp [wts]
theorem zCm.zFb {f : List Nd} (h : zCm f) {x : Nd} (hx : wt x = 0) : zCm (f ++ [x]) := by
 refine ⟨by rw [zc3, h.one]; simp [wts, hx], fun a b he ha => ?_⟩
 rcases List.append_eq_append_iff.1 he with ⟨c, h1, h2⟩ | ⟨c, h1, h2⟩
 ·
  have : wts ([x] : List Nd) = wts c + wts b := by rw [<- zc3, <- h2]
  simp only [wts, hx] at this
  cases c with
  | nil => simp only [wts] at this; omega
  | cons y c =>
   simp only [List.cons_append, List.cons.injEq] at h2
   have hb : b = [] := (List.append_eq_nil_iff.1 h2.2.symm).2
   rw [hb]; simp [wts]
 ·rw [h2, zc3]
  have := h.rest a c h1 ha
  simp only [wts, hx]; omega
theorem zCm.two {f g : List Nd} (hf : zCm f) (hg : zCm g) {x : Nd} (hx : wt x = -1) : zCm (f ++ g ++ [x]) := by
 refine ⟨by rw [zc3, zc3, hf.one, hg.one]; simp [wts, hx], fun a b he ha => ?_⟩
 rcases List.append_eq_append_iff.1 he with ⟨c, h1, h2⟩ | ⟨c, h1, h2⟩
 ·cases c with
  | nil =>
   simp only [List.nil_append] at h2
   rw [<- h2]; simp [wts, hx]
  | cons y c =>
   simp only [List.cons_append, List.cons.injEq] at h2
   have hb : b = [] := (List.append_eq_nil_iff.1 h2.2.symm).2
   rw [hb]; simp [wts]
 ·rw [h2, zc3]
  simp only [wts, hx]
  rcases List.append_eq_append_iff.1 h1 with ⟨d, k1, k2⟩ | ⟨d, k1, k2⟩
  ·
   cases d with
   | nil =>
    simp only [List.nil_append] at k2
    rw [<- k2, hg.one]; omega
   | cons y d => have := hg.rest (y :: d) c k2 (by simp); omega
  ·
   rw [k2, zc3, hg.one]
   have := hf.rest a d k1 ha
   omega
theorem zur {a b f g : List Nd} (hf : zCm f) (hg : zCm g) (h : a ++ f = b ++ g) : a = b /\ f = g := by
 rcases List.append_eq_append_iff.1 h with ⟨c, h1, h2⟩ | ⟨c, h1, h2⟩
 ·
  cases c with
  | nil => simp only [List.append_nil] at h1; simp only [List.nil_append] at h2; exact ⟨h1.symm, h2⟩
  | cons y c => have := hf.rest (y :: c) g h2 (by simp); rw [hg.one] at this; omega
 ·cases c with
  | nil => simp only [List.append_nil] at h1; simp only [List.nil_append] at h2; exact ⟨h1, h2.symm⟩
  | cons y c => have := hg.rest (y :: c) f h2 (by simp); rw [hf.one] at this; omega
theorem zuw : ∀ (fs gs : List (List Nd)), fs.length = gs.length -> (∀ f ∈ fs, zCm f) -> (∀ g ∈ gs, zCm g) -> fs.flatten = gs.flatten -> fs = gs := by
 intro fs
 refine zCd (p := fun fs => ∀ gs : List (List Nd), fs.length = gs.length -> (∀ f ∈ fs, zCm f) -> (∀ g ∈ gs, zCm g) -> fs.flatten = gs.flatten -> fs = gs) ?_ ?_ fs
 ·intro gs hl _ _ _
  exact (List.eq_nil_of_length_eq_zero hl.symm).symm
 ·intro fs f ih gs hl hf hg he
  rcases List.eq_nil_or_concat gs with rfl | ⟨gs', g, rfl⟩
  ·simp at hl
  ·rw [List.concat_eq_append] at hl hg he ⊢
   rw [List.flatten_append, List.flatten_append] at he
   simp only [List.flatten_cons, List.flatten_nil, List.append_nil] at he
   obtain ⟨h1, h2⟩ := zur (hf f (by simp)) (hg g (by simp)) he
   rw [ih gs' (by simpa using hl) (fun x hx => hf x (by simp [hx])) (fun x hx => hg x (by simp [hx])) h1, h2]
def zD3 (s : Lts) (q : Nat) (l : Int) : List Nat := ((steps s q).filter fun y => y.1 == l).map fun y => y.2.toNat
def tells (s : Lts) (x : Int × Int) (q : Nat) (k : Int) : Bool := (zD3 s q x.1).all fun t => decide (0 <= rank s x.2.toNat t) && decide (rank s x.2.toNat t < k)
def telling (s : Lts) (p q : Nat) : Option (Int × Int) := (steps s p).find? fun x => tells s x q (rank s p q)
def conj : List (List Nd) -> List Nd
 | [] => [(1, 0)]
 | f :: r => r.foldl (fun a g => a ++ g ++ [(3, 0)]) f
theorem zE1 (f : List Nd) (r : List (List Nd)) (g : List Nd) : conj (f :: (r ++ [g])) = conj (f :: r) ++ g ++ [(3, 0)] := by simp [conj]
theorem zpa : ∀ l : List (List Nd), (∀ f ∈ l, zCm f) -> zCm (conj l)
 | [], _ => zot
 | f :: r, h => by
  revert h
  refine zCd (p := fun r => (∀ g ∈ f :: r, zCm g) -> zCm (conj (f :: r))) (fun h => h f (by simp)) (fun r g ih h => ?_) r
  rw [zE1]
  exact (ih (fun x hx => h x (by rcases List.mem_cons.1 hx with e | e; exact e ▸ List.mem_cons_self; exact List.mem_cons_of_mem _ (List.mem_append_left _ e)))).two (h g (by simp)) (by simp [wt])
def form (s : Lts) : Nat -> Nat -> Nat -> List Nd
 | 0, _, _ => []
 | d + 1, p, q => match telling s p q with
  | none => form s d q p ++ [(2, 0)]
  | some x => conj (Rd.seen ((zD3 s q x.1).map fun t => form s d x.2.toNat t)) ++ [(4, x.1)]
def fuel (s : Lts) (p q : Nat) : Nat := 2 * (rank s p q).toNat + (if (telling s p q).isSome then 0 else 1)
def F (s : Lts) (p q : Nat) : List Nd := form s (fuel s p q + 1) p q
theorem zDw {s : Lts} (hR : Right s) {p q : Nat} (hp : p < s.n.toNat) (hq : q < s.n.toNat) (h : 0 <= rank s p q) (hn : telling s p q = none) : (telling s q p).isSome = true := by
 obtain ⟨h1, _⟩ | ⟨k, hk, am, ag, ae⟩ := zjk s p q
 ·omega
 ·have an : 0 < k := by
   have := zn7 s p q
   omega
  have aa := zez s (R s (k - 1)) (p := p) (q := q) (by rw [zD0]; exact hp) (by rw [zD0]; exact hq)
  have ah : next s (R s (k - 1)) = R s k := by
   obtain ⟨j, rfl⟩ : ∃ j, k = j + 1 := ⟨k - 1, by omega⟩
   rfl
  rw [ah] at aa
  have ab := ae (k - 1) (by omega)
  have key : ∀ p q, p < s.n.toNat -> q < s.n.toNat -> rank s p q = (k : Int) -> telling s p q = none -> meets s (R s (k - 1)) p q = true := by
   intro p q hp hq hr ac
   simp only [meets, List.all_eq_true]
   intro x hx
   have h3 := List.find?_eq_none.1 ac x hx
   simp only [tells, List.all_eq_true, Bool.and_eq_true, decide_eq_true_eq] at h3
   obtain ⟨t, h3⟩ := Classical.not_forall.1 h3
   obtain ⟨ht, af⟩ := Classical.not_imp.1 h3
   simp only [zD3, List.mem_map, List.mem_filter, beq_iff_eq] at ht
   obtain ⟨y, ⟨ai, aj⟩, rfl⟩ := ht
   rw [List.any_eq_true]
   refine ⟨y, ai, ?_⟩
   simp only [Bool.and_eq_true, beq_iff_eq]
   refine ⟨aj, ?_⟩
   rcases zjk s x.2.toNat y.2.toNat with ⟨e, ad⟩ | ⟨j, e, ao, aq, hj⟩
   ·exact (ad (k - 1) (by omega)).symm
   ·refine (hj (k - 1) ?_).symm
    rw [e, hr] at af
    omega
  have ak := key p q hp hq hk hn
  rcases ht : telling s q p with _ | x
  ·have al := key q p hq hp (by rw [zCu]; exact hk) ht
   exact absurd (aa.2 ⟨ab, ak, al⟩) ag
  ·rfl
theorem zDb {s : Lts} {p q : Nat} {x : Int × Int} (h : telling s p q = some x) : x ∈ steps s p /\ ∀ t ∈ zD3 s q x.1, 0 <= rank s x.2.toNat t /\ rank s x.2.toNat t < rank s p q := by
 refine ⟨List.mem_of_find?_eq_some h, fun t ht => ?_⟩
 have h2 : tells s x q (rank s p q) = true := by simpa using List.find?_some h
 simp only [tells, List.all_eq_true, Bool.and_eq_true, decide_eq_true_eq] at h2
 exact h2 t ht
theorem zEc {s : Lts} (hR : Right s) {q t : Nat} {l : Int} (h : t ∈ zD3 s q l) : t < s.n.toNat := by
 simp only [zD3, List.mem_map, List.mem_filter] at h
 obtain ⟨y, ⟨hy, -⟩, rfl⟩ := h
 have := hR.ok _ ((zDn s q y).1 hy)
 simp only at this
 omega
theorem zog {s : Lts} (hR : Right s) {p : Nat} {x : Int × Int} (h : x ∈ steps s p) : x.2.toNat < s.n.toNat := by
 have := hR.ok _ ((zDn s p x).1 h)
 simp only at this
 omega
theorem zmo {s : Lts} (hR : Right s) : ∀ (d p q : Nat), p < s.n.toNat -> q < s.n.toNat -> 0 <= rank s p q -> fuel s p q < d -> form s d p q = F s p q := by
 intro d
 induction d using Nat.strongRecOn with
 | ind d ih =>
  intro p q hp hq h0 hd
  obtain ⟨d, rfl⟩ : ∃ e, d = e + 1 := ⟨d - 1, by omega⟩
  unfold F
  rcases ht : telling s p q with _ | x
  ·have hs := zDw hR hp hq h0 ht
   have hf : fuel s p q = 2 * (rank s p q).toNat + 1 := by simp [fuel, ht]
   have ad : fuel s q p = 2 * (rank s p q).toNat := by simp [fuel, hs, zCu s q p]
   have e1 : form s (d + 1) p q = form s d q p ++ [(2, 0)] := by rw [form, ht]
   have e2 : form s (fuel s p q + 1) p q = form s (fuel s p q) q p ++ [(2, 0)] := by rw [form, ht]
   rw [e1, e2]
   have ab : 0 <= rank s q p := by rw [zCu]; exact h0
   rw [ih d (by omega) q p hq hp ab (by omega)]
   by_cases hdd : fuel s p q < d + 1
   ·rw [ih (fuel s p q) (by omega) q p hq hp ab (by omega)]
   ·omega
  ·obtain ⟨hx, aa⟩ := zDb ht
   have hf : fuel s p q = 2 * (rank s p q).toNat := by simp [fuel, ht]
   have e : ∀ d, form s (d + 1) p q = conj (Rd.seen ((zD3 s q x.1).map fun t => form s d x.2.toNat t)) ++ [(4, x.1)] := fun d => by rw [form, ht]
   rw [e, e]
   have key : ∀ d', d' < d + 1 -> fuel s p q <= d' -> ((zD3 s q x.1).map fun t => form s d' x.2.toNat t) = (zD3 s q x.1).map fun t => F s x.2.toNat t := fun d' h1 h2 => by
    refine List.map_congr_left (fun t ac => ?_)
    have ha := aa t ac
    refine ih d' h1 _ _ (zog hR hx) (zEc hR ac) ha.1 ?_
    have : fuel s x.2.toNat t <= 2 * (rank s x.2.toNat t).toNat + 1 := by unfold fuel; split <;> omega
    omega
   rw [key d (by omega) (by omega), key (fuel s p q) (by omega) (Nat.le_refl _)]
theorem zIx {s : Lts} (hR : Right s) {p q : Nat} (hp : p < s.n.toNat) (hq : q < s.n.toNat) (h0 : 0 <= rank s p q) {x : Int × Int} (ht : telling s p q = some x) :
  F s p q = conj (Rd.seen ((zD3 s q x.1).map fun t => F s x.2.toNat t)) ++ [(4, x.1)] := by
 obtain ⟨hx, aa⟩ := zDb ht
 have hf : fuel s p q = 2 * (rank s p q).toNat := by simp [fuel, ht]
 have e : F s p q = conj (Rd.seen ((zD3 s q x.1).map fun t => form s (fuel s p q) x.2.toNat t)) ++ [(4, x.1)] := by unfold F; rw [form, ht]
 rw [e]
 congr 3
 refine List.map_congr_left (fun t ab => ?_)
 have ha := aa t ab
 refine zmo hR _ _ _ (zog hR hx) (zEc hR ab) ha.1 ?_
 have : fuel s x.2.toNat t <= 2 * (rank s x.2.toNat t).toNat + 1 := by unfold fuel; split <;> omega
 omega
theorem zIw {s : Lts} (hR : Right s) {p q : Nat} (hp : p < s.n.toNat) (hq : q < s.n.toNat) (h0 : 0 <= rank s p q) (ht : telling s p q = none) : F s p q = F s q p ++ [(2, 0)] := by
 have hs := zDw hR hp hq h0 ht
 have hf : fuel s p q = 2 * (rank s p q).toNat + 1 := by simp [fuel, ht]
 have aa : fuel s q p = 2 * (rank s p q).toNat := by simp [fuel, hs, zCu s q p]
 have e : F s p q = form s (fuel s p q) q p ++ [(2, 0)] := by unfold F; rw [form, ht]
 rw [e, zmo hR _ q p hq hp (by rw [zCu]; exact h0) (by omega)]
theorem zBx {s : Lts} (hR : Right s) (P : Nat -> Nat -> Prop) (h1 : ∀ p q x, p < s.n.toNat -> q < s.n.toNat -> 0 <= rank s p q -> telling s p q = some x -> (∀ t ∈ zD3 s q x.1, P x.2.toNat t) -> P p q)
  (h2 : ∀ p q, p < s.n.toNat -> q < s.n.toNat -> 0 <= rank s p q -> telling s p q = none -> P q p -> P p q) : ∀ p q, p < s.n.toNat -> q < s.n.toNat -> 0 <= rank s p q -> P p q := by
 have key : ∀ d p q, p < s.n.toNat -> q < s.n.toNat -> 0 <= rank s p q -> fuel s p q < d -> P p q := by
  intro d
  induction d with
  | zero => intro p q _ _ _ h; omega
  | succ d ih =>
   intro p q hp hq h0 hd
   rcases ht : telling s p q with _ | x
   ·have hs := zDw hR hp hq h0 ht
    have hf : fuel s p q = 2 * (rank s p q).toNat + 1 := by simp [fuel, ht]
    have ac : fuel s q p = 2 * (rank s p q).toNat := by simp [fuel, hs, zCu s q p]
    exact h2 p q hp hq h0 ht (ih q p hq hp (by rw [zCu]; exact h0) (by omega))
   ·obtain ⟨hx, aa⟩ := zDb ht
    have hf : fuel s p q = 2 * (rank s p q).toNat := by simp [fuel, ht]
    refine h1 p q x hp hq h0 ht (fun t ab => ?_)
    have ha := aa t ab
    refine ih _ _ (zog hR hx) (zEc hR ab) ha.1 ?_
    have : fuel s x.2.toNat t <= 2 * (rank s x.2.toNat t).toNat + 1 := by unfold fuel; split <;> omega
    omega
 exact fun p q hp hq h0 => key _ p q hp hq h0 (Nat.lt_succ_self _)
theorem zHe {s : Lts} (hR : Right s) : ∀ p q, p < s.n.toNat -> q < s.n.toNat -> 0 <= rank s p q -> zCm (F s p q) := by
 refine zBx hR _ (fun p q x hp hq h0 ht aa => ?_) (fun p q hp hq h0 ht h => ?_)
 ·rw [zIx hR hp hq h0 ht]
  refine (zpa _ (fun f hf => ?_)).zFb (by simp [wt])
  rw [mem_seen, List.mem_map] at hf
  obtain ⟨t, ab, rfl⟩ := hf
  exact aa t ab
 ·rw [zIw hR hp hq h0 ht]
  exact h.zFb (by simp [wt])
abbrev Part := Nd × List Nat
def ar (x : Nd) : Nat := if x.1 = 2 \/ x.1 = 4 then 1 else if x.1 = 3 then 2 else 0
def Is (x : Nd) : Prop := x.1 = 1 \/ x.1 = 2 \/ x.1 = 3 \/ x.1 = 4
def made (ts : List (List Nd)) (x : Nd) (l : List Nat) : List Nd := (l.map fun i => ts.getD i []).flatten ++ [x]
structure Table (ps : List Part) (ts : List (List Nd)) : Prop where
 len : ts.length = ps.length
 less : ∀ i, i < ps.length -> ∀ k ∈ (ps.getD i ((0, 0), [])).2, k < i
 is : ∀ i, i < ps.length -> Is (ps.getD i ((0, 0), [])).1 /\ (ps.getD i ((0, 0), [])).2.length = ar (ps.getD i ((0, 0), [])).1
 eq : ∀ i, i < ps.length -> ts.getD i [] = made ts (ps.getD i ((0, 0), [])).1 (ps.getD i ((0, 0), [])).2
 pr : ∀ i, i < ps.length -> zCm (ts.getD i [])
 once : ps.Nodup
theorem Table.nil : Table [] [] := ⟨rfl, fun i h => by simp at h, fun i h => by simp at h, fun i h => by simp at h, fun i h => by simp at h, List.nodup_nil⟩
theorem zp0 {ts : List (List Nd)} {x : Nd} {l : List Nat} (hx : Is x) (hl : l.length = ar x) (hp : ∀ k ∈ l, zCm (ts.getD k [])) : zCm (made ts x l) := by
 unfold made
 rcases hx with h | h | h | h
 ·have h0 : l = [] := List.eq_nil_of_length_eq_zero (by rw [hl]; simp [ar, h])
  subst h0
  obtain ⟨a, b⟩ := x
  simp only at h
  subst h
  refine ⟨by simp [wts, wt], fun c d he hc => ?_⟩
  simp only [List.map_nil, List.flatten_nil, List.nil_append] at he
  cases c with
  | nil => exact absurd rfl hc
  | cons y c =>
   simp only [List.cons_append, List.cons.injEq] at he
   have : d = [] := (List.append_eq_nil_iff.1 he.2.symm).2
   rw [this]; simp [wts]
 ·match l, hl with
  | [k], _ =>
   simp only [List.map_cons, List.map_nil, List.flatten_cons, List.flatten_nil, List.append_nil]
   exact (hp k (by simp)).zFb (by simp [wt, h])
  | [], hl => simp [ar, h] at hl
  | _ :: _ :: _, hl => simp [ar, h] at hl
 ·match l, hl with
  | [k, m], _ =>
   simp only [List.map_cons, List.map_nil, List.flatten_cons, List.flatten_nil, List.append_nil]
   exact (hp k (by simp)).two (hp m (by simp)) (by simp [wt, h])
  | [], hl => simp [ar, h] at hl
  | [_], hl => simp [ar, h] at hl
  | _ :: _ :: _ :: _, hl => simp [ar, h] at hl
 ·match l, hl with
  | [k], _ =>
   simp only [List.map_cons, List.map_nil, List.flatten_cons, List.flatten_nil, List.append_nil]
   exact (hp k (by simp)).zFb (by simp [wt, h])
  | [], hl => simp [ar, h] at hl
  | _ :: _ :: _, hl => simp [ar, h] at hl
theorem zDe {α : Type} (l : List α) (x d : α) {i : Nat} (h : i < l.length) : (l ++ [x]).getD i d = l.getD i d := by
 simp [List.getD, List.getElem?_append_left h]
theorem zCi {α : Type} (l : List α) (x d : α) : (l ++ [x]).getD l.length d = x := by simp [List.getD]
theorem zm8 {ts : List (List Nd)} {x : Nd} {l : List Nat} (t : List Nd) (h : ∀ k ∈ l, k < ts.length) : made (ts ++ [t]) x l = made ts x l := by
 unfold made
 congr 2
 exact List.map_congr_left (fun k hk => zDe ts t [] (h k hk))
theorem Table.inj {ps : List Part} {ts : List (List Nd)} (h : Table ps ts) : ∀ i j, i < ps.length -> j < ps.length -> ts.getD i [] = ts.getD j [] -> i = j := by
 have key : ∀ n i j, i < n -> i < ps.length -> j < ps.length -> ts.getD i [] = ts.getD j [] -> i = j := by
  intro n
  induction n with
  | zero => intro i j h; omega
  | succ n ih =>
   intro i j ag hi hj he
   have hm := he
   rw [h.eq i hi, h.eq j hj] at hm
   unfold made at hm
   obtain ⟨h1, h2⟩ := List.append_inj' hm rfl
   simp only [List.cons.injEq, and_true] at h2
   have hl : (ps.getD i ((0, 0), [])).2.length = (ps.getD j ((0, 0), [])).2.length := by rw [(h.is i hi).2, (h.is j hj).2, h2]
   have aa : ∀ i, i < ps.length -> ∀ f ∈ ((ps.getD i ((0, 0), [])).2.map fun i => ts.getD i []), zCm f := fun i hi f hf => by
    obtain ⟨k, hk, rfl⟩ := List.mem_map.1 hf
    exact h.pr k (Nat.lt_trans (h.less i hi k hk) hi)
   have ae := zuw _ _ (by rw [List.length_map, List.length_map, hl]) (aa i hi) (aa j hj) h1
   have af : (ps.getD i ((0, 0), [])).2 = (ps.getD j ((0, 0), [])).2 := by
    refine List.ext_getElem hl (fun k ac ad => ?_)
    have e : (((ps.getD i ((0, 0), [])).2.map fun i => ts.getD i []))[k]'(by rw [List.length_map]; exact ac) = (((ps.getD j ((0, 0), [])).2.map fun i => ts.getD i []))[k]'(by rw [List.length_map]; exact ad) := by
     simp only [ae]
    rw [List.getElem_map, List.getElem_map] at e
    have ah := h.less i hi _ (List.getElem_mem ac)
    have ai := h.less j hj _ (List.getElem_mem ad)
    exact ih _ _ (by omega) (by omega) (by omega) e
   have hp : ps.getD i ((0, 0), []) = ps.getD j ((0, 0), []) := Prod.ext h2 af
   have e1 : ps.getD i ((0, 0), []) = ps[i] := by simp [List.getD, hi]
   have e2 : ps.getD j ((0, 0), []) = ps[j] := by simp [List.getD, hj]
   rw [e1, e2] at hp
   rcases Nat.lt_trichotomy i j with ab | rfl | ab
   ·exact absurd hp ((List.pairwise_iff_getElem.1 h.once) i j hi hj ab)
   ·rfl
   ·exact absurd hp.symm ((List.pairwise_iff_getElem.1 h.once) j i hj hi ab)
 exact fun i j hi hj he => key (i + 1) i j (Nat.lt_succ_self _) hi hj he
theorem Table.push {ps : List Part} {ts : List (List Nd)} (h : Table ps ts) {x : Nd} {l : List Nat} (hx : Is x) (hl : l.length = ar x) (hk : ∀ k ∈ l, k < ps.length) (hn : (x, l) ∉ ps) : Table (ps ++ [(x, l)]) (ts ++ [made ts x l]) := by
 have ab : ∀ k ∈ l, k < ts.length := fun k aa => by rw [h.len]; exact hk k aa
 have old : ∀ i, i < ps.length -> (ps ++ [(x, l)]).getD i ((0, 0), []) = ps.getD i ((0, 0), []) := fun i hi => zDe ps _ _ hi
 have new : (ps ++ [(x, l)]).getD ps.length ((0, 0), []) = (x, l) := zCi ps _ _
 have oldt : ∀ i, i < ps.length -> (ts ++ [made ts x l]).getD i [] = ts.getD i [] := fun i hi => zDe ts _ _ (by rw [h.len]; exact hi)
 have newt : (ts ++ [made ts x l]).getD ps.length [] = made ts x l := by rw [<- h.len]; exact zCi ts _ _
 have cases : ∀ i, i < (ps ++ [(x, l)]).length -> i < ps.length \/ i = ps.length := fun i hi => by
  rw [List.length_append] at hi; simp at hi; omega
 refine ⟨by simp [h.len], fun i hi => ?_, fun i hi => ?_, fun i hi => ?_, fun i hi => ?_, ?_⟩
 ·rcases cases i hi with e | rfl
  ·rw [old i e]; exact h.less i e
  ·rw [new]; exact hk
 ·rcases cases i hi with e | rfl
  ·rw [old i e]; exact h.is i e
  ·rw [new]; exact ⟨hx, hl⟩
 ·rcases cases i hi with e | rfl
  ·rw [old i e, oldt i e, h.eq i e]
   exact (zm8 _ (fun k aa => by rw [h.len]; exact Nat.lt_trans (h.less i e k aa) e)).symm
  ·rw [new, newt]; exact (zm8 _ ab).symm
 ·rcases cases i hi with e | rfl
  ·rw [oldt i e]; exact h.pr i e
  ·rw [newt]; exact zp0 hx hl (fun k aa => h.pr k (hk k aa))
 ·exact List.nodup_append.2 ⟨h.once, by simp, fun a ha b hb e => hn (by rw [List.mem_singleton] at hb; rw [<- hb, <- e]; exact ha)⟩
def bnd (deg : Nat) : Nat -> Nat
 | 0 => 1
 | k + 1 => 1 + deg * (bnd deg k + 1)
theorem zyr (deg : Nat) : ∀ k, 1 <= bnd deg k
 | 0 => Nat.le_refl 1
 | k + 1 => by simp [bnd]
theorem zwb {deg : Nat} (hd : 1 <= deg) : ∀ k, bnd deg k <= bnd deg (k + 1) := by
 intro k
 induction k with
 | zero => simp [bnd]
 | succ k ih =>
  show 1 + deg * (bnd deg k + 1) <= 1 + deg * (bnd deg (k + 1) + 1)
  have := Nat.mul_le_mul_left deg (Nat.add_le_add_right ih 1)
  omega
theorem zw2 {deg : Nat} (hd : 1 <= deg) {j k : Nat} (h : j <= k) : bnd deg j <= bnd deg k := by
 induction h with
 | refl => exact Nat.le_refl _
 | step h ih => exact Nat.le_trans ih (zwb hd _)
def bound (k d : Int) : Nat := if k < 1 then 1 else if d < 1 then 3 else min (bnd d.toNat k.toNat) 5001
theorem zI8 (d k b : Nat) (hb : b = min (bnd d k) 5001) : min (1 + d * (b + 1)) 5001 = min (bnd d (k + 1)) 5001 := by
 show _ = min (1 + d * (bnd d k + 1)) 5001
 by_cases h : bnd d k <= 5001
 ·have e : b = bnd d k := by omega
  rw [e]
 ·have e : b = 5001 := by omega
  rw [e]
  rcases Nat.eq_zero_or_pos d with rfl | hd
  ·simp
  ·have h1 := Nat.le_mul_of_pos_left (5001 + 1) hd
   have h2 := Nat.le_mul_of_pos_left (bnd d k + 1) hd
   omega
theorem zK8 (d k : Nat) (hd : 5001 <= d) : min (bnd d (k + 1)) 5001 = 5001 := by
 have h : d * 2 <= d * (bnd d k + 1) := Nat.mul_le_mul_left d (by have := zyr d k; omega)
 show min (1 + d * (bnd d k + 1)) 5001 = 5001
 omega
theorem zJp {d j k : Nat} (hd : 1 <= d) (h : 5001 <= bnd d j) (aa : j <= k) : min (bnd d k) 5001 = min (bnd d j) 5001 := by
 have := zw2 hd aa
 omega
def fits (f : List Nd) : Bool := decide (f.length <= 5000)
def held (f : List Nd) : List Nd := if f.length <= 5000 then f else []
theorem ztu (f : List Nd) (r : List (List Nd)) : ∃ t, conj (f :: r) = f ++ t := by
 revert r
 refine zCd ⟨[], by simp [conj]⟩ (fun r g ⟨t, h⟩ => ?_)
 exact ⟨t ++ g ++ [(3, 0)], by rw [zE1, h]; simp⟩
theorem zmm (l r : List (List Nd)) (hl : l ≠ []) : ∃ t, conj (l ++ r) = conj l ++ t := by
 cases l with
 | nil => exact absurd rfl hl
 | cons f l =>
  revert r
  refine zCd ⟨[], by simp⟩ (fun r g ⟨t, h⟩ => ?_)
  refine ⟨t ++ g ++ [(3, 0)], ?_⟩
  rw [List.cons_append, show l ++ (r ++ [g]) = (l ++ r) ++ [g] by simp, zE1, <- List.cons_append, h]
  simp
theorem zH4 {l : List (List Nd)} {f : List Nd} (h : f ∈ l) : f.length <= (conj l).length := by
 obtain ⟨a, b, rfl⟩ := List.append_of_mem h
 cases a with
 | nil =>
  obtain ⟨t, ht⟩ := ztu f b
  rw [List.nil_append, ht]; simp
 | cons x a =>
  obtain ⟨t, ht⟩ := zmm ((x :: a) ++ [f]) b (by simp)
  rw [show (x :: a) ++ f :: b = ((x :: a) ++ [f]) ++ b by simp, ht, List.cons_append, zE1]
  simp; omega
def zEk (g : List (List Nd)) (k : Nat) : List Nd := if Rd.seen (g.take k) = [] then [] else conj (Rd.seen (g.take k))
theorem zAp (g : List (List Nd)) (k : Nat) : (zEk g k).length <= (conj (Rd.seen g)).length := by
 unfold zEk
 split
 ·simp
 ·rename_i h
  obtain ⟨t, ht⟩ := zdi g k
  obtain ⟨u, hu⟩ := zmm (Rd.seen (g.take k)) t h
  rw [ht, hu]; simp
theorem zJi {g : List (List Nd)} {k : Nat} (h : k < g.length) (hm : g[k] ∈ Rd.seen (g.take k)) : zEk g (k + 1) = zEk g k := by
 unfold zEk
 rw [zEu h hm]
theorem zJf {g : List (List Nd)} {k : Nat} (h : k < g.length) (hm : g[k] ∉ Rd.seen (g.take k)) :
  zEk g (k + 1) = zEk g k ++ g[k] ++ (if 1 < (Rd.seen (g.take (k + 1))).length then [(3, 0)] else []) := by
 unfold zEk
 rw [zEz h hm, if_neg (by simp)]
 cases he : Rd.seen (g.take k) with
 | nil => simp [conj]
 | cons f r => rw [List.cons_append, zE1]; simp
theorem zJ8 {g : List (List Nd)} (h : g ≠ []) : zEk g g.length = conj (Rd.seen g) := by
 unfold zEk
 rw [List.take_length, if_neg (fun e => ?_)]
 cases g with
 | nil => exact absurd rfl h
 | cons x g =>
  have : x ∈ Rd.seen (x :: g) := (mem_seen x _).2 (by simp)
  rw [e] at this
  simp at this
theorem zI5 {g : List (List Nd)} {k : Nat} (hk : k < g.length) (h : 5000 < g[k].length) (x : Nd) : 5000 < (conj (Rd.seen g) ++ [x]).length := by
 have := zH4 ((mem_seen g[k] g).2 (List.getElem_mem hk))
 simp; omega
theorem zG8 {g : List (List Nd)} {k : Nat} (h : 5000 <= (zEk g k).length) (x : Nd) : 5000 < (conj (Rd.seen g) ++ [x]).length := by
 have := zAp g k
 simp; omega
end Go.Proofs.YtoaoajfjcfcmhaaGreatDoor.Dt
namespace Go.Proofs.YtoaoajfjcfcmhaaGreatDoor.Dt
open Go.Lib Go.Proofs.YtoaoajfjcfcmhaaGreatDoor.Sy Go.Proofs.YtoaoajfjcfcmhaaGreatDoor.Rd
def zDu (l : List Nat) : List UInt8 := l.flatMap fun k : Nat => 32 :: itoa (k : Int)
theorem zHy (l : List Nat) (k : Nat) : zDu (l ++ [k]) = zDu l ++ 32 :: itoa (k : Int) := by simp [zDu]
def nums (y : Part) : List Int := y.1.1 :: y.1.2 :: y.2.map fun k : Nat => (k : Int)
def zEs (y : Part) : List UInt8 := itoa y.1.1 ++ 32 :: itoa y.1.2 ++ zDu y.2
theorem zpq : ∀ (l : List Nat) (a : List UInt8), a ++ zDu l ++ [32] = a ++ 32 :: Tm.enc (l.map fun k : Nat => (k : Int))
 | [], a => by simp [zDu, Tm.enc]
 | k :: l, a => by
  have h := zpq l (a ++ 32 :: itoa (k : Int))
  rw [show a ++ zDu (k :: l) ++ [32] = a ++ 32 :: itoa (k : Int) ++ zDu l ++ [32] by simp [zDu], h, List.map_cons, Tm.zE3]
  simp
theorem zt2 (y : Part) : zEs y ++ [32] = Tm.enc (nums y) := by
 unfold zEs nums
 rw [zpq, Tm.zE3, Tm.zE3]
 simp
theorem zwj {x y : Part} (h : nums x = nums y) : x = y := by
 obtain ⟨⟨a, b⟩, l⟩ := x
 obtain ⟨⟨c, d⟩, m⟩ := y
 simp only [nums, List.cons.injEq] at h
 obtain ⟨rfl, rfl, h3⟩ := h
 have : l = m := by
  refine List.ext_getElem (by simpa using congrArg List.length h3) (fun i h1 h2 => ?_)
  have e : (l.map fun k : Nat => (k : Int))[i]'(by simpa using h1) = (m.map fun k : Nat => (k : Int))[i]'(by simpa using h2) := by simp only [h3]
  rw [List.getElem_map, List.getElem_map] at e
  exact Int.ofNat.inj e
 rw [this]
theorem zvt {x y : Part} (h : zEs x = zEs y) : x = y := zwj (Tm.zGm (by rw [<- zt2, <- zt2, h]))
structure Later (ps : List Part) (ts : List (List Nd)) (ps' : List Part) (ts' : List (List Nd)) : Prop where
 p : ∃ r, ps' = ps ++ r
 t : ∃ r, ts' = ts ++ r
theorem Later.refl (ps : List Part) (ts : List (List Nd)) : Later ps ts ps ts := ⟨⟨[], by simp⟩, ⟨[], by simp⟩⟩
theorem Later.trans {ps ts ps1 ts1 ps2 ts2} (h : Later ps ts ps1 ts1) (k : Later ps1 ts1 ps2 ts2) : Later ps ts ps2 ts2 := by
 obtain ⟨⟨a, ha⟩, ⟨b, hb⟩⟩ := h
 obtain ⟨⟨c, hc⟩, ⟨d, hd⟩⟩ := k
 exact ⟨⟨a ++ c, by rw [hc, ha, List.append_assoc]⟩, ⟨b ++ d, by rw [hd, hb, List.append_assoc]⟩⟩
theorem Later.len {ps ts ps' ts'} (h : Later ps ts ps' ts') : ps.length <= ps'.length := by
 obtain ⟨⟨a, rfl⟩, -⟩ := h
 simp
theorem Later.tell {ps ts ps' ts'} (h : Later ps ts ps' ts') (hT : Table ps ts) {i : Nat} (hi : i < ps.length) : ts'.getD i [] = ts.getD i [] := by
 obtain ⟨-, ⟨b, rfl⟩⟩ := h
 have : i < ts.length := by rw [hT.len]; exact hi
 simp [List.getD, List.getElem?_append_left this]
theorem Table.put {ps : List Part} {ts : List (List Nd)} (h : Table ps ts) {x : Nd} {l : List Nat} (hx : Is x) (hl : l.length = ar x) (hk : ∀ k ∈ l, k < ps.length) (hn : (x, l) ∉ ps) :
  Table (ps ++ [(x, l)]) (ts ++ [made ts x l]) /\ Later ps ts (ps ++ [(x, l)]) (ts ++ [made ts x l]) /\ (ts ++ [made ts x l]).getD ps.length [] = made ts x l :=
 ⟨h.push hx hl hk hn, ⟨⟨_, rfl⟩, ⟨_, rfl⟩⟩, by rw [<- h.len]; exact zCi ts _ _⟩
theorem zH7 (ts : List (List Nd)) (x : Nd) (k : Nat) : made ts x [k] = ts.getD k [] ++ [x] := by simp [made]
theorem zJe (ts : List (List Nd)) (x : Nd) (k m : Nat) : made ts x [k, m] = ts.getD k [] ++ ts.getD m [] ++ [x] := by simp [made]
theorem zJ4 (ts : List (List Nd)) (x : Nd) : made ts x [] = [x] := by simp [made]
structure Tl where
 ps : List Part
 ts : List (List Nd)
 kn : List ((Nat × Nat) × Nat)
structure Tl.Ok (s : Lts) (T : Tl) : Prop where
 tab : Table T.ps T.ts
 kn : ∀ e ∈ T.kn, e.1.1 < s.n.toNat /\ e.1.2 < s.n.toNat /\ e.2 < T.ps.length /\ T.ts.getD e.2 [] = F s e.1.1 e.1.2
 keys : (T.kn.map Prod.fst).Nodup
structure Tl.To (s : Lts) (C d e : Nat) (T U : Tl) : Prop where
 later : Later T.ps T.ts U.ps U.ts
 kn : ∃ r, U.kn = T.kn ++ r /\ ∀ y ∈ r, fuel s y.1.1 y.1.2 < d
 many : U.ps.length + T.kn.length * C <= T.ps.length + U.kn.length * C + e
theorem Tl.To.refl (s : Lts) (C d : Nat) (T : Tl) : T.To s C d 0 T := ⟨Later.refl _ _, ⟨[], by simp, by simp⟩, by omega⟩
theorem Tl.To.trans {s : Lts} {C d e d' e' : Nat} {T U V : Tl} (h : T.To s C d e U) (k : U.To s C d' e' V) : T.To s C (max d d') (e + e') V := by
 obtain ⟨l1, ⟨r1, h1, f1⟩, m1⟩ := h
 obtain ⟨l2, ⟨r2, h2, f2⟩, m2⟩ := k
 refine ⟨l1.trans l2, ⟨r1 ++ r2, by rw [h2, h1, List.append_assoc], fun y hy => ?_⟩, by omega⟩
 rcases List.mem_append.1 hy with hy | hy
 ·have := f1 y hy; omega
 ·have := f2 y hy; omega
theorem Tl.To.mono {s : Lts} {C d e d' e' : Nat} {T U : Tl} (h : T.To s C d e U) (hd : d <= d') (he : e <= e') : T.To s C d' e' U := by
 obtain ⟨l1, ⟨r1, h1, f1⟩, m1⟩ := h
 exact ⟨l1, ⟨r1, h1, fun y hy => Nat.lt_of_lt_of_le (f1 y hy) hd⟩, by omega⟩
theorem Tl.push {s : Lts} {C : Nat} {T : Tl} (h : T.Ok s) {x : Nd} {l : List Nat} (hx : Is x) (hl : l.length = ar x) (hk : ∀ k ∈ l, k < T.ps.length) (hn : (x, l) ∉ T.ps) :
  (Tl.mk (T.ps ++ [(x, l)]) (T.ts ++ [made T.ts x l]) T.kn).Ok s /\ T.To s C 0 1 (Tl.mk (T.ps ++ [(x, l)]) (T.ts ++ [made T.ts x l]) T.kn) := by
 obtain ⟨h1, h2, h3⟩ := h.tab.put hx hl hk hn
 refine ⟨⟨h1, fun e he => ?_, h.keys⟩, ⟨h2, ⟨[], by simp, by simp⟩, by simp; omega⟩⟩
 obtain ⟨a, b, c, d⟩ := h.kn e he
 exact ⟨a, b, by show _ < (T.ps ++ [(x, l)]).length; rw [List.length_append]; omega, (h2.tell h.tab c).trans d⟩
theorem Tl.know {s : Lts} {C e p q n : Nat} {T U : Tl} (hU : U.Ok s) (hT : T.To s C (fuel s p q) e U) (he : e <= C) (hp : p < s.n.toNat) (hq : q < s.n.toNat) (hn : n < U.ps.length) (hf : U.ts.getD n [] = F s p q)
  (h0 : (p, q) ∉ T.kn.map Prod.fst) : (Tl.mk U.ps U.ts (U.kn ++ [((p, q), n)])).Ok s /\ T.To s C (fuel s p q + 1) 0 (Tl.mk U.ps U.ts (U.kn ++ [((p, q), n)])) := by
 obtain ⟨l1, ⟨r1, h1, f1⟩, m1⟩ := hT
 refine ⟨⟨hU.tab, fun y hy => ?_, ?_⟩, ⟨l1, ⟨r1 ++ [((p, q), n)], by show U.kn ++ _ = _; rw [h1, List.append_assoc], fun y hy => ?_⟩, ?_⟩⟩
 ·rcases List.mem_append.1 hy with hy | hy
  ·exact hU.kn y hy
  ·rw [List.mem_singleton] at hy
   subst hy
   exact ⟨hp, hq, hn, hf⟩
 ·show ((U.kn ++ [((p, q), n)]).map Prod.fst).Nodup
  rw [List.map_append]
  refine List.nodup_append.2 ⟨hU.keys, by simp, fun a ha b hb e => ?_⟩
  simp only [List.map_cons, List.map_nil, List.mem_singleton] at hb
  subst hb
  subst e
  rw [h1, List.map_append, List.mem_append] at ha
  rcases ha with ha | ha
  ·exact h0 ha
  ·obtain ⟨y, hy, e⟩ := List.mem_map.1 ha
   have := f1 y hy
   rw [e] at this
   exact Nat.lt_irrefl _ this
 ·rcases List.mem_append.1 hy with hy | hy
  ·have := f1 y hy; omega
  ·rw [List.mem_singleton] at hy
   subst hy
   exact Nat.lt_succ_self _
 ·show U.ps.length + T.kn.length * C <= T.ps.length + (U.kn ++ [((p, q), n)]).length * C + 0
  rw [List.length_append, Nat.add_mul]
  simp only [List.length_cons, List.length_nil]
  omega
theorem zxf : ∀ (m : Nat) (l : List Nat), l.Nodup -> (∀ x ∈ l, x < m) -> l.length <= m := by
 intro m
 induction m with
 | zero =>
  intro l _ h
  cases l with
  | nil => simp
  | cons x l => exact absurd (h x (by simp)) (by omega)
 | succ m ih =>
  intro l hl h
  have h1 := ih (l.filter fun x => decide (x < m)) (hl.filter _) (fun x hx => by simpa using (List.mem_filter.1 hx).2)
  have h2 : ∀ l : List Nat, l.Nodup -> (∀ x ∈ l, x < m + 1) -> l.length <= (l.filter fun x => decide (x < m)).length + 1 := by
   intro l
   induction l with
   | nil => intro _ _; simp
   | cons x l ihl =>
    intro hn hb
    have aa := List.nodup_cons.1 hn
    by_cases hx : x < m
    ·have := ihl aa.2 (fun y hy => hb y (List.mem_cons_of_mem _ hy))
     simp [hx]; omega
    ·have ab : x = m := by have := hb x (by simp); omega
     have : l.filter (fun x => decide (x < m)) = l := List.filter_eq_self.2 (fun y hy => by
      have h3 := hb y (List.mem_cons_of_mem _ hy)
      have h4 : y ≠ m := fun e => aa.1 (by rw [ab, <- e]; exact hy)
      simp; omega)
     simp [hx, this]
  have := h2 l hl h
  omega
theorem zvz {n : Nat} {l : List (Nat × Nat)} (hl : l.Nodup) (h : ∀ x ∈ l, x.1 < n /\ x.2 < n) : l.length <= n * n := by
 have aa : ∀ a ∈ l, ∀ b ∈ l, a.1 * n + a.2 = b.1 * n + b.2 -> a = b := by
  intro a ha b hb e
  have h1 := h a ha
  have h2 := h b hb
  have e1 : (a.1 * n + a.2) / n = a.1 := by rw [Nat.mul_comm, Nat.mul_add_div (by omega), Nat.div_eq_of_lt h1.2]; omega
  have e2 : (b.1 * n + b.2) / n = b.1 := by rw [Nat.mul_comm, Nat.mul_add_div (by omega), Nat.div_eq_of_lt h2.2]; omega
  have e3 : a.1 = b.1 := by rw [<- e1, <- e2, e]
  refine Prod.ext e3 ?_
  rw [e3] at e
  omega
 have := zxf (n * n) (l.map fun x => x.1 * n + x.2) (List.pairwise_map.2 (hl.imp_of_mem (fun ha hb ab e => ab (aa _ ha _ hb e)))) (fun x hx => by
  obtain ⟨y, hy, rfl⟩ := List.mem_map.1 hx
  have h1 := h y hy
  have : y.1 * n + n <= n * n := by
   have := Nat.mul_le_mul_right n (show y.1 + 1 <= n by omega)
   rw [Nat.add_mul] at this; omega
  omega)
 simpa using this
theorem Tl.Ok.many {s : Lts} {T : Tl} (h : T.Ok s) : T.kn.length <= s.n.toNat * s.n.toNat := by
 have := zvz h.keys (fun x hx => by
  obtain ⟨e, he, rfl⟩ := List.mem_map.1 hx
  have := h.kn e he
  exact ⟨this.1, this.2.1⟩)
 simpa using this
theorem Tl.To.zKq {s : Lts} {C d e : Nat} {U : Tl} (h : (Tl.mk [] [] []).To s C d e U) (hU : U.Ok s) : U.ps.length <= s.n.toNat * s.n.toNat * C + e := by
 have h1 := h.many
 have h2 := Nat.mul_le_mul_right C hU.many
 simp at h1
 omega
structure zI1 (T : Tl) (l : List Nat) (fs : List (List Nd)) : Prop where
 lt : ∀ k ∈ l, k < T.ps.length
 eq : l.map (fun k => T.ts.getD k []) = fs
theorem zI1.later {s : Lts} {C d e : Nat} {T U : Tl} (hT : T.Ok s) (h : T.To s C d e U) {l : List Nat} {fs : List (List Nd)} (hl : zI1 T l fs) : zI1 U l fs :=
 ⟨fun k hk => Nat.lt_of_lt_of_le (hl.lt k hk) h.later.len, by rw [<- hl.eq]; exact List.map_congr_left (fun k hk => h.later.tell hT.tab (hl.lt k hk))⟩
theorem zI1.mem {s : Lts} {T : Tl} (hT : T.Ok s) {l : List Nat} {fs : List (List Nd)} (hl : zI1 T l fs) {n : Nat} (hn : n < T.ps.length) : n ∈ l ↔ T.ts.getD n [] ∈ fs := by
 rw [<- hl.eq, List.mem_map]
 constructor
 ·exact fun h => ⟨n, h, rfl⟩
 ·rintro ⟨k, hk, he⟩
  rw [<- hT.tab.inj k n (hl.lt k hk) hn he]
  exact hk
theorem zI1.step {s : Lts} {T : Tl} (hT : T.Ok s) {l : List Nat} {g : List (List Nd)} {k : Nat} (hk : k < g.length) (hl : zI1 T l (Rd.seen (g.take k))) {n : Nat} (hn : n < T.ps.length) (hf : T.ts.getD n [] = g[k]) :
  (n ∈ l -> zI1 T l (Rd.seen (g.take (k + 1)))) /\ (n ∉ l -> zI1 T (l ++ [n]) (Rd.seen (g.take (k + 1)))) := by
 have hm := hl.mem hT hn
 rw [hf] at hm
 constructor
 ·intro h
  rw [zEu hk (hm.1 h)]; exact hl
 ·intro h
  rw [zEz hk (fun h' => h (hm.2 h'))]
  refine ⟨fun j hj => ?_, by rw [List.map_append, hl.eq, List.map_cons, List.map_nil, hf]⟩
  rcases List.mem_append.1 hj with hj | hj
  ·exact hl.lt j hj
  ·rw [List.mem_singleton] at hj; rw [hj]; exact hn
def size (f : List Nd) : Nat := min f.length 5001
end Go.Proofs.YtoaoajfjcfcmhaaGreatDoor.Dt
namespace Go.Proofs.YtoaoajfjcfcmhaaGreatDoor.Dt
open Go.Maps Go.Proofs.YtoaoajfjcfcmhaaGreatDoor.Sy Go.Proofs.YtoaoajfjcfcmhaaGreatDoor.Rd
def mp (l : List (Lit × Nat)) : DataW Unit := l.foldl (fun D p => D.put p.1 (.lit (.int .i64 (p.2 : Nat)))) (.map [])
theorem zAs : mp [] = .map [] := rfl
theorem zFy (l : List (Lit × Nat)) (k : Lit) (n : Nat) : mp (l ++ [(k, n)]) = (mp l).put k (.lit (.int .i64 (n : Nat))) := by simp [mp, List.foldl_append]
theorem zyb (l : List (Lit × Nat)) : IsMap (mp l) := by
 obtain ⟨r, rfl⟩ : ∃ r : List (Lit × Nat), l = r.reverse := ⟨l.reverse, by simp⟩
 induction r with
 | nil => exact isMap_empty
 | cons x r ih => rw [List.reverse_cons, zFy]; exact ih.put _ _
theorem zz8 {l : List (Lit × Nat)} (hk : ∀ e ∈ l, WideAt.IsKeyLit e.1) (hn : (l.map Prod.fst).Nodup) (k : Lit) :
  (Maps.has (mp l) k = true ↔ k ∈ l.map Prod.fst) /\ ∀ n z, (k, n) ∈ l -> (mp l).atKey k z = .lit (.int .i64 (n : Nat)) := by
 obtain ⟨r, rfl⟩ : ∃ r : List (Lit × Nat), l = r.reverse := ⟨l.reverse, by simp⟩
 induction r with
 | nil => exact ⟨by simp [zAs, Maps.has], fun n z h => by simp at h⟩
 | cons x r ih =>
  obtain ⟨c, m⟩ := x
  rw [List.reverse_cons] at hk hn ⊢
  rw [List.map_append] at hn ⊢
  have aa := List.nodup_append.1 hn
  obtain ⟨i1, i2⟩ := ih (fun e he => hk e (List.mem_append_left _ he)) aa.1
  have hc := hk (c, m) (by simp)
  rw [zFy]
  by_cases e : k = c
  ·subst e
   refine ⟨?_, fun n z h => ?_⟩
   ·rw [has_put_same (zyb _) hc]; simp
   ·rw [atKey_put_same (zyb _) hc]
    rcases List.mem_append.1 h with h | h
    ·exact absurd rfl (aa.2.2 k (List.mem_map.2 ⟨_, h, rfl⟩) k (by simp))
    ·simp at h; rw [h]
  ·refine ⟨?_, fun n z h => ?_⟩
   ·rw [has_put_other e, i1]; simp [e]
   ·rw [atKey_put_other e]
    rcases List.mem_append.1 h with h | h
    ·exact i2 n z h
    ·simp at h; exact absurd h.1 e
def zGu (ps : List Part) : List (Lit × Nat) := ps.zipIdx.map fun p => (.string (zEs p.1), p.2)
theorem zIq (ps : List Part) (y : Part) : zGu (ps ++ [y]) = zGu ps ++ [(.string (zEs y), ps.length)] := by simp [zGu, List.zipIdx_append]
theorem zmk (ps : List Part) : (zGu ps).map Prod.fst = ps.map fun y => Lit.string (zEs y) := by
 have : (zGu ps).map Prod.fst = (ps.zipIdx.map Prod.fst).map fun y => Lit.string (zEs y) := by
  unfold zGu
  rw [List.map_map, List.map_map]
  rfl
 rw [this, List.zipIdx_map_fst]
theorem zqk (ps : List Part) : ∀ e ∈ zGu ps, WideAt.IsKeyLit e.1 := by
 intro e he
 obtain ⟨p, _, rfl⟩ := List.mem_map.1 he
 trivial
theorem zss {x y : Part} (h : Lit.string (zEs x) = Lit.string (zEs y)) : x = y := zvt (by simpa using h)
theorem zjw {ps : List Part} (h : ps.Nodup) : ((zGu ps).map Prod.fst).Nodup := by
 rw [zmk]
 exact List.pairwise_map.2 (h.imp (fun aa e => aa (zss e)))
theorem zJ6 {ps : List Part} (h : ps.Nodup) (y : Part) : Maps.has (mp (zGu ps)) (.string (zEs y)) = decide (y ∈ ps) := by
 have h1 := (zz8 (zqk ps) (zjw h) (.string (zEs y))).1
 rw [zmk, List.mem_map] at h1
 have h2 : (∃ a, a ∈ ps /\ Lit.string (zEs a) = Lit.string (zEs y)) ↔ y ∈ ps := ⟨fun ⟨a, ha, e⟩ => zss e ▸ ha, fun hy => ⟨y, hy, rfl⟩⟩
 rw [h2] at h1
 exact Bool.eq_iff_iff.2 (by rw [h1, decide_eq_true_eq])
theorem zJk {ps : List Part} (h : ps.Nodup) {y : Part} (hy : y ∈ ps) : ∃ i, i < ps.length /\ ps.getD i ((0, 0), []) = y /\ ∀ z, (mp (zGu ps)).atKey (.string (zEs y)) z = .lit (.int .i64 (i : Nat)) := by
 obtain ⟨i, hi, rfl⟩ := List.getElem_of_mem hy
 refine ⟨i, hi, by simp [List.getD, hi], fun z => (zz8 (zqk ps) (zjw h) _).2 i z ?_⟩
 refine List.mem_map.2 ⟨(ps[i], i), ?_, rfl⟩
 exact List.mem_zipIdx_iff_getElem?.2 (by simp [hi])
def zGi (key : Nat -> Nat -> Lit) (kn : List ((Nat × Nat) × Nat)) : List (Lit × Nat) := kn.map fun e => (key e.1.1 e.1.2, e.2)
theorem zIm (key : Nat -> Nat -> Lit) (kn : List ((Nat × Nat) × Nat)) (e : (Nat × Nat) × Nat) : zGi key (kn ++ [e]) = zGi key kn ++ [(key e.1.1 e.1.2, e.2)] := by simp [zGi]
structure zJw (n : Nat) (key : Nat -> Nat -> Lit) : Prop where
 lit : ∀ a b, WideAt.IsKeyLit (key a b)
 inj : ∀ a b c d, a < n -> b < n -> c < n -> d < n -> key a b = key c d -> a = c /\ b = d
theorem zK9 {n : Nat} {key : Nat -> Nat -> Lit} (hK : zJw n key) {kn : List ((Nat × Nat) × Nat)} (ab : ∀ e ∈ kn, e.1.1 < n /\ e.1.2 < n) (hn : (kn.map Prod.fst).Nodup) {p q : Nat} (hp : p < n) (hq : q < n) :
  Maps.has (mp (zGi key kn)) (key p q) = decide ((p, q) ∈ kn.map Prod.fst) /\ ∀ m z, ((p, q), m) ∈ kn -> (mp (zGi key kn)).atKey (key p q) z = .lit (.int .i64 (m : Nat)) := by
 have aa : (zGi key kn).map Prod.fst = (kn.map Prod.fst).map fun a => key a.1 a.2 := by simp [zGi]
 have ad : ((zGi key kn).map Prod.fst).Nodup := by
  rw [aa]
  refine List.pairwise_map.2 (hn.imp_of_mem (fun {a b} ha hb ae e => ae ?_))
  obtain ⟨x, hx, rfl⟩ := List.mem_map.1 ha
  obtain ⟨y, hy, rfl⟩ := List.mem_map.1 hb
  obtain ⟨e1, e2⟩ := hK.inj _ _ _ _ (ab x hx).1 (ab x hx).2 (ab y hy).1 (ab y hy).2 e
  exact Prod.ext e1 e2
 have ac := zz8 (l := zGi key kn) (fun e he => by obtain ⟨a, _, rfl⟩ := List.mem_map.1 he; exact hK.lit _ _) ad (key p q)
 refine ⟨?_, fun m z h => ac.2 m z (List.mem_map.2 ⟨_, h, rfl⟩)⟩
 have h1 := ac.1
 rw [aa, List.mem_map] at h1
 refine Bool.eq_iff_iff.2 ?_
 rw [h1, decide_eq_true_eq]
 constructor
 ·rintro ⟨a, ha, e⟩
  obtain ⟨x, hx, rfl⟩ := List.mem_map.1 ha
  obtain ⟨e1, e2⟩ := hK.inj _ _ _ _ (ab x hx).1 (ab x hx).2 hp hq e
  have : x.1 = (p, q) := Prod.ext e1 e2
  rw [<- this]; exact ha
 ·exact fun h => ⟨(p, q), h, rfl⟩
end Go.Proofs.YtoaoajfjcfcmhaaGreatDoor.Dt
namespace Go.Proofs.YtoaoajfjcfcmhaaGreatDoor
open Go.RowKit
theorem zBe {d : Int} {b : Nat} (h1 : 1 <= d) (h5 : d <= 5001) (h : b < 5001) : 0 <= d * ((b : Int) + 1) /\ d * ((b : Int) + 1) <= 25010001 := by
 have a := Int.mul_le_mul_of_nonneg_right h5 (show (0 : Int) <= (b : Int) + 1 by omega)
 have c := Int.mul_nonneg (show (0 : Int) <= d by omega) (show (0 : Int) <= (b : Int) + 1 by omega)
 omega
theorem zAc {d : Int} {j b : Nat} (h1 : 1 <= d) (hb : b = min (Dt.bnd d.toNat j) 5001) : (if 5001 < 1 + d * ((b : Int) + 1) then 5001 else 1 + d * ((b : Int) + 1)) = ((min (Dt.bnd d.toNat (j + 1)) 5001 : Nat) : Int) := by
 rw [<- Dt.zI8 d.toNat j b hb]
 have e : d * ((b : Int) + 1) = ((d.toNat * (b + 1) : Nat) : Int) := by
  rw [Int.natCast_mul, Int.toNat_of_nonneg (by omega)]; simp
 rw [e]
 split <;> omega
theorem zfj {a b : Int} (h : a = b) : Ending.returned (.int .i64 a) = .returned (.int .i64 b) := by rw [h]
theorem ztf (k d : Int) (w : World) (hk : k <= 9223372036854775807) : Calls prog 15 #[.int .i64 k, .int .i64 d] w fun r w' => r = .returned (.int .i64 (Dt.bound k d)) /\ w = w' := by
 by_cases h1 : k < 1
 ·have q1 : decide (k < 1) = true := by simp [h1]
  have HV : Hid (Dt.bound k d = 1) := zh (by rw [Dt.bound, if_pos h1])
  go_enter func15, ntmps15
  go_wp2_with fail
  go_ret
  exact ⟨zfj (by rw [HV.out]; rfl), rfl⟩
 ·have q1 : decide (k < 1) = false := by simp [h1]
  by_cases h2 : d < 1
  ·have q2 : decide (d < 1) = true := by simp [h2]
   have HV : Hid (Dt.bound k d = 3) := zh (by rw [Dt.bound, if_neg h1, if_pos h2])
   go_enter func15, ntmps15
   go_wp2_with fail
   go_ret
   exact ⟨zfj (by rw [HV.out]; rfl), rfl⟩
  ·have q2 : decide (d < 1) = false := by simp [h2]
   have HV : Hid (Dt.bound k d = min (Dt.bnd d.toNat k.toNat) 5001) := zh (by rw [Dt.bound, if_neg h1, if_neg h2])
   go_enter func15, ntmps15
   go_wp2_with fail
   go_loopw [0, 5] (fun i n wr => ∃ j b : Nat, j <= k.toNat /\ i = .int .i64 (k - (j : Int)) /\ n = .int .i64 (b : Int) /\ Hid (b = min (Dt.bnd d.toNat j) 5001) /\ b <= 5001 /\ wr = w) (fun i _ _ => (intOf i).toNat)
   case atStart => exact ⟨0, 1, by omega, by simp, rfl, zh (by simp [Dt.bnd]), by omega, rfl⟩
   case round =>
    obtain ⟨j, b, hj, rfl, rfl, HB, hb, rfl⟩ := hrel
    by_cases hlt : j < k.toNat
    ·have q3 : decide (0 < k - (j : Int)) = true := by simp; omega
     by_cases hn : b < 5001
     ·have q4 : decide ((b : Int) < 5001) = true := by simp; omega
      by_cases h5 : 5001 < d
      ·have q5 : decide (5001 < d) = true := by simp [h5]
       go_wp2_with fail
       go_ret
       refine ⟨zfj ?_, rfl⟩
       rw [HV.out]
       obtain ⟨m, hm⟩ : ∃ m, k.toNat = m + 1 := ⟨k.toNat - 1, by omega⟩
       rw [hm, Dt.zK8 _ _ (by omega)]; rfl
      ·have q5 : decide (5001 < d) = false := by simp [h5]
       have ab : IntKind.i64.wrap (k - (j : Int) - 1) = k - (j : Int) - 1 := IntWalk.i64_in _ (by omega)
       obtain ⟨m1, m2⟩ := zBe (by omega) (by omega) hn
       have HS := zh (zAc (j := j) (show 1 <= d by omega) HB.out)
       go_wp2_with fail
       go_roundw
       case rel =>
        refine ⟨j + 1, min (Dt.bnd d.toNat (j + 1)) 5001, by omega, by go_num, ?_, zh rfl, Nat.min_le_right _ _, trivial⟩
        first
         | exact congrArg (Value.int .i64) HS.out
         | (refine congrArg (Value.int .i64) (Eq.trans ?_ HS.out); split <;> omega)
       case measure => simp [intOf]; omega
     ·have q4 : decide ((b : Int) < 5001) = false := by simp; omega
      have HE : Hid (b = Dt.bound k d) := zh (by
       have aa := HB.out
       have := Dt.zJp (d := d.toNat) (show 1 <= d.toNat by omega) (show 5001 <= Dt.bnd d.toNat j by omega) hj
       rw [HV.out]; omega)
      go_wp2_with fail
      go_ret
      exact ⟨zfj (by rw [HE.out]), rfl⟩
    ·have q3 : decide (0 < k - (j : Int)) = false := by simp; omega
     have HE : Hid (b = Dt.bound k d) := zh (by
      have aa := HB.out
      have e : j = k.toNat := by omega
      rw [HV.out, aa, e])
     go_wp2_with fail
     go_ret
     exact ⟨zfj (by rw [HE.out]), rfl⟩
end Go.Proofs.YtoaoajfjcfcmhaaGreatDoor
