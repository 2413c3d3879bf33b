/- Walks: rows.row, Graph.Each, Graph.Back, Graph.own, Graph.States. The plain side of rounds: the one form of classes, of whatever list; the rounds of a system, by the signatures of its st. Plain laws of rounds: what a round parts, and the ranks. The plain law behind a term's key: decimal numerals with a blank behind each tell the numbers; the numbers tell a term t. The document's rounds are the rounds: a signature as rising numbers tells what a signature tells; the rounds end where n. -/
import Derived.Test.YtoaoajfjcfcmhaaGreatDoorP07
import Derived.Test.YtoaoajfjcfcmhaaGreatDoorP01
import Derived.Lib.ItoaNum
set_option linter.unusedVariables false
set_option linter.unusedSimpArgs false
set_option linter.unusedSectionVars false
set_option maxHeartbeats 16000000
set_option maxRecDepth 100000
open Go.Proofs.Tryz
namespace Go.Proofs.YtoaoajfjcfcmhaaGreatDoor
open Go.RowKit Go.Sort
theorem zgx (key : Sy.Edge -> Nat) (l : List Sy.Edge) (n i : Nat) (h : i < n + 1) : (zJ0 key l n).getD i 0 = Sy.below (fun e => (key e : Int)) l i := by
 simp [zJ0, List.getD, h]
theorem zpz (key : Sy.Edge -> Nat) (l : List Sy.Edge) (n : Nat) : (zJ0 key l n).length = n + 1 := by simp [zJ0]
theorem zrx {s : Sy.Lts} (hR : Sy.Right s) (p : Nat) : Sy.steps s p = (((Sy.sorted s).map zJx).drop (Sy.below (fun e => (zGr e : Int)) (Sy.sorted s) p)).take
  (Sy.below (fun e => (zGr e : Int)) (Sy.sorted s) (p + 1) - Sy.below (fun e => (zGr e : Int)) (Sy.sorted s) p) := by
 have hk : ∀ e ∈ Sy.sorted s, (zGr e : Int) = e.1 := fun e he => by have := hR.ok e ((Sy.mem_sorted s e).1 he); unfold zGr; omega
 have hf := Sy.zF3 (fun e => (zGr e : Int)) (Sy.sorted s) p ((Sy.zGf s).imp_of_mem (fun {a b} ha hb h => by rw [hk a ha, hk b hb]; exact h))
 rw [<- List.map_drop, <- List.map_take, <- hf]
 unfold Sy.steps zJx
 congr 1
 refine List.filter_congr (fun e he => ?_)
 rw [hk e he]
theorem zrl {s : Sy.Lts} (hR : Sy.Right s) (p : Nat) : Sy.backs s p = (((Sy.turned s).map sIn).drop (Sy.below (fun e => (kIn e : Int)) (Sy.turned s) p)).take
  (Sy.below (fun e => (kIn e : Int)) (Sy.turned s) (p + 1) - Sy.below (fun e => (kIn e : Int)) (Sy.turned s) p) := by
 have hk : ∀ e ∈ Sy.turned s, (kIn e : Int) = e.2.2 := fun e he => by have := hR.ok e ((Sy.zEf s e).1 he); unfold kIn; omega
 have hf := Sy.zF3 (fun e => (kIn e : Int)) (Sy.turned s) p ((Sy.zG3 s).imp_of_mem (fun {a b} ha hb h => by rw [hk a ha, hk b hb]; exact h))
 rw [<- List.map_drop, <- List.map_take, <- hf]
 unfold Sy.backs sIn
 congr 1
 refine List.filter_congr (fun e he => ?_)
 rw [hk e he]
def zye (w : World) (xs : List (Int × Int)) (a b : Nat) (r : Ending) (w' : World) : Prop := ∃ v, r = .returned v /\ Up w w' /\ Ls2 w' v ((xs.drop a).take (b - a))
theorem zam {w : World} {b : Nat} {a1 a2 : Value} {e : TypeId} (h : w.heap[b]? = some (.cells #[a1, a2] e (0, 0))) : w.cell? ⟨b, 0, none⟩ = some a1 /\ w.cell? ⟨b, 1, none⟩ = some a2 := by
 refine ⟨?_, ?_⟩ <;> simp [World.cell?, h]
theorem row_in {w : World} {vo fo : Value} {n p : Nat} {xs : List (Int × Int)} {cs : List Nat} (h : RowsIn w vo fo n xs cs) (a b : Nat) (ha : cs.getD p 0 = a) (hb : cs.getD (p + 1) 0 = b) (am : a <= b) (al : b <= xs.length) (hp : p < n) (hn : n <= 1000) (hx : xs.length <= 1000000) (hc : cs.length = n + 1) :
  Calls prog 159 #[.agg #[vo, fo], .int .i64 (p : Nat)] w (zye w xs a b) := by
 obtain ⟨aj, gf, rfl, ac⟩ := h
 have ag : w.cell? ⟨gf, p, none⟩ = some (.int .i64 (a : Nat)) := ac.cell (by rw [zai (by omega), ha])
 have ah : w.cell? ⟨gf, p + 1, none⟩ = some (.int .i64 (b : Nat)) := ac.cell (by rw [zai (by omega), hb])
 have q1 : (p : Int) < ((n + 1 : Nat) : Int) - 1 := by omega
 have q2 : (p : Int) + 1 < ((n + 1 : Nat) : Int) := by omega
 have q3 : (0 : Int) <= (p : Int) + 1 := by omega
 have q4 : IntKind.i64.wrap ((p : Int) + 1) = (p : Int) + 1 := by simp [IntKind.wrap, IntKind.bits, IntKind.signed]; omega
 have q5 : ((p : Int) + 1).toNat = p + 1 := by omega
 have q6 : (a : Int) <= (b : Int) := by omega
 have q7 : (0 : Int) <= (a : Int) := by omega
 have q8 : (0 : Int) <= (b : Int) := by omega
 have q9 : (p : Int) < ((n + 1 : Nat) : Int) := by omega
 have q10 : IntKind.i64.wrap (((n + 1 : Nat) : Int) - 1) = (n : Int) := by simp [IntKind.wrap, IntKind.bits, IntKind.signed]; omega
 rcases aj with ⟨rfl, rfl⟩ | ⟨g, c, rfl, an, ao, ak⟩
 ·obtain rfl : b = 0 := by simpa using al
  obtain rfl : a = 0 := by omega
  obtain ⟨w1, aa⟩ := nm (w.alloc (.cells #[.slice none 0 0, .slice (some ⟨gf, 0, none⟩) (n + 1) (n + 1)] 188))
  have ae : w1.heap[w.heap.size]? = some (.cells #[.slice none 0 0, .slice (some ⟨gf, 0, none⟩) (n + 1) (n + 1)] 188 (0, 0)) := by rw [aa]; exact heap_alloc_new w _
  have ab : Up w w1 := by rw [aa]; exact (Up.refl w).alloc _
  obtain ⟨b0, b1⟩ := zam ae
  have k0 := ab.cell ag
  have k1 := ab.cell ah
  have ai := zh ab
  clear ac ha hb ag ah ab ae
  go_enter func159, ntmps159
  go_upto_region 1 with fail
  rw [<- aa]
  clear aa
  go_wp2_with fail
  go_quiet (fail)
  go_wp2_with fail
  go_ret
  exact ⟨_, rfl, ai.out.drewN _, ⟨none, 0, 0, 0, rfl, fun h => by simp at h, fun i hi => by simp at hi⟩⟩
 ·have q11 : (b : Int) <= (c : Int) := by omega
  obtain ⟨m, hm⟩ := nm (xs.length)
  rw [<- hm]
  obtain ⟨w1, aa⟩ := nm (w.alloc (.cells #[.slice (some ⟨g, 0, none⟩) m c, .slice (some ⟨gf, 0, none⟩) (n + 1) (n + 1)] 188))
  have ae : w1.heap[w.heap.size]? = some (.cells #[.slice (some ⟨g, 0, none⟩) m c, .slice (some ⟨gf, 0, none⟩) (n + 1) (n + 1)] 188 (0, 0)) := by rw [aa]; exact heap_alloc_new w _
  have ab : Up w w1 := by rw [aa]; exact (Up.refl w).alloc _
  obtain ⟨b0, b1⟩ := zam ae
  have k0 := ab.cell ag
  have k1 := ab.cell ah
  have ai := zh ab
  have ad := ak.part a (b - a) (by omega)
  have af : ((xs.drop a).take (b - a)).length = b - a := by rw [List.length_take, List.length_drop]; omega
  have HP : Hid (Ls2 w1 (.slice (some ⟨g, a * 2, none⟩) (b - a) (b - a)) ((xs.drop a).take (b - a))) := zh ⟨_, _, g, a * 2, by rw [af], fun _ => rfl, fun i hi => by
   have := ad i hi
   rw [Nat.zero_add] at this
   exact ⟨ab.cell this.1, ab.cell this.2⟩⟩
  clear ac ha hb ag ah ab ae ak ad af hm
  by_cases hEq : a = b
  ·subst hEq
   have HN : Hid ((xs.drop a).take (a - a) = []) := zh (by simp)
   go_enter func159, ntmps159
   go_upto_region 1 with fail
   rw [<- aa]
   clear aa
   go_wp2_with fail
   go_quiet (fail)
   go_wp2_with fail
   go_ret
   exact ⟨_, rfl, ai.out.drewN _, by rw [HN.out]; exact ⟨_, _, 0, 0, rfl, fun h => by simp at h, fun i hi => by simp at hi⟩⟩
  ·have q12 : (a : Int) < (b : Int) := by omega
   have q13 : 0 < b - a := by omega
   go_enter func159, ntmps159
   go_upto_region 1 with fail
   rw [<- aa]
   clear aa
   go_wp2_with fail
   go_quiet (fail)
   go_wp2_with fail
   go_ret
   exact ⟨_, rfl, ai.out.drewN _, HP.out.up ((Up.refl _).drewN _)⟩
def zAx (w : World) (xs : List (Int × Int)) (r : Ending) (w' : World) : Prop := ∃ v, r = .returned v /\ Up w w' /\ Ls2 w' v xs
theorem zKp {w : World} {B : Nat} {s : Sy.Lts} (h : zCg w B s) : ∃ se vo fo vi fi, (∀ (i : Nat) (u : Value), [Value.int .i64 s.n, .int .i64 s.m, .int .i64 s.start, se, vo, fo, vi, fi][i]? = some u -> w.cell? ⟨B, i, none⟩ = some u) /\ Ls3 w se (Sy.sorted s) /\
  RowsIn w vo fo s.n.toNat ((Sy.sorted s).map zJx) (zJ0 zGr (Sy.sorted s) s.n.toNat) /\ RowsIn w vi fi s.n.toNat ((Sy.turned s).map sIn) (zJ0 kIn (Sy.turned s) s.n.toNat) := by
 obtain ⟨se, vo, fo, vi, fi, hb, h1, h2, h3⟩ := h.box
 exact ⟨se, vo, fo, vi, fi, fun i u hu => (zco hb i u hu).1, h1, h2, h3⟩
theorem zp7 {w : World} {B p : Nat} {s : Sy.Lts} (h : zCg w B s) (hR : Sy.Right s) (hp : p < s.n.toNat) :
  Calls prog 128 #[.pointer (some ⟨B, 0, none⟩), .int .i64 (p : Nat)] w (zAx w (Sy.steps s p)) := by
 obtain ⟨se, vo, fo, vi, fi, hb, h1, h2, h3⟩ := zKp h
 have c4 := hb 4 _ rfl
 have c5 := hb 5 _ rfl
 have hl : ((Sy.sorted s).map zJx).length <= 1000000 := by rw [List.length_map]; have := Sy.zCo (lt := Sy.lt3) s.es; have := hR.len; unfold Sy.sorted; omega
 have aa := row_in h2 _ _ (zgx zGr _ _ p (by omega)) (zgx zGr _ _ (p + 1) (by omega)) (Sy.zF5 _ _ (by omega)) (by rw [List.length_map]; exact Sy.below_le _ _ _) hp (by have := hR.n1; omega) hl (zpz _ _ _)
 unfold zye at aa
 rw [<- zrx hR p] at aa
 have ab := zh aa
 have ae : ∃ ao n c, vo = .slice ao n c := by
  rcases h2.all with ⟨rfl, _⟩ | ⟨g, c, rfl, _⟩ <;> exact ⟨_, _, _, rfl⟩
 obtain ⟨ao, nn, cc, rfl⟩ := ae
 obtain ⟨gf, rfl, -⟩ := h2.frm
 clear hb h h1 h2 h3 aa hl
 go_enter func128, ntmps128
 go_wp2_with fail
 (with_reducible refine ab.out.mono ?_)
 rintro e w1 ⟨v1, rfl, ac, ad⟩
 have HU := zh ac
 have HL := zh ad
 obtain ⟨a1, q1, g1, o1, rfl, -, -⟩ := ad
 clear ac
 go_wp2_with fail
 go_ret
 exact ⟨_, rfl, HU.out, HL.out⟩
theorem zy6 {w : World} {B : Nat} {s : Sy.Lts} (h : zCg w B s) :
  Calls prog 164 #[.pointer (some ⟨B, 0, none⟩)] w fun r w' => ∃ ao k c, r = .returned (.agg #[.int .i64 s.n, .int .i64 s.m, .int .i64 s.start, .slice ao k c]) /\ Up w w' /\ Ls3 w' (.slice ao k c) (Sy.sorted s) := by
 obtain ⟨se, vo, fo, vi, fi, hb, h1, h2, h3⟩ := zKp h
 have aa : ∀ (i : Nat) (u : Value), [Value.int .i64 s.n, .int .i64 s.m, .int .i64 s.start, se, vo, fo, vi, fi][i]? = some u -> ∀ o, (w.alloc o).cell? ⟨B, i, none⟩ = some u := fun i u hu o => ((Up.refl w).alloc o).cell (hb i u hu)
 have c0 := aa 0 _ rfl
 have c1 := aa 1 _ rfl
 have c2 := aa 2 _ rfl
 have c3 := aa 3 _ rfl
 have H1 := zh h1
 obtain ⟨ao, cap, g, off, rfl, -, -⟩ := h1
 clear h hb aa h2 h3
 go_enter func164, ntmps164
 go_wp2_with fail
 refine bodyPost_ret (v := .agg #[.int .i64 s.n, .int .i64 s.m, .int .i64 s.start, .slice ao (Sy.sorted s).length cap]) (by simp [results, results164, go_sem]) rfl ⟨_, _, _, rfl, (Up.refl w).alloc _, H1.out.up ((Up.refl w).alloc _)⟩
theorem zv1 (a b c : Int) (ao : Option Addr) (k cap : Nat) (w : World) : (Instr.field 24 (.agg #[.int .i64 a, .int .i64 b, .int .i64 c, .slice ao k cap]) 0).run prog w = .ok (.int .i64 a) w := by kernel_rfl
theorem zdy {w : World} {B : Nat} {s : Sy.Lts} (h : zCg w B s) :
  Calls prog 133 #[.pointer (some ⟨B, 0, none⟩)] w fun r w' => r = .returned (.int .i64 s.n) /\ Up w w' := by
 have HO := zh (zy6 h)
 clear h
 go_enter func133, ntmps133
 go_wp2_with fail
 (with_reducible refine HO.out.mono ?_)
 rintro e w1 ⟨ao, k, c, rfl, hu, -⟩
 have aa := zv1 s.n s.m s.start ao k c
 go_wp2_with fail
 go_ret
 exact ⟨rfl, hu⟩
end Go.Proofs.YtoaoajfjcfcmhaaGreatDoor
namespace Go.Proofs.YtoaoajfjcfcmhaaGreatDoor.Rd
open Go.Proofs.YtoaoajfjcfcmhaaGreatDoor.Sy
section
variable {β γ : Type} [DecidableEq β] [DecidableEq γ]
def zc1 (s : List β) (c : β) : List β := if c ∈ s then s else s ++ [c]
def seen (l : List β) : List β := l.foldl zc1 []
def canon (l : List β) : List Nat := l.map fun c => (seen l).idxOf c
theorem zC9 (l : List β) (c : β) : seen (l ++ [c]) = if c ∈ seen l then seen l else seen l ++ [c] := by
 simp only [seen, List.foldl_append, List.foldl_cons, List.foldl_nil]
 rfl
theorem zDp (l : List β) (k : Nat) (h : k < l.length) : seen (l.take (k + 1)) = if l[k] ∈ seen (l.take k) then seen (l.take k) else seen (l.take k) ++ [l[k]] := by
 rw [List.take_succ_eq_append_getElem h, zC9]
theorem mem_seen (c : β) (l : List β) : c ∈ seen l ↔ c ∈ l := by
 revert l
 refine zCd (by simp [seen]) ?_
 intro l x ih
 rw [zC9]
 split
 ·rename_i h
  rw [ih, List.mem_append, List.mem_singleton]
  constructor
  ·exact .inl
  ·rintro (h' | rfl)
   ·exact h'
   ·exact ih.1 (by assumption)
 ·simp [ih]
theorem zEm (l : List β) : (seen l).Nodup := by
 revert l
 refine zCd List.nodup_nil ?_
 intro l x ih
 rw [zC9]
 split
 ·exact ih
 ·rename_i h
  exact List.nodup_append.2 ⟨ih, by simp, by intro a ha b hb; simp at hb; subst hb; intro e; subst e; exact h ha⟩
theorem zCq (l : List β) : (seen l).length <= l.length := by
 revert l
 refine zCd (by simp [seen]) ?_
 intro l x ih
 rw [zC9]
 split <;> simp <;> omega
theorem zg8 (l : List β) (h : (seen l).length = l.length) : l.Nodup := by
 revert l
 refine zCd (fun _ => List.nodup_nil) ?_
 intro l x ih h
 rw [zC9] at h
 have h1 := zCq l
 split at h
 ·simp at h; omega
 ·rename_i hx
  simp at h
  exact List.nodup_append.2 ⟨ih h, by simp, by intro a ha b hb; simp at hb; subst hb; intro e; subst e; exact hx ((mem_seen _ _).2 ha)⟩
theorem zC8 (l : List β) : (canon l).length = l.length := by simp [canon]
theorem zDa {s t : List β} {c : β} (h : c ∈ s) : (s ++ t).idxOf c = s.idxOf c := by
 rw [List.idxOf_append, if_pos h]
theorem zkp (l : List β) : ∀ s : List β, ∃ t, l.foldl zc1 s = s ++ t := by
 induction l with
 | nil => intro s; exact ⟨[], by simp⟩
 | cons c l ih =>
  intro s
  simp only [List.foldl_cons, zc1]
  split
  ·exact ih s
  ·obtain ⟨t, ht⟩ := ih (s ++ [c])
   exact ⟨c :: t, by rw [ht]; simp⟩
theorem zdi (l : List β) (k : Nat) : ∃ t, seen l = seen (l.take k) ++ t := by
 obtain ⟨t, ht⟩ := zkp (l.drop k) (seen (l.take k))
 refine ⟨t, ?_⟩
 rw [<- ht]
 conv => lhs; rw [<- List.take_append_drop k l]
 simp only [seen, List.foldl_append]
theorem zFa (l : List β) (k : Nat) (h : k < l.length) : (canon l)[k]? = some ((seen (l.take k)).idxOf l[k]) := by
 obtain ⟨t, ht⟩ := zdi l (k + 1)
 have hs := zDp l k h
 have hc : (canon l)[k]? = some ((seen l).idxOf l[k]) := by simp [canon, h]
 rw [hc, ht, hs]
 split
 ·rename_i hin; rw [zDa hin]
 ·rename_i hin
  rw [zDa (by simp), List.idxOf_append, if_neg hin, List.idxOf_eq_length hin]; simp
theorem zEh (l : List β) (k : Nat) (h : k < l.length) : (canon l).take (k + 1) = (canon l).take k ++ [(seen (l.take k)).idxOf l[k]] := by
 rw [List.take_add_one, zFa l k h]
 rfl
def place (s : List β) (c : β) : Nat := s.idxOf c
theorem zGa {s : List β} {c : β} (h : c ∉ s) : place s c = s.length := List.idxOf_eq_length h
theorem zEr (l : List β) (k : Nat) (h : k < l.length) : (canon l).take (k + 1) = (canon l).take k ++ [place (seen (l.take k)) l[k]] := zEh l k h
theorem zEu {l : List β} {k : Nat} (h : k < l.length) (hm : l[k] ∈ seen (l.take k)) : seen (l.take (k + 1)) = seen (l.take k) := by rw [zDp l k h, if_pos hm]
theorem zEz {l : List β} {k : Nat} (h : k < l.length) (hm : l[k] ∉ seen (l.take k)) : seen (l.take (k + 1)) = seen (l.take k) ++ [l[k]] := by rw [zDp l k h, if_neg hm]
theorem zoc {s : List β} {a b : β} (ha : a ∈ s) (h : s.idxOf a = s.idxOf b) : a = b := by
 have h1 : s.idxOf a < s.length := List.idxOf_lt_length_of_mem ha
 have h2 : s.idxOf b < s.length := by rw [<- h]; exact h1
 have e1 : s[s.idxOf a] = a := List.getElem_idxOf h1
 have e2 : s[s.idxOf b] = b := List.getElem_idxOf h2
 rw [<- e1, <- e2]; simp only [h]
theorem zmv (l : List β) {p q : Nat} (hp : p < l.length) (hq : q < l.length) : (canon l).getD p 0 = (canon l).getD q 0 ↔ l[p] = l[q] := by
 simp only [canon, List.getD, List.getElem?_map, List.getElem?_eq_getElem hp, List.getElem?_eq_getElem hq, Option.map_some, Option.getD_some]
 constructor
 ·exact zoc ((mem_seen _ _).2 (List.getElem_mem hp))
 ·intro h; rw [h]
theorem zEj (l : List β) (k : Nat) (h : k < l.length) : (canon l).getD k 0 < (seen l).length := by
 simp only [canon, List.getD, List.getElem?_map, List.getElem?_eq_getElem h, Option.map_some, Option.getD_some]
 exact List.idxOf_lt_length_of_mem ((mem_seen _ _).2 (List.getElem_mem h))
def zry (f : β -> γ) (l : List β) : Prop := ∀ a ∈ l, ∀ b ∈ l, f a = f b -> a = b
theorem zFs (f : β -> γ) (l : List β) (h : zry f l) : seen (l.map f) = (seen l).map f := by
 revert l
 refine zCd (fun _ => rfl) ?_
 intro l x ih h
 have h' : zry f l := fun a ha b hb => h a (by simp [ha]) b (by simp [hb])
 rw [List.map_append, List.map_cons, List.map_nil, zC9, zC9, ih h']
 have hm : f x ∈ (seen l).map f ↔ x ∈ seen l := by
  constructor
  ·intro hx
   obtain ⟨y, hy, e⟩ := List.mem_map.1 hx
   have := h y (by simp [(mem_seen _ _).1 hy]) x (by simp) e
   rw [<- this]; exact hy
  ·exact List.mem_map_of_mem
 by_cases hx : x ∈ seen l
 ·rw [if_pos (hm.2 hx), if_pos hx]
 ·rw [if_neg (fun h => hx (hm.1 h)), if_neg hx, List.map_append]; rfl
theorem zsr (f : β -> γ) : ∀ (s : List β) (x : β), (∀ a ∈ s, f a = f x -> a = x) -> (s.map f).idxOf (f x) = s.idxOf x
 | [], x, _ => rfl
 | y :: t, x, h => by
  rw [List.map_cons, List.idxOf_cons, List.idxOf_cons]
  have e : (f y == f x) = (y == x) := by
   by_cases e : y = x
   ·subst e; simp
   ·rw [beq_eq_false_iff_ne.2 e, beq_eq_false_iff_ne.2 (fun h' => e (h y (by simp) h'))]
  rw [e, zsr f t x (fun a ha => h a (by simp [ha]))]
theorem zfq (f : β -> γ) (l : List β) (h : zry f l) : canon (l.map f) = canon l := by
 unfold canon
 rw [zFs f l h, List.map_map]
 refine List.map_congr_left fun x hx => ?_
 exact zsr f _ x (fun a ha e => h a ((mem_seen _ _).1 ha) x hx e)
theorem zhn (a : List β) (b : List γ) (hl : a.length = b.length) (h : ∀ i j (hi : i < a.length) (hj : j < a.length), a[i] = a[j] ↔ b[i]'(by omega) = b[j]'(by omega)) : canon a = canon b := by
 have e1 : (a.zip b).map Prod.fst = a := List.map_fst_zip (by omega)
 have e2 : (a.zip b).map Prod.snd = b := List.map_snd_zip (by omega)
 have hz : (a.zip b).length = a.length := by simp [hl]
 have i1 : zry Prod.fst (a.zip b) := by
  intro x hx y hy e
  obtain ⟨i, hi, rfl⟩ := List.mem_iff_getElem.1 hx
  obtain ⟨j, hj, rfl⟩ := List.mem_iff_getElem.1 hy
  simp only [List.getElem_zip] at e ⊢
  rw [e, (h i j (by omega) (by omega)).1 e]
 have i2 : zry Prod.snd (a.zip b) := by
  intro x hx y hy e
  obtain ⟨i, hi, rfl⟩ := List.mem_iff_getElem.1 hx
  obtain ⟨j, hj, rfl⟩ := List.mem_iff_getElem.1 hy
  simp only [List.getElem_zip] at e ⊢
  rw [e, (h i j (by omega) (by omega)).2 e]
 have c1 := zfq Prod.fst _ i1
 have c2 := zfq Prod.snd _ i2
 rw [e1] at c1
 rw [e2] at c2
 rw [c1, c2]
theorem zny (l : List β) : canon (canon l) = canon l := by
 have : canon l = l.map fun c => (seen l).idxOf c := rfl
 rw [this]
 have h2 := zfq (fun c => (seen l).idxOf c) l (fun a ha b hb e => zoc ((mem_seen _ _).2 ha) e)
 exact h2
def cls (l : List β) : Nat := (seen l).length
theorem zt8 (l : List β) : cls (canon l) = cls l := by
 have : canon l = l.map fun c => (seen l).idxOf c := rfl
 rw [cls, this, zFs _ l (fun a ha b hb e => zoc ((mem_seen _ _).2 ha) e)]
 simp [cls]
theorem zqq (f : β -> γ) (l : List β) : cls (l.map f) <= cls l := by
 have key : ∀ l : List β, seen (l.map f) = seen ((seen l).map f) := by
  refine zCd rfl ?_
  intro l x ih
  rw [List.map_append, List.map_cons, List.map_nil, zC9, ih, zC9]
  by_cases hx : x ∈ seen l
  ·rw [if_pos hx, if_pos ((mem_seen _ _).2 (List.mem_map_of_mem hx))]
  ·rw [if_neg hx, List.map_append, List.map_cons, List.map_nil, zC9]
 rw [cls, key]
 exact Nat.le_trans (zCq _) (by simp [cls])
theorem zsg (f : β -> γ) (l : List β) (h : cls (l.map f) = cls l) : zry f l := by
 have key : ∀ l : List β, seen (l.map f) = seen ((seen l).map f) := by
  refine zCd rfl ?_
  intro l x ih
  rw [List.map_append, List.map_cons, List.map_nil, zC9, ih, zC9]
  by_cases hx : x ∈ seen l
  ·rw [if_pos hx, if_pos ((mem_seen _ _).2 (List.mem_map_of_mem hx))]
  ·rw [if_neg hx, List.map_append, List.map_cons, List.map_nil, zC9]
 rw [cls, key, cls] at h
 have hn := zg8 ((seen l).map f) (by simpa using h)
 intro a ha b hb e
 have ab := (mem_seen _ _).2 ha
 have ac := (mem_seen _ _).2 hb
 obtain ⟨i, hi, rfl⟩ := List.mem_iff_getElem.1 ab
 obtain ⟨j, hj, rfl⟩ := List.mem_iff_getElem.1 ac
 have := (List.nodup_iff_pairwise_ne.1 hn)
 have ad : i = j := by
  have hi' : i < ((seen l).map f).length := by simpa using hi
  have aa : j < ((seen l).map f).length := by simpa using hj
  have e1 : ((seen l).map f)[i] = ((seen l).map f)[j] := by simpa using e
  rcases Nat.lt_trichotomy i j with h1 | h1 | h1
  ·exact absurd e1 (List.pairwise_iff_getElem.1 this i j hi' aa h1)
  ·exact h1
  ·exact absurd e1.symm (List.pairwise_iff_getElem.1 this j i aa hi' h1)
 subst ad; rfl
theorem zB7 (l : List β) : cls l <= l.length := zCq l
theorem zz1 (l : List β) (h : 0 < l.length) : 0 < cls l := by
 cases l with
 | nil => simp at h
 | cons x t => exact List.length_pos_of_mem ((mem_seen x (x :: t)).2 (by simp))
end
def sig (s : Lts) (c : List Nat) (p : Nat) : Nat × List (Int × Int) :=
 (c.getD p 0, norm lt2 ((steps s p).map fun x => (x.1, ((c.getD x.2.toNat 0 : Nat) : Int))))
def sigs (s : Lts) (c : List Nat) : List (Nat × List (Int × Int)) := (List.range c.length).map (sig s c)
def next (s : Lts) (c : List Nat) : List Nat := canon (sigs s c)
theorem zE6 (s : Lts) (c : List Nat) : (sigs s c).length = c.length := by simp [sigs]
theorem zDh (s : Lts) (c : List Nat) : (next s c).length = c.length := by rw [next, zC8, zE6]
theorem zle (s : Lts) (c : List Nat) : (sigs s c).map Prod.fst = c := by
 refine List.ext_getElem (by simp [sigs]) fun i h1 h2 => ?_
 simp [sigs, sig, List.getD, h2]
def R (s : Lts) : Nat -> List Nat
 | 0 => List.replicate s.n.toNat 0
 | k + 1 => next s (R s k)
theorem zD0 (s : Lts) : ∀ k, (R s k).length = s.n.toNat
 | 0 => by simp [R]
 | k + 1 => by rw [R, zDh, zD0 s k]
theorem zom : ∀ n : Nat, canon (List.replicate n 0) = List.replicate n 0 := by
 intro n
 have hs : ∀ m : Nat, seen (List.replicate (m + 1) (0 : Nat)) = [0] := by
  intro m
  induction m with
  | zero => rfl
  | succ m ih => rw [List.replicate_succ' (n := m + 1), zC9, ih]; rfl
 cases n with
 | zero => rfl
 | succ n =>
  rw [canon, hs]
  simp
theorem zt7 (s : Lts) : ∀ k, canon (R s k) = R s k
 | 0 => zom _
 | k + 1 => by rw [R, next, zny]
theorem zvi (s : Lts) (c : List Nat) (hc : canon c = c) (h : next s c ≠ c) : cls c < cls (next s c) := by
 have h1 : cls (next s c) = cls (sigs s c) := zt8 _
 have h2 : cls ((sigs s c).map Prod.fst) <= cls (sigs s c) := zqq _ _
 rw [h1]
 rw [zle] at h2
 rcases Nat.lt_or_eq_of_le h2 with h3 | h3
 ·exact h3
 ·exfalso
  have hi := zsg Prod.fst (sigs s c) (by rw [zle]; exact h3)
  have := zfq Prod.fst (sigs s c) hi
  rw [zle, hc] at this
  exact h this.symm
theorem zy7 (s : Lts) (k : Nat) (h : R s (k + 1) ≠ R s k) : cls (R s k) < cls (R s (k + 1)) := zvi s _ (zt7 s k) h
theorem zy8 (s : Lts) : ∀ k, (∀ j, j < k -> R s (j + 1) ≠ R s j) -> cls (R s 0) + k <= cls (R s k)
 | 0, _ => Nat.le_refl _
 | k + 1, h => by
  have h1 := zy8 s k (fun j hj => h j (by omega))
  have h2 := zy7 s k (h k (by omega))
  omega
def zd1 (s : Lts) : Nat -> Nat -> Nat
 | 0, k => k
 | f + 1, k => if R s (k + 1) = R s k then k else zd1 s f (k + 1)
def last (s : Lts) : Nat := zd1 s s.n.toNat 0
theorem zfm (s : Lts) : ∀ f k, (∀ j, j < k -> R s (j + 1) ≠ R s j) -> ∀ j, j < zd1 s f k -> R s (j + 1) ≠ R s j
 | 0, k, h => h
 | f + 1, k, h => by
  unfold zd1
  split
  ·exact h
  ·rename_i hne
   refine zfm s f (k + 1) (fun j hj => ?_)
   by_cases e : j = k
   ·subst e; exact hne
   ·exact h j (by omega)
theorem zga (s : Lts) : ∀ f k, R s (zd1 s f k + 1) = R s (zd1 s f k) \/ zd1 s f k = k + f
 | 0, k => .inr rfl
 | f + 1, k => by
  unfold zd1
  split
  ·rename_i h; exact .inl h
  ·rcases zga s f (k + 1) with h | h
   ·exact .inl h
   ·exact .inr (by omega)
theorem zGd (s : Lts) (j : Nat) (h : j < last s) : R s (j + 1) ≠ R s j := zfm s _ 0 (fun _ h => by omega) j h
theorem zGx (s : Lts) (h : 0 < s.n.toNat) : last s < s.n.toNat := by
 have h1 := zy8 s (last s) (zGd s)
 have h2 := zB7 (R s (last s))
 have h3 := zz1 (R s 0) (by rw [zD0]; exact h)
 rw [zD0] at h2
 omega
theorem zHb (s : Lts) : R s (last s + 1) = R s (last s) := by
 rcases zga s s.n.toNat 0 with h | h
 ·exact h
 ·by_cases h0 : s.n.toNat = 0
  ·have : ∀ k, R s k = [] := fun k => List.eq_nil_of_length_eq_zero (by rw [zD0, h0])
   rw [this, this]
  ·have := zGx s (by omega)
   simp only [last] at this
   omega
def rounds (s : Lts) : List (List Nat) := (List.range (last s + 1)).map (R s)
theorem zD4 (s : Lts) : (rounds s).length = last s + 1 := by simp [rounds]
def rank (s : Lts) (p q : Nat) : Int :=
 match (rounds s).findIdx? (fun l => l.getD p 0 != l.getD q 0) with
 | some k => (k : Int)
 | none => -1
def meets (s : Lts) (c : List Nat) (p q : Nat) : Bool :=
 (steps s p).all fun x => (steps s q).any fun y => y.1 == x.1 && c.getD y.2.toNat 0 == c.getD x.2.toNat 0
theorem zdl {α : Type} [DecidableEq α] {lt : α -> α -> Bool} (T : Tot lt) (a b : List α) : norm lt a = norm lt b ↔ ∀ x, x ∈ a ↔ x ∈ b := by
 constructor
 ·intro h x; rw [<- zCx (lt := lt) x a, h, zCx]
 ·intro h; exact zD5 T _ _ (zC5 T a) (zC5 T b) (fun x => by rw [zCx, zCx, h])
theorem zv5 (s : Lts) (c : List Nat) (p q : Nat) : meets s c p q = true ↔
  ∀ z, z ∈ ((steps s p).map fun x => (x.1, ((c.getD x.2.toNat 0 : Nat) : Int))) -> z ∈ ((steps s q).map fun x => (x.1, ((c.getD x.2.toNat 0 : Nat) : Int))) := by
 simp only [meets, List.all_eq_true, List.any_eq_true, Bool.and_eq_true, beq_iff_eq, List.mem_map]
 constructor
 ·rintro h z ⟨x, hx, rfl⟩
  obtain ⟨y, hy, e1, e2⟩ := h x hx
  exact ⟨y, hy, by rw [e1, e2]⟩
 ·intro h x hx
  obtain ⟨y, hy, e⟩ := h _ ⟨x, hx, rfl⟩
  simp only [Prod.mk.injEq] at e
  exact ⟨y, hy, e.1, by omega⟩
theorem zro (s : Lts) (c : List Nat) (p q : Nat) : sig s c p = sig s c q ↔ c.getD p 0 = c.getD q 0 /\ meets s c p q = true /\ meets s c q p = true := by
 simp only [sig, Prod.mk.injEq, zdl zKk, zv5]
 constructor
 ·rintro ⟨h1, h2⟩; exact ⟨h1, fun z hz => (h2 z).1 hz, fun z hz => (h2 z).2 hz⟩
 ·rintro ⟨h1, h2, h3⟩; exact ⟨h1, fun z => ⟨h2 z, h3 z⟩⟩
theorem zez (s : Lts) (c : List Nat) {p q : Nat} (hp : p < c.length) (hq : q < c.length) :
  (next s c).getD p 0 = (next s c).getD q 0 ↔ c.getD p 0 = c.getD q 0 /\ meets s c p q = true /\ meets s c q p = true := by
 rw [next, zmv (sigs s c) (by rw [zE6]; exact hp) (by rw [zE6]; exact hq), <- zro]
 simp [sigs]
theorem znd {s : Lts} {p q k : Nat} (h : rank s p q = (k : Int)) : k < last s + 1 /\ (R s k).getD p 0 ≠ (R s k).getD q 0 /\ ∀ j, j < k -> (R s j).getD p 0 = (R s j).getD q 0 := by
 unfold rank at h
 split at h
 ·rename_i k' hk
  obtain rfl : k' = k := by omega
  obtain ⟨h1, h2, h3⟩ := List.findIdx?_eq_some_iff_getElem.1 hk
  rw [zD4] at h1
  simp only [rounds, List.getElem_map, List.getElem_range] at h2 h3
  exact ⟨h1, by simpa using h2, fun j hj => by simpa using h3 j hj⟩
 ·omega
theorem zsp {s : Lts} {p q : Nat} (h : rank s p q < 0) : rank s p q = -1 /\ ∀ j, j < last s + 1 -> (R s j).getD p 0 = (R s j).getD q 0 := by
 unfold rank at h ⊢
 split at h
 ·omega
 ·rename_i hk
  refine ⟨rfl, fun j hj => ?_⟩
  have := List.findIdx?_eq_none_iff.1 hk (R s j) (by simp only [rounds, List.mem_map, List.mem_range]; exact ⟨j, hj, rfl⟩)
  simpa using this
theorem zjk (s : Lts) (p q : Nat) : (rank s p q = -1 /\ ∀ j, j < last s + 1 -> (R s j).getD p 0 = (R s j).getD q 0) \/
  ∃ k : Nat, rank s p q = (k : Int) /\ k < last s + 1 /\ (R s k).getD p 0 ≠ (R s k).getD q 0 /\ ∀ j, j < k -> (R s j).getD p 0 = (R s j).getD q 0 := by
 by_cases h : rank s p q < 0
 ·exact .inl (zsp h)
 ·obtain ⟨k, hk⟩ := Int.eq_ofNat_of_zero_le (show 0 <= rank s p q by omega)
  exact .inr ⟨k, hk, znd hk⟩
theorem zCu (s : Lts) (p q : Nat) : rank s p q = rank s q p := by
 unfold rank
 have : (fun l : List Nat => l.getD p 0 != l.getD q 0) = fun l => l.getD q 0 != l.getD p 0 := by
  funext l; simp only [bne]; congr 1; exact Bool.eq_iff_iff.2 (by rw [beq_iff_eq, beq_iff_eq]; exact ⟨fun h => h.symm, fun h => h.symm⟩)
 rw [this]
theorem zn5 (s : Lts) (p : Nat) : (R s 0).getD p 0 = 0 := by
 simp only [R, List.getD, List.getElem?_replicate]
 split <;> rfl
theorem zn7 (s : Lts) (p q : Nat) : rank s p q ≠ 0 := by
 intro h
 obtain ⟨_, h1, _⟩ := znd (k := 0) h
 rw [zn5, zn5] at h1
 exact h1 rfl
def far (k : Int) : Int := if k < 0 then 1048576 else k
end Go.Proofs.YtoaoajfjcfcmhaaGreatDoor.Rd
namespace Go.Proofs.YtoaoajfjcfcmhaaGreatDoor.Tm
open Go.Lib
def valOf (l : List UInt8) : Nat := l.foldl (fun a c => 10 * a + (c.toNat - 48)) 0
theorem zs8 (l : List UInt8) (c : UInt8) : valOf (l ++ [c]) = 10 * valOf l + (c.toNat - 48) := by simp [valOf]
theorem zdp (d : Nat) (h : d < 10) : (UInt8.ofNat (48 + d)).toNat = 48 + d := by
 rw [UInt8.toNat_ofNat']
 exact Nat.mod_eq_of_lt (by omega)
theorem ztm (u : Nat) : valOf (decDigits u) = u := by
 induction u using Nat.strongRecOn with
 | _ u ih =>
  by_cases h : u < 10
  ·rw [decDigits, dif_pos h]
   simp only [valOf, List.foldl_cons, List.foldl_nil]
   rw [zdp u h]; omega
  ·rw [decDigits, dif_neg h, zs8, ih (u / 10) (by omega), zdp _ (by omega)]
   omega
theorem zh8 (u : Nat) : ∀ c ∈ decDigits u, 48 <= c.toNat /\ c.toNat <= 57 := by
 induction u using Nat.strongRecOn with
 | _ u ih =>
  intro c hc
  by_cases h : u < 10
  ·rw [decDigits, dif_pos h, List.mem_singleton] at hc
   rw [hc, zdp u h]; omega
  ·rw [decDigits, dif_neg h, List.mem_append, List.mem_singleton] at hc
   rcases hc with hc | hc
   ·exact ih (u / 10) (by omega) c hc
   ·rw [hc, zdp _ (by omega)]; omega
theorem zt5 {u v : Nat} (h : decDigits u = decDigits v) : u = v := by rw [<- ztm u, <- ztm v, h]
theorem zq5 (n : Int) : ∀ c ∈ itoa n, c.toNat ≠ 32 := by
 intro c hc
 unfold itoa at hc
 split at hc
 ·rcases List.mem_cons.1 hc with hc | hc
  ·rw [hc]; decide
  ·have := zh8 _ c hc; omega
 ·have := zh8 _ c hc; omega
theorem zvu {m n : Int} (h : itoa m = itoa n) : m = n := by
 have hd : ∀ u v : Nat, decDigits u ≠ 45 :: decDigits v := by
  intro u v e
  have : (45 : UInt8) ∈ decDigits u := by rw [e]; exact List.mem_cons_self
  have := zh8 u _ this
  have aa : (45 : UInt8).toNat = 45 := by decide
  omega
 unfold itoa at h
 split at h <;> split at h
 ·rename_i h1 h2
  have := zt5 (List.cons.inj h).2
  omega
 ·exact absurd h.symm (hd _ _)
 ·exact absurd h (hd _ _)
 ·have := zt5 h; omega
def enc (l : List Int) : List UInt8 := l.flatMap fun n => itoa n ++ [32]
theorem zE3 (n : Int) (l : List Int) : enc (n :: l) = itoa n ++ 32 :: enc l := by simp [enc]
theorem zhj : ∀ {a b r s : List UInt8}, (∀ c ∈ a, c.toNat ≠ 32) -> (∀ c ∈ b, c.toNat ≠ 32) -> a ++ 32 :: r = b ++ 32 :: s -> a = b /\ r = s
 | [], [], _, _, _, _, h => ⟨rfl, (List.cons.inj h).2⟩
 | [], c :: b, _, _, _, hb, h => by
  have := (List.cons.inj h).1
  exact absurd (by rw [<- this]; decide) (hb c List.mem_cons_self)
 | c :: a, [], _, _, ha, _, h => by
  have := (List.cons.inj h).1
  exact absurd (by rw [this]; decide) (ha c List.mem_cons_self)
 | c :: a, d :: b, r, s, ha, hb, h => by
  obtain ⟨h1, h2⟩ := List.cons.inj h
  obtain ⟨h3, h4⟩ := zhj (fun x hx => ha x (List.mem_cons_of_mem _ hx)) (fun x hx => hb x (List.mem_cons_of_mem _ hx)) h2
  exact ⟨by rw [h1, h3], h4⟩
theorem zGm : ∀ {l m : List Int}, enc l = enc m -> l = m
 | [], [], _ => rfl
 | [], n :: m, h => by rw [zE3] at h; simp [enc] at h
 | n :: l, [], h => by rw [zE3] at h; simp [enc] at h
 | n :: l, k :: m, h => by
  rw [zE3, zE3] at h
  obtain ⟨h1, h2⟩ := zhj (zq5 n) (zq5 k) h
  rw [zvu h1, zGm h2]
structure T where
 kind : Int
 label : Int
 a : Int
 b : Int
 names : List Int
 pairs : List (Int × Int)
deriving DecidableEq
def flat (l : List (Int × Int)) : List Int := l.flatMap fun p => [p.1, p.2]
theorem zHi : ∀ {l m : List (Int × Int)}, flat l = flat m -> l = m
 | [], [], _ => rfl
 | [], p :: m, h => by simp [flat] at h
 | p :: l, [], h => by simp [flat] at h
 | p :: l, q :: m, h => by
  have h' : p.1 :: p.2 :: flat l = q.1 :: q.2 :: flat m := by simpa [flat] using h
  simp only [List.cons.injEq] at h'
  rw [zHi h'.2.2, Prod.ext h'.1 h'.2.1]
def zyj (i : Int) : Bool := decide (0 <= i) && decide (i < 100)
def rising : List Int -> Bool
 | [] => true
 | [x] => zyj x
 | x :: y :: l => zyj x && decide (x < y) && rising (y :: l)
def has (n : Nat) (i : Int) : Bool := decide (0 <= i) && decide (i < n)
end Go.Proofs.YtoaoajfjcfcmhaaGreatDoor.Tm
namespace Go.Proofs.YtoaoajfjcfcmhaaGreatDoor.Rd
open Go.Proofs.YtoaoajfjcfcmhaaGreatDoor.Sy
def ltI (a b : Int) : Bool := decide (a < b)
theorem zK7 : Tot ltI where
 irrefl a := by simp [ltI]
 trans a b c h1 h2 := by simp [ltI] at *; omega
 total a b := by simp [ltI]; omega
def num (c : List Nat) (x : Int × Int) : Int := x.1 * 1001 + ((c.getD x.2.toNat 0 : Nat) : Int)
def zCf (c : List Nat) (l : List (Int × Int)) : List Int := norm ltI (l.map (num c))
def Small (c : List Nat) : Prop := ∀ i, c.getD i 0 <= 1000
theorem zzo {c : List Nat} (hc : Small c) {x y : Int × Int} (h : num c x = num c y) : x.1 = y.1 /\ c.getD x.2.toNat 0 = c.getD y.2.toNat 0 := by
 have h1 := hc x.2.toNat
 have h2 := hc y.2.toNat
 unfold num at h
 omega
theorem zrt {c : List Nat} (hc : Small c) (a b : List (Int × Int)) : zCf c a = zCf c b ↔
  norm lt2 (a.map fun x => (x.1, ((c.getD x.2.toNat 0 : Nat) : Int))) = norm lt2 (b.map fun x => (x.1, ((c.getD x.2.toNat 0 : Nat) : Int))) := by
 unfold zCf
 rw [zdl zK7, zdl zKk]
 have key : ∀ (l : List (Int × Int)) (x : Int × Int), num c x ∈ l.map (num c) ↔ (x.1, ((c.getD x.2.toNat 0 : Nat) : Int)) ∈ l.map fun x => (x.1, ((c.getD x.2.toNat 0 : Nat) : Int)) := by
  intro l x
  simp only [List.mem_map]
  constructor
  ·rintro ⟨y, hy, e⟩
   obtain ⟨e1, e2⟩ := zzo hc e
   exact ⟨y, hy, by rw [e1, e2]⟩
  ·rintro ⟨y, hy, e⟩
   simp only [Prod.mk.injEq] at e
   exact ⟨y, hy, by unfold num; rw [e.1, e.2]⟩
 constructor
 ·intro h z
  constructor
  ·intro hz
   obtain ⟨x, hx, rfl⟩ := List.mem_map.1 hz
   exact (key b x).1 ((h _).1 (List.mem_map_of_mem hx))
  ·intro hz
   obtain ⟨x, hx, rfl⟩ := List.mem_map.1 hz
   exact (key a x).1 ((h _).2 (List.mem_map_of_mem hx))
 ·intro h z
  constructor
  ·intro hz
   obtain ⟨x, hx, rfl⟩ := List.mem_map.1 hz
   exact (key b x).2 ((h _).1 (List.mem_map.2 ⟨x, hx, rfl⟩))
  ·intro hz
   obtain ⟨x, hx, rfl⟩ := List.mem_map.1 hz
   exact (key a x).2 ((h _).2 (List.mem_map.2 ⟨x, hx, rfl⟩))
def zCh (s : Lts) (c : List Nat) : List (Nat × List Int) := (List.range c.length).map fun p => (c.getD p 0, zCf c (steps s p))
theorem zHn (s : Lts) (c : List Nat) (hc : Small c) : canon (zCh s c) = next s c := by
 unfold next
 refine zhn _ _ (by simp [zCh, sigs]) (fun i j hi hj => ?_)
 simp only [zCh, sigs, sig, List.getElem_map, List.getElem_range, Prod.mk.injEq, zrt hc]
theorem zL2 (s : Lts) (k p : Nat) (h : p < s.n.toNat) : (R s k).getD p 0 < s.n.toNat := by
 cases k with
 | zero => rw [zn5]; omega
 | succ k =>
  have hl : (R s k).length = s.n.toNat := zD0 s k
  have := zEj (sigs s (R s k)) p (by rw [zE6]; omega)
  have h2 := zCq (sigs s (R s k))
  rw [zE6] at h2
  show (canon (sigs s (R s k))).getD p 0 < _
  omega
theorem zIa (s : Lts) (k : Nat) (h : s.n.toNat <= 1000) : Small (R s k) := by
 intro i
 by_cases hi : i < s.n.toNat
 ·have := zL2 s k i hi; omega
 ·simp [List.getD, List.getElem?_eq_none (show (R s k).length <= i by rw [zD0]; omega)]
theorem zIb (s : Lts) (k : Nat) : cls (R s (k + 1)) = cls (R s k) ↔ R s (k + 1) = R s k := by
 constructor
 ·intro h
  by_cases e : R s (k + 1) = R s k
  ·exact e
  ·have := zy7 s k e; omega
 ·intro h; rw [h]
open Go.Proofs.YtoaoajfjcfcmhaaGreatDoor.Tm in
def text (l : List (Int × Int)) : List UInt8 := enc (flat l)
theorem zJa {l m : List (Int × Int)} (h : text l = text m) : l = m := Tm.zHi (Tm.zGm h)
section
variable {α : Type} [DecidableEq α] {lt : α -> α -> Bool}
def Merged (lt : α -> α -> Bool) (a b : List α) (i k : Nat) (out : List α) : Prop :=
 ∃ M : List α, out = cpt M /\ M.Pairwise (fun x y => lt y x = false) /\ (∀ x, x ∈ M ↔ x ∈ a.take i \/ x ∈ b.take k) /\ (∀ x ∈ M, ∀ y ∈ a.drop i, lt y x = false) /\ (∀ x ∈ M, ∀ y ∈ b.drop k, lt y x = false)
theorem Merged.start (a b : List α) : Merged lt a b 0 0 [] := ⟨[], rfl, List.Pairwise.nil, by simp, by simp, by simp⟩
theorem zjr (M : List α) (x : α) : zCy (cpt M) x = cpt (M ++ [x]) := by
 rw [zfv]; rfl
theorem zeq {l : List α} {i : Nat} (h : i < l.length) {y : α} (hy : y ∈ l.drop i) : y = l[i] \/ y ∈ l.drop (i + 1) := by
 rw [List.drop_eq_getElem_cons h] at hy
 exact List.mem_cons.1 hy
theorem zej {l : List α} {i : Nat} (h : i < l.length) (hl : l.Pairwise (fun a b => lt a b = true)) {y : α} (hy : y ∈ l.drop (i + 1)) : lt l[i] y = true := by
 have h1 := hl.drop (i := i)
 rw [List.drop_eq_getElem_cons h, List.pairwise_cons] at h1
 exact h1.1 y hy
theorem zgt (T : Tot lt) {a b : α} (h : lt a b = true) : lt b a = false := by
 cases e : lt b a
 ·rfl
 ·have := T.trans _ _ _ h e
  rw [T.irrefl] at this; cases this
theorem Merged.left (T : Tot lt) {a b : List α} {i k : Nat} {out : List α} (h : Merged lt a b i k out) (ha : a.Pairwise (fun a b => lt a b = true)) (hb : b.Pairwise (fun a b => lt a b = true)) (hi : i < a.length)
  (hk : b.length <= k \/ ∃ hk : k < b.length, lt b[k] a[i] = false) : Merged lt a b (i + 1) k (zCy out a[i]) := by
 obtain ⟨M, rfl, h1, h2, h3, h4⟩ := h
 have aa : a[i] ∈ a.drop i := List.mem_drop_iff_getElem.2 ⟨0, by omega, by simp⟩
 refine ⟨M ++ [a[i]], zjr M _, ?_, ?_, ?_, ?_⟩
 ·rw [List.pairwise_append]
  exact ⟨h1, by simp, fun x hx y hy => by rw [List.mem_singleton.1 hy]; exact h3 x hx _ aa⟩
 ·intro x
  rw [List.mem_append, List.mem_singleton, h2, List.take_succ_eq_append_getElem hi, List.mem_append, List.mem_singleton]
  constructor
  ·rintro ((h | h) | h)
   ·exact .inl (.inl h)
   ·exact .inr h
   ·exact .inl (.inr h)
  ·rintro ((h | h) | h)
   ·exact .inl (.inl h)
   ·exact .inr h
   ·exact .inl (.inr h)
 ·intro x hx y hy
  rcases List.mem_append.1 hx with hx | hx
  ·exact h3 x hx y (by rw [List.drop_eq_getElem_cons hi]; exact List.mem_cons_of_mem _ hy)
  ·rw [List.mem_singleton.1 hx]; exact zgt T (zej hi ha hy)
 ·intro x hx y hy
  rcases List.mem_append.1 hx with hx | hx
  ·exact h4 x hx y hy
  ·rw [List.mem_singleton.1 hx]
   rcases hk with hk | ⟨hk, he⟩
   ·rw [List.drop_eq_nil_of_le hk] at hy; cases hy
   ·rcases zeq hk hy with rfl | hy
    ·exact he
    ·cases e : lt y a[i]
     ·rfl
     ·rw [T.trans _ _ _ (zej hk hb hy) e] at he; cases he
theorem Merged.right (T : Tot lt) {a b : List α} {i k : Nat} {out : List α} (h : Merged lt a b i k out) (ha : a.Pairwise (fun a b => lt a b = true)) (hb : b.Pairwise (fun a b => lt a b = true)) (hk : k < b.length)
  (hi : a.length <= i \/ ∃ hi : i < a.length, lt b[k] a[i] = true) : Merged lt a b i (k + 1) (zCy out b[k]) := by
 obtain ⟨M, rfl, h1, h2, h3, h4⟩ := h
 have aa : b[k] ∈ b.drop k := List.mem_drop_iff_getElem.2 ⟨0, by omega, by simp⟩
 refine ⟨M ++ [b[k]], zjr M _, ?_, ?_, ?_, ?_⟩
 ·rw [List.pairwise_append]
  exact ⟨h1, by simp, fun x hx y hy => by rw [List.mem_singleton.1 hy]; exact h4 x hx _ aa⟩
 ·intro x
  rw [List.mem_append, List.mem_singleton, h2, List.take_succ_eq_append_getElem hk, List.mem_append, List.mem_singleton, or_assoc]
 ·intro x hx y hy
  rcases List.mem_append.1 hx with hx | hx
  ·exact h3 x hx y hy
  ·rw [List.mem_singleton.1 hx]
   rcases hi with hi | ⟨hi, he⟩
   ·rw [List.drop_eq_nil_of_le hi] at hy; cases hy
   ·rcases zeq hi hy with rfl | hy
    ·exact zgt T he
    ·exact zgt T (T.trans _ _ _ he (zej hi ha hy))
 ·intro x hx y hy
  rcases List.mem_append.1 hx with hx | hx
  ·exact h4 x hx y (by rw [List.drop_eq_getElem_cons hk]; exact List.mem_cons_of_mem _ hy)
  ·rw [List.mem_singleton.1 hx]; exact zgt T (zej hk hb hy)
theorem Merged.done (T : Tot lt) {a b : List α} {i k : Nat} {out : List α} (h : Merged lt a b i k out) (hi : a.length <= i) (hk : b.length <= k) : out = norm lt (a ++ b) := by
 obtain ⟨M, rfl, h1, h2, -, -⟩ := h
 refine zG1 T M _ h1 (fun x => ?_)
 rw [h2, List.take_of_length_le hi, List.take_of_length_le hk, List.mem_append]
theorem zH1 (T : Tot lt) (l : List α) (h : Nat) : norm lt (norm lt (l.take h) ++ norm lt (l.drop h)) = norm lt l := by
 refine (zdl T _ _).2 (fun x => ?_)
 rw [List.mem_append, zCx, zCx, <- List.mem_append, List.take_append_drop]
theorem zI3 (l : List α) (h : l.length < 2) : norm lt l = l := by
 match l, h with
 | [], _ => rfl
 | [x], _ => rfl
def spot (l : List Int) (v : Int) : Nat := l.countP fun x => decide (x <= v)
def zGl (l : List Int) (v : Int) : List Int := if v ∈ l then l else l.take (spot l v) ++ v :: l.drop (spot l v)
theorem zov (l : List Int) (v : Int) : spot l v <= l.length := List.countP_le_length
theorem zik {l : List Int} (hl : l.Pairwise (fun a b => ltI a b = true)) (v : Int) : (∀ x ∈ l.take (spot l v), x <= v) /\ (∀ x ∈ l.drop (spot l v), v < x) := by
 induction l with
 | nil => simp [spot]
 | cons a t ih =>
  obtain ⟨h1, h2⟩ := ih (List.pairwise_cons.1 hl).2
  have aa : ∀ x ∈ t, a < x := fun x hx => by have := (List.pairwise_cons.1 hl).1 x hx; simpa [ltI] using this
  by_cases h : a <= v
  ·have e : spot (a :: t) v = spot t v + 1 := by simp [spot, List.countP_cons, h]
   rw [e]
   simp only [List.take_succ_cons, List.drop_succ_cons, List.mem_cons]
   exact ⟨fun x hx => by rcases hx with rfl | hx; exact h; exact h1 x hx, h2⟩
  ·have e0 : spot t v = 0 := by
    unfold spot
    rw [List.countP_eq_zero]
    intro x hx
    have := aa x hx
    simp; omega
   have e : spot (a :: t) v = 0 := by unfold spot at e0 ⊢; simp [List.countP_cons, h, e0]
   rw [e]
   simp only [List.take_zero, List.not_mem_nil, false_implies, implies_true, List.drop_zero, List.mem_cons, true_and]
   intro x hx
   rcases hx with rfl | hx
   ·omega
   ·have := aa x hx; omega
theorem zHu (l : List Int) (v : Int) : zGl (norm ltI l) v = norm ltI (l ++ [v]) := by
 have hp := zC5 zK7 l
 obtain ⟨h1, h2⟩ := zik hp v
 have aa : ∀ x, x ∈ norm ltI (l ++ [v]) ↔ x ∈ norm ltI l \/ x = v := fun x => by simp [zCx]
 unfold zGl
 split
 ·rename_i hv
  refine zD5 zK7 _ _ hp (zC5 zK7 _) (fun x => ?_)
  rw [aa]
  exact ⟨.inl, fun h => by rcases h with h | rfl; exact h; exact hv⟩
 ·rename_i hv
  refine zD5 zK7 _ _ ?_ (zC5 zK7 _) (fun x => ?_)
  ·rw [List.pairwise_append, List.pairwise_cons]
   refine ⟨hp.take, ⟨fun x hx => by simp [ltI, h2 x hx], hp.drop⟩, fun x hx y hy => ?_⟩
   have ab := h1 x hx
   have ac : x ≠ v := fun e => hv (e ▸ List.mem_of_mem_take hx)
   rcases List.mem_cons.1 hy with rfl | hy
   ·simp [ltI]; omega
   ·have := h2 y hy; simp [ltI]; omega
  ·rw [aa]
   conv => rhs; lhs; rw [<- List.take_append_drop (spot (norm ltI l) v) (norm ltI l)]
   simp only [List.mem_append, List.mem_cons]
   constructor
   ·rintro (h | h | h)
    ·exact .inl (.inl h)
    ·exact .inr h
    ·exact .inl (.inr h)
   ·rintro ((h | h) | h)
    ·exact .inl h
    ·exact .inr (.inr h)
    ·exact .inr (.inl h)
theorem zH5 {l : List Int} (hl : l.Pairwise (fun a b => ltI a b = true)) (v : Int) : v ∈ l ↔ 0 < spot l v /\ l.getD (spot l v - 1) 0 = v := by
 obtain ⟨h1, h2⟩ := zik hl v
 constructor
 ·intro hv
  rw [<- List.take_append_drop (spot l v) l, List.mem_append] at hv
  rcases hv with hv | hv
  ·have aa : 0 < spot l v := by
    rcases Nat.eq_zero_or_pos (spot l v) with e | e
    ·rw [e] at hv; simp at hv
    ·exact e
   refine ⟨aa, ?_⟩
   obtain ⟨i, hi, e⟩ := List.mem_iff_getElem.1 hv
   rw [List.length_take] at hi
   rw [List.getElem_take] at e
   have ac := zov l v
   have ab : l.getD (spot l v - 1) 0 = l[spot l v - 1] := by simp [List.getD, show spot l v - 1 < l.length by omega]
   rw [ab]
   rcases Nat.lt_or_ge i (spot l v - 1) with h | h
   ·have h3 := List.pairwise_iff_getElem.1 hl i (spot l v - 1) (by omega) (by omega) h
    have h4 := h1 (l[spot l v - 1]'(by omega)) (List.mem_take_iff_getElem.2 ⟨spot l v - 1, by omega, rfl⟩)
    simp [ltI] at h3
    omega
   ·have : i = spot l v - 1 := by omega
    subst this; exact e
  ·have := h2 v hv; omega
 ·rintro ⟨aa, e⟩
  have ac := zov l v
  rw [<- e]
  have : l.getD (spot l v - 1) 0 = l[spot l v - 1] := by simp [List.getD, show spot l v - 1 < l.length by omega]
  rw [this]; exact List.getElem_mem _
theorem zIh {l : List Int} (hl : l.Pairwise (fun a b => ltI a b = true)) (v : Int) {k : Nat} (hk : k <= l.length) (h : ∀ i, k <= i -> i < l.length -> v < l.getD i 0) (hs : k = 0 \/ l.getD (k - 1) 0 <= v) : k = spot l v := by
 obtain ⟨h1, h2⟩ := zik hl v
 have aa := zov l v
 rcases Nat.lt_trichotomy k (spot l v) with h3 | h3 | h3
 ·have := h k (Nat.le_refl _) (by omega)
  have e : l.getD k 0 = l[k]'(by omega) := by simp [List.getD, show k < l.length by omega]
  rw [e] at this
  have := h1 (l[k]'(by omega)) (List.mem_take_iff_getElem.2 ⟨k, by omega, rfl⟩)
  omega
 ·exact h3
 ·rcases hs with hs | hs
  ·omega
  ·have e : l.getD (k - 1) 0 = l[k - 1]'(by omega) := by simp [List.getD, show k - 1 < l.length by omega]
   rw [e] at hs
   have : l[k - 1]'(by omega) ∈ l.drop (spot l v) := List.mem_drop_iff_getElem.2 ⟨k - 1 - spot l v, by omega, by congr 1; omega⟩
   have := h2 _ this
   omega
end
end Go.Proofs.YtoaoajfjcfcmhaaGreatDoor.Rd
