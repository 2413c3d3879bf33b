/- The book of lists of integers and of nodes: Ints. -/
import Derived.Test.YtoaoajfjcfcmhaaGreatDoorP01
import Derived.Deep.RegionLaw
import Derived.BigRegion
import Derived.Deep.DeepCutAuto
import Derived.Maps.AppendAt
import Derived.Deep.AppendLies
import Derived.Test.YtoaoajfjcfcmhaaGreatDoorP03
set_option linter.unusedVariables false
set_option linter.unusedSimpArgs false
set_option maxHeartbeats 16000000
set_option maxRecDepth 100000
open Go.Proofs.Tryz
namespace Go.Proofs.YtoaoajfjcfcmhaaGreatDoor.BN
open Go.RowKit
structure Ent where
 v : Value
 u : Value
 xs : List Int
def blk (v : Value) : List Nat := v.ownBlock.toList
def zC3 (es : List Ent) : List Nat := es.flatMap fun e => blk e.v ++ blk e.u
theorem zay {v : Value} {g : Nat} : g ∈ blk v ↔ v.ownBlock = some g := by simp [blk]
theorem zbq (es : List Ent) (e : Ent) : zC3 (es ++ [e]) = zC3 es ++ (blk e.v ++ blk e.u) := by simp [zC3]
theorem zb3 {es : List Ent} {g : Nat} : g ∈ zC3 es ↔ ∃ e ∈ es, e.v.ownBlock = some g \/ e.u.ownBlock = some g := by
 simp only [zC3, List.mem_flatMap, List.mem_append, zay]
structure zC6 (w : World) (bk : Nat) (vi vw vp vq : Value) (es : List Ent) : Prop where
 box : w.heap[bk]? = some (.cells #[vi, vw, .slice none 0 0, .slice none 0 0, .slice none 0 0, .slice none 0 0, .slice none 0 0, .slice none 0 0, .slice none 0 0, .slice none 0 0, .slice none 0 0, .slice none 0 0, vp, vq, .slice none 0 0, .slice none 0 0, .slice none 0 0, .slice none 0 0, .slice none 0 0, .slice none 0 0, .slice none 0 0, .slice none 0 0] 48 (0, 0))
 ri : w.ownsRow 0 27 1 vi es.length (es.map (·.v))
 rw : w.ownsRow 0 27 1 vw es.length (es.map (·.u))
 ap : ∀ g, vi.ownBlock = some g -> vw.ownBlock ≠ some g
 ent : ∀ e ∈ es, w.ownsRow 0 3 1 e.v e.xs.length (e.xs.map (Value.int .i64)) /\ w.ownsRow 0 3 1 e.u e.xs.length (e.xs.map (Value.int .i64))
 nd : (zC3 es).Nodup
 sz : ∀ e ∈ es, e.xs.length <= 900000
def zE0 (bk : Nat) (vi vw : Value) (es : List Ent) (k : Nat) : Prop := k = bk \/ vi.ownBlock = some k \/ vw.ownBlock = some k \/ k ∈ zC3 es
def zF7 (bk : Nat) (vi vw : Value) (k : Nat) : Prop := k = bk \/ vi.ownBlock = some k \/ vw.ownBlock = some k
theorem zC6.keep {w w' : World} {bk : Nat} {vi vw vp vq : Value} {es : List Ent} (h : zC6 w bk vi vw vp vq es) (hk : ∀ k, zE0 bk vi vw es k -> w'.heap[k]? = w.heap[k]?) : zC6 w' bk vi vw vp vq es :=
 ⟨(hk bk (.inl rfl)).trans h.box, za2 h.ri (fun g hg => hk g (.inr (.inl hg))), za2 h.rw (fun g hg => hk g (.inr (.inr (.inl hg)))), h.ap,
  fun e he => ⟨za2 (h.ent e he).1 (fun g hg => hk g (.inr (.inr (.inr (zb3.2 ⟨e, he, .inl hg⟩))))), za2 (h.ent e he).2 (fun g hg => hk g (.inr (.inr (.inr (zb3.2 ⟨e, he, .inr hg⟩)))))⟩, h.nd, h.sz⟩
theorem zC6.zCn {w : World} {bk k : Nat} {vi vw vp vq : Value} {es : List Ent} (h : zC6 w bk vi vw vp vq es) (hk : zE0 bk vi vw es k) : k < w.heap.size := by
 rcases hk with rfl | hk | hk | hk
 ·exact (Array.getElem?_eq_some_iff.1 h.box).1
 ·exact za3 h.ri hk
 ·exact za3 h.rw hk
 ·obtain ⟨e, he, hk | hk⟩ := zb3.1 hk
  ·exact za3 (h.ent e he).1 hk
  ·exact za3 (h.ent e he).2 hk
theorem zC6.up {w w' : World} {bk : Nat} {vi vw vp vq : Value} {es : List Ent} (h : zC6 w bk vi vw vp vq es) (hu : Up w w') : zC6 w' bk vi vw vp vq es :=
 h.keep (fun k hk => hu.block k (h.zCn hk))
def zq4 (w : World) (bk : Nat) (vi vw vp vq : Value) (es : List Ent) (v : Value) (xs : List Int) (r : Ending) (w' : World) : Prop :=
 r = .returned (.tuple #[]) /\ ∃ vi' vw' es', zC6 w' bk vi' vw' vp vq es' /\ es'.length <= 400 /\ (es' = es \/ ∃ u, es' = es ++ [⟨v, u, xs⟩] /\ ∀ g, u.ownBlock = some g -> w.heap.size <= g) /\
  (∀ k, zE0 bk vi' vw' es' k -> zE0 bk vi vw es k \/ v.ownBlock = some k \/ w.heap.size <= k) /\ Turned (zF7 bk vi vw) w w'
theorem zb0 {P : Program} {ops : Array Oper} {o : Oper} {a : Act} {w : World} {K : Act -> World -> Prop} {Q : Exit -> Act -> World -> Prop} {E : Prop}
  (hg : o.guard = none) (s x : Operand) (t : TypeId) (ag : o.op = Op.call { callee := Callee.builtin Builtin.append, args := #[s, x], argTypes := #[t, t] })
  (base : Nat) (e : TypeId) (i : TypeInfo) (z : Value) (size bytes : Nat) (ht : P.underlying t = some (.slice e)) (hi : P.info? e = some i) (hz : i.zero = some z)
  (ab : i.size = size) (ah : i.bytes = bytes) (ai : z.cells.size = size) (aj : 0 < size)
  (v : Value) (n : Nat) (xs : List Value) (hs : a.eval s = v) (af : w.ownsRow base e size v n xs)
  (ad : Addr) (m c : Nat) (news : List Value) (hx : a.eval x = .slice (some ad) m c) (hl : news.length = m * size) (ac : ∀ j u, news[j]? = some u -> w.cell? (ad.add j) = some u) (h1 : ∀ u ∈ news, u.oneCell' = true)
  (ak : n + m <= maxLen) (aa : (n + m) * bytes <= 140737488355328) (ae : base <= w.heap.size)
  (hK : ∀ v' w', w'.ownsRow base e size v' (n + m) (xs ++ news) -> w.grownBy w' v.ownBlock -> (v'.ownBlock = v.ownBlock \/ v'.ownBlock = some w.heap.size) -> K (a.put o.dst v') w') :
  if Region.wanted o (yielded ops a.tmps) = true then Oper.wp P o a w K Q else E := by
 have hw : Region.wanted o (yielded ops a.tmps) = true := by simp [Region.wanted, hg]
 rw [if_pos hw]
 obtain ⟨v', w', hr, h2, h3, h4, h5⟩ := run_append_own_at (P := P) w base t o.type e i z size bytes ht hi hz ab ah ai aj v n xs af ad m c news hl ac h1 ak aa ae
 unfold Oper.wp execOp
 simp only [ag, resolve, invoke, builtin, Sem.run_bind, Sem.run_pure, Result.andThen_ok, List.map_toArray, List.map_cons, List.map_nil, hs, hx, hr]
 exact hK v' w' h2 h3 h5
theorem Tryz.zId : (prog.info? 27).map (fun i => (i.zero, i.size, i.bytes)) = some (some (.slice none 0 0), 1, 24) := by kernel_rfl
theorem Tryz.zJh : (prog.info? 3).map (fun i => (i.zero, i.size, i.bytes)) = some (some (.int .i64 0), 1, 8) := by kernel_rfl
theorem zb9 (a : Option Addr) (n c : Nat) : ∀ u ∈ [Value.slice a n c], u.oneCell' = true := by
 intro u hu
 simp only [List.mem_singleton] at hu
 subst hu; rfl
theorem zcp {P : Program} {ops : Array Oper} {o : Oper} {a : Act} {w : World} {K : Act -> World -> Prop} {Q : Exit -> Act -> World -> Prop} {E : Prop}
  (hg : o.guard = none) (s x : Operand) (t : TypeId) (aa : o.op = Op.call { callee := Callee.builtin Builtin.append, args := #[s, x], argTypes := #[t, t] })
  (e : TypeId) (i : TypeInfo) (ht : P.underlying t = some (.slice e)) (hi : P.info? e = some i) (hs : a.eval s = .slice none 0 0) (hx : a.eval x = .slice none 0 0)
  (hK : K (a.put o.dst (.slice none 0 0)) w) : if Region.wanted o (yielded ops a.tmps) = true then Oper.wp P o a w K Q else E := by
 have hw : Region.wanted o (yielded ops a.tmps) = true := by simp [Region.wanted, hg]
 rw [if_pos hw]
 have hr : (Builtin.append_ #[t, t] o.type #[.slice none 0 0, .slice none 0 0]).run P w = .ok (.slice none 0 0) w := by
  simp [Builtin.append_, run_underlying ht, sizeOf, typeInfo, hi, Builtin.lenOf, Builtin.firstCells]
 unfold Oper.wp execOp
 simp only [aa, resolve, invoke, builtin, Sem.run_bind, Sem.run_pure, Result.andThen_ok, List.map_toArray, List.map_cons, List.map_nil, hs, hx, hr]
 exact hK
theorem zba (ao : Option Addr) (m c m' c' : Nat) : (Value.slice ao m c).ownBlock = (Value.slice ao m' c').ownBlock := by cases ao <;> rfl
theorem zCk {w : World} {g : Nat} {e e' : TypeId} {base size n base' size' n' : Nat} {v v' : Value} {xs xs' : List Value} (h : w.ownsRow base e size v n xs) (h' : w.ownsRow base' e' size' v' n' xs') (he : e ≠ e') (hg : v.ownBlock = some g) : v'.ownBlock ≠ some g := by
 intro ab
 obtain ⟨cur, hh⟩ := za5 h hg
 obtain ⟨cur2, aa⟩ := za5 h' ab
 rw [hh] at aa
 simp only [Option.some.injEq, Obj.cells.injEq] at aa
 exact he aa.2.1
theorem zfp {w w3 w6 w7 : World} {bk m n : Nat} {vi vw vp vq vi' vw' v u : Value} {es : List Ent} {xs : List Int} {o : Obj} (H : zC6 w bk vi vw vp vq es) (hm : m = es.length) (aj : m < 400) (hn : n = xs.length)
  (hv : w.ownsRow 0 3 1 v xs.length (xs.map (Value.int .i64))) (hN : ∀ g, v.ownBlock = some g -> g ∉ zC3 es) (T3 : Turned (zF7 bk vi vw) w w3)
  (ae : w7.heap[bk]? = some (.cells #[vi', vw, .slice none 0 0, .slice none 0 0, .slice none 0 0, .slice none 0 0, .slice none 0 0, .slice none 0 0, .slice none 0 0, .slice none 0 0, .slice none 0 0, .slice none 0 0, vp, vq, .slice none 0 0, .slice none 0 0, .slice none 0 0, .slice none 0 0, .slice none 0 0, .slice none 0 0, .slice none 0 0, .slice none 0 0] 48 (0, 0)))
  (own3 : w3.ownsRow 0 27 1 vi' (m + 1) (es.map (·.v) ++ [v])) (af : ∀ g, vi'.ownBlock = some g -> vw.ownBlock ≠ some g) (ag : ∀ g, vi'.ownBlock = some g -> vi.ownBlock = some g \/ w.heap.size <= g)
  (own6 : w6.ownsRow w.heap.size 3 1 u n (xs.map (Value.int .i64))) (gr6 : w3.drew.grownBy w6 none) (own7 : w7.ownsRow 0 27 1 vw' (m + 1) (es.map (·.u) ++ [u]))
  (gr7 : (w6.alloc o).grownBy w7 vw.ownBlock) (at7 : vw'.ownBlock = vw.ownBlock \/ vw'.ownBlock = some (w6.alloc o).heap.size) (ah : n <= 900000) :
  zq4 w bk vi vw vp vq es v xs (.returned (.tuple #[])) (w7.setCell ⟨bk, 1, none⟩ vw') := by
 subst hm hn
 have ak := T3.size
 have al : w3.heap.size <= w6.heap.size := gr6.size
 have am : bk < w.heap.size := (Array.getElem?_eq_some_iff.1 H.box).1
 have ai : ∀ g, vi.ownBlock = some g -> g < w.heap.size := fun g hg => za3 H.ri hg
 have ab : ∀ g, vw.ownBlock = some g -> g < w.heap.size := fun g hg => za3 H.rw hg
 -- what stands from w3 on, and from w6 on
 have from6 : ∀ k, k < w6.heap.size -> k ≠ bk -> vw.ownBlock ≠ some k -> (w7.setCell ⟨bk, 1, none⟩ vw').heap[k]? = w6.heap[k]? := by
  intro k hk h1 h2
  rw [Below.heap_setCell _ _ _ _ h1]
  exact (gr7.block k (by simp; omega) (fun e => h2 e.symm)).trans (Below.heap_alloc _ _ _ hk)
 have from3 : ∀ k, k < w3.heap.size -> k ≠ bk -> vw.ownBlock ≠ some k -> (w7.setCell ⟨bk, 1, none⟩ vw').heap[k]? = w3.heap[k]? := by
  intro k hk h1 h2
  exact (from6 k (by omega) h1 h2).trans (gr6.block k hk (by simp))
 have from0 : ∀ k, k < w.heap.size -> k ≠ bk -> vi.ownBlock ≠ some k -> vw.ownBlock ≠ some k -> (w7.setCell ⟨bk, 1, none⟩ vw').heap[k]? = w.heap[k]? := by
  intro k hk h1 h2 h3
  refine (from3 k (by omega) h1 h3).trans (T3.block k hk ?_)
  rintro (h | h | h)
  ·exact h1 h
  ·exact h2 h
  ·exact h3 h
 have keepI : ∀ {v0 : Value} {n0 : Nat} {ys : List Value}, w.ownsRow 0 3 1 v0 n0 ys -> (w7.setCell ⟨bk, 1, none⟩ vw').ownsRow 0 3 1 v0 n0 ys := by
  intro v0 n0 ys h
  refine za2 h (fun g hg => from0 g (za3 h hg) ?_ (zCk h H.ri (by decide) hg) (zCk h H.rw (by decide) hg))
  rintro rfl
  obtain ⟨cur, hh⟩ := za5 h hg
  have := H.box; rw [hh] at this; simp at this
 have aa : ∀ g, u.ownBlock = some g -> w.heap.size <= g /\ g < w6.heap.size := fun g hg => own6.lt g hg
 have own6' : (w7.setCell ⟨bk, 1, none⟩ vw').ownsRow 0 3 1 u xs.length (xs.map (Value.int .i64)) := by
  refine za2 (za8 own6 (Nat.zero_le _)) (fun g hg => from6 g (aa g hg).2 ?_ ?_)
  ·have := (aa g hg).1; omega
  ·intro hc; have := (aa g hg).1; have := ab g hc; omega
 have ac : ∀ g, vi'.ownBlock = some g -> g ≠ bk := by
  intro g hg
  rcases ag g hg with h | h
  ·rintro rfl
   obtain ⟨cur, hh⟩ := za5 H.ri h
   have := H.box; rw [hh] at this; simp at this
  ·omega
 have ad : ∀ g, vw'.ownBlock = some g -> g ≠ bk := by
  rintro g hg rfl
  obtain ⟨cur, hh⟩ := za5 own7 hg
  rw [ae] at hh; simp at hh
 refine ⟨rfl, vi', vw', es ++ [⟨v, u, xs⟩], ⟨?_, ?_, ?_, ?_, ?_, ?_, ?_⟩, by simp; omega, .inr ⟨u, rfl, fun g hg => (aa g hg).1⟩, ?_, ?_⟩
 ·simp [World.setCell, Array.getElem?_modify, ae]
 ·have : (w7.setCell ⟨bk, 1, none⟩ vw').ownsRow 0 27 1 vi' (es.length + 1) (es.map (·.v) ++ [v]) := za2 own3 (fun g hg => from3 g (za3 own3 hg) (ac g hg) (af g hg))
  simpa using this
 ·have : (w7.setCell ⟨bk, 1, none⟩ vw').ownsRow 0 27 1 vw' (es.length + 1) (es.map (·.u) ++ [u]) := za2 own7 (fun g hg => Below.heap_setCell _ _ _ _ (ad g hg))
  simpa using this
 ·intro g hg hc
  rcases at7 with e | e
  ·rw [e] at hc; exact af g hg hc
  ·rw [e] at hc
   have := za3 own3 hg
   simp at hc; omega
 ·intro e he
  rcases List.mem_append.1 he with he | he
  ·exact ⟨keepI (H.ent e he).1, keepI (H.ent e he).2⟩
  ·obtain rfl := List.mem_singleton.1 he
   exact ⟨keepI hv, own6'⟩
 ·rw [zbq]
  refine List.nodup_append.2 ⟨H.nd, ?_, ?_⟩
  ·refine List.nodup_append.2 ⟨?_, ?_, ?_⟩
   ·cases h : v.ownBlock <;> simp [blk, h]
   ·cases h : u.ownBlock <;> simp [blk, h]
   ·intro a ha b hb e
    subst e
    have h1 := za3 hv (zay.1 ha)
    have h2 := (aa a (zay.1 hb)).1
    omega
  ·intro a ha b hb e
   subst e
   rcases List.mem_append.1 hb with hb | hb
   ·exact hN a (zay.1 hb) ha
   ·have h1 := H.zCn (.inr (.inr (.inr ha)))
    have h2 := (aa a (zay.1 hb)).1
    omega
 ·intro e he
  rcases List.mem_append.1 he with he | he
  ·exact H.sz e he
  ·obtain rfl := List.mem_singleton.1 he
   exact ah
 ·intro k hk
  rcases hk with rfl | hk | hk | hk
  ·exact .inl (.inl rfl)
  ·rcases ag k hk with h | h
   ·exact .inl (.inr (.inl h))
   ·exact .inr (.inr h)
  ·rcases at7 with e | e
   ·rw [e] at hk; exact .inl (.inr (.inr (.inl hk)))
   ·rw [e] at hk; simp at hk; right; right; omega
  ·rw [zbq] at hk
   rcases List.mem_append.1 hk with hk | hk
   ·exact .inl (.inr (.inr (.inr hk)))
   ·rcases List.mem_append.1 hk with hk | hk
    ·exact .inr (.inl (zay.1 hk))
    ·exact .inr (.inr (aa k (zay.1 hk)).1)
 ·have t6 : Turned (zF7 bk vi vw) w w6 := T3.drew.grown gr6 (fun k hk => by cases hk)
  exact ((t6.alloc o).grown gr7 (fun k hk => .inl (.inr (.inr hk)))).setCell (p := ⟨bk, 1, none⟩) (.inl (.inl rfl)) _
theorem zJo {w : World} {bk : Nat} {vi vw vp vq v : Value} {es : List Ent} {xs : List Int} (h : zC6 w bk vi vw vp vq es) (hl : es.length <= 400) (hv : w.ownsRow 0 3 1 v xs.length (xs.map (Value.int .i64))) (hx : xs.length <= 900000)
  (hn : ∀ g, v.ownBlock = some g -> g ∉ zC3 es) : Calls prog 11 #[.pointer (some ⟨bk, 0, none⟩), v] w (zq4 w bk vi vw vp vq es v xs) := by
 obtain ⟨i0, hi, aH, aI, aJ⟩ := info_parts Tryz.zId
 obtain ⟨j0, hj, aZ, a0, a1⟩ := info_parts Tryz.zJh
 obtain ⟨ao, ci, rfl⟩ := za1 h.ri
 obtain ⟨bo, cw, rfl⟩ := za1 h.rw
 have c0 : w.cell? ⟨bk, 0, none⟩ = some (.slice ao es.length ci) := by simp [World.cell?, h.box]
 have f0 : w.frozen? ⟨bk, 0, none⟩ = false := by simp [World.frozen?, h.box]
 have a2 : bk < w.heap.size := (Array.getElem?_eq_some_iff.1 h.box).1
 by_cases hfull : es.length = 400
 ·have H := zh h
  obtain ⟨m, hm⟩ := nm (es.length)
  have a3 : m = 400 := by omega
  rw [<- hm] at c0
  subst a3
  have H4 := zh hm
  obtain ⟨vo, vc, rfl⟩ := za1 hv
  clear h hl hv hn hfull hm f0
  go_enter func11, ntmps11
  go_wp2_with fail
  go_end0
  exact ⟨rfl, _, _, es, H.out, by rw [<- H4.out]; exact Nat.le_refl _, .inl rfl, fun k hk => .inl hk, Turned.refl _ _⟩
 ·have aK : es.length < 400 := by omega
  have aL := h.ri
  have ay := h.rw
  obtain ⟨m, hm⟩ := nm (es.length)
  rw [<- hm] at c0 aK aL ay
  have HM := zh hm
  have H := zh h
  have HV := zh hv
  have HN := zh hn
  have aT := h.ap
  obtain ⟨vo, vc, rfl⟩ := za1 hv
  obtain ⟨n, aM⟩ := nm (xs.length)
  rw [<- aM] at hx ⊢
  have HX := zh aM
  have a4 : ∀ c, (Value.slice ao m c).ownBlock ≠ some bk := by
   intro c hc
   have hr := h.ri
   have : (Value.slice ao es.length ci).ownBlock = some bk := by rw [zba ao es.length ci m c]; exact hc
   obtain ⟨cur, hh⟩ := za5 hr this
   have := h.box; rw [hh] at this; simp at this
  have aG : (Value.slice bo es.length cw).ownBlock ≠ some bk := by
   intro hc
   obtain ⟨cur, hh⟩ := za5 h.rw hc
   have := h.box; rw [hh] at this; simp at this
  rw [<- hm] at aG
  clear h hl hv hn hfull hm aM
  go_enter func11, ntmps11
  go_upto_region 2 with (at_builtin; (refine wpList_append_own_at _ rfl _ _ 36 rfl 0 27 i0 (.slice none 0 0) 1 24 underlying36 hi aH aI aJ rfl (by decide) _ m _ rfl (aL.alloc _) ⟨w.heap.size, 0, none⟩ 1 1 [.slice vo n vc] rfl rfl (cell_one_new _ _ _) (zb9 _ _ _) (by unfold maxLen; omega) (by omega) (Nat.zero_le _) ?_); intro vi' w2 ae ad aA aB; clear aA; (obtain ⟨ai, ci', rfl⟩ := za1 ae); (have aC := (ad.block bk (by simp; omega) (fun e => a4 ci e.symm)).trans ((Below.heap_alloc _ _ _ a2).trans H.out.box)); (have c02 : w2.cell? ⟨bk, 0, none⟩ = some (.slice ao es.length ci) := by simp [World.cell?, aC]); (have f02 : w2.frozen? ⟨bk, 0, none⟩ = false := by simp [World.frozen?, aC]))
  obtain ⟨w3, ax⟩ : ∃ w3, w2.setCell ⟨bk, 0, none⟩ (.slice ai (m + 1) ci') = w3 := ⟨_, rfl⟩
  have aN : (w.alloc (.cells #[.slice vo n vc] 27)).grownBy w2 (Value.slice ao m ci).ownBlock := ad
  have ak : (Value.slice ai (m + 1) ci').ownBlock = (Value.slice ao m ci).ownBlock \/ (Value.slice ai (m + 1) ci').ownBlock = some (w.alloc (.cells #[.slice vo n vc] 27)).heap.size := aB
  have aU : Turned (zF7 bk (.slice ao m ci) (.slice bo m cw)) w w2 := ((Turned.refl _ _).alloc _).grown aN (fun k hk => .inl (.inr (.inl hk)))
  have aO : Turned (zF7 bk (.slice ao m ci) (.slice bo m cw)) w w3 := by rw [<- ax]; exact aU.setCell (p := ⟨bk, 0, none⟩) (.inl (.inl rfl)) _
  have a5 : (Value.slice ai (m + 1) ci').ownBlock = some bk -> False := by
   intro hc
   obtain ⟨cur, hh⟩ := za5 ae hc
   rw [aC] at hh; simp at hh
  have aj : w3.ownsRow 0 27 1 (.slice ai (m + 1) ci') (m + 1) (es.map (·.v) ++ [.slice vo n vc]) := by rw [<- ax]; exact za2 ae (fun g hg => Below.heap_setCell _ _ _ _ (by rintro rfl; exact a5 hg))
  have al : ∀ k, k < w.heap.size -> k ≠ bk -> (Value.slice ao m ci).ownBlock ≠ some k -> w3.heap[k]? = w.heap[k]? := by
   intro k hk h1 h2
   rw [<- ax, Below.heap_setCell _ _ _ _ h1]
   exact (aN.block k (by simp; omega) (fun e => h2 e.symm)).trans (Below.heap_alloc _ _ _ hk)
  have am : w3.ownsRow 0 27 1 (.slice bo m cw) m (es.map (·.u)) := za2 ay (fun g hg => al g (za3 ay hg) (by rintro rfl; exact aG hg) (by
   intro hc
   refine aT g ?_ ?_
   ·rw [zba ao es.length ci m ci]; exact hc
   ·rw [zba bo es.length cw m cw]; exact hg))
  have aP : ∀ g, (Value.slice vo n vc).ownBlock = some g -> g < w.heap.size /\ g ≠ bk /\ (Value.slice ao m ci).ownBlock ≠ some g /\ (Value.slice bo m cw).ownBlock ≠ some g := by
   intro g hg
   rw [zba vo n vc xs.length vc] at hg
   obtain ⟨cur, hh⟩ := za5 HV.out hg
   refine ⟨za3 HV.out hg, ?_, ?_, ?_⟩
   ·rintro rfl; have := H.out.box; rw [hh] at this; simp at this
   ·intro hc; obtain ⟨cur2, aD⟩ := za5 aL hc; rw [hh] at aD; simp at aD
   ·intro hc; obtain ⟨cur2, aD⟩ := za5 ay hc; rw [hh] at aD; simp at aD
  have a6 : w3.ownsRow 0 3 1 (.slice vo n vc) n (xs.map (Value.int .i64)) := by
   have aV := HV.out
   rw [<- HX.out] at aV
   exact za2 aV (fun g hg => al g (aP g hg).1 (aP g hg).2.1 (aP g hg).2.2.1)
  have aE : w3.heap[bk]? = some (.cells #[.slice ai (m + 1) ci', .slice bo m cw, .slice none 0 0, .slice none 0 0, .slice none 0 0, .slice none 0 0, .slice none 0 0, .slice none 0 0, .slice none 0 0, .slice none 0 0, .slice none 0 0, .slice none 0 0, vp, vq, .slice none 0 0, .slice none 0 0, .slice none 0 0, .slice none 0 0, .slice none 0 0, .slice none 0 0, .slice none 0 0, .slice none 0 0] 48 (0, 0)) := by
   rw [<- ax]
   simp [World.setCell, Array.getElem?_modify, aC, <- HM.out]
  have a7 : w.heap.size <= w3.heap.size := aO.size
  have aW : ∀ g, (Value.slice ai (m + 1) ci').ownBlock = some g -> (Value.slice bo m cw).ownBlock ≠ some g := by
   intro g hg hc
   rcases ak with e | e
   ·rw [e] at hg
    refine aT g ?_ ?_
    ·rw [zba ao es.length ci m ci]; exact hg
    ·rw [zba bo es.length cw m cw]; exact hc
   ·rw [e] at hg
    have := za3 ay hc
    simp at hg; omega
  have aX : ∀ g, (Value.slice ai (m + 1) ci').ownBlock = some g -> (Value.slice ao m ci).ownBlock = some g \/ w.heap.size <= g := by
   intro g hg
   rcases ak with e | e
   ·rw [e] at hg; exact .inl hg
   ·rw [e] at hg; simp at hg; right; omega
  rw [ax]
  clear aB ak aN ax ad ae aC c02 f02 al aU
  have a8 : w3.cell? ⟨bk, 1, none⟩ = some (.slice bo m cw) := by simp [World.cell?, aE]
  have a9 : w3.frozen? ⟨bk, 1, none⟩ = false := by simp [World.frozen?, aE]
  have aF : bk < w3.heap.size := (Array.getElem?_eq_some_iff.1 aE).1
  rcases za4 a6 with ⟨h0, bd, be⟩ | ⟨gv, cv, h0, ba, bf, bh, _⟩
  ·simp only [Value.slice.injEq] at h0
   obtain ⟨rfl, ah, rfl⟩ := h0
   have aY : xs = [] := List.eq_nil_of_length_eq_zero (by rw [<- HX.out]; exact ah)
   have ab : w3.ownsRow w.heap.size 3 1 (.slice none 0 0) n (xs.map (Value.int .i64)) := by
    rw [aY, ah]; exact World.ownsRow_nil _ _ _ _
   have hrw3a : (w3.alloc (.cells #[.slice none 0 0] 27)).drew.ownsRow 0 27 1 (.slice bo m cw) m (es.map (·.u)) := by
    have := am.alloc (.cells #[.slice none 0 0] 27)
    exact this
   have af : w3.drew.grownBy w3 none := ⟨rfl, rfl, rfl, Nat.le_refl _, fun _ _ _ => rfl⟩
   have bi := zh ah
   rw [ah]
   go_region_law (first
    | (refine zcp rfl (.const (.slice none 0 0)) (.tmp 25) 27 rfl 3 j0 underlying27 hj rfl rfl ?_)
    | (refine zb0 rfl (.tmp 24) (.tmp 27) 36 rfl 0 27 i0 (.slice none 0 0) 1 24 underlying36 hi aH aI aJ rfl (by decide) (.slice bo m cw) m (es.map (·.u)) rfl hrw3a ⟨w3.heap.size, 0, none⟩ 1 1 [.slice none 0 0] rfl rfl (cell_one_new _ _ _) (zb9 _ _ _) (by unfold maxLen; omega) (by omega) (Nat.zero_le _) ?_; intro vw' w7 ac aa an; (obtain ⟨aw, cw7, rfl⟩ := za1 ac); (have ag : (w3.alloc (.cells #[.slice none 0 0] 27)).grownBy w7 (Value.slice bo m cw).ownBlock := ⟨aa.os, aa.tape, aa.output, aa.size, aa.block⟩); (have aq := (ag.block bk (by simp; omega) (fun e => aG e.symm)).trans ((Below.heap_alloc w3 _ _ aF).trans aE)); (have c17 : w7.cell? ⟨bk, 1, none⟩ = some (.slice bo m cw) := by simp [World.cell?, aq]); (have f17 : w7.frozen? ⟨bk, 1, none⟩ = false := by simp [World.frozen?, aq])))
   all_goals go_wp2_with fail
   all_goals go_end0
   all_goals
    have hE := HX.out
    have hM := HM.out
    subst hM
    subst hE
    subst aY
    exact zfp H.out rfl aK rfl HV.out HN.out aO aq aj aW aX ab af ac ag an (by first | exact hx | simp)
  ·simp only [Value.slice.injEq, true_and] at h0
   obtain ⟨rfl, rfl⟩ := h0
   have au : ∀ j u, (xs.map (Value.int .i64))[j]? = some u -> w3.drew.cell? ((⟨gv, 0, none⟩ : Addr).add j) = some u := by
    intro j u hu
    show w3.cell? _ = _
    have : (⟨gv, 0, none⟩ : Addr).add j = ⟨gv, j, none⟩ := by
     unfold Addr.add; split
     ·rename_i h; subst h; rfl
     ·simp
    rw [this]
    exact ba.cell hu
   have bb : (xs.map (Value.int .i64)).length = n * 1 := by rw [List.length_map, Nat.mul_one]; exact HX.out.symm
   go_region_law (first
    | (refine zb0 rfl (.const (.slice none 0 0)) (.tmp 25) 27 rfl w.heap.size 3 j0 (.int .i64 0) 1 8 underlying27 hj aZ a0 a1 rfl (by decide) (.slice none 0 0) 0 [] rfl (World.ownsRow_nil _ _ _ _) ⟨gv, 0, none⟩ n vc (xs.map (Value.int .i64)) rfl bb au (ints_oneCell .i64 xs) (by unfold maxLen; omega) (by omega) (by simpa using a7) ?_; intro u w6 ab av bc; (simp only [Nat.zero_add, List.nil_append] at ab); (obtain ⟨ua, uc, rfl⟩ := za1 ab); (have af : w3.drew.grownBy w6 none := av); (have aQ := (af.block bk (by simpa using aF) (by simp)).trans aE); (have aR : w6.ownsRow 0 27 1 (.slice bo m cw) m (es.map (·.u)) := za2 am (fun g hg => af.block g (by have := za3 am hg; simpa using this) (by simp))); (have c16 : w6.cell? ⟨bk, 1, none⟩ = some (.slice bo m cw) := by simp [World.cell?, aQ]); (have aS : bk < w6.heap.size := (Array.getElem?_eq_some_iff.1 aQ).1))
    | (refine zb0 rfl (.tmp 24) (.tmp 27) 36 rfl 0 27 i0 (.slice none 0 0) 1 24 underlying36 hi aH aI aJ rfl (by decide) (.slice bo m cw) m (es.map (·.u)) rfl (aR.alloc _) ⟨w6.heap.size, 0, none⟩ 1 1 [.slice ua n uc] rfl rfl (cell_one_new _ _ _) (zb9 _ _ _) (by unfold maxLen; omega) (by omega) (Nat.zero_le _) ?_; intro vw' w7 ac aa an; (obtain ⟨aw, cw7, rfl⟩ := za1 ac); (have ag : (w6.alloc (.cells #[.slice ua n uc] 27)).grownBy w7 (Value.slice bo m cw).ownBlock := aa); (have aq := (ag.block bk (by simp; omega) (fun e => aG e.symm)).trans ((Below.heap_alloc _ _ _ aS).trans aQ)); (have c17 : w7.cell? ⟨bk, 1, none⟩ = some (.slice bo m cw) := by simp [World.cell?, aq]); (have f17 : w7.frozen? ⟨bk, 1, none⟩ = false := by simp [World.frozen?, aq])))
   all_goals go_wp2_with fail
   all_goals go_end0
   all_goals
    have hE := HX.out
    subst hE
    have hM := HM.out
    subst hM
    exact zfp H.out rfl aK rfl HV.out HN.out aO aq aj aW aX ab af ac ag an (by first | exact hx | simp)
end Go.Proofs.YtoaoajfjcfcmhaaGreatDoor.BN
namespace Go.Proofs.YtoaoajfjcfcmhaaGreatDoor.Nd2
open Go.RowKit
structure Ent where
 v : Value
 u : Value
 xs : List (Int × Int)
def blk (v : Value) : List Nat := v.ownBlock.toList
def zC3 (es : List Ent) : List Nat := es.flatMap fun e => blk e.v ++ blk e.u
theorem zay {v : Value} {g : Nat} : g ∈ blk v ↔ v.ownBlock = some g := by simp [blk]
theorem zbq (es : List Ent) (e : Ent) : zC3 (es ++ [e]) = zC3 es ++ (blk e.v ++ blk e.u) := by simp [zC3]
theorem zb3 {es : List Ent} {g : Nat} : g ∈ zC3 es ↔ ∃ e ∈ es, e.v.ownBlock = some g \/ e.u.ownBlock = some g := by
 simp only [zC3, List.mem_flatMap, List.mem_append, zay]
structure zC6 (w : World) (bk : Nat) (vi vw vp vq : Value) (es : List Ent) : Prop where
 box : w.heap[bk]? = some (.cells #[vp, vq, .slice none 0 0, .slice none 0 0, .slice none 0 0, .slice none 0 0, .slice none 0 0, .slice none 0 0, .slice none 0 0, .slice none 0 0, .slice none 0 0, .slice none 0 0, vi, vw, .slice none 0 0, .slice none 0 0, .slice none 0 0, .slice none 0 0, .slice none 0 0, .slice none 0 0, .slice none 0 0, .slice none 0 0] 48 (0, 0))
 ri : w.ownsRow 0 28 1 vi es.length (es.map (·.v))
 rw : w.ownsRow 0 28 1 vw es.length (es.map (·.u))
 ap : ∀ g, vi.ownBlock = some g -> vw.ownBlock ≠ some g
 ent : ∀ e ∈ es, w.ownsRow 0 81 2 e.v e.xs.length (za7 e.xs) /\ w.ownsRow 0 81 2 e.u e.xs.length (za7 e.xs)
 nd : (zC3 es).Nodup
 sz : ∀ e ∈ es, e.xs.length <= 900000
def zE0 (bk : Nat) (vi vw : Value) (es : List Ent) (k : Nat) : Prop := k = bk \/ vi.ownBlock = some k \/ vw.ownBlock = some k \/ k ∈ zC3 es
def zF7 (bk : Nat) (vi vw : Value) (k : Nat) : Prop := k = bk \/ vi.ownBlock = some k \/ vw.ownBlock = some k
theorem zC6.keep {w w' : World} {bk : Nat} {vi vw vp vq : Value} {es : List Ent} (h : zC6 w bk vi vw vp vq es) (hk : ∀ k, zE0 bk vi vw es k -> w'.heap[k]? = w.heap[k]?) : zC6 w' bk vi vw vp vq es :=
 ⟨(hk bk (.inl rfl)).trans h.box, za2 h.ri (fun g hg => hk g (.inr (.inl hg))), za2 h.rw (fun g hg => hk g (.inr (.inr (.inl hg)))), h.ap,
  fun e he => ⟨za2 (h.ent e he).1 (fun g hg => hk g (.inr (.inr (.inr (zb3.2 ⟨e, he, .inl hg⟩))))), za2 (h.ent e he).2 (fun g hg => hk g (.inr (.inr (.inr (zb3.2 ⟨e, he, .inr hg⟩)))))⟩, h.nd, h.sz⟩
theorem zC6.zCn {w : World} {bk k : Nat} {vi vw vp vq : Value} {es : List Ent} (h : zC6 w bk vi vw vp vq es) (hk : zE0 bk vi vw es k) : k < w.heap.size := by
 rcases hk with rfl | hk | hk | hk
 ·exact (Array.getElem?_eq_some_iff.1 h.box).1
 ·exact za3 h.ri hk
 ·exact za3 h.rw hk
 ·obtain ⟨e, he, hk | hk⟩ := zb3.1 hk
  ·exact za3 (h.ent e he).1 hk
  ·exact za3 (h.ent e he).2 hk
theorem zC6.up {w w' : World} {bk : Nat} {vi vw vp vq : Value} {es : List Ent} (h : zC6 w bk vi vw vp vq es) (hu : Up w w') : zC6 w' bk vi vw vp vq es :=
 h.keep (fun k hk => hu.block k (h.zCn hk))
def zfl (w : World) (bk : Nat) (vi vw vp vq : Value) (es : List Ent) (v : Value) (xs : List (Int × Int)) (r : Ending) (w' : World) : Prop :=
 r = .returned (.tuple #[]) /\ ∃ vi' vw' es', zC6 w' bk vi' vw' vp vq es' /\ es'.length <= 400 /\ (es' = es \/ ∃ u, es' = es ++ [⟨v, u, xs⟩] /\ ∀ g, u.ownBlock = some g -> w.heap.size <= g) /\
  (∀ k, zE0 bk vi' vw' es' k -> zE0 bk vi vw es k \/ v.ownBlock = some k \/ w.heap.size <= k) /\ Turned (zF7 bk vi vw) w w'
theorem zb0 {P : Program} {ops : Array Oper} {o : Oper} {a : Act} {w : World} {K : Act -> World -> Prop} {Q : Exit -> Act -> World -> Prop} {E : Prop}
  (hg : o.guard = none) (s x : Operand) (t : TypeId) (ag : o.op = Op.call { callee := Callee.builtin Builtin.append, args := #[s, x], argTypes := #[t, t] })
  (base : Nat) (e : TypeId) (i : TypeInfo) (z : Value) (size bytes : Nat) (ht : P.underlying t = some (.slice e)) (hi : P.info? e = some i) (hz : i.zero = some z)
  (ab : i.size = size) (ah : i.bytes = bytes) (ai : z.cells.size = size) (aj : 0 < size)
  (v : Value) (n : Nat) (xs : List Value) (hs : a.eval s = v) (af : w.ownsRow base e size v n xs)
  (ad : Addr) (m c : Nat) (news : List Value) (hx : a.eval x = .slice (some ad) m c) (hl : news.length = m * size) (ac : ∀ j u, news[j]? = some u -> w.cell? (ad.add j) = some u) (h1 : ∀ u ∈ news, u.oneCell' = true)
  (ak : n + m <= maxLen) (aa : (n + m) * bytes <= 140737488355328) (ae : base <= w.heap.size)
  (hK : ∀ v' w', w'.ownsRow base e size v' (n + m) (xs ++ news) -> w.grownBy w' v.ownBlock -> (v'.ownBlock = v.ownBlock \/ v'.ownBlock = some w.heap.size) -> K (a.put o.dst v') w') :
  if Region.wanted o (yielded ops a.tmps) = true then Oper.wp P o a w K Q else E := by
 have hw : Region.wanted o (yielded ops a.tmps) = true := by simp [Region.wanted, hg]
 rw [if_pos hw]
 obtain ⟨v', w', hr, h2, h3, h4, h5⟩ := run_append_own_at (P := P) w base t o.type e i z size bytes ht hi hz ab ah ai aj v n xs af ad m c news hl ac h1 ak aa ae
 unfold Oper.wp execOp
 simp only [ag, resolve, invoke, builtin, Sem.run_bind, Sem.run_pure, Result.andThen_ok, List.map_toArray, List.map_cons, List.map_nil, hs, hx, hr]
 exact hK v' w' h2 h3 h5
theorem Tryz.zHw : (prog.info? 28).map (fun i => (i.zero, i.size, i.bytes)) = some (some (.slice none 0 0), 1, 24) := by kernel_rfl
theorem zb9 (a : Option Addr) (n c : Nat) : ∀ u ∈ [Value.slice a n c], u.oneCell' = true := by
 intro u hu
 simp only [List.mem_singleton] at hu
 subst hu; rfl
theorem zcp {P : Program} {ops : Array Oper} {o : Oper} {a : Act} {w : World} {K : Act -> World -> Prop} {Q : Exit -> Act -> World -> Prop} {E : Prop}
  (hg : o.guard = none) (s x : Operand) (t : TypeId) (aa : o.op = Op.call { callee := Callee.builtin Builtin.append, args := #[s, x], argTypes := #[t, t] })
  (e : TypeId) (i : TypeInfo) (ht : P.underlying t = some (.slice e)) (hi : P.info? e = some i) (hs : a.eval s = .slice none 0 0) (hx : a.eval x = .slice none 0 0)
  (hK : K (a.put o.dst (.slice none 0 0)) w) : if Region.wanted o (yielded ops a.tmps) = true then Oper.wp P o a w K Q else E := by
 have hw : Region.wanted o (yielded ops a.tmps) = true := by simp [Region.wanted, hg]
 rw [if_pos hw]
 have hr : (Builtin.append_ #[t, t] o.type #[.slice none 0 0, .slice none 0 0]).run P w = .ok (.slice none 0 0) w := by
  simp [Builtin.append_, run_underlying ht, sizeOf, typeInfo, hi, Builtin.lenOf, Builtin.firstCells]
 unfold Oper.wp execOp
 simp only [aa, resolve, invoke, builtin, Sem.run_bind, Sem.run_pure, Result.andThen_ok, List.map_toArray, List.map_cons, List.map_nil, hs, hx, hr]
 exact hK
theorem zba (ao : Option Addr) (m c m' c' : Nat) : (Value.slice ao m c).ownBlock = (Value.slice ao m' c').ownBlock := by cases ao <;> rfl
theorem zCk {w : World} {g : Nat} {e e' : TypeId} {base size n base' size' n' : Nat} {v v' : Value} {xs xs' : List Value} (h : w.ownsRow base e size v n xs) (h' : w.ownsRow base' e' size' v' n' xs') (he : e ≠ e') (hg : v.ownBlock = some g) : v'.ownBlock ≠ some g := by
 intro ab
 obtain ⟨cur, hh⟩ := za5 h hg
 obtain ⟨cur2, aa⟩ := za5 h' ab
 rw [hh] at aa
 simp only [Option.some.injEq, Obj.cells.injEq] at aa
 exact he aa.2.1
theorem zfp {w w3 w6 w7 : World} {bk m n : Nat} {vi vw vp vq vi' vw' v u : Value} {es : List Ent} {xs : List (Int × Int)} {o : Obj} (H : zC6 w bk vi vw vp vq es) (hm : m = es.length) (aj : m < 400) (hn : n = xs.length)
  (hv : w.ownsRow 0 81 2 v xs.length (za7 xs)) (hN : ∀ g, v.ownBlock = some g -> g ∉ zC3 es) (T3 : Turned (zF7 bk vi vw) w w3)
  (ae : w7.heap[bk]? = some (.cells #[vp, vq, .slice none 0 0, .slice none 0 0, .slice none 0 0, .slice none 0 0, .slice none 0 0, .slice none 0 0, .slice none 0 0, .slice none 0 0, .slice none 0 0, .slice none 0 0, vi', vw, .slice none 0 0, .slice none 0 0, .slice none 0 0, .slice none 0 0, .slice none 0 0, .slice none 0 0, .slice none 0 0, .slice none 0 0] 48 (0, 0)))
  (own3 : w3.ownsRow 0 28 1 vi' (m + 1) (es.map (·.v) ++ [v])) (af : ∀ g, vi'.ownBlock = some g -> vw.ownBlock ≠ some g) (ag : ∀ g, vi'.ownBlock = some g -> vi.ownBlock = some g \/ w.heap.size <= g)
  (own6 : w6.ownsRow w.heap.size 81 2 u n (za7 xs)) (gr6 : w3.drew.grownBy w6 none) (own7 : w7.ownsRow 0 28 1 vw' (m + 1) (es.map (·.u) ++ [u]))
  (gr7 : (w6.alloc o).grownBy w7 vw.ownBlock) (at7 : vw'.ownBlock = vw.ownBlock \/ vw'.ownBlock = some (w6.alloc o).heap.size) (ah : n <= 900000) :
  zfl w bk vi vw vp vq es v xs (.returned (.tuple #[])) (w7.setCell ⟨bk, 13, none⟩ vw') := by
 subst hm hn
 have ak := T3.size
 have al : w3.heap.size <= w6.heap.size := gr6.size
 have am : bk < w.heap.size := (Array.getElem?_eq_some_iff.1 H.box).1
 have ai : ∀ g, vi.ownBlock = some g -> g < w.heap.size := fun g hg => za3 H.ri hg
 have ab : ∀ g, vw.ownBlock = some g -> g < w.heap.size := fun g hg => za3 H.rw hg
 -- what stands from w3 on, and from w6 on
 have from6 : ∀ k, k < w6.heap.size -> k ≠ bk -> vw.ownBlock ≠ some k -> (w7.setCell ⟨bk, 13, none⟩ vw').heap[k]? = w6.heap[k]? := by
  intro k hk h1 h2
  rw [Below.heap_setCell _ _ _ _ h1]
  exact (gr7.block k (by simp; omega) (fun e => h2 e.symm)).trans (Below.heap_alloc _ _ _ hk)
 have from3 : ∀ k, k < w3.heap.size -> k ≠ bk -> vw.ownBlock ≠ some k -> (w7.setCell ⟨bk, 13, none⟩ vw').heap[k]? = w3.heap[k]? := by
  intro k hk h1 h2
  exact (from6 k (by omega) h1 h2).trans (gr6.block k hk (by simp))
 have from0 : ∀ k, k < w.heap.size -> k ≠ bk -> vi.ownBlock ≠ some k -> vw.ownBlock ≠ some k -> (w7.setCell ⟨bk, 13, none⟩ vw').heap[k]? = w.heap[k]? := by
  intro k hk h1 h2 h3
  refine (from3 k (by omega) h1 h3).trans (T3.block k hk ?_)
  rintro (h | h | h)
  ·exact h1 h
  ·exact h2 h
  ·exact h3 h
 have keepI : ∀ {v0 : Value} {n0 : Nat} {ys : List Value}, w.ownsRow 0 81 2 v0 n0 ys -> (w7.setCell ⟨bk, 13, none⟩ vw').ownsRow 0 81 2 v0 n0 ys := by
  intro v0 n0 ys h
  refine za2 h (fun g hg => from0 g (za3 h hg) ?_ (zCk h H.ri (by decide) hg) (zCk h H.rw (by decide) hg))
  rintro rfl
  obtain ⟨cur, hh⟩ := za5 h hg
  have := H.box; rw [hh] at this; simp at this
 have aa : ∀ g, u.ownBlock = some g -> w.heap.size <= g /\ g < w6.heap.size := fun g hg => own6.lt g hg
 have own6' : (w7.setCell ⟨bk, 13, none⟩ vw').ownsRow 0 81 2 u xs.length (za7 xs) := by
  refine za2 (za8 own6 (Nat.zero_le _)) (fun g hg => from6 g (aa g hg).2 ?_ ?_)
  ·have := (aa g hg).1; omega
  ·intro hc; have := (aa g hg).1; have := ab g hc; omega
 have ac : ∀ g, vi'.ownBlock = some g -> g ≠ bk := by
  intro g hg
  rcases ag g hg with h | h
  ·rintro rfl
   obtain ⟨cur, hh⟩ := za5 H.ri h
   have := H.box; rw [hh] at this; simp at this
  ·omega
 have ad : ∀ g, vw'.ownBlock = some g -> g ≠ bk := by
  rintro g hg rfl
  obtain ⟨cur, hh⟩ := za5 own7 hg
  rw [ae] at hh; simp at hh
 refine ⟨rfl, vi', vw', es ++ [⟨v, u, xs⟩], ⟨?_, ?_, ?_, ?_, ?_, ?_, ?_⟩, by simp; omega, .inr ⟨u, rfl, fun g hg => (aa g hg).1⟩, ?_, ?_⟩
 ·simp [World.setCell, Array.getElem?_modify, ae]
 ·have : (w7.setCell ⟨bk, 13, none⟩ vw').ownsRow 0 28 1 vi' (es.length + 1) (es.map (·.v) ++ [v]) := za2 own3 (fun g hg => from3 g (za3 own3 hg) (ac g hg) (af g hg))
  simpa using this
 ·have : (w7.setCell ⟨bk, 13, none⟩ vw').ownsRow 0 28 1 vw' (es.length + 1) (es.map (·.u) ++ [u]) := za2 own7 (fun g hg => Below.heap_setCell _ _ _ _ (ad g hg))
  simpa using this
 ·intro g hg hc
  rcases at7 with e | e
  ·rw [e] at hc; exact af g hg hc
  ·rw [e] at hc
   have := za3 own3 hg
   simp at hc; omega
 ·intro e he
  rcases List.mem_append.1 he with he | he
  ·exact ⟨keepI (H.ent e he).1, keepI (H.ent e he).2⟩
  ·obtain rfl := List.mem_singleton.1 he
   exact ⟨keepI hv, own6'⟩
 ·rw [zbq]
  refine List.nodup_append.2 ⟨H.nd, ?_, ?_⟩
  ·refine List.nodup_append.2 ⟨?_, ?_, ?_⟩
   ·cases h : v.ownBlock <;> simp [blk, h]
   ·cases h : u.ownBlock <;> simp [blk, h]
   ·intro a ha b hb e
    subst e
    have h1 := za3 hv (zay.1 ha)
    have h2 := (aa a (zay.1 hb)).1
    omega
  ·intro a ha b hb e
   subst e
   rcases List.mem_append.1 hb with hb | hb
   ·exact hN a (zay.1 hb) ha
   ·have h1 := H.zCn (.inr (.inr (.inr ha)))
    have h2 := (aa a (zay.1 hb)).1
    omega
 ·intro e he
  rcases List.mem_append.1 he with he | he
  ·exact H.sz e he
  ·obtain rfl := List.mem_singleton.1 he
   exact ah
 ·intro k hk
  rcases hk with rfl | hk | hk | hk
  ·exact .inl (.inl rfl)
  ·rcases ag k hk with h | h
   ·exact .inl (.inr (.inl h))
   ·exact .inr (.inr h)
  ·rcases at7 with e | e
   ·rw [e] at hk; exact .inl (.inr (.inr (.inl hk)))
   ·rw [e] at hk; simp at hk; right; right; omega
  ·rw [zbq] at hk
   rcases List.mem_append.1 hk with hk | hk
   ·exact .inl (.inr (.inr (.inr hk)))
   ·rcases List.mem_append.1 hk with hk | hk
    ·exact .inr (.inl (zay.1 hk))
    ·exact .inr (.inr (aa k (zay.1 hk)).1)
 ·have t6 : Turned (zF7 bk vi vw) w w6 := T3.drew.grown gr6 (fun k hk => by cases hk)
  exact ((t6.alloc o).grown gr7 (fun k hk => .inl (.inr (.inr hk)))).setCell (p := ⟨bk, 13, none⟩) (.inl (.inl rfl)) _
theorem zIo {w : World} {bk : Nat} {vi vw vp vq v : Value} {es : List Ent} {xs : List (Int × Int)} (h : zC6 w bk vi vw vp vq es) (hl : es.length <= 400) (hv : w.ownsRow 0 81 2 v xs.length (za7 xs)) (hx : xs.length <= 900000)
  (hn : ∀ g, v.ownBlock = some g -> g ∉ zC3 es) : Calls prog 12 #[.pointer (some ⟨bk, 0, none⟩), v] w (zfl w bk vi vw vp vq es v xs) := by
 obtain ⟨i0, hi, aH, aI, aJ⟩ := info_parts Tryz.zHw
 obtain ⟨j0, hj, aZ, a0, a1⟩ := info_parts Tryz.nodeInfo
 obtain ⟨ao, ci, rfl⟩ := za1 h.ri
 obtain ⟨bo, cw, rfl⟩ := za1 h.rw
 have c0 : w.cell? ⟨bk, 12, none⟩ = some (.slice ao es.length ci) := by simp [World.cell?, h.box]
 have f0 : w.frozen? ⟨bk, 12, none⟩ = false := by simp [World.frozen?, h.box]
 have a2 : bk < w.heap.size := (Array.getElem?_eq_some_iff.1 h.box).1
 by_cases hfull : es.length = 400
 ·have H := zh h
  obtain ⟨m, hm⟩ := nm (es.length)
  have a3 : m = 400 := by omega
  rw [<- hm] at c0
  subst a3
  have H4 := zh hm
  obtain ⟨vo, vc, rfl⟩ := za1 hv
  clear h hl hv hn hfull hm f0
  go_enter func12, ntmps12
  go_wp2_with fail
  go_end0
  exact ⟨rfl, _, _, es, H.out, by rw [<- H4.out]; exact Nat.le_refl _, .inl rfl, fun k hk => .inl hk, Turned.refl _ _⟩
 ·have aK : es.length < 400 := by omega
  have aL := h.ri
  have ay := h.rw
  obtain ⟨m, hm⟩ := nm (es.length)
  rw [<- hm] at c0 aK aL ay
  have HM := zh hm
  have H := zh h
  have HV := zh hv
  have HN := zh hn
  have aT := h.ap
  obtain ⟨vo, vc, rfl⟩ := za1 hv
  obtain ⟨n, aM⟩ := nm (xs.length)
  rw [<- aM] at hx ⊢
  have HX := zh aM
  have a4 : ∀ c, (Value.slice ao m c).ownBlock ≠ some bk := by
   intro c hc
   have hr := h.ri
   have : (Value.slice ao es.length ci).ownBlock = some bk := by rw [zba ao es.length ci m c]; exact hc
   obtain ⟨cur, hh⟩ := za5 hr this
   have := h.box; rw [hh] at this; simp at this
  have aG : (Value.slice bo es.length cw).ownBlock ≠ some bk := by
   intro hc
   obtain ⟨cur, hh⟩ := za5 h.rw hc
   have := h.box; rw [hh] at this; simp at this
  rw [<- hm] at aG
  clear h hl hv hn hfull hm aM
  go_enter func12, ntmps12
  go_upto_region 2 with (at_builtin; (refine wpList_append_own_at _ rfl _ _ 42 rfl 0 28 i0 (.slice none 0 0) 1 24 underlying42 hi aH aI aJ rfl (by decide) _ m _ rfl (aL.alloc _) ⟨w.heap.size, 0, none⟩ 1 1 [.slice vo n vc] rfl rfl (cell_one_new _ _ _) (zb9 _ _ _) (by unfold maxLen; omega) (by omega) (Nat.zero_le _) ?_); intro vi' w2 ae ad aA aB; clear aA; (obtain ⟨ai, ci', rfl⟩ := za1 ae); (have aC := (ad.block bk (by simp; omega) (fun e => a4 ci e.symm)).trans ((Below.heap_alloc _ _ _ a2).trans H.out.box)); (have c02 : w2.cell? ⟨bk, 12, none⟩ = some (.slice ao es.length ci) := by simp [World.cell?, aC]); (have f02 : w2.frozen? ⟨bk, 12, none⟩ = false := by simp [World.frozen?, aC]))
  obtain ⟨w3, ax⟩ : ∃ w3, w2.setCell ⟨bk, 12, none⟩ (.slice ai (m + 1) ci') = w3 := ⟨_, rfl⟩
  have aN : (w.alloc (.cells #[.slice vo n vc] 28)).grownBy w2 (Value.slice ao m ci).ownBlock := ad
  have ak : (Value.slice ai (m + 1) ci').ownBlock = (Value.slice ao m ci).ownBlock \/ (Value.slice ai (m + 1) ci').ownBlock = some (w.alloc (.cells #[.slice vo n vc] 28)).heap.size := aB
  have aU : Turned (zF7 bk (.slice ao m ci) (.slice bo m cw)) w w2 := ((Turned.refl _ _).alloc _).grown aN (fun k hk => .inl (.inr (.inl hk)))
  have aO : Turned (zF7 bk (.slice ao m ci) (.slice bo m cw)) w w3 := by rw [<- ax]; exact aU.setCell (p := ⟨bk, 12, none⟩) (.inl (.inl rfl)) _
  have a5 : (Value.slice ai (m + 1) ci').ownBlock = some bk -> False := by
   intro hc
   obtain ⟨cur, hh⟩ := za5 ae hc
   rw [aC] at hh; simp at hh
  have aj : w3.ownsRow 0 28 1 (.slice ai (m + 1) ci') (m + 1) (es.map (·.v) ++ [.slice vo n vc]) := by rw [<- ax]; exact za2 ae (fun g hg => Below.heap_setCell _ _ _ _ (by rintro rfl; exact a5 hg))
  have al : ∀ k, k < w.heap.size -> k ≠ bk -> (Value.slice ao m ci).ownBlock ≠ some k -> w3.heap[k]? = w.heap[k]? := by
   intro k hk h1 h2
   rw [<- ax, Below.heap_setCell _ _ _ _ h1]
   exact (aN.block k (by simp; omega) (fun e => h2 e.symm)).trans (Below.heap_alloc _ _ _ hk)
  have am : w3.ownsRow 0 28 1 (.slice bo m cw) m (es.map (·.u)) := za2 ay (fun g hg => al g (za3 ay hg) (by rintro rfl; exact aG hg) (by
   intro hc
   refine aT g ?_ ?_
   ·rw [zba ao es.length ci m ci]; exact hc
   ·rw [zba bo es.length cw m cw]; exact hg))
  have aP : ∀ g, (Value.slice vo n vc).ownBlock = some g -> g < w.heap.size /\ g ≠ bk /\ (Value.slice ao m ci).ownBlock ≠ some g /\ (Value.slice bo m cw).ownBlock ≠ some g := by
   intro g hg
   rw [zba vo n vc xs.length vc] at hg
   obtain ⟨cur, hh⟩ := za5 HV.out hg
   refine ⟨za3 HV.out hg, ?_, ?_, ?_⟩
   ·rintro rfl; have := H.out.box; rw [hh] at this; simp at this
   ·intro hc; obtain ⟨cur2, aD⟩ := za5 aL hc; rw [hh] at aD; simp at aD
   ·intro hc; obtain ⟨cur2, aD⟩ := za5 ay hc; rw [hh] at aD; simp at aD
  have a6 : w3.ownsRow 0 81 2 (.slice vo n vc) n (za7 xs) := by
   have aV := HV.out
   rw [<- HX.out] at aV
   exact za2 aV (fun g hg => al g (aP g hg).1 (aP g hg).2.1 (aP g hg).2.2.1)
  have aE : w3.heap[bk]? = some (.cells #[vp, vq, .slice none 0 0, .slice none 0 0, .slice none 0 0, .slice none 0 0, .slice none 0 0, .slice none 0 0, .slice none 0 0, .slice none 0 0, .slice none 0 0, .slice none 0 0, .slice ai (m + 1) ci', .slice bo m cw, .slice none 0 0, .slice none 0 0, .slice none 0 0, .slice none 0 0, .slice none 0 0, .slice none 0 0, .slice none 0 0, .slice none 0 0] 48 (0, 0)) := by
   rw [<- ax]
   simp [World.setCell, Array.getElem?_modify, aC, <- HM.out]
  have a7 : w.heap.size <= w3.heap.size := aO.size
  have aW : ∀ g, (Value.slice ai (m + 1) ci').ownBlock = some g -> (Value.slice bo m cw).ownBlock ≠ some g := by
   intro g hg hc
   rcases ak with e | e
   ·rw [e] at hg
    refine aT g ?_ ?_
    ·rw [zba ao es.length ci m ci]; exact hg
    ·rw [zba bo es.length cw m cw]; exact hc
   ·rw [e] at hg
    have := za3 ay hc
    simp at hg; omega
  have aX : ∀ g, (Value.slice ai (m + 1) ci').ownBlock = some g -> (Value.slice ao m ci).ownBlock = some g \/ w.heap.size <= g := by
   intro g hg
   rcases ak with e | e
   ·rw [e] at hg; exact .inl hg
   ·rw [e] at hg; simp at hg; right; omega
  rw [ax]
  clear aB ak aN ax ad ae aC c02 f02 al aU
  have a8 : w3.cell? ⟨bk, 13, none⟩ = some (.slice bo m cw) := by simp [World.cell?, aE]
  have a9 : w3.frozen? ⟨bk, 13, none⟩ = false := by simp [World.frozen?, aE]
  have aF : bk < w3.heap.size := (Array.getElem?_eq_some_iff.1 aE).1
  rcases za4 a6 with ⟨h0, bd, be⟩ | ⟨gv, cv, h0, ba, bf, bh, _⟩
  ·simp only [Value.slice.injEq] at h0
   obtain ⟨rfl, ah, rfl⟩ := h0
   have aY : xs = [] := List.eq_nil_of_length_eq_zero (by rw [<- HX.out]; exact ah)
   have ab : w3.ownsRow w.heap.size 81 2 (.slice none 0 0) n (za7 xs) := by
    rw [aY, ah]; exact World.ownsRow_nil _ _ _ _
   have hrw3a : (w3.alloc (.cells #[.slice none 0 0] 28)).drew.ownsRow 0 28 1 (.slice bo m cw) m (es.map (·.u)) := by
    have := am.alloc (.cells #[.slice none 0 0] 28)
    exact this
   have af : w3.drew.grownBy w3 none := ⟨rfl, rfl, rfl, Nat.le_refl _, fun _ _ _ => rfl⟩
   have bi := zh ah
   rw [ah]
   go_region_law (first
    | (refine zcp rfl (.const (.slice none 0 0)) (.tmp 25) 28 rfl 81 j0 underlying28 hj rfl rfl ?_)
    | (refine zb0 rfl (.tmp 24) (.tmp 27) 42 rfl 0 28 i0 (.slice none 0 0) 1 24 underlying42 hi aH aI aJ rfl (by decide) (.slice bo m cw) m (es.map (·.u)) rfl hrw3a ⟨w3.heap.size, 0, none⟩ 1 1 [.slice none 0 0] rfl rfl (cell_one_new _ _ _) (zb9 _ _ _) (by unfold maxLen; omega) (by omega) (Nat.zero_le _) ?_; intro vw' w7 ac aa an; (obtain ⟨aw, cw7, rfl⟩ := za1 ac); (have ag : (w3.alloc (.cells #[.slice none 0 0] 28)).grownBy w7 (Value.slice bo m cw).ownBlock := ⟨aa.os, aa.tape, aa.output, aa.size, aa.block⟩); (have aq := (ag.block bk (by simp; omega) (fun e => aG e.symm)).trans ((Below.heap_alloc w3 _ _ aF).trans aE)); (have c17 : w7.cell? ⟨bk, 13, none⟩ = some (.slice bo m cw) := by simp [World.cell?, aq]); (have f17 : w7.frozen? ⟨bk, 13, none⟩ = false := by simp [World.frozen?, aq])))
   all_goals go_wp2_with fail
   all_goals go_end0
   all_goals
    have hE := HX.out
    have hM := HM.out
    subst hM
    subst hE
    subst aY
    exact zfp H.out rfl aK rfl HV.out HN.out aO aq aj aW aX ab af ac ag an (by first | exact hx | simp)
  ·simp only [Value.slice.injEq, true_and] at h0
   obtain ⟨rfl, rfl⟩ := h0
   have au : ∀ j u, (za7 xs)[j]? = some u -> w3.drew.cell? ((⟨gv, 0, none⟩ : Addr).add j) = some u := by
    intro j u hu
    show w3.cell? _ = _
    have : (⟨gv, 0, none⟩ : Addr).add j = ⟨gv, j, none⟩ := by
     unfold Addr.add; split
     ·rename_i h; subst h; rfl
     ·simp
    rw [this]
    exact ba.cell hu
   have bb : (za7 xs).length = n * 2 := by rw [zbo, <- HX.out]
   go_region_law (first
    | (refine zb0 rfl (.const (.slice none 0 0)) (.tmp 25) 28 rfl w.heap.size 81 j0 (.agg #[.int .i64 0, .int .i64 0]) 2 16 underlying28 hj aZ a0 a1 rfl (by decide) (.slice none 0 0) 0 [] rfl (World.ownsRow_nil _ _ _ _) ⟨gv, 0, none⟩ n vc (za7 xs) rfl bb au (zcf xs) (by unfold maxLen; omega) (by omega) (by simpa using a7) ?_; intro u w6 ab av bc; (simp only [Nat.zero_add, List.nil_append] at ab); (obtain ⟨ua, uc, rfl⟩ := za1 ab); (have af : w3.drew.grownBy w6 none := av); (have aQ := (af.block bk (by simpa using aF) (by simp)).trans aE); (have aR : w6.ownsRow 0 28 1 (.slice bo m cw) m (es.map (·.u)) := za2 am (fun g hg => af.block g (by have := za3 am hg; simpa using this) (by simp))); (have c16 : w6.cell? ⟨bk, 13, none⟩ = some (.slice bo m cw) := by simp [World.cell?, aQ]); (have aS : bk < w6.heap.size := (Array.getElem?_eq_some_iff.1 aQ).1))
    | (refine zb0 rfl (.tmp 24) (.tmp 27) 42 rfl 0 28 i0 (.slice none 0 0) 1 24 underlying42 hi aH aI aJ rfl (by decide) (.slice bo m cw) m (es.map (·.u)) rfl (aR.alloc _) ⟨w6.heap.size, 0, none⟩ 1 1 [.slice ua n uc] rfl rfl (cell_one_new _ _ _) (zb9 _ _ _) (by unfold maxLen; omega) (by omega) (Nat.zero_le _) ?_; intro vw' w7 ac aa an; (obtain ⟨aw, cw7, rfl⟩ := za1 ac); (have ag : (w6.alloc (.cells #[.slice ua n uc] 28)).grownBy w7 (Value.slice bo m cw).ownBlock := aa); (have aq := (ag.block bk (by simp; omega) (fun e => aG e.symm)).trans ((Below.heap_alloc _ _ _ aS).trans aQ)); (have c17 : w7.cell? ⟨bk, 13, none⟩ = some (.slice bo m cw) := by simp [World.cell?, aq]); (have f17 : w7.frozen? ⟨bk, 13, none⟩ = false := by simp [World.frozen?, aq])))
   all_goals go_wp2_with fail
   all_goals go_end0
   all_goals
    have hE := HX.out
    subst hE
    have hM := HM.out
    subst hM
    exact zfp H.out rfl aK rfl HV.out HN.out aO aq aj aW aX ab af ac ag an (by first | exact hx | simp)
end Go.Proofs.YtoaoajfjcfcmhaaGreatDoor.Nd2
