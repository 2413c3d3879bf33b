/- What a call may do to a play: notes, heaps, sizes. -/
import Derived.Test.YtoaoajfjcfcmhaaGreatDoorP24
import Derived.Test.YtoaoajfjcfcmhaaGreatDoorP01
set_option linter.unusedVariables false
set_option linter.unusedSimpArgs false
set_option maxHeartbeats 16000000
set_option maxRecDepth 100000
open Go.Proofs.Tryz
namespace Go.Proofs.YtoaoajfjcfcmhaaGreatDoor
open Go.RowKit Go.Sort Go.Maps
section
variable {P : Program}
theorem zbg {w : World} {ops : Array Oper} {rest : List Oper} {o : Oper} {a : Act} {Q : Exit -> Act -> World -> Prop} (ag : o.guard = none) (s x : Operand) (t : TypeId)
  (ho : o.op = .call { callee := .builtin .append, args := #[s, x], argTypes := #[t, t] })
  (base : Nat) (e : TypeId) (i : TypeInfo) (z : Value) (size bytes : Nat) (ht : P.underlying t = some (.slice e)) (hi : P.info? e = some i) (hz : i.zero = some z)
  (ab : i.size = size) (ah : i.bytes = bytes) (ai : z.cells.size = size) (aj : 0 < size)
  (v : Value) (n : Nat) (xs : List Value) (hs : a.eval s = v) (af : w.ownsRow base e size v n xs)
  (ad : Addr) (m c : Nat) (news : List Value) (hx : a.eval x = .slice (some ad) m c) (hl : news.length = m * size) (ac : ∀ j u, news[j]? = some u -> w.cell? (ad.add j) = some u) (h1 : ∀ u ∈ news, u.oneCell' = true)
  (ak : n + m <= maxLen) (aa : (n + m) * bytes <= 140737488355328) (ae : base <= w.heap.size)
  (h : ∀ v' w', w'.ownsRow base e size v' (n + m) (xs ++ news) -> w.grownBy w' v.ownBlock -> (v'.ownBlock = v.ownBlock \/ v'.ownBlock = some w.heap.size) -> wpList P ops Q rest (a.put o.dst v') w') :
  wpList P ops Q (o :: rest) a w := by
 refine wpList_plain ag fun K hK => ?_
 obtain ⟨v', w', hr, h2, h3, _, h5⟩ := run_append_own_at (P := P) w base t o.type e i z size bytes ht hi hz ab ah ai aj v n xs af ad m c news hl ac h1 ak aa ae
 unfold Oper.wp execOp
 simp only [ho, resolve, invoke, builtin, Sem.run_bind, Sem.run_pure, Result.andThen_ok, List.map_toArray, List.map_cons, List.map_nil, hs, hx, hr]
 exact hK _ _ (h v' w' h2 h3 h5)
end
def More (F : Nat -> Prop) (w : World) (k : Nat) : Prop := F k \/ w.heap.size <= k
def zbp (F : Nat -> Prop) (w : World) (v : Value) (L : List Nat) : Prop :=
 ∃ ao cap g off, v = .slice ao L.length cap /\ (0 < L.length -> ao = some ⟨g, off, none⟩ /\ ¬ F g /\ g < w.heap.size) /\ ∀ i, i < L.length -> w.cell? ⟨g, off + i, none⟩ = some (.int .i64 ((L.getD i 0 : Nat) : Int))
theorem zbp.turn {F : Nat -> Prop} {w w' : World} {v : Value} {L : List Nat} (h : zbp F w v L) (ht : Turned F w w') : zbp (More F w) w' v L := by
 obtain ⟨ao, cap, g, off, rfl, h1, h2⟩ := h
 refine ⟨ao, cap, g, off, rfl, fun h0 => ?_, fun i hi => ?_⟩
 ·obtain ⟨a, b, c⟩ := h1 h0
  exact ⟨a, fun e => by rcases e with e | e; exact b e; omega, Nat.lt_of_lt_of_le c ht.size⟩
 ·obtain ⟨a, b, c⟩ := h1 (by omega)
  have := h2 i hi
  simp only [World.cell?] at this ⊢
  rw [ht.block g c b]; exact this
theorem zbp.lst {F : Nat -> Prop} {w : World} {v : Value} {L : List Nat} (h : zbp F w v L) : Lst w v (L.map Int.ofNat) := by
 obtain ⟨ao, cap, g, off, rfl, h1, h2⟩ := h
 refine ⟨ao, cap, g, off, by rw [List.length_map], fun h0 => (h1 (by simpa using h0)).1, fun i hi => ?_⟩
 rw [List.length_map] at hi
 rw [h2 i hi]
 simp [List.getD, hi]
theorem zbp.zGj {F : Nat -> Prop} {w : World} {base : Nat} {v : Value} {L : List Nat} (h : w.ownsRow base 3 1 v L.length (ivs (L.map Int.ofNat))) (hF : ∀ k, base <= k -> k < w.heap.size -> ¬ F k) : zbp F w v L := by
 rcases za4 h with ⟨rfl, h0, _⟩ | ⟨g, cap, rfl, hr, _⟩
 ·exact ⟨none, 0, 0, 0, by rw [h0], fun h => by omega, fun i hi => by omega⟩
 ·refine ⟨_, cap, g, 0, rfl, fun _ => ⟨rfl, hF g (h.lt g rfl).1 hr.lt, hr.lt⟩, fun i hi => ?_⟩
  rw [Nat.zero_add]
  exact hr.cell (by simp [ivs, List.getD, hi])
theorem Turned.more {F : Nat -> Prop} {w w1 w2 : World} (h : Turned F w w1) (h2 : Turned (More F w) w1 w2) : Turned F w w2 :=
 h.trans h2 (fun i hi hf => by rcases hf with e | e; exact e; omega)
section
variable {F : Nat -> Prop} {w w' : World} {X gB B n : Nat} {p p' : Rf.St} {hp : List Nat} {nh nt : Nat} {ve vp vi vb vb' : Value} {gh gg : Nat} {vs vt : Value} {sz gz : List Int} {ts : List Value}
theorem zat {w : World} {X : Nat} {cs : Array Value} {e : TypeId} (h : w.heap[X]? = some (.cells cs e (0, 0))) (i : Nat) (v : Value) : (w.setCell ⟨X, i, none⟩ v).heap[X]? = some (.cells (cs.setIfInBounds i v) e (0, 0)) := by
 simp [World.setCell, Array.getElem?_modify, h]
theorem Turned.set1 {F : Nat -> Prop} {w w' : World} (h : Turned F w w') {b i : Nat} (hb : F b) (v : Value) : Turned F w (w'.setCell ⟨b, i, none⟩ v) := h.setCell (.inl hb) v
theorem zC4.zK2 (h : zC4 F w X gB B n p hp nh nt ve vp vi vb gh gg vs vt sz gz ts) (i v : Nat) : zC4 F (w.setCell ⟨gh, i, none⟩ (.int .i64 (v : Nat))) X gB B n p (hp.set i v) nh nt ve vp vi vb gh gg vs vt sz gz ts := by
 obtain ⟨t1, t2, t3, t4, t5, t6, t7⟩ := h.types
 have hk : ∀ k, k ≠ gh -> (w.setCell ⟨gh, i, none⟩ (.int .i64 (v : Nat))).heap[k]? = w.heap[k]? := fun k hk => Below.heap_setCell w _ _ k hk
 refine ⟨(hk X t1).trans h.box, h.part.keep (fun k hf => hk k (h.nP k hf).2.1), by rw [ints_set]; exact h.heap.set i _, za2 h.size (fun g hg => hk g (fun e => h.nSH (e ▸ hg))), za2 h.took (fun g hg => hk g (fun e => t5 (e ▸ hg))),
  h.gauge.keep (hk gg (fun e => h.nHG e.symm)), by rw [List.length_set]; exact h.hl, h.gl, h.inX, h.inH, h.inG, h.inS, h.inT, h.inP, h.nHG, h.nSH, h.nSG, h.nP⟩
theorem zC4.zJd (h : zC4 F w X gB B n p hp nh nt ve vp vi vb gh gg vs vt sz gz ts) (i : Nat) (v : Int) : zC4 F (w.setCell ⟨gg, i, none⟩ (.int .i64 v)) X gB B n p hp nh nt ve vp vi vb gh gg vs vt sz (gz.set i v) ts := by
 obtain ⟨t1, t2, t3, t4, t5, t6, t7⟩ := h.types
 have hk : ∀ k, k ≠ gg -> (w.setCell ⟨gg, i, none⟩ (.int .i64 v)).heap[k]? = w.heap[k]? := fun k hk => Below.heap_setCell w _ _ k hk
 refine ⟨(hk X t2).trans h.box, h.part.keep (fun k hf => hk k (h.nP k hf).2.2.1), h.heap.keep (hk gh h.nHG), za2 h.size (fun g hg => hk g (fun e => h.nSG (e ▸ hg))), za2 h.took (fun g hg => hk g (fun e => t6 (e ▸ hg))),
  by have := h.gauge.set i (.int .i64 v); simpa [ivs, List.map_set] using this, h.hl, by rw [List.length_set]; exact h.gl, h.inX, h.inH, h.inG, h.inS, h.inT, h.inP, h.nHG, h.nSH, h.nSG, h.nP⟩
theorem zC4.zK3 (h : zC4 F w X gB B n p hp nh nt ve vp vi vb gh gg vs vt sz gz ts) {g : Nat} (hg : vs.ownBlock = some g) (i : Nat) (v : Int) : zC4 F (w.setCell ⟨g, i, none⟩ (.int .i64 v)) X gB B n p hp nh nt ve vp vi vb gh gg vs vt (sz.set i v) gz ts := by
 obtain ⟨t1, t2, t3, t4, t5, t6, t7⟩ := h.types
 have hk : ∀ k, k ≠ g -> (w.setCell ⟨g, i, none⟩ (.int .i64 v)).heap[k]? = w.heap[k]? := fun k hk => Below.heap_setCell w _ _ k hk
 refine ⟨(hk X (fun e => t3 (e ▸ hg))).trans h.box, h.part.keep (fun k hf => hk k (fun e => (h.nP k hf).2.2.2.1 (e ▸ hg))), h.heap.keep (hk gh (fun e => h.nSH (e ▸ hg))), ?_, za2 h.took (fun k ab => hk k (fun e => t7 g hg (e ▸ ab))),
  h.gauge.keep (hk gg (fun e => h.nSG (e ▸ hg))), h.hl, h.gl, h.inX, h.inH, h.inG, h.inS, h.inT, h.inP, h.nHG, h.nSH, h.nSG, h.nP⟩
 rcases za4 h.size with ⟨rfl, -⟩ | ⟨g', cap, rfl, hr, h1, h2, h3⟩
 ·cases hg
 ·simp only [Value.ownBlock, Option.some.injEq] at hg
  subst hg
  have aa := hr.set i (.int .i64 v)
  have : (ivs sz).set i (.int .i64 v) = ivs (sz.set i v) := by simp [ivs, List.map_set]
  rw [this] at aa
  exact aa.owns h1 h2 (by rw [zde, List.length_set, <- zde]; exact h3)
theorem zL5 {F : Nat -> Prop} {w : World} (h : zC4 F w X gB B n p hp nh nt ve vp vi vb gh gg vs vt sz gz ts) (k : Nat) : w.frozen? ⟨X, k, none⟩ = false := by
 simp [World.frozen?, h.box]
theorem zC4.newSize {w9 : World} {v9 : Value} {sz9 : List Int} {nh9 : Nat} (h : zC4 F w X gB B n p hp nh nt ve vp vi vb gh gg vs vt sz gz ts) (ac : w9.ownsRow 0 3 1 v9 nh9 (ivs sz9)) (ab : ∀ k, v9.ownBlock = some k -> vs.ownBlock = some k \/ w.heap.size <= k)
  (ht : Turned (fun k => vs.ownBlock = some k) w w9) : zC4 (More F w) (w9.setCell ⟨X, 3, none⟩ v9) X gB B n p hp nh9 nt ve vp vi vb gh gg v9 vt sz9 gz ts /\ Turned F w (w9.setCell ⟨X, 3, none⟩ v9) := by
 obtain ⟨t1, t2, t3, t4, t5, t6, t7⟩ := h.types
 have hX : w9.heap[X]? = w.heap[X]? := ht.block X h.lt t3
 have hk : ∀ k, k < w.heap.size -> k ≠ X -> vs.ownBlock ≠ some k -> (w9.setCell ⟨X, 3, none⟩ v9).heap[k]? = w.heap[k]? := fun k hk h1 h2 => (Below.heap_setCell w9 _ _ k h1).trans (ht.block k hk h2)
 have ad : ∀ k, v9.ownBlock = some k -> k ≠ X := fun k ae e => by
  subst e
  rcases ab k ae with e | e
  ·exact t3 e
  ·have := h.lt; omega
 refine ⟨⟨?_, h.part.keep (fun k hf => hk k (h.part.zCn hf) (h.nP k hf).1 (h.nP k hf).2.2.2.1), h.heap.keep (hk gh h.heap.lt (fun e => t1 e.symm) h.nSH), za2 ac (fun g hg => Below.heap_setCell w9 _ _ g (ad g hg)),
  za2 h.took (fun g hg => hk g (za3 h.took hg) (fun e => t4 (e ▸ hg)) (fun e => t7 g e hg)), h.gauge.keep (hk gg h.gauge.lt (fun e => t2 e.symm) h.nSG), h.hl, h.gl, .inl h.inX, .inl h.inH, .inl h.inG, fun k aa => ?_, fun k aa => .inl (h.inT k aa), fun k aa => .inl (h.inP k aa), h.nHG, fun e => ?_, fun e => ?_, fun k aa => ?_⟩, ?_⟩
 ·have := zat (hX.trans h.box) 3 v9
  rw [this]; rfl
 ·rcases ab k aa with e | e
  ·exact .inl (h.inS k e)
  ·exact .inr e
 ·rcases ab gh e with e | e
  ·exact h.nSH e
  ·have := h.heap.lt; omega
 ·rcases ab gg e with e | e
  ·exact h.nSG e
  ·have := h.gauge.lt; omega
 ·obtain ⟨a, b, c, d, e⟩ := h.nP k aa
  refine ⟨a, b, c, fun e2 => ?_, e⟩
  rcases ab k e2 with e3 | e3
  ·exact d e3
  ·have := h.part.zCn aa; omega
 ·exact (ht.mono (fun k _ aa => h.inS k aa)).set1 h.inX v9
theorem zC4.zK0 {w9 : World} {v9 : Value} {ts9 : List Value} {nt9 : Nat} (h : zC4 F w X gB B n p hp nh nt ve vp vi vb gh gg vs vt sz gz ts) (ab : w9.ownsRow 0 27 1 v9 nt9 ts9) (ac : ∀ k, v9.ownBlock = some k -> vt.ownBlock = some k \/ w.heap.size <= k)
  (ht : Turned (fun k => vt.ownBlock = some k) w w9) : zC4 (More F w) (w9.setCell ⟨X, 5, none⟩ v9) X gB B n p hp nh nt9 ve vp vi vb gh gg vs v9 sz gz ts9 /\ Turned F w (w9.setCell ⟨X, 5, none⟩ v9) := by
 obtain ⟨t1, t2, t3, t4, t5, t6, t7⟩ := h.types
 have hX : w9.heap[X]? = w.heap[X]? := ht.block X h.lt t4
 have hk : ∀ k, k < w.heap.size -> k ≠ X -> vt.ownBlock ≠ some k -> (w9.setCell ⟨X, 5, none⟩ v9).heap[k]? = w.heap[k]? := fun k hk h1 h2 => (Below.heap_setCell w9 _ _ k h1).trans (ht.block k hk h2)
 have ad : ∀ k, v9.ownBlock = some k -> k ≠ X := fun k ae e => by
  subst e
  rcases ac k ae with e | e
  ·exact t4 e
  ·have := h.lt; omega
 refine ⟨⟨?_, h.part.keep (fun k hf => hk k (h.part.zCn hf) (h.nP k hf).1 (h.nP k hf).2.2.2.2), h.heap.keep (hk gh h.heap.lt (fun e => t1 e.symm) t5), za2 h.size (fun g hg => hk g (za3 h.size hg) (fun e => t3 (e ▸ hg)) (fun e => t7 g hg e)),
  za2 ab (fun g hg => Below.heap_setCell w9 _ _ g (ad g hg)), h.gauge.keep (hk gg h.gauge.lt (fun e => t2 e.symm) t6), h.hl, h.gl, .inl h.inX, .inl h.inH, .inl h.inG, fun k aa => .inl (h.inS k aa), fun k aa => ?_, fun k aa => .inl (h.inP k aa), h.nHG, h.nSH, h.nSG, fun k aa => ?_⟩, ?_⟩
 ·have := zat (hX.trans h.box) 5 v9
  rw [this]; rfl
 ·rcases ac k aa with e | e
  ·exact .inl (h.inT k e)
  ·exact .inr e
 ·obtain ⟨a, b, c, d, e⟩ := h.nP k aa
  refine ⟨a, b, c, d, fun e2 => ?_⟩
  rcases ac k e2 with e3 | e3
  ·exact e e3
  ·have := h.part.zCn aa; omega
 ·exact (ht.mono (fun k _ aa => h.inT k aa)).set1 h.inX v9
end
def zlg (F : Nat -> Prop) (w : World) (X gB B n : Nat) (p : Rf.St) (hp : List Nat) (nh nt : Nat) (r : Ending) (w' : World) : Prop :=
 r = .returned (.tuple #[]) /\ Turned F w w' /\ zF4 (More F w) w' X gB B n p hp nh (nt + 1)
theorem zgl {w w9 : World} {o : Obj} {v : Value} (hg : (w.alloc o).grownBy w9 v.ownBlock) : Turned (fun k => v.ownBlock = some k) w w9 :=
 ((Turned.refl _ w).alloc o).grown hg (fun k hk => .inl hk)
theorem zC4.zJ5 {F : Nat -> Prop} {w w9 : World} {X gB B n : Nat} {p : Rf.St} {hp : List Nat} {nh nt : Nat} {ve vp vi vb : Value} {gh gg : Nat} {vs vt v9 : Value} {sz gz : List Int} {ts ts9 : List Value} {o : Obj}
  (h : zC4 F w X gB B n p hp nh nt ve vp vi vb gh gg vs vt sz gz ts) (aa : w9.ownsRow 0 27 1 v9 (nt + 1) ts9) (hg : (w.alloc o).grownBy w9 vt.ownBlock) (ab : v9.ownBlock = vt.ownBlock \/ v9.ownBlock = some (w.alloc o).heap.size) :
  w9.cell? ⟨X, 5, none⟩ = some vt /\ w9.frozen? ⟨X, 5, none⟩ = false /\ Hid (zC4 (More F w) (w9.setCell ⟨X, 5, none⟩ v9) X gB B n p hp nh (nt + 1) ve vp vi vb gh gg vs v9 sz gz ts9 /\ Turned F w (w9.setCell ⟨X, 5, none⟩ v9)) := by
 have ht := zgl hg
 have hb : w9.heap[X]? = _ := (ht.block X h.lt h.types.2.2.2.1).trans h.box
 refine ⟨by simp [World.cell?, hb], by simp [World.frozen?, hb], zh (h.zK0 aa (fun k hk => ?_) ht)⟩
 rcases ab with e | e
 ·exact .inl (e ▸ hk)
 ·right
  rw [e] at hk
  simp only [Option.some.injEq, World.size_alloc] at hk
  omega
theorem zus {F : Nat -> Prop} {w : World} {X gB B n : Nat} {p : Rf.St} {hp : List Nat} {nh nt : Nat} (h : zF4 F w X gB B n p hp nh nt) (aB : nt <= 1000) (hn : n <= 1000)
  {v : Value} {L : List Nat} (hv : zbp F w v L) (hL : ∀ x ∈ L, x < n) (al : L.length <= 1000) :
  Calls prog 165 #[.pointer (some ⟨X, 0, none⟩), v] w (zlg F w X gB B n p hp nh nt) := by
 obtain ⟨ve, vp, vi, vb, gh, gg, vs, vt, sz, gz, ts, hA⟩ := h
 obtain ⟨i0, hi, am, an, aq⟩ := info_parts Tryz.zD6
 obtain ⟨ao, cap, g, off, rfl, ha, hc⟩ := hv
 obtain ⟨nL, ag⟩ := nm (L.length)
 rw [<- ag] at ha hc al ⊢
 have HV : Hid (∀ k, k < nL -> ao = some ⟨g, off, none⟩ /\ ¬ F g /\ g < w.heap.size /\ w.cell? ⟨g, off + k, none⟩ = some (.int .i64 ((L.getD k 0 : Nat) : Int)) /\ L.getD k 0 < n) := zh (fun k hk => by
  obtain ⟨a, b, c⟩ := ha (by omega)
  refine ⟨a, b, c, hc k hk, hL _ ?_⟩
  have au : k < L.length := by omega
  have e : L.getD k 0 = L[k] := by simp [List.getD, au]
  rw [e]; exact List.getElem_mem _)
 have c5 := hA.cells.2.2.2.2.2.1
 have ad := hA.took
 obtain ⟨at1, ct1, av⟩ := za1 ad
 subst av
 have HA := zh hA
 have aw := zh ad
 have f5 := zL5 hA 5
 clear hA ha hc ag ad
 go_enter func165, ntmps165
 go_wp2_with (at_builtin; (refine zbg rfl (.tmp 11) (.tmp 13) 36 rfl 0 27 i0 (.slice none 0 0) 1 24 underlying36 hi am an aq rfl (by decide) _ nt ts rfl (aw.out.alloc _) ⟨w.heap.size, 0, none⟩ 1 1 [.slice ao nL cap] rfl rfl (cell_one_new _ _ _) (zey _ _ _) (by unfold maxLen; omega) (by omega) (Nat.zero_le _) ?_); intro v9 w9 aa ab ac; (obtain ⟨a9, c9, ax⟩ := za1 aa); subst ax; (have ah : (w.alloc (.cells #[.slice ao nL cap] 27)).grownBy w9 (Value.slice at1 nt ct1).ownBlock := ab); have hh := HA.out.zJ5 aa ah; have ay := hh ac; obtain ⟨c59, f59, ae⟩ := ay; clear aa ab ac ah hh)
 obtain ⟨w1, ai⟩ := nm (w9.setCell ⟨X, 5, none⟩ (.slice a9 (nt + 1) c9))
 rw [<- ai] at ae ⊢
 clear ai c59 f59 c5 f5
 go_loopw [20] (fun i wr => ∃ (k : Nat) (gz2 : List Int), i = .int .i64 k /\ k <= nL /\ Hid (zC4 (More F w) wr X gB B n p hp nh (nt + 1) ve vp vi vb gh gg vs (.slice a9 (nt + 1) c9) sz gz2 (ts ++ [.slice ao nL cap]) /\ Turned F w wr)) (fun i _ => nL - (intOf i).toNat)
 case atStart => exact ⟨0, gz, rfl, Nat.zero_le _, ae⟩
 case round =>
  clear ae
  obtain ⟨k, gz2, rfl, hk, HP⟩ := hrel
  by_cases hlt : k < nL
  ·obtain ⟨rfl, hF, aj, d1, ak⟩ := HV.out k hlt
   have d2 : wr.cell? ⟨g, off + k, none⟩ = some (.int .i64 ((L.getD k 0 : Nat) : Int)) := by
    simp only [World.cell?] at d1 ⊢
    rw [HP.out.2.block g aj hF]; exact d1
   obtain ⟨x, hx⟩ := nm (L.getD k 0)
   rw [<- hx] at d2 ak
   have c6 := HP.out.1.cells.2.2.2.2.2.2
   have af := HP.out.1.gauge
   have aA : wr.cell? ⟨gg, x, none⟩ = some (.int .i64 (gz2.getD x 0)) := af.cell (by simp [ivs, List.getD, show x < gz2.length by rw [HP.out.1.gl]; exact ak])
   have aC := af.free x
   obtain ⟨y, hy⟩ := nm (gz2.getD x 0)
   rw [<- hy] at aA
   clear hx hy d1 hF aj af
   go_wp2_with fail
   go_roundw
   case rel => exact ⟨k + 1, _, by go_num, by omega, zh ⟨HP.out.1.zJd x _, HP.out.2.setCell (.inl HA.out.inG) _⟩⟩
   case measure => simp [intOf]; omega
  ·obtain rfl : k = nL := by omega
   go_wp2_with fail
   go_end0
   exact ⟨rfl, HP.out.2, _, _, _, _, _, _, _, _, _, _, _, HP.out.1⟩
def fst (p : Rf.St) (b : Nat) : Nat := (p.row b).getD 0 0
def hof (p : Rf.St) (hp : List Nat) (b : Nat) : Nat := hp.getD (fst p b) 0
def zFn (p : Rf.St) (hp : List Nat) (k : Nat) : List (Int × Int) := (List.range k).map fun b => (((hof p hp b : Nat) : Int), (b : Int))
theorem ztg (p : Rf.St) (hp : List Nat) (k : Nat) : zFn p hp (k + 1) = zFn p hp k ++ [(((hof p hp k : Nat) : Int), (k : Int))] := by simp [zFn, List.range_succ]
theorem zqg (p : Rf.St) (hp : List Nat) (k : Nat) : (zFn p hp k).length = k := by simp [zFn]
theorem zgc {p : Rf.St} {n b : Nat} (hI : Rf.Inv p n) (hb : b < p.blocks.length) : fst p b < n /\ p.I (fst p b) = b := by
 have bb := hI.b1 b hb
 have hl := Rf.zF1 hI hb
 have h0 : 0 < (p.row b).length := by omega
 have e : fst p b = (p.row b)[0] := by simp [fst, List.getD, h0]
 rw [e]
 exact (Rf.mem_row hI hb).1 (List.getElem_mem h0)
theorem zay {p : Rf.St} {hp : List Nat} {nh l : Nat} (hl : l < nh) (k : Nat) (y : Int) : y ∈ (Sg.bucket nh (zFn p hp k)).getD l [] ↔ ∃ b : Nat, y = (b : Int) /\ b < k /\ hof p hp b = l := by
 rw [Sg.zDy hl]
 simp only [zFn, List.mem_map, List.mem_range, Prod.mk.injEq]
 constructor
 ·rintro ⟨b, h1, h2, h3⟩; exact ⟨b, h3.symm, h1, by omega⟩
 ·rintro ⟨b, h1, h2, h3⟩; exact ⟨b, h2, by rw [h3], h1.symm⟩
theorem zv7 (p : Rf.St) (hp : List Nat) (nh k : Nat) {l : Nat} (hl : l < nh) : ((Sg.bucket nh (zFn p hp k)).getD l []).Nodup := by
 rw [Sg.zEi _ hl]
 have h1 : ((zFn p hp k).map Prod.snd).Nodup := by
  have e : (zFn p hp k).map Prod.snd = (List.range k).map Int.ofNat := by simp [zFn]
  rw [e]
  exact (List.nodup_range (n := k)).map (f := Int.ofNat) (fun a b h => fun e => h (Int.ofNat.inj e))
 exact List.Nodup.sublist ((List.filter_sublist).map _) h1
def zlx (w : World) (p : Rf.St) (hp : List Nat) (nh : Nat) (r : Ending) (w' : World) : Prop :=
 ∃ O vs, r = .returned (.slice (some ⟨O, 0, none⟩) nh nh) /\ Hid (zCs w w' O nh (zFn p hp p.blocks.length) vs)
theorem zvk {F : Nat -> Prop} {w : World} {X gB B n : Nat} {p : Rf.St} {hp : List Nat} {nh nt : Nat} (h : zF4 F w X gB B n p hp nh nt) (hI : Rf.Inv p n) (hn : n <= 1000) (hH : ∀ x, x < n -> hp.getD x 0 < nh) (aW : nh <= 1000) :
  Calls prog 167 #[.pointer (some ⟨X, 0, none⟩)] w (zlx w p hp nh) := by
 obtain ⟨ve, vp, vi, vb, gh, gg, vs0, vt, sz, gz, ts, hA⟩ := h
 obtain ⟨i0, hi, aI, aJ, aK⟩ := info_parts Tryz.zD6
 obtain ⟨j0, hj, gz0, gz1, gz2⟩ := info_parts Tryz.zCp
 obtain ⟨as1, cs1, aL⟩ := za1 hA.size
 subst aL
 have HC : Hid (∀ W, Up w W -> W.cell? ⟨X, 1, none⟩ = some (.pointer (some ⟨B, 0, none⟩)) /\ W.cell? ⟨X, 2, none⟩ = some (.slice (some ⟨gh, 0, none⟩) n n)) := zh (fun W hu => ⟨hu.cell hA.cells.2.1, hu.cell hA.cells.2.2.1⟩)
 have c1 := hA.cells.2.1
 have c3 := hA.cells.2.2.2.1
 obtain ⟨nb, ah⟩ := nm (p.blocks.length)
 have HB : Hid (Calls prog 201 #[.pointer (some ⟨B, 0, none⟩)] w fun e w' => e = .returned (.int .i64 (nb : Nat)) /\ w = w') := zh (by rw [ah]; exact zg0 hA.part)
 have aM : Hid (∀ W, Up w W -> Calls prog 201 #[.pointer (some ⟨B, 0, none⟩)] W fun e w' => e = .returned (.int .i64 (nb : Nat)) /\ W = w') := zh (fun W hu => by rw [ah]; exact zg0 (hA.part.below hu))
 have aN : nb <= 1000 := by rw [ah]; have := Rf.zDo hI; omega
 have aO : Hid (∀ W k, Up w W -> k < nb -> Calls prog 202 #[.pointer (some ⟨B, 0, none⟩), .int .i64 (k : Nat)] W fun r w' => r = .returned (.int .i64 (fst p k : Nat)) /\ Up W w') := zh (fun W k hu hk => zxt (hA.part.below hu) hI hn (by omega))
 have HX : Hid (∀ k, k < nb -> fst p k < n /\ w.cell? ⟨gh, fst p k, none⟩ = some (.int .i64 (hof p hp k : Nat)) /\ hof p hp k < nh) := zh (fun k hk => by
  have h1 := (zgc hI (by omega : k < p.blocks.length)).1
  refine ⟨h1, hA.heap.cell ?_, hH _ h1⟩
  rw [zai (by rw [hA.hl]; exact h1)]; rfl)
 have aP := zh ah
 clear hA hI hH ah
 go_enter func167, ntmps167
 go_wp2_with (first
  | (go_at_call 201; refine (aM.out _ aQ.out).mono ?_; rintro e w' ⟨rfl, rfl⟩)
  | (at_make; refine wpList_make_full _ rfl _ _ 36 rfl w.heap.size 27 i0 (.slice none 0 0) 1 underlying36 hi aI aJ _ _ _ _ nh rfl rfl rfl rfl (by rw [aK]; omega) (by unfold maxLen; omega) (Nat.le_refl _) ?_; intro w2 ai ae; (obtain ⟨af, -, -, -⟩ := Row.of ai); (have e : (madeCells (Value.slice none 0 0).cells (nh * 1)).toList = List.replicate nh (Value.slice none 0 0) := by rw [Nat.mul_one]; exact toList_madeCells_one _ _); rw [e, Nat.mul_one] at af; (have ac : Up w w2 := (Up.refl w).grown ae (fun k hk => by cases hk)); (have au := zh (zCs.start (Up.refl w) af ac)); (have cx1 := (HC.out w2 ac).1); (have aQ := zh ac); clear e af ae ac ai))
 obtain ⟨O, hO⟩ := nm (w.heap.size)
 rw [<- hO] at au ⊢
 clear hO cx1 c1 c3
 go_loopw [17] (fun i wr => ∃ (k : Nat) (vs : List Value), i = .int .i64 k /\ k <= nb /\ Hid (zCs w wr O nh (zFn p hp k) vs)) (fun i _ => nb - (intOf i).toNat)
 case atStart => exact ⟨0, _, rfl, Nat.zero_le _, au⟩
 case round =>
  clear au
  obtain ⟨k, vs, rfl, hk, HF⟩ := hrel
  by_cases hlt : k < nb
  ·obtain ⟨aR, aE, aj⟩ := HX.out k hlt
   obtain ⟨av, aw⟩ := HC.out wr HF.out.up
   have ad := HF.out.up.cell aE
   obtain ⟨x, hx⟩ := nm (fst p k)
   obtain ⟨l, hl⟩ := nm (hof p hp k)
   have aS : Hid (∀ W, Up wr W -> Calls prog 202 #[.pointer (some ⟨B, 0, none⟩), .int .i64 (k : Nat)] W fun r w' => r = .returned (.int .i64 (x : Nat)) /\ Up W w') := zh (fun W hu => by rw [hx]; exact aO.out W k (HF.out.up.trans hu) hlt)
   rw [<- hx, <- hl] at ad
   rw [<- hx] at aR
   rw [<- hl] at aj
   have ak := HF.out.own aj
   have ax := HF.out.cell aj
   have aF := HF.out.row.lt
   have aX := HF.out.row.free l
   obtain ⟨KL, ao⟩ := nm (((Sg.bucket nh (zFn p hp k)).getD l []).length)
   have aT : KL <= 1000 := by
    rw [ao]
    have h1 := Sg.zEy (zFn p hp k) aj
    rw [zqg] at h1
    omega
   obtain ⟨a4, c4, ay⟩ := za1 ak
   rw [<- ao] at ay ak
   obtain ⟨va, aA⟩ := nm (vs.getD l undef)
   rw [<- aA] at ay ak ax
   subst ay
   have aG := zh aA
   have aH := zh ak
   have aU := zh ao
   have HL := zh hl
   have aB := zh aj
   clear aA ak ao aE hx hl
   have q1 : (x : Int) < (n : Int) := by omega
   have q2 : (l : Int) < (nh : Int) := by omega
   go_upto_region 5 with fail
   refine za9 12 [(0, true), (1, true), (2, true), (3, true), (4, true), (5, true), (6, true), (7, true), (8, true), (9, false), (10, true), (11, true)] (fun y => y.cell? ⟨X, 1, none⟩ = some (.pointer (some ⟨B, 0, none⟩)) /\ y.cell? ⟨X, 2, none⟩ = some (.slice (some ⟨gh, 0, none⟩) n n) /\ y.cell? ⟨gh, x, none⟩ = some (.int .i64 (l : Nat))) (by kernel_rfl) (by kernel_rfl) (fun _ _ _ _ _ h => h) ⟨av, aw, ad⟩ ?_
   iterate 9
    refine WO.still rfl rfl (fun K hK => ?_)
    apply Exists.intro
    refine ⟨?_, hK _ ?_⟩
    ·intro w' hS
     have s1 : w'.cell? ⟨X, 1, none⟩ = some (.pointer (some ⟨B, 0, none⟩)) := hS.1
     have s2 : w'.cell? ⟨X, 2, none⟩ = some (.slice (some ⟨gh, 0, none⟩) n n) := hS.2.1
     go_simp
     first | done | rfl | exact ⟨rfl, rfl⟩
    clear hK K
   refine WO.act rfl rfl (fun K hK => ?_)
   go_simp
   go_at_call 202
   refine (aS.out _ (Up.refl _).drew).mono ?_
   rintro r w3 ⟨rfl, al⟩
   have ag : Up wr w3 := ((Up.refl wr).drew).trans al
   clear al
   refine hK _ _ ⟨ag.cell av, ag.cell aw, ag.cell ad⟩ ?_
   clear hK K
   iterate 2
    refine WO.still rfl rfl (fun K hK => ?_)
    apply Exists.intro
    refine ⟨?_, hK _ ?_⟩
    ·intro w' hS
     have s3 : w'.cell? ⟨gh, x, none⟩ = some (.int .i64 (l : Nat)) := hS.2.2
     go_simp
     first | done | rfl | exact ⟨rfl, rfl⟩
    clear hK K
   refine WO.last rfl rfl (fun K hK => ?_)
   go_simp
   refine hK _ _ ?_
   clear hK K
   have am := zh ag
   have aC := ag.cell ax
   clear ag av aw ad ax
   go_wp2_with (at_builtin; (refine zbg rfl (.tmp 37) (.tmp 39) 27 rfl (O + 1) 3 j0 (.int .i64 0) 1 8 underlying27 hj gz0 gz1 gz2 rfl (by decide) (.slice a4 KL c4) KL _ rfl (Up.owns (am.out.alloc _) aH.out) ⟨w3.heap.size, 0, none⟩ 1 1 [.int .i64 (k : Nat)] rfl rfl (cell_one_new _ _ _) (fun u hu => by simp only [List.mem_singleton] at hu; subst hu; rfl) (by unfold maxLen; omega) (by omega) (by have h1 := am.out.size; simp only [World.size_alloc]; omega) ?_); intro v9 w4 aa ab an; (obtain ⟨a5, c5, aV⟩ := za1 aa); subst aV; (have aq : (w3.alloc (.cells #[.int .i64 (k : Nat)] 3)).grownBy w4 (Value.slice a4 KL c4).ownBlock := ab); (have aD : (Value.slice a4 KL c4).ownBlock ≠ some O := fun e => by have := (aH.out.lt O e).1; omega); (have aY := zaw aq (((Up.refl w3).alloc _).cell aC) aD); (have aZ : w4.frozen? ⟨O, l, none⟩ = false := (HF.out.row.keep ((aq.block O (Nat.lt_of_lt_of_le aF ((am.out.alloc _).size)) (fun e => aD e.symm)).trans ((am.out.alloc _).block O aF))).free l); (have HP : Hid (zCs w (w4.setCell ⟨O, l, none⟩ (.slice a5 (KL + 1) c5)) O nh (zFn p hp k ++ [((l : Int), (k : Int))]) (vs.set l (.slice a5 (KL + 1) c5))) := zh (HF.out.push aB.out (am.out.alloc _) (by rw [<- aU.out]; exact aa) (by rw [<- aG.out]; exact aq) (by rw [<- aG.out]; exact an))); clear aa ab an aq aD)
   go_roundw
   case rel => exact ⟨k + 1, _, by go_num, by omega, zh (by rw [ztg, <- HL.out]; exact HP.out)⟩
   case measure => simp [intOf]; omega
  ·obtain rfl : k = nb := by omega
   go_wp2_with fail
   go_ret
   exact ⟨O, vs, rfl, by rw [<- aP.out]; exact HF⟩
def zv3 (w : World) (r : Ending) (w' : World) : Prop := ∃ z : Int, r = .returned (.int .i64 z) /\ Up w w'
theorem zs3 {w : World} {bx X B n a b : Nat} {p : Rf.St} {ve vp vi vb : Value} (hb : w.cell? ⟨bx, 0, none⟩ = some (.pointer (some ⟨X, 0, none⟩))) (hx : w.cell? ⟨X, 1, none⟩ = some (.pointer (some ⟨B, 0, none⟩)))
  (hp : zC7 w B ve vp vi vb p) (hI : Rf.Inv p n) (hn : n <= 1000) (ha : a < p.blocks.length) (ae : b < p.blocks.length) :
  Calls prog 169 #[.int .i64 (a : Nat), .int .i64 (b : Nat), .pointer (some ⟨bx, 0, none⟩)] w (zv3 w) := by
 have ad : ∀ W (c : Nat), Up w W -> c < p.blocks.length -> Calls prog 170 #[.pointer (some ⟨B, 0, none⟩), .int .i64 (c : Nat)] W fun r w' => ∃ k : Nat, r = .returned (.int .i64 (k : Nat)) /\ Up W w' := fun W c hu hc =>
  (zBd (hp.below hu) hI hn hc).mono (fun r w' h => ⟨_, h.1, h.2⟩)
 have ag : Hid (∀ W, Up w W -> Calls prog 170 #[.pointer (some ⟨B, 0, none⟩), .int .i64 (a : Nat)] W fun r w' => ∃ k : Nat, r = .returned (.int .i64 (k : Nat)) /\ Up W w') := zh (fun W hu => ad W a hu ha)
 have ah : Hid (∀ W, Up w W -> Calls prog 170 #[.pointer (some ⟨B, 0, none⟩), .int .i64 (b : Nat)] W fun r w' => ∃ k : Nat, r = .returned (.int .i64 (k : Nat)) /\ Up W w') := zh (fun W hu => ad W b hu ae)
 clear hp hI hn ha ae ad
 go_enter func169, ntmps169
 go_upto_region 1 with fail
 refine za9 13 [(0, true), (1, true), (2, true), (3, true), (4, true), (6, true), (7, true), (8, true), (9, true), (10, true), (5, false), (11, false), (12, true)] (fun y => y.cell? ⟨bx, 0, none⟩ = some (.pointer (some ⟨X, 0, none⟩)) /\ y.cell? ⟨X, 1, none⟩ = some (.pointer (some ⟨B, 0, none⟩))) (by kernel_rfl) (by kernel_rfl) (fun _ _ _ _ _ h => h) ⟨hb, hx⟩ ?_
 iterate 10
  refine WO.still rfl rfl (fun K hK => ?_)
  apply Exists.intro
  refine ⟨?_, hK _ ?_⟩
  ·intro w' hS
   have s1 : w'.cell? ⟨bx, 0, none⟩ = some (.pointer (some ⟨X, 0, none⟩)) := hS.1
   have s2 : w'.cell? ⟨X, 1, none⟩ = some (.pointer (some ⟨B, 0, none⟩)) := hS.2
   go_simp
   first | done | rfl | exact ⟨rfl, rfl⟩
  clear hK K
 refine WO.act rfl rfl (fun K hK => ?_)
 go_simp
 go_at_call 170
 refine (ag.out _ (Up.refl _).drew).mono ?_
 rintro r w3 ⟨ka, rfl, aa⟩
 have ab : Up w w3 := ((Up.refl w).drew).trans aa
 clear aa
 refine hK _ _ ⟨ab.cell hb, ab.cell hx⟩ ?_
 clear hK K
 refine WO.act rfl rfl (fun K hK => ?_)
 go_simp
 go_at_call 170
 refine (ah.out _ ab).mono ?_
 rintro r w4 ⟨kb, rfl, af⟩
 have ac : Up w w4 := ab.trans af
 clear af
 refine hK _ _ ⟨ac.cell hb, ac.cell hx⟩ ?_
 clear hK K
 refine WO.still rfl rfl (fun K hK => ?_)
 apply Exists.intro
 refine ⟨?_, hK _ ?_⟩
 ·intro w' hS
  go_simp
  first | done | rfl | exact ⟨rfl, rfl⟩
 clear hK K
 refine WO.last rfl rfl (fun K hK => ?_)
 go_simp
 refine hK _ _ ?_
 clear hK K
 have ai := zh ac
 clear ab ac hb hx
 go_wp2_with fail
 go_ret
 exact ⟨_, rfl, ai.out⟩
def zB2 (w : World) (L : List Int) (nb : Nat) (r : Ending) (w' : World) : Prop := ∃ b : Nat, r = .returned (.int .i64 (b : Nat)) /\ (b : Int) ∈ L /\ b < nb /\ Up w w'
theorem zAi {w : World} {bx X B n nb : Nat} {p : Rf.St} {ve vp vi vb v : Value} {L : List Int} (hb : w.cell? ⟨bx, 0, none⟩ = some (.pointer (some ⟨X, 0, none⟩))) (hx : w.cell? ⟨X, 1, none⟩ = some (.pointer (some ⟨B, 0, none⟩)))
  (hp : zC7 w B ve vp vi vb p) (hI : Rf.Inv p n) (hn : n <= 1000) (ag : p.blocks.length = nb) (hv : Lst w v L) (hL : ∀ y ∈ L, ∃ b : Nat, y = (b : Int) /\ b < nb) (h0 : 0 < L.length) (hl : L.length <= 1000) :
  Calls prog 168 #[v, .func (.func 169) #[] #[.pointer (some ⟨bx, 0, none⟩)]] w (zB2 w L nb) := by
 have HC : Hid (∀ W (a b : Nat), Up w W -> a < nb -> b < nb -> Calls prog 169 #[.int .i64 (a : Nat), .int .i64 (b : Nat), .pointer (some ⟨bx, 0, none⟩)] W (zv3 W)) := zh (fun W a b hu ha ai =>
  zs3 (hu.cell hb) (hu.cell hx) (hp.below hu) hI hn (by omega) (by omega))
 obtain ⟨ao, cap, g, off, rfl, ha, hc⟩ := hv
 obtain ⟨nL, ab⟩ := nm (L.length)
 rw [<- ab] at h0 hl ha ⊢
 have ah := ha h0
 subst ah
 have HV : Hid (∀ k, k < nL -> ∃ b : Nat, w.cell? ⟨g, off + k, none⟩ = some (.int .i64 (b : Nat)) /\ (b : Int) ∈ L /\ b < nb) := zh (fun k hk => by
  have ac : k < L.length := by omega
  have hm : L.getD k 0 ∈ L := by rw [<- zaa 0 ac]; exact List.getElem_mem _
  obtain ⟨b, h1, h2⟩ := hL _ hm
  exact ⟨b, by rw [hc k ac, h1], by rw [<- h1]; exact hm, h2⟩)
 clear hb hx hp hI hn ag hL ha hc ab
 obtain ⟨b0, d0, m0, n0⟩ := HV.out 0 h0
 rw [Nat.add_zero] at d0
 have q0 : decide ((nL : Int) < 1) = false := by simp; omega
 have q1 : (0 : Int) < (nL : Int) := by omega
 have ad := zh (And.intro m0 n0)
 clear m0 n0
 go_enter func168, ntmps168
 go_wp2_with fail
 go_loopw [5, 6] (fun m i wr => ∃ k b : Nat, i = .int .i64 k /\ k <= nL /\ m = .int .i64 (b : Nat) /\ Hid ((b : Int) ∈ L /\ b < nb) /\ Up w wr) (fun _ i _ => nL - (intOf i).toNat)
 case atStart => exact ⟨1, b0, rfl, by omega, rfl, ad, Up.refl w⟩
 case round =>
  clear ad d0
  obtain ⟨k, b, rfl, hk, rfl, HB, hU⟩ := hrel
  have HU := zh hU
  by_cases hlt : k < nL
  ·obtain ⟨c, dc, mc, nc⟩ := HV.out k hlt
   have dc2 := hU.cell dc
   have ae := zh (And.intro mc nc)
   clear dc mc nc hU
   have q2 : (k : Int) < (nL : Int) := by omega
   go_wp2_with (go_at_call 169; refine (HC.out _ _ _ HU.out ae.out.2 HB.out.2).mono ?_; rintro r w1 ⟨z, rfl, aa⟩; (have dc3 := aa.cell dc2); (have af := zh (HU.out.trans aa)); clear aa dc2)
   ·go_roundw
    case rel => exact ⟨k + 1, c, by go_num, by omega, rfl, ae, af.out⟩
    case measure => simp [intOf]; omega
   ·go_roundw
    case rel => exact ⟨k + 1, b, by go_num, by omega, rfl, HB, af.out⟩
    case measure => simp [intOf]; omega
  ·obtain rfl : k = nL := by omega
   clear hU
   go_wp2_with fail
   go_ret
   exact ⟨b, rfl, HB.out.1, HB.out.2, HU.out⟩
theorem zx0 {l : List Int} (h : l.Nodup) (h2 : 2 <= l.length) (b : Int) : ∃ y ∈ l, y ≠ b := by
 match l, h, h2 with
 | x :: y :: t, h, _ =>
  by_cases e : x = b
  ·refine ⟨y, by simp, fun e2 => ?_⟩
   have := (List.nodup_cons.1 h).1
   rw [e, <- e2] at this
   simp at this
  ·exact ⟨x, by simp, e⟩
def zxa (w : World) (p : Rf.St) (hp : List Nat) (nh : Nat) (r : Ending) (w' : World) : Prop :=
 Up w w' /\ ((r = .returned (.slice none 0 0) /\ ∀ b c, b < p.blocks.length -> c < p.blocks.length -> hof p hp b = hof p hp c -> b = c) \/
  ∃ b g cap, b < p.blocks.length /\ (∃ c, c < p.blocks.length /\ c ≠ b /\ hof p hp c = hof p hp b) /\ r = .returned (.slice (some ⟨g, 0, none⟩) (p.mem b).length cap) /\ w'.ownsRow w.heap.size 3 1 (.slice (some ⟨g, 0, none⟩) (p.mem b).length cap) (p.mem b).length (ivs (p.mem b)))
theorem zoi {F : Nat -> Prop} {w : World} {X gB B n : Nat} {p : Rf.St} {hp : List Nat} {nh nt : Nat} (h : zF4 F w X gB B n p hp nh nt) (hI : Rf.Inv p n) (hn : n <= 1000) (hH : ∀ x, x < n -> hp.getD x 0 < nh) (aD : nh <= 1000) :
  Calls prog 135 #[.pointer (some ⟨X, 0, none⟩)] w (zxa w p hp nh) := by
 have ao : ∀ W, Up w W -> Calls prog 167 #[.pointer (some ⟨X, 0, none⟩)] W (zlx W p hp nh) := fun W hu => zvk (h.up hu) hI hn hH aD
 obtain ⟨ve, vp, vi, vb, gh, gg, vs0, vt, sz, gz, ts, hA⟩ := h
 obtain ⟨nb, ak⟩ := nm (p.blocks.length)
 have aE : nb <= 1000 := by rw [ak]; have := Rf.zDo hI; omega
 have aF := zh ao
 have HA := zh hA
 have HI := zh hI
 have HH := zh hH
 have af := zh ak
 clear hA hI hH ao ak
 have aq := heap_alloc_new w (.cells #[.pointer (some ⟨X, 0, none⟩)] 217)
 have au := zh aq
 have av : Hid (Up w (w.alloc (.cells #[.pointer (some ⟨X, 0, none⟩)] 217))) := zh ((Up.refl w).alloc _)
 clear aq
 go_enter func135, ntmps135
 go_wp2_with (go_at_call 167; refine (aF.out _ av.out).mono ?_; rintro r w2 ⟨O, vs, rfl, HF⟩)
 obtain ⟨bx, al⟩ := nm (w.heap.size)
 have aG : Hid (w2.heap[bx]? = some (.cells #[.pointer (some ⟨X, 0, none⟩)] 217 (0, 0))) := zh (by rw [al]; exact (HF.out.up.block _ (za0 au.out)).trans au.out)
 have ad := zh (av.out.trans HF.out.up)
 have aH : Hid (w.heap.size <= w2.heap.size) := zh ad.out.size
 rw [<- al]
 clear al
 go_loopw [11] (fun i wr => ∃ k : Nat, i = .int .i64 k /\ k <= nh /\ Hid (Up w2 wr /\ ∀ l, l < k -> ((Sg.bucket nh (zFn p hp p.blocks.length)).getD l []).length < 2)) (fun i _ => nh - (intOf i).toNat)
 case atStart => exact ⟨0, rfl, Nat.zero_le _, zh ⟨Up.refl _, fun l hl => by omega⟩⟩
 case round =>
  obtain ⟨k, rfl, hk, HR⟩ := hrel
  by_cases hlt : k < nh
  ·have aI := HR.out.1.cell (HF.out.cell hlt)
   have ae := HR.out.1.owns (HF.out.own hlt)
   obtain ⟨row, aa⟩ := nm ((Sg.bucket nh (zFn p hp p.blocks.length)).getD k [])
   rw [<- aa] at ae
   obtain ⟨KL, ai⟩ := nm (row.length)
   obtain ⟨va, aw⟩ := nm (vs.getD k undef)
   rw [<- aw] at ae aI
   have aJ : KL <= 1000 := by
    rw [ai, aa]
    have h1 := Sg.zEy (zFn p hp p.blocks.length) hlt
    rw [zqg] at h1
    have := af.out
    omega
   rw [<- ai] at ae
   obtain ⟨a4, c4, aK⟩ := za1 ae
   subst aK
   have ab := zh aa
   have ag := zh ai
   have aL := zh ae
   clear ae aw aa ai
   by_cases h2 : KL < 2
   ·have q1 : decide ((KL : Int) < 2) = true := by simp; omega
    have aM : Hid (Up w2 wr /\ ∀ l, l < k + 1 -> ((Sg.bucket nh (zFn p hp p.blocks.length)).getD l []).length < 2) := zh ⟨HR.out.1, fun l hl => by
     by_cases e : l = k
     ·subst e; rw [<- ab.out, <- ag.out]; exact h2
     ·exact HR.out.2 l (by omega)⟩
    go_wp2_with fail
    go_roundw
    case rel => exact ⟨k + 1, by go_num, by omega, aM⟩
    case measure => simp [intOf]; omega
   ·have q1 : decide ((KL : Int) < 2) = false := by simp; omega
    have ac : wr.cell? ⟨bx, 0, none⟩ = some (.pointer (some ⟨X, 0, none⟩)) := HR.out.1.cell (by simp [World.cell?, aG.out])
    have am : wr.cell? ⟨X, 1, none⟩ = some (.pointer (some ⟨B, 0, none⟩)) := (ad.out.trans HR.out.1).cell HA.out.cells.2.1
    have aN : Hid (Calls prog 168 #[.slice a4 KL c4, .func (.func 169) #[] #[.pointer (some ⟨bx, 0, none⟩)]] wr (zB2 wr row nb)) := zh (by
     refine zAi ac am (HA.out.part.below (ad.out.trans HR.out.1)) HI.out hn af.out.symm ?_ (fun y hy => ?_) (by rw [<- ag.out]; omega) (by rw [<- ag.out]; omega)
     ·have := aL.out
      have e := ag.out
      subst e
      exact zcy this
     ·rw [ab.out] at hy
      obtain ⟨b, h3, h4, -⟩ := (zay hlt _ _).1 hy
      exact ⟨b, h3, by rw [af.out]; exact h4⟩)
    have aO : Hid (∀ W (b : Nat), Up wr W -> b < nb -> Calls prog 171 #[.pointer (some ⟨B, 0, none⟩), .int .i64 (b : Nat)] W (zil W p b)) := zh (fun W b hu hb => znz (HA.out.part.below ((ad.out.trans HR.out.1).trans hu)) HI.out hn (by rw [<- af.out]; exact hb))
    go_wp2_with (first
     | (go_at_call 168; refine aN.out.mono ?_; rintro r w5 ⟨b, rfl, ah, ax, aj⟩; (have aP := aj.cell ac); (have aV := aj.cell am); (have an := zh aj); (have ay := zh ax); (have aQ := zh ah); clear aj ah ac am ax)
     | (go_at_call 171; refine (aO.out _ _ an.out ay.out).mono ?_; rintro r w6 ⟨g6, c6, rfl, aA, aB⟩; (have aR := zh aA); (have aS := zh aB); clear aA aB))
    go_ret
    have aW := HR.out.1.size
    have aX := an.out.size
    have aY := aH.out
    exact ⟨((ad.out.trans HR.out.1).trans an.out).trans aS.out, .inr ⟨b, g6, c6, by rw [<- af.out]; exact ay.out, (by
     have ah := aQ.out
     have aC : 2 <= row.length := by rw [<- ag.out]; omega
     rw [ab.out] at ah aC
     obtain ⟨y, hy, aT⟩ := zx0 (zv7 p hp nh p.blocks.length hlt) aC (b : Int)
     obtain ⟨b', e1, -, e3⟩ := (zay hlt _ _).1 ah
     obtain ⟨c', f1, f2, f3⟩ := (zay hlt _ _).1 hy
     have eb : b' = b := by omega
     subst eb
     exact ⟨c', f2, fun e => aT (by rw [f1, e]), by rw [f3, e3]⟩), rfl, za8 aR.out (by omega)⟩⟩
  ·obtain rfl : k = nh := by omega
   go_wp2_with fail
   go_ret
   refine ⟨ad.out.trans HR.out.1, .inl ⟨rfl, fun b c hb hc he => ?_⟩⟩
   have hl : hof p hp b < k := HH.out _ (zgc HI.out hb).1
   have h2 := HR.out.2 _ hl
   have mb := (zay (p := p) (hp := hp) hl p.blocks.length (b : Int)).2 ⟨b, rfl, hb, rfl⟩
   have mc := (zay (p := p) (hp := hp) hl p.blocks.length (c : Int)).2 ⟨c, rfl, hc, he.symm⟩
   obtain ⟨rw1, aU⟩ := nm ((Sg.bucket k (zFn p hp p.blocks.length)).getD (hof p hp b) [])
   rw [<- aU] at h2 mb mc
   match rw1, h2, mb, mc with
   | [], _, mb, _ => cases mb
   | [y], _, mb, mc =>
    have e1 := List.mem_singleton.1 mb
    have e2 := List.mem_singleton.1 mc
    omega
   | _ :: _ :: _, h2, _, _ => simp only [List.length_cons] at h2; omega
end Go.Proofs.YtoaoajfjcfcmhaaGreatDoor
