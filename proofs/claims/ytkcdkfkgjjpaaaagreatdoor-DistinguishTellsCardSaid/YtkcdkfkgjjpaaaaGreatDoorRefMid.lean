/- Walks: Split. Walks: Split that parts a block. Printed by mksplit.py. Walks: Split that parts a block. Printed by mksplit.py. Split, by its contract; Block, Size, Blocks by theirs. Walks: alive; the code of a fault. What stands in a class of worlds; the lexical walk of a quiet region, shut; Block by its contract. -/
import Derived.Test.YtkcdkfkgjjpaaaaGreatDoorRefOb
import Derived.Test.YtkcdkfkgjjpaaaaGreatDoorErrAs
import Derived.BigRegion
import Derived.BigQuiet
import Derived.Deep.QuietTactic
import Derived.Test.YtkcdkfkgjjpaaaaGreatDoorRefW7
import Derived.Deep.RegionWith
import Derived.Deep.DeepCutAuto
import Derived.StillTailTactics
import Derived.Maps.AppendAt
import Derived.Deep.RegionLaw
import Derived.Test.YtkcdkfkgjjpaaaaGreatDoorErrIs
import Derived.LaidEql
import Derived.Deep.Quiet

namespace Go.Proofs.YtkcdkfkgjjpaaaaGreatDoor
open Go.RowKit
set_option linter.unusedVariables false
set_option linter.unusedSimpArgs false

/-- A split that parts nothing. -/
def SplitFlat (w : World) (gb b : Nat) (r : Ending) (w' : World) : Prop :=
  r = .returned (.tuple #[.int .i64 0, .bool false, .nilIface]) ∧ ∃ q, ((w.alloc (.cells #[.pointer none] 103)).drewN q).setCell ⟨gb, b * 3 + 2, none⟩ (.int .i64 0) = w'

set_option maxHeartbeats 4000000 in
set_option maxRecDepth 100000 in
theorem split_flat (B b n nb ge ce gp cp gi ci gb cb f t m : Nat) (s : Rf.St) (w : World) (h : Ob w B s n ge ce gp cp gi ci gb cb) (hb : b < nb) (hnb : nb = s.blocks.length) (hf : f = s.F b) (ht : t = s.T b) (hm : m = s.M b)
    (hft : f < t) (htn : t ≤ n) (hfm : f + m ≤ t) (hn : n ≤ 1000) (hz : m = 0 ∨ t - f - m = 0) :
    Calls Tryz.prog 224 #[.pointer (some ⟨B, 0, none⟩), .int .i64 b] w (SplitFlat w gb b) := by
  have h' := h.alloc (.cells #[.pointer none] 103)
  have hbl : b < s.blocks.length := by omega
  have C3 := h.c3
  have c3 := h'.c3
  have cf := h'.o.rb.cell (cellsB_get0 s.blocks b hbl)
  have ct := h'.o.rb.cell (cellsB_get1 s.blocks b hbl)
  have cm := h'.o.rb.cell (cellsB_get2 s.blocks b hbl)
  have fm := h'.o.rb.free (b * 3 + 2)
  change _ = some (Value.int .i64 (s.F b : Nat)) at cf
  change _ = some (Value.int .i64 (s.T b : Nat)) at ct
  change _ = some (Value.int .i64 (s.M b : Nat)) at cm
  rw [← hf] at cf
  rw [← ht] at ct
  rw [← hm] at cm
  rw [← hnb] at c3 C3
  clear hf ht hm hnb hbl h h'
  have s1 : IntKind.i64.wrap ((t : Int) - (f : Int)) = (t : Int) - (f : Int) := IntWalk.i64_in _ (by omega)
  have s2 : IntKind.i64.wrap ((t : Int) - (f : Int) - (m : Int)) = (t : Int) - (f : Int) - (m : Int) := IntWalk.i64_in _ (by omega)
  have hfault : w.heap.size ≤ w.heap.size := Nat.le_refl _
  by_cases hm0 : m = 0
  · subst hm0
    go_enter Tryz.func224, Tryz.ntmps224
    go_wp2_with (first
      | (go_at_call 225; refine (blocks_some _ _ _ _ _ C3).mono ?_; rintro e w' ⟨rfl, rfl⟩)
      | (go_at_call 228; refine (asked_in _ _ _ _ (by omega) (by omega)).mono ?_; rintro e w' ⟨rfl, rfl⟩)
      | (go_at_call 47; refine (as_nil _ _).mono ?_; rintro e w' ⟨rfl, rfl⟩))
    go_quiet (fail)
    go_wp2_with fail
    go_ret3
    exact ⟨rfl, _, rfl⟩
  · have hm1 : ((m : Int) == 0) = false := by simp; omega
    have hm2 : ((t : Int) - (f : Int) - (m : Int) == 0) = true := by simp; omega
    go_enter Tryz.func224, Tryz.ntmps224
    go_wp2_with (first
      | (go_at_call 225; refine (blocks_some _ _ _ _ _ C3).mono ?_; rintro e w' ⟨rfl, rfl⟩)
      | (go_at_call 228; refine (asked_in _ _ _ _ (by omega) (by omega)).mono ?_; rintro e w' ⟨rfl, rfl⟩)
      | (go_at_call 47; refine (as_nil _ _).mono ?_; rintro e w' ⟨rfl, rfl⟩))
    go_quiet (fail)
    go_wp2_with fail
    go_ret3
    exact ⟨rfl, _, rfl⟩

end Go.Proofs.YtkcdkfkgjjpaaaaGreatDoor

namespace Go.Proofs.YtkcdkfkgjjpaaaaGreatDoor
open Go.RowKit
set_option linter.unusedVariables false
set_option linter.unusedSimpArgs false

/-- What a split that parts a block leaves. -/
def SplitYes (w : World) (B n nb ge ce gp cp gi ci gb : Nat) (s2 : Rf.St) (r : Ending) (w' : World) : Prop :=
  r = .returned (.tuple #[.int .i64 (nb : Nat), .bool true, .nilIface]) ∧ ∃ gb' cb', Ob w' B s2 n ge ce gp cp gi ci gb' cb' ∧ (gb' = gb ∨ w.heap.size ≤ gb') ∧ Turned (fun k => k = B ∨ k = gi ∨ k = gb) w w'

theorem cells_newB (w : World) (x y : Nat) (t : TypeId) : ∀ j u, (cellsB [(x, y, 0)])[j]? = some u → (w.alloc (.cells #[.int .i64 (x : Nat), .int .i64 (y : Nat), .int .i64 0] t)).cell? ((⟨w.heap.size, 0, none⟩ : Addr).add j) = some u := by
  intro j u hj
  match j, hj with
  | 0, hj => simp [cellsB] at hj; subst hj; simp [Addr.add]
  | 1, hj => simp [cellsB] at hj; subst hj; simp [Addr.add]
  | 2, hj => simp [cellsB] at hj; subst hj; simp [Addr.add]
  | j + 3, hj => simp [cellsB] at hj

/-- append ONTO A SLICE THAT THE CALL OWNS, as one step of a region that draws its order. -/
theorem step_append_own {P : Program} {ops : Array Oper} {o : Oper} {a : Act} {w : World} {K : Act → World → Prop} {Q : Exit → Act → World → Prop} {E : Prop}
    (hg : o.guard = none) (s x : Operand) (t : TypeId) (hop : o.op = Op.call { callee := Callee.builtin Builtin.append, args := #[s, x], argTypes := #[t, t] })
    (base : Nat) (e : TypeId) (i : TypeInfo) (z : Value) (size bytes : Nat) (ht : P.underlying t = some (.slice e)) (hi : P.info? e = some i) (hz : i.zero = some z)
    (hsize : i.size = size) (hby : i.bytes = bytes) (hzs : z.cells.size = size) (hsz : 0 < size)
    (v : Value) (n : Nat) (xs : List Value) (hs : a.eval s = v) (hown : w.ownsRow base e size v n xs)
    (ad : Addr) (m c : Nat) (news : List Value) (hx : a.eval x = .slice (some ad) m c) (hl : news.length = m * size) (hnews : ∀ j u, news[j]? = some u → w.cell? (ad.add j) = some u) (h1 : ∀ u ∈ news, u.oneCell' = true)
    (h63 : n + m ≤ maxLen) (hbytes : (n + m) * bytes ≤ 140737488355328) (hbase : base ≤ w.heap.size)
    (hK : ∀ v' w', w'.ownsRow base e size v' (n + m) (xs ++ news) → w.grownBy w' v.ownBlock → (v'.ownBlock = v.ownBlock ∨ v'.ownBlock = some w.heap.size) → K (a.put o.dst v') w') :
    if Region.wanted o (yielded ops a.tmps) = true then Oper.wp P o a w K Q else E := by
  have hw : Region.wanted o (yielded ops a.tmps) = true := by simp [Region.wanted, hg]
  rw [if_pos hw]
  obtain ⟨v', w', hr, h2, h3, h4, h5⟩ := run_append_own_at (P := P) w base t o.type e i z size bytes ht hi hz hsize hby hzs hsz v n xs hown ad m c news hl hnews h1 h63 hbytes hbase
  unfold Oper.wp execOp
  simp only [hop, resolve, invoke, builtin, Sem.run_bind, Sem.run_pure, Result.andThen_ok, List.map_toArray, List.map_cons, List.map_nil, hs, hx, hr]
  exact hK v' w' h2 h3 h5

/-- What the statement that appends a block leaves. -/
def Pushed (w : World) (B n nb ge ce gp cp gi ci gb : Nat) (s7 : Rf.St) (w7 : World) : Prop :=
  ∃ gb' c6, Ob w7 B s7 n ge ce gp cp gi ci gb' c6 ∧ (gb' = gb ∨ w.heap.size ≤ gb') ∧ Turned (fun k => k = B ∨ k = gi ∨ k = gb) w w7

theorem take_row (l : List Nat) (lo hi k : Nat) (hk : lo + k < hi) (hh : hi ≤ l.length) : ((l.take hi).drop lo).take (k + 1) = ((l.take hi).drop lo).take k ++ [l.getD (lo + k) 0] := by
  have h1 : k < ((l.take hi).drop lo).length := by simp; omega
  rw [List.take_succ_eq_append_getElem h1]
  congr 1
  simp
  rw [List.getElem?_eq_getElem (by omega)]
  rfl

theorem setAll_snoc (l es : List Nat) (e v : Nat) : Rf.setAll l (es ++ [e]) v = (Rf.setAll l es v).set e v := by simp [Rf.setAll]

theorem setAll_len (l es : List Nat) (v : Nat) : (Rf.setAll l es v).length = l.length := by
  induction es generalizing l with
  | nil => rfl
  | cons e es ih => show (Rf.setAll (l.set e v) es v).length = _; rw [ih]; simp

theorem appOne (l : List (Nat × Nat × Nat)) (x : Nat × Nat × Nat) : (l ++ [x]).getD l.length (0, 0, 0) = x := by simp [List.getD]

set_option maxHeartbeats 8000000 in
set_option maxRecDepth 100000 in
theorem split_small (B b n nb ge ce gp cp gi ci gb cb f t m : Nat) (s : Rf.St) (w : World) (h : Ob w B s n ge ce gp cp gi ci gb cb) (hb : b < nb) (hnb : nb = s.blocks.length) (hf : f = s.F b) (ht : t = s.T b) (hm : m = s.M b)
    (hft : f < t) (htn : t ≤ n) (hfm : f + m < t) (hn : n ≤ 1000) (hnbm : nb ≤ 1000) (hm0 : 0 < m) (hmo : m ≤ t - f - m) (hel : s.elems.length = n) (hil : s.inn.length = n) (hen : ∀ i, i < n → s.E i < n) :
    Calls Tryz.prog 224 #[.pointer (some ⟨B, 0, none⟩), .int .i64 b] w (SplitYes w B n nb ge ce gp cp gi ci gb (s.cut b f (f + m) (f + m) t)) := by
  obtain ⟨i0, hi, hz0, hz1, hz2⟩ := info_parts Tryz.blockInfo
  have h' := h.alloc (.cells #[.pointer none] 103)
  have hbl : b < s.blocks.length := by omega
  have C3 := h.c3
  have c3 := h'.c3
  have cf := h'.o.rb.cell (cellsB_get0 s.blocks b hbl)
  have ct := h'.o.rb.cell (cellsB_get1 s.blocks b hbl)
  have cm := h'.o.rb.cell (cellsB_get2 s.blocks b hbl)
  change _ = some (Value.int .i64 (s.F b : Nat)) at cf
  change _ = some (Value.int .i64 (s.T b : Nat)) at ct
  change _ = some (Value.int .i64 (s.M b : Nat)) at cm
  rw [← hf] at cf
  rw [← ht] at ct
  rw [← hm] at cm
  rw [← hnb] at c3 C3
  have HF := Lib.hid hf
  have HT := Lib.hid ht
  have HM := Lib.hid hm
  have HNB := Lib.hid hnb
  have HB := Lib.hid hbl
  have HEL := Lib.hid hel
  have HIL := Lib.hid hil
  have HEN := Lib.hid hen
  clear hf ht hm hnb hbl hel hil hen
  have s1 : IntKind.i64.wrap ((t : Int) - (f : Int)) = (t : Int) - (f : Int) := IntWalk.i64_in _ (by omega)
  have s2 : IntKind.i64.wrap ((t : Int) - (f : Int) - (m : Int)) = (t : Int) - (f : Int) - (m : Int) := IntWalk.i64_in _ (by omega)
  have s3 : IntKind.i64.wrap ((f : Int) + (m : Int)) = (f : Int) + (m : Int) := IntWalk.i64_in _ (by omega)
  have hm1 : ((m : Int) == 0) = false := by simp; omega
  have hm2 : ((t : Int) - (f : Int) - (m : Int) == 0) = false := by simp; omega
  have hm3 : (m : Int) ≤ (t : Int) - (f : Int) - (m : Int) := by omega
  go_enter Tryz.func224, Tryz.ntmps224
  go_wp2_with (first
    | (go_at_call 225; refine (blocks_some _ _ _ _ _ C3).mono ?_; rintro e w' ⟨rfl, rfl⟩)
    | (go_at_call 228; refine (asked_in _ _ _ _ (by omega) (by omega)).mono ?_; rintro e w' ⟨rfl, rfl⟩)
    | (go_at_call 47; refine (as_nil _ _).mono ?_; rintro e w' ⟨rfl, rfl⟩))
  go_quiet (fail)
  obtain ⟨w1, hw1⟩ : ∃ w1, ((w.alloc (.cells #[.pointer none] 103)).drewN nq) = w1 := ⟨_, rfl⟩
  have h1 : Ob w1 B s n ge ce gp cp gi ci gb cb := by rw [← hw1]; exact h'.drewN nq
  have T1 : Turned (fun k => k = B ∨ k = gi ∨ k = gb) w w1 := by rw [← hw1]; exact ((Turned.refl _ _).alloc _).drewN _
  rw [hw1]
  clear hw1 c3 cf ct cm h' C3 h
  have cm := h1.o.rb.cell (cellsB_get2 s.blocks b HB.out)
  have fm := h1.o.rb.free (b * 3 + 2)
  change _ = some (Value.int .i64 (s.M b : Nat)) at cm
  rw [← HM.out] at cm
  go_upto_region 8 with fail
  have h2 := h1.setB (b * 3 + 2) (.int .i64 0) _ (cellsB_set2 s.blocks b 0 HB.out) (by simp)
  have T2 := T1.setCell (p := ⟨gb, b * 3 + 2, none⟩) (.inl (.inr (.inr rfl))) (.int .i64 0)
  obtain ⟨w2, hw2⟩ : ∃ w2, w1.setCell ⟨gb, b * 3 + 2, none⟩ (.int .i64 0) = w2 := ⟨_, rfl⟩
  rw [hw2] at h2 T2 ⊢
  have hfb : (s.blocks.getD b (0, 0, 0)).1 = f := HF.out.symm
  have htb : (s.blocks.getD b (0, 0, 0)).2.1 = t := HT.out.symm
  rw [hfb, htb] at h2
  clear hfb htb hw2 cm fm h1 T1
  have bl2 : b < (s.blocks.set b (f, t, 0)).length := by rw [List.length_set]; exact HB.out
  have gb2 : (s.blocks.set b (f, t, 0)).getD b (0, 0, 0) = (f, t, 0) := by simp [List.getD, HB.out]
  have cf : w2.cell? ⟨gb, b * 3, none⟩ = some (.int .i64 (f : Nat)) := by
    have := h2.o.rb.cell (cellsB_get0 _ b bl2)
    rw [show (({ s with blocks := s.blocks.set b (f, t, 0) } : Rf.St).blocks.getD b (0, 0, 0)) = (f, t, 0) from gb2] at this; exact this
  go_upto_region 12 with fail
  have h3 := h2.alloc (.cells #[.int .i64 (f : Int), .int .i64 ((f : Int) + (m : Int)), .int .i64 0] 320)
  have T3 := T2.alloc (.cells #[.int .i64 (f : Int), .int .i64 ((f : Int) + (m : Int)), .int .i64 0] 320)
  have hnew := heap_alloc_new w2 (.cells #[.int .i64 (f : Int), .int .i64 ((f : Int) + (m : Int)), .int .i64 0] 320)
  have hN := h2.lt (k := gb) (.inr (.inr (.inr (.inr rfl))))
  obtain ⟨N, hNe⟩ : ∃ N, N = w2.heap.size := ⟨_, rfl⟩
  rw [← hNe] at hnew hN ⊢
  have T2s := T2.size
  rw [← hNe] at T2s
  obtain ⟨w3, hw3⟩ : ∃ w3, w2.alloc (.cells #[.int .i64 (f : Int), .int .i64 ((f : Int) + (m : Int)), .int .i64 0] 320) = w3 := ⟨_, rfl⟩
  rw [hw3] at h3 T3 hnew ⊢
  have nBN : B ≠ N := by have := h2.lt (k := B) (.inl rfl); omega
  have hNn : ∀ k, (k = B ∨ k = ge ∨ k = gp ∨ k = gi ∨ k = gb) → k ≠ N := by intro k hk; have := h2.lt hk; omega
  clear hw3 cf h2 T2 hNe
  have gN0 : w3.cell? ⟨N, 0, none⟩ = some (.int .i64 (f : Int)) := by simp [World.cell?, hnew]
  have gN1 : w3.cell? ⟨N, 1, none⟩ = some (.int .i64 ((f : Int) + (m : Int))) := by simp [World.cell?, hnew]
  have gN2 : w3.cell? ⟨N, 2, none⟩ = some (.int .i64 0) := by simp [World.cell?, hnew]
  have gF0 : w3.frozen? ⟨N, 0, none⟩ = false := by simp [World.frozen?, hnew]
  have gF1 : w3.frozen? ⟨N, 1, none⟩ = false := by simp [World.frozen?, hnew]
  have gF2 : w3.frozen? ⟨N, 2, none⟩ = false := by simp [World.frozen?, hnew]
  have cf : w3.cell? ⟨gb, b * 3, none⟩ = some (.int .i64 (f : Nat)) := by
    have := h3.o.rb.cell (cellsB_get0 _ b bl2)
    rw [show (({ s with blocks := s.blocks.set b (f, t, 0) } : Rf.St).blocks.getD b (0, 0, 0)) = (f, t, 0) from gb2] at this; exact this
  have ct : w3.cell? ⟨gb, b * 3 + 1, none⟩ = some (.int .i64 (t : Nat)) := by
    have := h3.o.rb.cell (cellsB_get1 _ b bl2)
    rw [show (({ s with blocks := s.blocks.set b (f, t, 0) } : Rf.St).blocks.getD b (0, 0, 0)) = (f, t, 0) from gb2] at this; exact this
  have ff := h3.o.rb.free (b * 3)
  have ft := h3.o.rb.free (b * 3 + 1)
  go_upto_region 16 with fail
  have h4 := h3.setB (b * 3) (.int .i64 ((f + m : Nat) : Int)) _ (cellsB_set0 _ b (f + m) bl2) (by simp)
  have T4 := T3.setCell (p := ⟨gb, b * 3, none⟩) (.inl (.inr (.inr rfl))) (.int .i64 ((f + m : Nat) : Int))
  rw [show (({ s with blocks := s.blocks.set b (f, t, 0) } : Rf.St).blocks.getD b (0, 0, 0)) = (f, t, 0) from gb2] at h4
  have hd0 : (w3.setCell ⟨gb, b * 3, none⟩ (.int .i64 ((f + m : Nat) : Int))).heap[N]? = some (.cells #[.int .i64 (f : Int), .int .i64 ((f : Int) + (m : Int)), .int .i64 0] 320 (0, 0)) := (Below.heap_setCell _ _ _ _ (by simp; omega)).trans hnew
  obtain ⟨w4, hw4⟩ : ∃ w4, w3.setCell ⟨gb, b * 3, none⟩ (.int .i64 ((f + m : Nat) : Int)) = w4 := ⟨_, rfl⟩
  rw [hw4] at h4 T4 hd0
  have hw4' : w3.setCell ⟨gb, b * 3, none⟩ (.int .i64 ((f : Int) + (m : Int))) = w4 := hw4
  rw [hw4']
  clear hw4 hw4'
  have hbs : (({ s with blocks := s.blocks.set b (f, t, 0) } : Rf.St).blocks.set b (f + m, (f, t, 0).2.1, (f, t, 0).2.2)) = s.blocks.set b (f + m, t, 0) := by simp
  rw [hbs] at h4
  obtain ⟨bs, hbse⟩ : ∃ bs, bs = s.blocks.set b (f + m, t, 0) := ⟨_, rfl⟩
  obtain ⟨lo, hlo⟩ : ∃ lo, lo = f := ⟨_, rfl⟩
  obtain ⟨hi', hhi⟩ : ∃ hi', hi' = f + m := ⟨_, rfl⟩
  have hd : w4.heap[N]? = some (.cells #[.int .i64 (lo : Nat), .int .i64 (hi' : Nat), .int .i64 0] 320 (0, 0)) := by rw [hlo, hhi]; exact hd0
  have hlt : lo < hi' := by omega
  have hhn : hi' ≤ n := by omega
  have HC : Hid (s.cut b f (f + m) (f + m) t = { s with blocks := bs ++ [(lo, hi', 0)], inn := Rf.setAll s.inn ((s.elems.take hi').drop lo) nb }) := by
    rw [hbse, hlo, hhi, HNB.out]; rfl
  have hbsl : bs.length = nb := by rw [hbse, List.length_set]; exact HNB.out.symm
  rw [← hbse] at h4
  clear h3 T3 hnew gN0 gN1 gN2 gF0 gF1 gF2 cf ct ff ft hbs bl2 gb2 hbse hlo hhi hd0 s1 s2 s3 hm1 hm2 hm3 hmo
  have d3 : w4.cell? ⟨B, 3, none⟩ = some (.slice (some ⟨gb, 0, none⟩) nb cb) := by have := h4.c3; rw [show ({ s with blocks := bs } : Rf.St).blocks.length = nb from hbsl] at this; exact this
  have gN0 : w4.cell? ⟨N, 0, none⟩ = some (.int .i64 (lo : Nat)) := by simp [World.cell?, hd]
  have gN1 : w4.cell? ⟨N, 1, none⟩ = some (.int .i64 (hi' : Nat)) := by simp [World.cell?, hd]
  have gN2 : w4.cell? ⟨N, 2, none⟩ = some (.int .i64 0) := by simp [World.cell?, hd]
  go_cut [] (Pushed w B n nb ge ce gp cp gi ci gb { s with blocks := bs ++ [(lo, hi', 0)] })
  case first =>
    have h5 := h4.drew
    have T5 := T4.drew
    have w5s : N < w4.drew.heap.size := lt_of_block hd
    have hBl : B < w4.heap.size := h4.lt (k := B) (.inl rfl)
    have d3' : w4.drew.cell? ⟨B, 3, none⟩ = some (.slice (some ⟨gb, 0, none⟩) nb cb) := d3
    have gN0' : w4.drew.cell? ⟨N, 0, none⟩ = some (.int .i64 (lo : Nat)) := gN0
    have gN1' : w4.drew.cell? ⟨N, 1, none⟩ = some (.int .i64 (hi' : Nat)) := gN1
    have gN2' : w4.drew.cell? ⟨N, 2, none⟩ = some (.int .i64 0) := gN2
    have d3A : (w4.alloc (.cells #[.int .i64 (lo : Nat), .int .i64 (hi' : Nat), .int .i64 0] 320)).cell? ⟨B, 3, none⟩ = some (.slice (some ⟨gb, 0, none⟩) nb cb) := by
      rw [World.cell?_alloc_lt _ _ _ hBl]; exact d3
    have hrow : w4.ownsRow 0 320 3 (.slice (some ⟨gb, 0, none⟩) nb cb) nb (cellsB bs) := by
      have := h4.o.rb.owns h4.o.lb.1 h4.o.lb.2 (by rw [cellsB_length])
      rw [show ({ s with blocks := bs } : Rf.St).blocks.length = nb from hbsl] at this; exact this
    clear hd
    go_region_law (refine step_append_own rfl _ _ 275 rfl 0 320 i0 _ 3 24 Tryz.underlying275 hi hz0 hz1 hz2 rfl (by decide) (.slice (some ⟨gb, 0, none⟩) nb cb) nb _ rfl (hrow.alloc _) ⟨w4.heap.size, 0, none⟩ 1 1 (cellsB [(lo, hi', 0)]) rfl rfl (cells_newB _ lo hi' _) (cellsB_oneCell _) (by unfold maxLen; omega) (by omega) (Nat.zero_le _) ?_; intro v' w6 hown6 hgrow6 hat6; (obtain ⟨ao6, c6, rfl⟩ := owns_shape hown6); (have hbx6 : w6.heap[B]? = some (.cells #[.slice (some ⟨ge, 0, none⟩) n ce, .slice (some ⟨gp, 0, none⟩) n cp, .slice (some ⟨gi, 0, none⟩) n ci, .slice (some ⟨gb, 0, none⟩) nb cb] 277 (0, 0)) := (hgrow6.block B (by show B < (w4.alloc _).heap.size; rw [World.size_alloc]; omega) (by simp [Value.ownBlock]; exact h5.o.nBb)).trans ((Below.heap_alloc _ _ _ (h5.lt (.inl rfl))).trans (by have := h5.box; rw [show ({ s with blocks := bs } : Rf.St).blocks.length = nb from hbsl] at this; exact this))); (have hc6 : w6.cell? ⟨B, 3, none⟩ = some (.slice (some ⟨gb, 0, none⟩) nb cb) := by simp [World.cell?, hbx6]); (have hf6 : w6.frozen? ⟨B, 3, none⟩ = false := by simp [World.frozen?, hbx6]))
    all_goals go_wp2_with fail
    all_goals go_meet
    all_goals
      obtain ⟨gb', cb', hv6, h7⟩ := h4.push (x := (lo, hi', 0)) (by rw [show ({ s with blocks := bs } : Rf.St).blocks.length = nb from hbsl]; exact hown6) hgrow6 (fun k hk => Below.heap_alloc _ _ _ hk) (by show _ ≤ (w4.alloc _).heap.size; simp)
      rw [show ({ s with blocks := bs } : Rf.St).blocks.length = nb from hbsl] at hv6
      simp only [Value.slice.injEq, true_and] at hv6
      obtain ⟨rfl, rfl⟩ := hv6
      have T7 := ((T4.alloc (.cells #[.int .i64 (lo : Nat), .int .i64 (hi' : Nat), .int .i64 0] 320)).drew.grown hgrow6 (by intro k hk; simp only [Value.ownBlock, Option.some.injEq] at hk; exact .inl (.inr (.inr hk.symm)))).setCell (p := ⟨B, 3, none⟩) (.inl (.inl rfl)) (.slice (some ⟨gb', 0, none⟩) (nb + 1) c6)
      have hgb' : gb' = gb ∨ w.heap.size ≤ gb' := by
        have h5s := T5.size
        rcases hat6 with e | e
        · simp only [Value.ownBlock, Option.some.injEq] at e; exact .inl e
        · have e' : gb' = (w4.alloc (.cells #[.int .i64 (lo : Nat), .int .i64 (hi' : Nat), .int .i64 0] 320)).heap.size := by simpa [Value.ownBlock] using e
          rw [World.size_alloc] at e'; right; have : w4.drew.heap.size = w4.heap.size := rfl; omega
      exact ⟨gb', c6, h7, hgb', T7⟩
  case rest =>
  clear h4 T4 hd d3 gN0 gN1 gN2
  obtain ⟨gb', c6, h7, hgb', T7⟩ := hcut
  have bsx : (bs ++ [(lo, hi', 0)]).length = nb + 1 := by rw [List.length_append, hbsl]; rfl
  have gbx : (bs ++ [(lo, hi', 0)]).getD nb (0, 0, 0) = (lo, hi', 0) := by rw [← hbsl]; exact appOne bs _
  obtain ⟨s7, hs7⟩ : ∃ s7, s7 = ({ s with blocks := bs ++ [(lo, hi', 0)] } : Rf.St) := ⟨_, rfl⟩
  have h7' : Ob wc B s7 n ge ce gp cp gi ci gb' c6 := by rw [hs7]; exact h7
  clear h7
  have c0 := h7'.c0
  have c3 := h7'.c3
  have hlen : s7.blocks.length = nb + 1 := by rw [hs7]; exact bsx
  rw [hlen] at c3
  have cf := h7'.o.rb.cell (cellsB_get0 s7.blocks nb (by omega))
  have ct := h7'.o.rb.cell (cellsB_get1 s7.blocks nb (by omega))
  have cm := h7'.o.rb.cell (cellsB_get2 s7.blocks nb (by omega))
  rw [show s7.blocks.getD nb (0, 0, 0) = (lo, hi', 0) by rw [hs7]; exact gbx] at cf ct cm
  have hnc := h7'.o.le
  have s4 : IntKind.i64.wrap (((nb + 1 : Nat) : Int) - 1) = (nb : Int) := (IntWalk.i64_in _ (by omega)).trans (by omega)
  have HS7 := Lib.hid hs7
  clear hs7
  go_wp2_with (go_at_call 227; refine (row_some B (nb + 1) ce c6 ge gb' n nb lo hi' 0 _ (by omega) hlt hhn hn hnc.1 c0 c3 cf ct cm).mono ?_; rintro e w' ⟨rfl, q, rfl⟩)
  have h8 := (h7'.alloc (.cells #[.int .i64 (lo : Nat), .int .i64 (hi' : Nat), .int .i64 0] 320)).drewN q
  have T8 := (T7.alloc (.cells #[.int .i64 (lo : Nat), .int .i64 (hi' : Nat), .int .i64 0] 320)).drewN q
  obtain ⟨w8, hw8⟩ : ∃ w8, (wc.alloc (.cells #[.int .i64 (lo : Nat), .int .i64 (hi' : Nat), .int .i64 0] 320)).drewN q = w8 := ⟨_, rfl⟩
  rw [hw8] at h8 T8 ⊢
  clear hw8 h7' T7 c0 c3 cf ct cm
  have e7 : s7.elems = s.elems := by rw [HS7.out]
  have i7 : s7.inn = s.inn := by rw [HS7.out]
  have E7 := Lib.hid e7
  have I7 := Lib.hid i7
  clear e7 i7
  go_loopw [107] (fun i wr => ∃ k : Nat, k ≤ hi' - lo ∧ i = .int .i64 k ∧ Ob wr B { s7 with inn := Rf.setAll s.inn (((s.elems.take hi').drop lo).take k) nb } n ge ce gp cp gi ci gb' c6 ∧ Turned (fun k => k = B ∨ k = gi ∨ k = gb) w wr)
    (fun i _ => (hi' - lo) - (intOf i).toNat)
  case atStart => exact ⟨0, Nat.zero_le _, rfl, by rw [List.take_zero]; rw [show Rf.setAll s.inn [] nb = s7.inn from I7.out.symm]; exact h8, T8⟩
  case round =>
    clear h8 T8
    obtain ⟨k, hk, rfl, hR, hT⟩ := hrel
    obtain ⟨s8, hs8⟩ : ∃ s8, s8 = ({ s7 with inn := Rf.setAll s.inn (((s.elems.take hi').drop lo).take k) nb } : Rf.St) := ⟨_, rfl⟩
    rw [← hs8] at hR
    have hbl8 : s8.blocks.length = nb + 1 := by rw [hs8]; exact hlen
    have hel8 : s8.elems = s.elems := by rw [hs8]; exact E7.out
    have hin8 : s8.inn = Rf.setAll s.inn (((s.elems.take hi').drop lo).take k) nb := by rw [hs8]
    have HS8 := Lib.hid hs8
    clear hs8
    have c2 := hR.c2
    have c3 := hR.c3
    rw [hbl8] at c3
    by_cases hlk : k < hi' - lo
    · have hlk' : (k : Int) < ((hi' - lo : Nat) : Int) := by omega
      have ce := hR.o.re.cell (ints_get (l := s8.elems) (i := lo + k) (by rw [hel8, HEL.out]; omega))
      rw [hel8] at ce
      obtain ⟨e, hee⟩ : ∃ e, e = s.elems.getD (lo + k) 0 := ⟨_, rfl⟩
      have hen : e < n := by rw [hee]; exact HEN.out (lo + k) (by omega)
      rw [← hee] at ce
      have HE := Lib.hid hee
      clear hee
      have ci := hR.o.ri.cell (ints_get (l := s8.inn) (i := e) (by rw [hin8, setAll_len, HIL.out]; exact hen))
      have fi := hR.o.ri.free e
      have HI8 := Lib.hid hin8
      have HE8 := Lib.hid hel8
      clear hin8 hel8
      go_wp2_with fail
      go_region
      have h9 := (hR.setI e nb).drew
      have T9 := (hT.setCell (p := ⟨gi, e, none⟩) (.inl (.inr (.inl rfl))) (.int .i64 (nb : Nat))).drew
      obtain ⟨w9, hw9⟩ : ∃ w9, (wr.setCell ⟨gi, e, none⟩ (.int .i64 (nb : Nat))).drew = w9 := ⟨_, rfl⟩
      rw [hw9] at h9 T9 ⊢
      clear hw9 hR hT c2 c3 ce ci fi
      have h10 : Ob w9 B { s7 with inn := Rf.setAll s.inn (((s.elems.take hi').drop lo).take (k + 1)) nb } n ge ce gp cp gi ci gb' c6 := by
        rw [take_row _ _ _ _ (by omega) (by rw [HEL.out]; exact hhn), setAll_snoc, ← HE.out, ← HI8.out]
        rw [HS8.out] at h9 ⊢; exact h9
      clear h9
      go_wp2_with fail
      go_roundw
      case rel => exact ⟨k + 1, by omega, by go_num, h10, T9⟩
      case measure => simp [intOf]; omega
    · obtain rfl : k = hi' - lo := by omega
      go_wp2_with fail
      go_ret3
      refine ⟨rfl, gb', c6, ?_, hgb', hT⟩
      rw [List.take_of_length_le (by simp; omega)] at HS8
      rw [HC.out]
      rw [HS8.out, HS7.out] at hR
      exact hR

end Go.Proofs.YtkcdkfkgjjpaaaaGreatDoor

namespace Go.Proofs.YtkcdkfkgjjpaaaaGreatDoor
open Go.RowKit
set_option linter.unusedVariables false
set_option linter.unusedSimpArgs false

set_option maxHeartbeats 8000000 in
set_option maxRecDepth 100000 in
theorem split_large (B b n nb ge ce gp cp gi ci gb cb f t m : Nat) (s : Rf.St) (w : World) (h : Ob w B s n ge ce gp cp gi ci gb cb) (hb : b < nb) (hnb : nb = s.blocks.length) (hf : f = s.F b) (ht : t = s.T b) (hm : m = s.M b)
    (hft : f < t) (htn : t ≤ n) (hfm : f + m < t) (hn : n ≤ 1000) (hnbm : nb ≤ 1000) (hm0 : 0 < m) (hmo : t - f - m < m) (hel : s.elems.length = n) (hil : s.inn.length = n) (hen : ∀ i, i < n → s.E i < n) :
    Calls Tryz.prog 224 #[.pointer (some ⟨B, 0, none⟩), .int .i64 b] w (SplitYes w B n nb ge ce gp cp gi ci gb (s.cut b (f + m) t f (f + m))) := by
  obtain ⟨i0, hi, hz0, hz1, hz2⟩ := info_parts Tryz.blockInfo
  have h' := h.alloc (.cells #[.pointer none] 103)
  have hbl : b < s.blocks.length := by omega
  have C3 := h.c3
  have c3 := h'.c3
  have cf := h'.o.rb.cell (cellsB_get0 s.blocks b hbl)
  have ct := h'.o.rb.cell (cellsB_get1 s.blocks b hbl)
  have cm := h'.o.rb.cell (cellsB_get2 s.blocks b hbl)
  change _ = some (Value.int .i64 (s.F b : Nat)) at cf
  change _ = some (Value.int .i64 (s.T b : Nat)) at ct
  change _ = some (Value.int .i64 (s.M b : Nat)) at cm
  rw [← hf] at cf
  rw [← ht] at ct
  rw [← hm] at cm
  rw [← hnb] at c3 C3
  have HF := Lib.hid hf
  have HT := Lib.hid ht
  have HM := Lib.hid hm
  have HNB := Lib.hid hnb
  have HB := Lib.hid hbl
  have HEL := Lib.hid hel
  have HIL := Lib.hid hil
  have HEN := Lib.hid hen
  clear hf ht hm hnb hbl hel hil hen
  have s1 : IntKind.i64.wrap ((t : Int) - (f : Int)) = (t : Int) - (f : Int) := IntWalk.i64_in _ (by omega)
  have s2 : IntKind.i64.wrap ((t : Int) - (f : Int) - (m : Int)) = (t : Int) - (f : Int) - (m : Int) := IntWalk.i64_in _ (by omega)
  have s3 : IntKind.i64.wrap ((f : Int) + (m : Int)) = (f : Int) + (m : Int) := IntWalk.i64_in _ (by omega)
  have hm1 : ((m : Int) == 0) = false := by simp; omega
  have hm2 : ((t : Int) - (f : Int) - (m : Int) == 0) = false := by simp; omega
  have hm3 : decide ((m : Int) ≤ (t : Int) - (f : Int) - (m : Int)) = false := by simp; omega
  go_enter Tryz.func224, Tryz.ntmps224
  go_wp2_with (first
    | (go_at_call 225; refine (blocks_some _ _ _ _ _ C3).mono ?_; rintro e w' ⟨rfl, rfl⟩)
    | (go_at_call 228; refine (asked_in _ _ _ _ (by omega) (by omega)).mono ?_; rintro e w' ⟨rfl, rfl⟩)
    | (go_at_call 47; refine (as_nil _ _).mono ?_; rintro e w' ⟨rfl, rfl⟩))
  go_quiet (fail)
  obtain ⟨w1, hw1⟩ : ∃ w1, ((w.alloc (.cells #[.pointer none] 103)).drewN nq) = w1 := ⟨_, rfl⟩
  have h1 : Ob w1 B s n ge ce gp cp gi ci gb cb := by rw [← hw1]; exact h'.drewN nq
  have T1 : Turned (fun k => k = B ∨ k = gi ∨ k = gb) w w1 := by rw [← hw1]; exact ((Turned.refl _ _).alloc _).drewN _
  rw [hw1]
  clear hw1 c3 cf ct cm h' C3 h
  have cm := h1.o.rb.cell (cellsB_get2 s.blocks b HB.out)
  have fm := h1.o.rb.free (b * 3 + 2)
  change _ = some (Value.int .i64 (s.M b : Nat)) at cm
  rw [← HM.out] at cm
  go_upto_region 8 with fail
  have h2 := h1.setB (b * 3 + 2) (.int .i64 0) _ (cellsB_set2 s.blocks b 0 HB.out) (by simp)
  have T2 := T1.setCell (p := ⟨gb, b * 3 + 2, none⟩) (.inl (.inr (.inr rfl))) (.int .i64 0)
  obtain ⟨w2, hw2⟩ : ∃ w2, w1.setCell ⟨gb, b * 3 + 2, none⟩ (.int .i64 0) = w2 := ⟨_, rfl⟩
  rw [hw2] at h2 T2 ⊢
  have hfb : (s.blocks.getD b (0, 0, 0)).1 = f := HF.out.symm
  have htb : (s.blocks.getD b (0, 0, 0)).2.1 = t := HT.out.symm
  rw [hfb, htb] at h2
  clear hfb htb hw2 cm fm h1 T1
  have bl2 : b < (s.blocks.set b (f, t, 0)).length := by rw [List.length_set]; exact HB.out
  have gb2 : (s.blocks.set b (f, t, 0)).getD b (0, 0, 0) = (f, t, 0) := by simp [List.getD, HB.out]
  have cf : w2.cell? ⟨gb, b * 3, none⟩ = some (.int .i64 (f : Nat)) := by
    have := h2.o.rb.cell (cellsB_get0 _ b bl2)
    rw [show (({ s with blocks := s.blocks.set b (f, t, 0) } : Rf.St).blocks.getD b (0, 0, 0)) = (f, t, 0) from gb2] at this; exact this
  go_upto_region 12 with fail
  have h3 := h2.alloc (.cells #[.int .i64 (f : Int), .int .i64 ((f : Int) + (m : Int)), .int .i64 0] 320)
  have T3 := T2.alloc (.cells #[.int .i64 (f : Int), .int .i64 ((f : Int) + (m : Int)), .int .i64 0] 320)
  have hnew := heap_alloc_new w2 (.cells #[.int .i64 (f : Int), .int .i64 ((f : Int) + (m : Int)), .int .i64 0] 320)
  have hN := h2.lt (k := gb) (.inr (.inr (.inr (.inr rfl))))
  obtain ⟨N, hNe⟩ : ∃ N, N = w2.heap.size := ⟨_, rfl⟩
  rw [← hNe] at hnew hN ⊢
  have T2s := T2.size
  rw [← hNe] at T2s
  obtain ⟨w3, hw3⟩ : ∃ w3, w2.alloc (.cells #[.int .i64 (f : Int), .int .i64 ((f : Int) + (m : Int)), .int .i64 0] 320) = w3 := ⟨_, rfl⟩
  rw [hw3] at h3 T3 hnew ⊢
  have nBN : B ≠ N := by have := h2.lt (k := B) (.inl rfl); omega
  have hNn : ∀ k, (k = B ∨ k = ge ∨ k = gp ∨ k = gi ∨ k = gb) → k ≠ N := by intro k hk; have := h2.lt hk; omega
  clear hw3 cf h2 T2 hNe
  have gN0 : w3.cell? ⟨N, 0, none⟩ = some (.int .i64 (f : Int)) := by simp [World.cell?, hnew]
  have gN1 : w3.cell? ⟨N, 1, none⟩ = some (.int .i64 ((f : Int) + (m : Int))) := by simp [World.cell?, hnew]
  have gN2 : w3.cell? ⟨N, 2, none⟩ = some (.int .i64 0) := by simp [World.cell?, hnew]
  have gF0 : w3.frozen? ⟨N, 0, none⟩ = false := by simp [World.frozen?, hnew]
  have gF1 : w3.frozen? ⟨N, 1, none⟩ = false := by simp [World.frozen?, hnew]
  have gF2 : w3.frozen? ⟨N, 2, none⟩ = false := by simp [World.frozen?, hnew]
  have cf : w3.cell? ⟨gb, b * 3, none⟩ = some (.int .i64 (f : Nat)) := by
    have := h3.o.rb.cell (cellsB_get0 _ b bl2)
    rw [show (({ s with blocks := s.blocks.set b (f, t, 0) } : Rf.St).blocks.getD b (0, 0, 0)) = (f, t, 0) from gb2] at this; exact this
  have ct : w3.cell? ⟨gb, b * 3 + 1, none⟩ = some (.int .i64 (t : Nat)) := by
    have := h3.o.rb.cell (cellsB_get1 _ b bl2)
    rw [show (({ s with blocks := s.blocks.set b (f, t, 0) } : Rf.St).blocks.getD b (0, 0, 0)) = (f, t, 0) from gb2] at this; exact this
  have ff := h3.o.rb.free (b * 3)
  have ft := h3.o.rb.free (b * 3 + 1)
  go_upto_region 14 with fail
  go_upto_region 15 with fail
  have h3b : Ob (((w3.setCell ⟨N, 0, none⟩ (.int .i64 ((f : Int) + (m : Int)))).setCell ⟨N, 1, none⟩ (.int .i64 (t : Int))).setCell ⟨N, 2, none⟩ (.int .i64 0)) B { s with blocks := s.blocks.set b (f, t, 0) } n ge ce gp cp gi ci gb cb :=
    h3.keep (fun k hk => by rw [Below.heap_setCell _ _ _ _ (hNn k hk), Below.heap_setCell _ _ _ _ (hNn k hk), Below.heap_setCell _ _ _ _ (hNn k hk)])
  have T3b := ((T3.setCell (p := ⟨N, 0, none⟩) (.inr T2s) (.int .i64 ((f : Int) + (m : Int)))).setCell (p := ⟨N, 1, none⟩) (.inr T2s) (.int .i64 (t : Int))).setCell (p := ⟨N, 2, none⟩) (.inr T2s) (.int .i64 0)
  have hnew3 : (((w3.setCell ⟨N, 0, none⟩ (.int .i64 ((f : Int) + (m : Int)))).setCell ⟨N, 1, none⟩ (.int .i64 (t : Int))).setCell ⟨N, 2, none⟩ (.int .i64 0)).heap[N]? = some (.cells #[.int .i64 ((f : Int) + (m : Int)), .int .i64 (t : Int), .int .i64 0] 320 (0, 0)) := by
    simp [World.setCell, Array.getElem?_modify, hnew]
  obtain ⟨w3b, hw3b⟩ : ∃ w3b, (((w3.setCell ⟨N, 0, none⟩ (.int .i64 ((f : Int) + (m : Int)))).setCell ⟨N, 1, none⟩ (.int .i64 (t : Int))).setCell ⟨N, 2, none⟩ (.int .i64 0)) = w3b := ⟨_, rfl⟩
  rw [hw3b] at h3b T3b hnew3 ⊢
  clear hw3b h3 T3 hnew gN0 gN1 gN2 gF0 gF1 gF2 cf ct ff ft
  have ct : w3b.cell? ⟨gb, b * 3 + 1, none⟩ = some (.int .i64 (t : Nat)) := by
    have := h3b.o.rb.cell (cellsB_get1 _ b bl2)
    rw [show (({ s with blocks := s.blocks.set b (f, t, 0) } : Rf.St).blocks.getD b (0, 0, 0)) = (f, t, 0) from gb2] at this; exact this
  have ft := h3b.o.rb.free (b * 3 + 1)
  go_upto_region 16 with fail
  have h4 := h3b.setB (b * 3 + 1) (.int .i64 ((f + m : Nat) : Int)) _ (cellsB_set1 _ b (f + m) bl2) (by simp)
  have T4 := T3b.setCell (p := ⟨gb, b * 3 + 1, none⟩) (.inl (.inr (.inr rfl))) (.int .i64 ((f + m : Nat) : Int))
  rw [show (({ s with blocks := s.blocks.set b (f, t, 0) } : Rf.St).blocks.getD b (0, 0, 0)) = (f, t, 0) from gb2] at h4
  have hd0 : (w3b.setCell ⟨gb, b * 3 + 1, none⟩ (.int .i64 ((f + m : Nat) : Int))).heap[N]? = some (.cells #[.int .i64 ((f : Int) + (m : Int)), .int .i64 (t : Int), .int .i64 0] 320 (0, 0)) := (Below.heap_setCell _ _ _ _ (by simp; omega)).trans hnew3
  obtain ⟨w4, hw4⟩ : ∃ w4, w3b.setCell ⟨gb, b * 3 + 1, none⟩ (.int .i64 ((f + m : Nat) : Int)) = w4 := ⟨_, rfl⟩
  rw [hw4] at h4 T4 hd0
  have hw4' : w3b.setCell ⟨gb, b * 3 + 1, none⟩ (.int .i64 ((f : Int) + (m : Int))) = w4 := hw4
  rw [hw4']
  clear hw4 hw4' h3b T3b hnew3 ct ft
  have hbs : (({ s with blocks := s.blocks.set b (f, t, 0) } : Rf.St).blocks.set b ((f, t, 0).1, f + m, (f, t, 0).2.2)) = s.blocks.set b (f, f + m, 0) := by simp
  rw [hbs] at h4
  obtain ⟨bs, hbse⟩ : ∃ bs, bs = s.blocks.set b (f, f + m, 0) := ⟨_, rfl⟩
  obtain ⟨lo, hlo⟩ : ∃ lo, lo = f + m := ⟨_, rfl⟩
  obtain ⟨hi', hhi⟩ : ∃ hi', hi' = t := ⟨_, rfl⟩
  have hd : w4.heap[N]? = some (.cells #[.int .i64 (lo : Nat), .int .i64 (hi' : Nat), .int .i64 0] 320 (0, 0)) := by rw [hlo, hhi]; exact hd0
  have hlt : lo < hi' := by omega
  have hhn : hi' ≤ n := by omega
  have HC : Hid (s.cut b (f + m) t f (f + m) = { s with blocks := bs ++ [(lo, hi', 0)], inn := Rf.setAll s.inn ((s.elems.take hi').drop lo) nb }) := by
    rw [hbse, hlo, hhi, HNB.out]; rfl
  have h3 : True := trivial
  have T3 : True := trivial
  have hnew : True := trivial
  have gN0 : True := trivial
  have gN1 : True := trivial
  have gN2 : True := trivial
  have gF0 : True := trivial
  have gF1 : True := trivial
  have gF2 : True := trivial
  have cf : True := trivial
  have ct : True := trivial
  have ff : True := trivial
  have ft : True := trivial
  have hbsl : bs.length = nb := by rw [hbse, List.length_set]; exact HNB.out.symm
  rw [← hbse] at h4
  clear h3 T3 hnew gN0 gN1 gN2 gF0 gF1 gF2 cf ct ff ft hbs bl2 gb2 hbse hlo hhi hd0 s1 s2 s3 hm1 hm2 hm3 hmo
  have d3 : w4.cell? ⟨B, 3, none⟩ = some (.slice (some ⟨gb, 0, none⟩) nb cb) := by have := h4.c3; rw [show ({ s with blocks := bs } : Rf.St).blocks.length = nb from hbsl] at this; exact this
  have gN0 : w4.cell? ⟨N, 0, none⟩ = some (.int .i64 (lo : Nat)) := by simp [World.cell?, hd]
  have gN1 : w4.cell? ⟨N, 1, none⟩ = some (.int .i64 (hi' : Nat)) := by simp [World.cell?, hd]
  have gN2 : w4.cell? ⟨N, 2, none⟩ = some (.int .i64 0) := by simp [World.cell?, hd]
  go_cut [] (Pushed w B n nb ge ce gp cp gi ci gb { s with blocks := bs ++ [(lo, hi', 0)] })
  case first =>
    have h5 := h4.drew
    have T5 := T4.drew
    have w5s : N < w4.drew.heap.size := lt_of_block hd
    have hBl : B < w4.heap.size := h4.lt (k := B) (.inl rfl)
    have d3' : w4.drew.cell? ⟨B, 3, none⟩ = some (.slice (some ⟨gb, 0, none⟩) nb cb) := d3
    have gN0' : w4.drew.cell? ⟨N, 0, none⟩ = some (.int .i64 (lo : Nat)) := gN0
    have gN1' : w4.drew.cell? ⟨N, 1, none⟩ = some (.int .i64 (hi' : Nat)) := gN1
    have gN2' : w4.drew.cell? ⟨N, 2, none⟩ = some (.int .i64 0) := gN2
    have d3A : (w4.alloc (.cells #[.int .i64 (lo : Nat), .int .i64 (hi' : Nat), .int .i64 0] 320)).cell? ⟨B, 3, none⟩ = some (.slice (some ⟨gb, 0, none⟩) nb cb) := by
      rw [World.cell?_alloc_lt _ _ _ hBl]; exact d3
    have hrow : w4.ownsRow 0 320 3 (.slice (some ⟨gb, 0, none⟩) nb cb) nb (cellsB bs) := by
      have := h4.o.rb.owns h4.o.lb.1 h4.o.lb.2 (by rw [cellsB_length])
      rw [show ({ s with blocks := bs } : Rf.St).blocks.length = nb from hbsl] at this; exact this
    clear hd
    go_region_law (refine step_append_own rfl _ _ 275 rfl 0 320 i0 _ 3 24 Tryz.underlying275 hi hz0 hz1 hz2 rfl (by decide) (.slice (some ⟨gb, 0, none⟩) nb cb) nb _ rfl (hrow.alloc _) ⟨w4.heap.size, 0, none⟩ 1 1 (cellsB [(lo, hi', 0)]) rfl rfl (cells_newB _ lo hi' _) (cellsB_oneCell _) (by unfold maxLen; omega) (by omega) (Nat.zero_le _) ?_; intro v' w6 hown6 hgrow6 hat6; (obtain ⟨ao6, c6, rfl⟩ := owns_shape hown6); (have hbx6 : w6.heap[B]? = some (.cells #[.slice (some ⟨ge, 0, none⟩) n ce, .slice (some ⟨gp, 0, none⟩) n cp, .slice (some ⟨gi, 0, none⟩) n ci, .slice (some ⟨gb, 0, none⟩) nb cb] 277 (0, 0)) := (hgrow6.block B (by show B < (w4.alloc _).heap.size; rw [World.size_alloc]; omega) (by simp [Value.ownBlock]; exact h5.o.nBb)).trans ((Below.heap_alloc _ _ _ (h5.lt (.inl rfl))).trans (by have := h5.box; rw [show ({ s with blocks := bs } : Rf.St).blocks.length = nb from hbsl] at this; exact this))); (have hc6 : w6.cell? ⟨B, 3, none⟩ = some (.slice (some ⟨gb, 0, none⟩) nb cb) := by simp [World.cell?, hbx6]); (have hf6 : w6.frozen? ⟨B, 3, none⟩ = false := by simp [World.frozen?, hbx6]))
    all_goals go_wp2_with fail
    all_goals go_meet
    all_goals
      obtain ⟨gb', cb', hv6, h7⟩ := h4.push (x := (lo, hi', 0)) (by rw [show ({ s with blocks := bs } : Rf.St).blocks.length = nb from hbsl]; exact hown6) hgrow6 (fun k hk => Below.heap_alloc _ _ _ hk) (by show _ ≤ (w4.alloc _).heap.size; simp)
      rw [show ({ s with blocks := bs } : Rf.St).blocks.length = nb from hbsl] at hv6
      simp only [Value.slice.injEq, true_and] at hv6
      obtain ⟨rfl, rfl⟩ := hv6
      have T7 := ((T4.alloc (.cells #[.int .i64 (lo : Nat), .int .i64 (hi' : Nat), .int .i64 0] 320)).drew.grown hgrow6 (by intro k hk; simp only [Value.ownBlock, Option.some.injEq] at hk; exact .inl (.inr (.inr hk.symm)))).setCell (p := ⟨B, 3, none⟩) (.inl (.inl rfl)) (.slice (some ⟨gb', 0, none⟩) (nb + 1) c6)
      have hgb' : gb' = gb ∨ w.heap.size ≤ gb' := by
        have h5s := T5.size
        rcases hat6 with e | e
        · simp only [Value.ownBlock, Option.some.injEq] at e; exact .inl e
        · have e' : gb' = (w4.alloc (.cells #[.int .i64 (lo : Nat), .int .i64 (hi' : Nat), .int .i64 0] 320)).heap.size := by simpa [Value.ownBlock] using e
          rw [World.size_alloc] at e'; right; have : w4.drew.heap.size = w4.heap.size := rfl; omega
      exact ⟨gb', c6, h7, hgb', T7⟩
  case rest =>
  clear h4 T4 hd d3 gN0 gN1 gN2
  obtain ⟨gb', c6, h7, hgb', T7⟩ := hcut
  have bsx : (bs ++ [(lo, hi', 0)]).length = nb + 1 := by rw [List.length_append, hbsl]; rfl
  have gbx : (bs ++ [(lo, hi', 0)]).getD nb (0, 0, 0) = (lo, hi', 0) := by rw [← hbsl]; exact appOne bs _
  obtain ⟨s7, hs7⟩ : ∃ s7, s7 = ({ s with blocks := bs ++ [(lo, hi', 0)] } : Rf.St) := ⟨_, rfl⟩
  have h7' : Ob wc B s7 n ge ce gp cp gi ci gb' c6 := by rw [hs7]; exact h7
  clear h7
  have c0 := h7'.c0
  have c3 := h7'.c3
  have hlen : s7.blocks.length = nb + 1 := by rw [hs7]; exact bsx
  rw [hlen] at c3
  have cf := h7'.o.rb.cell (cellsB_get0 s7.blocks nb (by omega))
  have ct := h7'.o.rb.cell (cellsB_get1 s7.blocks nb (by omega))
  have cm := h7'.o.rb.cell (cellsB_get2 s7.blocks nb (by omega))
  rw [show s7.blocks.getD nb (0, 0, 0) = (lo, hi', 0) by rw [hs7]; exact gbx] at cf ct cm
  have hnc := h7'.o.le
  have s4 : IntKind.i64.wrap (((nb + 1 : Nat) : Int) - 1) = (nb : Int) := (IntWalk.i64_in _ (by omega)).trans (by omega)
  have HS7 := Lib.hid hs7
  clear hs7
  go_wp2_with (go_at_call 227; refine (row_some B (nb + 1) ce c6 ge gb' n nb lo hi' 0 _ (by omega) hlt hhn hn hnc.1 c0 c3 cf ct cm).mono ?_; rintro e w' ⟨rfl, q, rfl⟩)
  have h8 := (h7'.alloc (.cells #[.int .i64 (lo : Nat), .int .i64 (hi' : Nat), .int .i64 0] 320)).drewN q
  have T8 := (T7.alloc (.cells #[.int .i64 (lo : Nat), .int .i64 (hi' : Nat), .int .i64 0] 320)).drewN q
  obtain ⟨w8, hw8⟩ : ∃ w8, (wc.alloc (.cells #[.int .i64 (lo : Nat), .int .i64 (hi' : Nat), .int .i64 0] 320)).drewN q = w8 := ⟨_, rfl⟩
  rw [hw8] at h8 T8 ⊢
  clear hw8 h7' T7 c0 c3 cf ct cm
  have e7 : s7.elems = s.elems := by rw [HS7.out]
  have i7 : s7.inn = s.inn := by rw [HS7.out]
  have E7 := Lib.hid e7
  have I7 := Lib.hid i7
  clear e7 i7
  go_loopw [107] (fun i wr => ∃ k : Nat, k ≤ hi' - lo ∧ i = .int .i64 k ∧ Ob wr B { s7 with inn := Rf.setAll s.inn (((s.elems.take hi').drop lo).take k) nb } n ge ce gp cp gi ci gb' c6 ∧ Turned (fun k => k = B ∨ k = gi ∨ k = gb) w wr)
    (fun i _ => (hi' - lo) - (intOf i).toNat)
  case atStart => exact ⟨0, Nat.zero_le _, rfl, by rw [List.take_zero]; rw [show Rf.setAll s.inn [] nb = s7.inn from I7.out.symm]; exact h8, T8⟩
  case round =>
    clear h8 T8
    obtain ⟨k, hk, rfl, hR, hT⟩ := hrel
    obtain ⟨s8, hs8⟩ : ∃ s8, s8 = ({ s7 with inn := Rf.setAll s.inn (((s.elems.take hi').drop lo).take k) nb } : Rf.St) := ⟨_, rfl⟩
    rw [← hs8] at hR
    have hbl8 : s8.blocks.length = nb + 1 := by rw [hs8]; exact hlen
    have hel8 : s8.elems = s.elems := by rw [hs8]; exact E7.out
    have hin8 : s8.inn = Rf.setAll s.inn (((s.elems.take hi').drop lo).take k) nb := by rw [hs8]
    have HS8 := Lib.hid hs8
    clear hs8
    have c2 := hR.c2
    have c3 := hR.c3
    rw [hbl8] at c3
    by_cases hlk : k < hi' - lo
    · have hlk' : (k : Int) < ((hi' - lo : Nat) : Int) := by omega
      have ce := hR.o.re.cell (ints_get (l := s8.elems) (i := lo + k) (by rw [hel8, HEL.out]; omega))
      rw [hel8] at ce
      obtain ⟨e, hee⟩ : ∃ e, e = s.elems.getD (lo + k) 0 := ⟨_, rfl⟩
      have hen : e < n := by rw [hee]; exact HEN.out (lo + k) (by omega)
      rw [← hee] at ce
      have HE := Lib.hid hee
      clear hee
      have ci := hR.o.ri.cell (ints_get (l := s8.inn) (i := e) (by rw [hin8, setAll_len, HIL.out]; exact hen))
      have fi := hR.o.ri.free e
      have HI8 := Lib.hid hin8
      have HE8 := Lib.hid hel8
      clear hin8 hel8
      go_wp2_with fail
      go_region
      have h9 := (hR.setI e nb).drew
      have T9 := (hT.setCell (p := ⟨gi, e, none⟩) (.inl (.inr (.inl rfl))) (.int .i64 (nb : Nat))).drew
      obtain ⟨w9, hw9⟩ : ∃ w9, (wr.setCell ⟨gi, e, none⟩ (.int .i64 (nb : Nat))).drew = w9 := ⟨_, rfl⟩
      rw [hw9] at h9 T9 ⊢
      clear hw9 hR hT c2 c3 ce ci fi
      have h10 : Ob w9 B { s7 with inn := Rf.setAll s.inn (((s.elems.take hi').drop lo).take (k + 1)) nb } n ge ce gp cp gi ci gb' c6 := by
        rw [take_row _ _ _ _ (by omega) (by rw [HEL.out]; exact hhn), setAll_snoc, ← HE.out, ← HI8.out]
        rw [HS8.out] at h9 ⊢; exact h9
      clear h9
      go_wp2_with fail
      go_roundw
      case rel => exact ⟨k + 1, by omega, by go_num, h10, T9⟩
      case measure => simp [intOf]; omega
    · obtain rfl : k = hi' - lo := by omega
      go_wp2_with fail
      go_ret3
      refine ⟨rfl, gb', c6, ?_, hgb', hT⟩
      rw [List.take_of_length_le (by simp; omega)] at HS8
      rw [HC.out]
      rw [HS8.out, HS7.out] at hR
      exact hR

end Go.Proofs.YtkcdkfkgjjpaaaaGreatDoor

namespace Go.Proofs.YtkcdkfkgjjpaaaaGreatDoor
open Go.RowKit
set_option linter.unusedVariables false
set_option linter.unusedSimpArgs false

/-- The blocks that a partition may have after a split: its own, or its own and a new one in the place of its row of blocks. -/
def SplitDone (w : World) (B : Nat) (ve vp vi vb : Value) (s : Rf.St) (b : Nat) (r : Ending) (w' : World) : Prop :=
  r = .returned (.tuple #[.int .i64 (((s.split b).1.getD 0 : Nat) : Int), .bool (s.split b).1.isSome, .nilIface]) ∧
    ∃ vb', PartAt w' B ve vp vi vb' (s.split b).2 ∧ (∀ k, vb'.ownBlock = some k → vb.ownBlock = some k ∨ w.heap.size ≤ k) ∧ Turned (Foot B ve vp vi vb) w w'

theorem blocks_le {s : Rf.St} {n : Nat} (hI : Rf.Inv s n) : s.blocks.length ≤ n := by
  have hE : ∀ b, b < s.blocks.length → s.I (s.E (s.F b)) = b := fun b hb => hI.in2 b hb _ (Nat.le_refl _) (hI.b1 b hb).1
  have hF : ∀ b, b < s.blocks.length → s.E (s.F b) < n := fun b hb => (hI.e1 _ (by have := hI.b1 b hb; omega)).1
  have hnd : ((List.range s.blocks.length).map fun b => s.E (s.F b)).Nodup := by
    rw [List.nodup_iff_pairwise_ne, List.pairwise_map]
    refine (List.nodup_range (n := s.blocks.length)).imp_of_mem ?_
    intro a c ha hc hne e
    have ha' := List.mem_range.1 ha
    have hc' := List.mem_range.1 hc
    apply hne
    rw [← hE a ha', ← hE c hc', e]
  have := hnd.length_le_of_subset (l₂ := List.range n) (by
    intro x hx
    obtain ⟨b, hb, rfl⟩ := List.mem_map.1 hx
    exact List.mem_range.2 (hF b (List.mem_range.1 hb)))
  simpa using this

set_option maxHeartbeats 1000000 in
theorem split_any {w : World} {B n b : Nat} {ve vp vi vb : Value} {s : Rf.St} (h : PartAt w B ve vp vi vb s) (hI : Rf.Inv s n) (hn : n ≤ 1000) (hb : b < s.blocks.length) :
    Calls Tryz.prog 224 #[.pointer (some ⟨B, 0, none⟩), .int .i64 b] w (SplitDone w B ve vp vi vb s b) := by
  have bb := hI.b1 b hb
  have hle := blocks_le hI
  obtain ⟨ge, ce, gp, cp, gi, ci, gb, cb, rfl, rfl, rfl, rfl, o⟩ := h.ob hI (by omega)
  have fe : ∀ k, k = B ∨ k = gi ∨ k = gb → Foot B (.slice (some ⟨ge, 0, none⟩) n ce) (.slice (some ⟨gp, 0, none⟩) n cp) (.slice (some ⟨gi, 0, none⟩) n ci) (.slice (some ⟨gb, 0, none⟩) s.blocks.length cb) k := by
    intro k hk
    rcases hk with rfl | rfl | rfl
    · exact .inl rfl
    · exact .inr (.inr (.inr (.inl rfl)))
    · exact .inr (.inr (.inr (.inr rfl)))
  by_cases hz : s.M b = 0 ∨ s.T b - s.F b - s.M b = 0
  · refine (split_flat B b n s.blocks.length ge ce gp cp gi ci gb cb (s.F b) (s.T b) (s.M b) s w o hb rfl rfl rfl rfl bb.1 bb.2.1 bb.2.2 hn hz).mono ?_
    rintro r w' ⟨rfl, q, rfl⟩
    have hs : s.split b = (none, s.bare b) := by unfold Rf.St.split; rw [if_pos hz]
    rw [SplitDone, hs]
    refine ⟨rfl, .slice (some ⟨gb, 0, none⟩) s.blocks.length cb, ?_, fun k hk => .inl hk, ?_⟩
    · have h2 := ((o.alloc (.cells #[.pointer none] 103)).drewN q).setB (b * 3 + 2) (.int .i64 0) _ (cellsB_set2 s.blocks b 0 hb) (by simp)
      have h3 := h2.part hI.le hI.lp hI.li
      simpa [Rf.St.bare, Rf.St.F, Rf.St.T] using h3
    · exact (((Turned.refl _ _).alloc _).drewN q).setCell (.inl (fe _ (.inr (.inr rfl)))) _
  · have hm0 : 0 < s.M b := by omega
    have hfm : s.F b + s.M b < s.T b := by omega
    by_cases hmo : s.M b ≤ s.T b - s.F b - s.M b
    · refine (split_small B b n s.blocks.length ge ce gp cp gi ci gb cb (s.F b) (s.T b) (s.M b) s w o hb rfl rfl rfl rfl bb.1 bb.2.1 hfm hn (by omega) hm0 hmo hI.le hI.li (fun i hi => (hI.e1 i hi).1)).mono ?_
      rintro r w' ⟨rfl, gb', cb', h2, hg, hT⟩
      have hs : s.split b = (some s.blocks.length, s.cut b (s.F b) (s.F b + s.M b) (s.F b + s.M b) (s.T b)) := by unfold Rf.St.split; rw [if_neg hz, if_pos hmo]
      rw [SplitDone, hs]
      refine ⟨rfl, _, h2.part hI.le hI.lp (by show (Rf.setAll _ _ _).length = n; rw [setAll_len, hI.li]), ?_, hT.mono (fun k _ hk => fe k hk)⟩
      intro k hk
      simp only [Value.ownBlock, Option.some.injEq] at hk ⊢
      rcases hg with rfl | hg
      · exact .inl hk
      · right; omega
    · refine (split_large B b n s.blocks.length ge ce gp cp gi ci gb cb (s.F b) (s.T b) (s.M b) s w o hb rfl rfl rfl rfl bb.1 bb.2.1 hfm hn (by omega) hm0 (by omega) hI.le hI.li (fun i hi => (hI.e1 i hi).1)).mono ?_
      rintro r w' ⟨rfl, gb', cb', h2, hg, hT⟩
      have hs : s.split b = (some s.blocks.length, s.cut b (s.F b + s.M b) (s.T b) (s.F b) (s.F b + s.M b)) := by unfold Rf.St.split; rw [if_neg hz, if_neg hmo]
      rw [SplitDone, hs]
      refine ⟨rfl, _, h2.part hI.le hI.lp (by show (Rf.setAll _ _ _).length = n; rw [setAll_len, hI.li]), ?_, hT.mono (fun k _ hk => fe k hk)⟩
      intro k hk
      simp only [Value.ownBlock, Option.some.injEq] at hk ⊢
      rcases hg with rfl | hg
      · exact .inl hk
      · right; omega

theorem size_any {w : World} {B : Nat} {ve vp vi vb : Value} {s : Rf.St} (h : PartAt w B ve vp vi vb s) :
    Calls Tryz.prog 242 #[.pointer (some ⟨B, 0, none⟩)] w fun e w' => e = .returned (.int .i64 (s.elems.length : Nat)) ∧ w = w' := by
  obtain ⟨ao, cap, rfl⟩ := owns_shape h.re
  exact size_some B ao _ cap w (by simp [World.cell?, h.box])

theorem blocks_any {w : World} {B : Nat} {ve vp vi vb : Value} {s : Rf.St} (h : PartAt w B ve vp vi vb s) :
    Calls Tryz.prog 225 #[.pointer (some ⟨B, 0, none⟩)] w fun e w' => e = .returned (.int .i64 (s.blocks.length : Nat)) ∧ w = w' := by
  obtain ⟨ao, cap, rfl⟩ := owns_shape h.rb
  exact blocks_some B ao _ cap w (by simp [World.cell?, h.box])

theorem Turned.newOnly {S : Nat → Prop} {w w' : World} {n : Nat} (h : Turned S w w') (hS : ∀ k, S k → n ≤ k) (hn : n ≤ w.heap.size) : Below n w w' :=
  ⟨h.os, h.tape, h.output, h.size, fun i hi => h.block i (by omega) (fun hs => by have := hS i hs; omega)⟩

theorem cell_lt {w : World} {p : Addr} {v : Value} (h : w.cell? p = some v) : p.block < w.heap.size := World.block_lt_of_cell? w p h

theorem Below.cellUp {w w' : World} {n : Nat} {p : Addr} {v : Value} (hb : Below n w w') (hp : p.block < n) (h : w.cell? p = some v) : w'.cell? p = some v := (hb.cell hp).trans h

end Go.Proofs.YtkcdkfkgjjpaaaaGreatDoor
