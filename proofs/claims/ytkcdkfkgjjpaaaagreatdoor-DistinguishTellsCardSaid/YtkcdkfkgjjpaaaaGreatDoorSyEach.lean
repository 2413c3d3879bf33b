/- Walks: rows.row, Graph.Each, Graph.Back, Graph.own, Graph.States. -/
import Derived.Test.YtkcdkfkgjjpaaaaGreatDoorSyNew
namespace Go.Proofs.YtkcdkfkgjjpaaaaGreatDoor
open Go.RowKit Go.Sort
set_option linter.unusedVariables false
set_option linter.unusedSimpArgs false

theorem offs_get (key : Sy.Edge → Nat) (l : List Sy.Edge) (n i : Nat) (h : i < n + 1) : (offs key l n).getD i 0 = Sy.below (fun e => (key e : Int)) l i := by
  simp [offs, List.getD, h]

theorem offs_len (key : Sy.Edge → Nat) (l : List Sy.Edge) (n : Nat) : (offs key l n).length = n + 1 := by simp [offs]

theorem steps_part {s : Sy.Lts} (hR : Sy.Right s) (p : Nat) : Sy.steps s p = (((Sy.sorted s).map sOut).drop (Sy.below (fun e => (kOut e : Int)) (Sy.sorted s) p)).take
    (Sy.below (fun e => (kOut e : Int)) (Sy.sorted s) (p + 1) - Sy.below (fun e => (kOut e : Int)) (Sy.sorted s) p) := by
  have hk : ∀ e ∈ Sy.sorted s, (kOut e : Int) = e.1 := fun e he => by have := hR.ok e ((Sy.mem_sorted s e).1 he); unfold kOut; omega
  have hf := Sy.filter_row (fun e => (kOut e : Int)) (Sy.sorted s) p ((Sy.sorted_rises s).imp_of_mem (fun {a b} ha hb h => by rw [hk a ha, hk b hb]; exact h))
  rw [← List.map_drop, ← List.map_take, ← hf]
  unfold Sy.steps sOut
  congr 1
  refine List.filter_congr (fun e he => ?_)
  rw [hk e he]

theorem backs_part {s : Sy.Lts} (hR : Sy.Right s) (p : Nat) : Sy.backs s p = (((Sy.turned s).map sIn).drop (Sy.below (fun e => (kIn e : Int)) (Sy.turned s) p)).take
    (Sy.below (fun e => (kIn e : Int)) (Sy.turned s) (p + 1) - Sy.below (fun e => (kIn e : Int)) (Sy.turned s) p) := by
  have hk : ∀ e ∈ Sy.turned s, (kIn e : Int) = e.2.2 := fun e he => by have := hR.ok e ((Sy.mem_turned s e).1 he); unfold kIn; omega
  have hf := Sy.filter_row (fun e => (kIn e : Int)) (Sy.turned s) p ((Sy.turned_rises s).imp_of_mem (fun {a b} ha hb h => by rw [hk a ha, hk b hb]; exact h))
  rw [← List.map_drop, ← List.map_take, ← hf]
  unfold Sy.backs sIn
  congr 1
  refine List.filter_congr (fun e he => ?_)
  rw [hk e he]

/-- A row of rows that stand in memory. -/
def RowGot (w : World) (xs : List (Int × Int)) (a b : Nat) (r : Ending) (w' : World) : Prop := ∃ v, r = .returned v ∧ Up w w' ∧ Ls2 w' v ((xs.drop a).take (b - a))

theorem two_cells {w : World} {b : Nat} {a1 a2 : Value} {e : TypeId} (h : w.heap[b]? = some (.cells #[a1, a2] e (0, 0))) : w.cell? ⟨b, 0, none⟩ = some a1 ∧ w.cell? ⟨b, 1, none⟩ = some a2 := by
  refine ⟨?_, ?_⟩ <;> simp [World.cell?, h]

set_option maxHeartbeats 4000000 in
set_option maxRecDepth 100000 in
theorem row_in {w : World} {vo fo : Value} {n p : Nat} {xs : List (Int × Int)} {cs : List Nat} (h : RowsIn w vo fo n xs cs) (a b : Nat) (ha : cs.getD p 0 = a) (hb : cs.getD (p + 1) 0 = b) (hab : a ≤ b) (hbx : b ≤ xs.length) (hp : p < n) (hn : n ≤ 1000) (hx : xs.length ≤ 1000000) (hc : cs.length = n + 1) :
    Calls Tryz.prog 110 #[.agg #[vo, fo], .int .i64 (p : Nat)] w (RowGot w xs a b) := by
  obtain ⟨hall, gf, rfl, hrow⟩ := h
  have hf0 : w.cell? ⟨gf, p, none⟩ = some (.int .i64 (a : Nat)) := hrow.cell (by rw [ints_get (by omega), ha])
  have hf1 : w.cell? ⟨gf, p + 1, none⟩ = some (.int .i64 (b : Nat)) := hrow.cell (by rw [ints_get (by omega), hb])
  have q1 : (p : Int) < ((n + 1 : Nat) : Int) - 1 := by omega
  have q2 : (p : Int) + 1 < ((n + 1 : Nat) : Int) := by omega
  have q3 : (0 : Int) ≤ (p : Int) + 1 := by omega
  have q4 : IntKind.i64.wrap ((p : Int) + 1) = (p : Int) + 1 := by simp [IntKind.wrap, IntKind.bits, IntKind.signed]; omega
  have q5 : ((p : Int) + 1).toNat = p + 1 := by omega
  have q6 : (a : Int) ≤ (b : Int) := by omega
  have q7 : (0 : Int) ≤ (a : Int) := by omega
  have q8 : (0 : Int) ≤ (b : Int) := by omega
  have q9 : (p : Int) < ((n + 1 : Nat) : Int) := by omega
  have q10 : IntKind.i64.wrap (((n + 1 : Nat) : Int) - 1) = (n : Int) := by simp [IntKind.wrap, IntKind.bits, IntKind.signed]; omega
  rcases hall with ⟨rfl, rfl⟩ | ⟨g, c, rfl, hlc, hcm, htw⟩
  · obtain rfl : b = 0 := by simpa using hbx
    obtain rfl : a = 0 := by omega
    obtain ⟨w1, hw1⟩ : ∃ w1, w1 = w.alloc (.cells #[.slice none 0 0, .slice (some ⟨gf, 0, none⟩) (n + 1) (n + 1)] 86) := ⟨_, rfl⟩
    have hb1 : w1.heap[w.heap.size]? = some (.cells #[.slice none 0 0, .slice (some ⟨gf, 0, none⟩) (n + 1) (n + 1)] 86 (0, 0)) := by rw [hw1]; exact heap_alloc_new w _
    have hu1 : Up w w1 := by rw [hw1]; exact (Up.refl w).alloc _
    obtain ⟨b0, b1⟩ := two_cells hb1
    have k0 := hu1.cell hf0
    have k1 := hu1.cell hf1
    have HU1 := Lib.hid hu1
    clear hrow ha hb hf0 hf1 hu1 hb1
    go_enter Tryz.func110, Tryz.ntmps110
    go_upto_region 1 with fail
    rw [← hw1]
    clear hw1
    go_wp2_with fail
    go_quiet (fail)
    go_wp2_with fail
    go_ret
    exact ⟨_, rfl, HU1.out.drewN _, ⟨none, 0, 0, 0, rfl, fun h => by simp at h, fun i hi => by simp at hi⟩⟩
  · have q11 : (b : Int) ≤ (c : Int) := by omega
    obtain ⟨m, hm⟩ : ∃ m, m = xs.length := ⟨_, rfl⟩
    rw [← hm]
    obtain ⟨w1, hw1⟩ : ∃ w1, w1 = w.alloc (.cells #[.slice (some ⟨g, 0, none⟩) m c, .slice (some ⟨gf, 0, none⟩) (n + 1) (n + 1)] 86) := ⟨_, rfl⟩
    have hb1 : w1.heap[w.heap.size]? = some (.cells #[.slice (some ⟨g, 0, none⟩) m c, .slice (some ⟨gf, 0, none⟩) (n + 1) (n + 1)] 86 (0, 0)) := by rw [hw1]; exact heap_alloc_new w _
    have hu1 : Up w w1 := by rw [hw1]; exact (Up.refl w).alloc _
    obtain ⟨b0, b1⟩ := two_cells hb1
    have k0 := hu1.cell hf0
    have k1 := hu1.cell hf1
    have HU1 := Lib.hid hu1
    have hpart := htw.part a (b - a) (by omega)
    have hlen : ((xs.drop a).take (b - a)).length = b - a := by rw [List.length_take, List.length_drop]; omega
    have HP : Hid (Ls2 w1 (.slice (some ⟨g, a * 2, none⟩) (b - a) (b - a)) ((xs.drop a).take (b - a))) := Lib.hid ⟨_, _, g, a * 2, by rw [hlen], fun _ => rfl, fun i hi => by
      have := hpart i hi
      rw [Nat.zero_add] at this
      exact ⟨hu1.cell this.1, hu1.cell this.2⟩⟩
    clear hrow ha hb hf0 hf1 hu1 hb1 htw hpart hlen hm
    by_cases hEq : a = b
    · subst hEq
      have HN : Hid ((xs.drop a).take (a - a) = []) := Lib.hid (by simp)
      go_enter Tryz.func110, Tryz.ntmps110
      go_upto_region 1 with fail
      rw [← hw1]
      clear hw1
      go_wp2_with fail
      go_quiet (fail)
      go_wp2_with fail
      go_ret
      exact ⟨_, rfl, HU1.out.drewN _, by rw [HN.out]; exact ⟨_, _, 0, 0, rfl, fun h => by simp at h, fun i hi => by simp at hi⟩⟩
    · have q12 : (a : Int) < (b : Int) := by omega
      have q13 : 0 < b - a := by omega
      go_enter Tryz.func110, Tryz.ntmps110
      go_upto_region 1 with fail
      rw [← hw1]
      clear hw1
      go_wp2_with fail
      go_quiet (fail)
      go_wp2_with fail
      go_ret
      exact ⟨_, rfl, HU1.out.drewN _, HP.out.up ((Up.refl _).drewN _)⟩

/-- What Each and Back leave. -/
def Read2 (w : World) (xs : List (Int × Int)) (r : Ending) (w' : World) : Prop := ∃ v, r = .returned v ∧ Up w w' ∧ Ls2 w' v xs

theorem agg8 {w : World} {B : Nat} {s : Sy.Lts} (h : GraphAt w B s) : ∃ se vo fo vi fi, (∀ (i : Nat) (u : Value), [Value.int .i64 s.n, .int .i64 s.m, .int .i64 s.start, se, vo, fo, vi, fi][i]? = some u → w.cell? ⟨B, i, none⟩ = some u) ∧ Ls3 w se (Sy.sorted s) ∧
    RowsIn w vo fo s.n.toNat ((Sy.sorted s).map sOut) (offs kOut (Sy.sorted s) s.n.toNat) ∧ RowsIn w vi fi s.n.toNat ((Sy.turned s).map sIn) (offs kIn (Sy.turned s) s.n.toNat) := by
  obtain ⟨se, vo, fo, vi, fi, hb, h1, h2, h3⟩ := h.box
  exact ⟨se, vo, fo, vi, fi, fun i u hu => (eight_cells hb i u hu).1, h1, h2, h3⟩

set_option maxHeartbeats 1000000 in
theorem each_in {w : World} {B p : Nat} {s : Sy.Lts} (h : GraphAt w B s) (hR : Sy.Right s) (hp : p < s.n.toNat) :
    Calls Tryz.prog 44 #[.pointer (some ⟨B, 0, none⟩), .int .i64 (p : Nat)] w (Read2 w (Sy.steps s p)) := by
  obtain ⟨se, vo, fo, vi, fi, hb, h1, h2, h3⟩ := agg8 h
  have c4 := hb 4 _ rfl
  have c5 := hb 5 _ rfl
  have hl : ((Sy.sorted s).map sOut).length ≤ 1000000 := by rw [List.length_map]; have := Sy.norm_len (lt := Sy.lt3) s.es; have := hR.len; unfold Sy.sorted; omega
  have hrow := row_in h2 _ _ (offs_get kOut _ _ p (by omega)) (offs_get kOut _ _ (p + 1) (by omega)) (Sy.below_mono _ _ (by omega)) (by rw [List.length_map]; exact Sy.below_le _ _ _) hp (by have := hR.n1; omega) hl (offs_len _ _ _)
  unfold RowGot at hrow
  rw [← steps_part hR p] at hrow
  have HROW := Lib.hid hrow
  have hvo : ∃ ao n c, vo = .slice ao n c := by
    rcases h2.all with ⟨rfl, _⟩ | ⟨g, c, rfl, _⟩ <;> exact ⟨_, _, _, rfl⟩
  obtain ⟨ao, nn, cc, rfl⟩ := hvo
  obtain ⟨gf, rfl, -⟩ := h2.frm
  clear hb h h1 h2 h3 hrow hl
  go_enter Tryz.func44, Tryz.ntmps44
  go_wp2_with fail
  (with_reducible refine HROW.out.mono ?_)
  rintro e w1 ⟨v1, rfl, hu1, hl1⟩
  have HU := Lib.hid hu1
  have HL := Lib.hid hl1
  obtain ⟨a1, q1, g1, o1, rfl, -, -⟩ := hl1
  clear hu1
  go_wp2_with fail
  go_ret
  exact ⟨_, rfl, HU.out, HL.out⟩

set_option maxHeartbeats 1000000 in
theorem back_in {w : World} {B p : Nat} {s : Sy.Lts} (h : GraphAt w B s) (hR : Sy.Right s) (hp : p < s.n.toNat) :
    Calls Tryz.prog 221 #[.pointer (some ⟨B, 0, none⟩), .int .i64 (p : Nat)] w (Read2 w (Sy.backs s p)) := by
  obtain ⟨se, vo, fo, vi, fi, hb, h1, h2, h3⟩ := agg8 h
  have c6 := hb 6 _ rfl
  have c7 := hb 7 _ rfl
  have hl : ((Sy.turned s).map sIn).length ≤ 1000000 := by rw [List.length_map]; have := Sy.norm_len (lt := Sy.lt3r) s.es; have := hR.len; unfold Sy.turned; omega
  have hrow := row_in h3 _ _ (offs_get kIn _ _ p (by omega)) (offs_get kIn _ _ (p + 1) (by omega)) (Sy.below_mono _ _ (by omega)) (by rw [List.length_map]; exact Sy.below_le _ _ _) hp (by have := hR.n1; omega) hl (offs_len _ _ _)
  unfold RowGot at hrow
  rw [← backs_part hR p] at hrow
  have HROW := Lib.hid hrow
  have hvo : ∃ ao n c, vi = .slice ao n c := by
    rcases h3.all with ⟨rfl, _⟩ | ⟨g, c, rfl, _⟩ <;> exact ⟨_, _, _, rfl⟩
  obtain ⟨ao, nn, cc, rfl⟩ := hvo
  obtain ⟨gf, rfl, -⟩ := h3.frm
  clear hb h h1 h2 h3 hrow hl
  go_enter Tryz.func221, Tryz.ntmps221
  go_wp2_with fail
  (with_reducible refine HROW.out.mono ?_)
  rintro e w1 ⟨v1, rfl, hu1, hl1⟩
  have HU := Lib.hid hu1
  have HL := Lib.hid hl1
  obtain ⟨a1, q1, g1, o1, rfl, -, -⟩ := hl1
  clear hu1
  go_wp2_with fail
  go_ret
  exact ⟨_, rfl, HU.out, HL.out⟩

set_option maxHeartbeats 1000000 in
theorem own_in {w : World} {B : Nat} {s : Sy.Lts} (h : GraphAt w B s) :
    Calls Tryz.prog 109 #[.pointer (some ⟨B, 0, none⟩)] w fun r w' => ∃ ao k c, r = .returned (.agg #[.int .i64 s.n, .int .i64 s.m, .int .i64 s.start, .slice ao k c]) ∧ Up w w' ∧ Ls3 w' (.slice ao k c) (Sy.sorted s) := by
  obtain ⟨se, vo, fo, vi, fi, hb, h1, h2, h3⟩ := agg8 h
  have hbb : ∀ (i : Nat) (u : Value), [Value.int .i64 s.n, .int .i64 s.m, .int .i64 s.start, se, vo, fo, vi, fi][i]? = some u → ∀ o, (w.alloc o).cell? ⟨B, i, none⟩ = some u := fun i u hu o => ((Up.refl w).alloc o).cell (hb i u hu)
  have c0 := hbb 0 _ rfl
  have c1 := hbb 1 _ rfl
  have c2 := hbb 2 _ rfl
  have c3 := hbb 3 _ rfl
  have H1 := Lib.hid h1
  obtain ⟨ao, cap, g, off, rfl, -, -⟩ := h1
  clear h hb hbb h2 h3
  go_enter Tryz.func109, Tryz.ntmps109
  go_wp2_with fail
  refine bodyPost_ret (v := .agg #[.int .i64 s.n, .int .i64 s.m, .int .i64 s.start, .slice ao (Sy.sorted s).length cap]) (by simp [results, Tryz.results109, go_sem]) rfl ⟨_, _, _, rfl, (Up.refl w).alloc _, H1.out.up ((Up.refl w).alloc _)⟩

theorem field_sys (a b c : Int) (ao : Option Addr) (k cap : Nat) (w : World) : (Instr.field 27 (.agg #[.int .i64 a, .int .i64 b, .int .i64 c, .slice ao k cap]) 0).run Tryz.prog w = .ok (.int .i64 a) w := by kernel_rfl

set_option maxHeartbeats 1000000 in
set_option maxRecDepth 100000 in
theorem states_in {w : World} {B : Nat} {s : Sy.Lts} (h : GraphAt w B s) :
    Calls Tryz.prog 43 #[.pointer (some ⟨B, 0, none⟩)] w fun r w' => r = .returned (.int .i64 s.n) ∧ Up w w' := by
  have HO := Lib.hid (own_in h)
  clear h
  go_enter Tryz.func43, Tryz.ntmps43
  go_wp2_with fail
  (with_reducible refine HO.out.mono ?_)
  rintro e w1 ⟨ao, k, c, rfl, hu, -⟩
  have hfs := field_sys s.n s.m s.start ao k c
  go_wp2_with fail
  go_ret
  exact ⟨rfl, hu⟩

end Go.Proofs.YtkcdkfkgjjpaaaaGreatDoor
