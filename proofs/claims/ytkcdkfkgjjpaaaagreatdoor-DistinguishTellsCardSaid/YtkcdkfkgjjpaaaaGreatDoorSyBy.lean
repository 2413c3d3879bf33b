/- Plain: what a statement looks for among steps: where steps of a label lead. No function of the program is named. Walks: system.with, (*Graph).By. -/
import Derived.Test.YtkcdkfkgjjpaaaaGreatDoorRdLaws
import Derived.Test.YtkcdkfkgjjpaaaaGreatDoorRdRank

namespace Go.Proofs.YtkcdkfkgjjpaaaaGreatDoor.Rd
open Go.Proofs.YtkcdkfkgjjpaaaaGreatDoor.Sy
set_option linter.unusedVariables false
set_option linter.unusedSimpArgs false

/-- Where steps of a label lead. -/
def byL (l : List (Int × Int)) (x : Int) : List Int := (l.filter fun s => s.1 == x).map (·.2)

theorem byL_take (l : List (Int × Int)) (x : Int) (i : Nat) (h : i < l.length) : byL (l.take (i + 1)) x = if (l.getD i (0, 0)).1 = x then byL (l.take i) x ++ [(l.getD i (0, 0)).2] else byL (l.take i) x := by
  have e : l.getD i (0, 0) = l[i] := by simp [List.getD, h]
  rw [List.take_succ_eq_append_getElem h, e]
  unfold byL
  rw [List.filter_append, List.map_append]
  split
  · rename_i hx; simp [List.filter_cons, hx]
  · rename_i hx; simp [List.filter_cons, hx]

theorem byL_len (l : List (Int × Int)) (x : Int) : (byL l x).length ≤ l.length := by
  simp only [byL, List.length_map]; exact List.length_filter_le _ _

theorem byL_mem {l : List (Int × Int)} {x y : Int} (h : y ∈ byL l x) : (x, y) ∈ l := by
  simp only [byL, List.mem_map, List.mem_filter, beq_iff_eq] at h
  obtain ⟨⟨a, b⟩, ⟨h1, h2⟩, h3⟩ := h
  simp only at h2 h3
  subst h2 h3; exact h1

/-- Is one of these of a class? -/
def found (c : List Nat) (l : List Int) (k : Nat) : Bool := l.any fun y => c.getD y.toNat 0 == k

theorem found_take (c : List Nat) (l : List Int) (k i : Nat) (h : i < l.length) : found c (l.take (i + 1)) k = (found c (l.take i) k || (c.getD (l.getD i 0).toNat 0 == k)) := by
  have e : l.getD i 0 = l[i] := by simp [List.getD, h]
  simp only [found, List.take_succ_eq_append_getElem h, e, List.any_append, List.any_cons, List.any_nil, Bool.or_false]

theorem meets_eq (s : Lts) (c : List Nat) (p q : Nat) : meets s c p q = (steps s p).all fun x => found c (byL (steps s q) x.1) (c.getD x.2.toNat 0) := by
  unfold meets found byL
  congr 1
  funext x
  rw [List.any_map, List.any_filter]
  congr 1

/-- The first steps found. -/
def metTo (s : Lts) (c : List Nat) (p q : Nat) (i : Nat) : Prop := ∀ j, j < i → found c (byL (steps s q) ((steps s p).getD j (0, 0)).1) (c.getD ((steps s p).getD j (0, 0)).2.toNat 0) = true

theorem meets_all {s : Lts} {c : List Nat} {p q : Nat} (h : metTo s c p q (steps s p).length) : meets s c p q = true := by
  rw [meets_eq, List.all_eq_true]
  intro x hx
  obtain ⟨j, hj, rfl⟩ := List.mem_iff_getElem.1 hx
  have := h j hj
  rw [show (steps s p).getD j (0, 0) = (steps s p)[j] by simp [List.getD, hj]] at this
  exact this

theorem meets_not {s : Lts} {c : List Nat} {p q j : Nat} (hj : j < (steps s p).length) (h : found c (byL (steps s q) ((steps s p).getD j (0, 0)).1) (c.getD ((steps s p).getD j (0, 0)).2.toNat 0) = false) : meets s c p q = false := by
  cases e : meets s c p q
  · rfl
  · rw [meets_eq, List.all_eq_true] at e
    have := e _ (List.getElem_mem hj)
    rw [show (steps s p).getD j (0, 0) = (steps s p)[j] by simp [List.getD, hj]] at h
    rw [h] at this; cases this

end Go.Proofs.YtkcdkfkgjjpaaaaGreatDoor.Rd

namespace Go.Proofs.YtkcdkfkgjjpaaaaGreatDoor
open Go.RowKit Go.Sort Go.Maps
set_option linter.unusedVariables false
set_option linter.unusedSimpArgs false

/-- Integers that were answered, in new memory. -/
def GotInts (w : World) (l : List Int) (r : Ending) (w' : World) : Prop :=
  ∃ ao cap, r = .returned (.slice ao l.length cap) ∧ w'.ownsRow w.heap.size 3 1 (.slice ao l.length cap) l.length (ivs l) ∧ Up w w'

theorem int_one (x : Int) : ∀ u ∈ [Value.int .i64 x], u.oneCell' = true := by
  intro u hu
  simp only [List.mem_singleton] at hu
  subst hu; rfl

theorem cell_two_new (w : World) (o : Obj) (x : Value) (e : TypeId) : ∀ j u, [x][j]? = some u → ((w.alloc o).alloc (.cells #[x] e)).cell? ((⟨w.heap.size + 1, 0, none⟩ : Addr).add j) = some u := by
  intro j u hj
  have h := heap_alloc_new (w.alloc o) (.cells #[x] e)
  rw [World.size_alloc] at h
  match j, hj with
  | 0, hj =>
    simp only [List.getElem?_cons_zero, Option.some.injEq] at hj
    subst hj
    have e : ((⟨w.heap.size + 1, 0, none⟩ : Addr).add 0) = ⟨w.heap.size + 1, 0, none⟩ := by simp [Addr.add]
    rw [e]
    unfold World.cell?
    simp only [h]
    rfl

set_option maxHeartbeats 4000000 in
set_option maxRecDepth 100000 in
theorem with_any {w : World} {v : Value} {l : List (Int × Int)} (x : Int) (hv : Ls2 w v l) (hl : l.length ≤ 1000000) :
    Calls Tryz.prog 236 #[v, .int .i64 x] w (GotInts w (Rd.byL l x)) := by
  obtain ⟨i0, hi, hz0, hz1, hz2⟩ := info_parts Tryz.intsInfo
  obtain ⟨ao, cap, g, off, rfl, ha, hx⟩ := hv
  obtain ⟨n, hn⟩ : ∃ n, n = l.length := ⟨_, rfl⟩
  rw [← hn] at ha hl ⊢
  have HA := Lib.hid ha
  have HX := Lib.hid hx
  have HN := Lib.hid hn
  clear ha hx hn
  go_enter Tryz.func236, Tryz.ntmps236
  go_wp2_with fail
  go_loopw [5, 10] (fun t i wr => ∃ j k : Nat, i = .int .i64 j ∧ j ≤ n ∧ Up w wr ∧ Hid (k = (Rd.byL (l.take j) x).length) ∧ wr.ownsRow w.heap.size 3 1 t k (ivs (Rd.byL (l.take j) x))) (fun _ i _ => n - (intOf i).toNat)
  case atStart => exact ⟨0, 0, rfl, Nat.zero_le _, Up.refl w, Lib.hid rfl, World.ownsRow_nil _ _ _ _⟩
  case round =>
    obtain ⟨j, k, rfl, hj, hu, HK, hown⟩ := hrel
    by_cases hlt : j < n
    · obtain rfl := HA.out (by omega)
      have hjl : j < l.length := by rw [← HN.out]; exact hlt
      have HB := Lib.hid (Rd.byL_take l x j hjl)
      have HKL : Hid (k ≤ 1000000) := Lib.hid (by
        have h1 := Rd.byL_len (l.take j) x
        rw [← HK.out, List.length_take] at h1; omega)
      obtain ⟨y, hy⟩ : ∃ y, l.getD j (0, 0) = y := ⟨_, rfl⟩
      have hcc := HX.out j hjl
      rw [hy] at hcc HB
      obtain ⟨y1, y2⟩ := y
      simp only at hcc HB
      have d0 := hu.cell hcc.1
      have d1 := hu.cell hcc.2
      have hkl := HKL.out
      have hsz := hu.size
      obtain ⟨av, q5, rfl⟩ := owns_shape' hown
      have HO := Lib.hid hown
      have HU := Lib.hid hu
      clear hcc hy hown hu hjl
      by_cases hxy : y1 = x
      · subst hxy
        rw [if_pos rfl] at HB
        go_wp2_with (at_builtin; (refine wpList_append_own _ rfl _ _ 35 rfl w.heap.size 3 i0 (.int .i64 0) 1 8 Tryz.underlying35 hi hz0 hz1 hz2 rfl (by decide) _ k _ rfl ((HO.out.alloc _).alloc _) ⟨wr.heap.size + 1, 0, none⟩ 1 1 [.int .i64 y2] rfl rfl (cell_two_new _ _ _ _) (int_one y2) (by unfold maxLen; omega) (by omega) (by simp; omega) ?_); intro v' w2 hown' hgrow' hnil'; clear hnil')
        have hown2 : w2.ownsRow w.heap.size 3 1 v' (k + 1) (ivs (Rd.byL (l.take (j + 1)) y1)) := by
          rw [HB.out]
          have h := hown'
          unfold ivs at h ⊢
          rw [List.map_append]; exact h
        have HO2 := Lib.hid hown2
        have HU2 := Lib.hid (((HU.out.alloc _).alloc _).grown hgrow' (fun g hg => (HO.out.lt g hg).1))
        clear hown2 hown' hgrow'
        go_roundw
        case rel => exact ⟨j + 1, k + 1, by go_num, by omega, HU2.out, Lib.hid (by rw [HB.out, List.length_append, ← HK.out]; rfl), HO2.out⟩
        case measure => simp [intOf]; omega
      · rw [if_neg hxy] at HB
        have q1 : (y1 == x) = false := by simpa using hxy
        go_wp2_with fail
        go_roundw
        case rel => exact ⟨j + 1, k, by go_num, by omega, HU.out.alloc _, Lib.hid (by rw [HB.out]; exact HK.out), by rw [HB.out]; exact HO.out.alloc _⟩
        case measure => simp [intOf]; omega
    · obtain rfl : j = n := by omega
      have htk : l.take j = l := by rw [HN.out, List.take_length]
      rw [htk] at hown HK
      obtain ⟨av, q5, rfl⟩ := owns_shape' hown
      have HO := Lib.hid hown
      have HU := Lib.hid hu
      clear hown hu htk
      go_wp2_with fail
      go_ret
      have hk := HK.out
      subst hk
      exact ⟨av, q5, rfl, HO.out, HU.out⟩

set_option maxHeartbeats 1000000 in
theorem by_in {w : World} {B p : Nat} {s : Sy.Lts} (x : Int) (h : GraphAt w B s) (hR : Sy.Right s) (hp : p < s.n.toNat) :
    Calls Tryz.prog 206 #[.pointer (some ⟨B, 0, none⟩), .int .i64 (p : Nat), .int .i64 x] w (GotInts w (Rd.byL (Sy.steps s p) x)) := by
  have HE := Lib.hid (each_in h hR hp)
  have HL := Lib.hid (steps_len hR p)
  clear h hp
  go_enter Tryz.func206, Tryz.ntmps206
  go_wp2_with (first
    | (go_at_call 44; refine HE.out.mono ?_; rintro r w1 ⟨v, rfl, hu1, hv⟩; (have hw := with_any x hv HL.out); (obtain ⟨ao, cap, g, off, rfl, -, -⟩ := hv); (have HW := Lib.hid hw); (have HU1 := Lib.hid hu1); clear hw hu1)
    | (go_at_call 236; refine HW.out.mono ?_; rintro r w2 ⟨a2, c2, rfl, ho2, hu2⟩))
  go_ret
  exact ⟨a2, c2, rfl, owns_base ho2 HU1.out.size, HU1.out.trans hu2⟩

theorem gotInts_lst {w : World} {b : Nat} {v : Value} {l : List Int} (h : w.ownsRow b 3 1 v l.length (ivs l)) : Lst w v l := by
  rcases owns_cases h with ⟨rfl, h0, _⟩ | ⟨g, cap, rfl, hr, _⟩
  · have : l = [] := List.eq_nil_of_length_eq_zero h0
    subst this
    exact ⟨none, 0, 0, 0, rfl, fun h => by simp at h, fun i hi => by simp at hi⟩
  · exact ⟨_, _, g, 0, rfl, fun _ => rfl, fun i hi => by rw [Nat.zero_add]; exact hr.cell (by simp [ivs, hi])⟩

end Go.Proofs.YtkcdkfkgjjpaaaaGreatDoor
