/- Plain: what a statement looks for among steps: where steps of a label lead. No function of the program is named. Walks: system.with, (*Graph).By, (*Graph).Out, and what a statement asks of two states: each step of the one finds its like. -/
import Derived.Test.YtpmdjicaefmbnaaGreatDoorRdLaws
import Derived.Test.YtpmdjicaefmbnaaGreatDoorRdTop

namespace Go.Proofs.YtpmdjicaefmbnaaGreatDoor.Rd
open Go.Proofs.YtpmdjicaefmbnaaGreatDoor.Sy
set_option linter.unusedVariables false
set_option linter.unusedSimpArgs false

/-- Where steps of a label lead. -/
def byL (l : List (Int × Int)) (x : Int) : List Int := (l.filter fun s => s.1 == x).map (·.2)

theorem byL_take (l : List (Int × Int)) (x : Int) (i : Nat) (h : i < l.length) : byL (l.take (i + 1)) x = if (l.getD i (0, 0)).1 = x then byL (l.take i) x ++ [(l.getD i (0, 0)).2] else byL (l.take i) x := by
  have e : l.getD i (0, 0) = l[i] := by simp [List.getD, h]
  rw [List.take_succ_eq_append_getElem h, e]
  unfold byL
  rw [List.filter_append, List.map_append]
  split
  · rename_i hx; simp [List.filter_cons, hx]
  · rename_i hx; simp [List.filter_cons, hx]

theorem byL_len (l : List (Int × Int)) (x : Int) : (byL l x).length ≤ l.length := by
  simp only [byL, List.length_map]; exact List.length_filter_le _ _

theorem byL_mem {l : List (Int × Int)} {x y : Int} (h : y ∈ byL l x) : (x, y) ∈ l := by
  simp only [byL, List.mem_map, List.mem_filter, beq_iff_eq] at h
  obtain ⟨⟨a, b⟩, ⟨h1, h2⟩, h3⟩ := h
  simp only at h2 h3
  subst h2 h3; exact h1

/-- Is one of these of a class? -/
def found (c : List Nat) (l : List Int) (k : Nat) : Bool := l.any fun y => c.getD y.toNat 0 == k

theorem found_take (c : List Nat) (l : List Int) (k i : Nat) (h : i < l.length) : found c (l.take (i + 1)) k = (found c (l.take i) k || (c.getD (l.getD i 0).toNat 0 == k)) := by
  have e : l.getD i 0 = l[i] := by simp [List.getD, h]
  simp only [found, List.take_succ_eq_append_getElem h, e, List.any_append, List.any_cons, List.any_nil, Bool.or_false]

theorem meets_eq (s : Lts) (c : List Nat) (p q : Nat) : meets s c p q = (steps s p).all fun x => found c (byL (steps s q) x.1) (c.getD x.2.toNat 0) := by
  unfold meets found byL
  congr 1
  funext x
  rw [List.any_map, List.any_filter]
  congr 1

/-- The first steps found. -/
def metTo (s : Lts) (c : List Nat) (p q : Nat) (i : Nat) : Prop := ∀ j, j < i → found c (byL (steps s q) ((steps s p).getD j (0, 0)).1) (c.getD ((steps s p).getD j (0, 0)).2.toNat 0) = true

theorem meets_all {s : Lts} {c : List Nat} {p q : Nat} (h : metTo s c p q (steps s p).length) : meets s c p q = true := by
  rw [meets_eq, List.all_eq_true]
  intro x hx
  obtain ⟨j, hj, rfl⟩ := List.mem_iff_getElem.1 hx
  have := h j hj
  rw [show (steps s p).getD j (0, 0) = (steps s p)[j] by simp [List.getD, hj]] at this
  exact this

theorem meets_not {s : Lts} {c : List Nat} {p q j : Nat} (hj : j < (steps s p).length) (h : found c (byL (steps s q) ((steps s p).getD j (0, 0)).1) (c.getD ((steps s p).getD j (0, 0)).2.toNat 0) = false) : meets s c p q = false := by
  cases e : meets s c p q
  · rfl
  · rw [meets_eq, List.all_eq_true] at e
    have := e _ (List.getElem_mem hj)
    rw [show (steps s p).getD j (0, 0) = (steps s p)[j] by simp [List.getD, hj]] at h
    rw [h] at this; cases this

end Go.Proofs.YtpmdjicaefmbnaaGreatDoor.Rd

namespace Go.Proofs.YtpmdjicaefmbnaaGreatDoor
open Go.RowKit Go.Sort Go.Maps
set_option linter.unusedVariables false
set_option linter.unusedSimpArgs false

/-- Integers that were answered, in new memory. -/
def GotInts (w : World) (l : List Int) (r : Ending) (w' : World) : Prop :=
  ∃ ao cap, r = .returned (.slice ao l.length cap) ∧ w'.ownsRow w.heap.size 3 1 (.slice ao l.length cap) l.length (ivs l) ∧ Up w w'

theorem int_one (x : Int) : ∀ u ∈ [Value.int .i64 x], u.oneCell' = true := by
  intro u hu
  simp only [List.mem_singleton] at hu
  subst hu; rfl

theorem cell_two_new (w : World) (o : Obj) (x : Value) (e : TypeId) : ∀ j u, [x][j]? = some u → ((w.alloc o).alloc (.cells #[x] e)).cell? ((⟨w.heap.size + 1, 0, none⟩ : Addr).add j) = some u := by
  intro j u hj
  have h := heap_alloc_new (w.alloc o) (.cells #[x] e)
  rw [World.size_alloc] at h
  match j, hj with
  | 0, hj =>
    simp only [List.getElem?_cons_zero, Option.some.injEq] at hj
    subst hj
    have e : ((⟨w.heap.size + 1, 0, none⟩ : Addr).add 0) = ⟨w.heap.size + 1, 0, none⟩ := by simp [Addr.add]
    rw [e]
    unfold World.cell?
    simp only [h]
    rfl

set_option maxHeartbeats 4000000 in
set_option maxRecDepth 100000 in
theorem with_any {w : World} {v : Value} {l : List (Int × Int)} (x : Int) (hv : Ls2 w v l) (hl : l.length ≤ 1000000) :
    Calls Tryz.prog 123 #[v, .int .i64 x] w (GotInts w (Rd.byL l x)) := by
  obtain ⟨i0, hi, hz0, hz1, hz2⟩ := info_parts Tryz.intsInfo
  obtain ⟨ao, cap, g, off, rfl, ha, hx⟩ := hv
  obtain ⟨n, hn⟩ : ∃ n, n = l.length := ⟨_, rfl⟩
  rw [← hn] at ha hl ⊢
  have HA := Lib.hid ha
  have HX := Lib.hid hx
  have HN := Lib.hid hn
  clear ha hx hn
  go_enter Tryz.func123, Tryz.ntmps123
  go_wp2_with fail
  go_loopw [5, 10] (fun t i wr => ∃ j k : Nat, i = .int .i64 j ∧ j ≤ n ∧ Up w wr ∧ Hid (k = (Rd.byL (l.take j) x).length) ∧ wr.ownsRow w.heap.size 3 1 t k (ivs (Rd.byL (l.take j) x))) (fun _ i _ => n - (intOf i).toNat)
  case atStart => exact ⟨0, 0, rfl, Nat.zero_le _, Up.refl w, Lib.hid rfl, World.ownsRow_nil _ _ _ _⟩
  case round =>
    obtain ⟨j, k, rfl, hj, hu, HK, hown⟩ := hrel
    by_cases hlt : j < n
    · obtain rfl := HA.out (by omega)
      have hjl : j < l.length := by rw [← HN.out]; exact hlt
      have HB := Lib.hid (Rd.byL_take l x j hjl)
      have HKL : Hid (k ≤ 1000000) := Lib.hid (by
        have h1 := Rd.byL_len (l.take j) x
        rw [← HK.out, List.length_take] at h1; omega)
      obtain ⟨y, hy⟩ : ∃ y, l.getD j (0, 0) = y := ⟨_, rfl⟩
      have hcc := HX.out j hjl
      rw [hy] at hcc HB
      obtain ⟨y1, y2⟩ := y
      simp only at hcc HB
      have d0 := hu.cell hcc.1
      have d1 := hu.cell hcc.2
      have hkl := HKL.out
      have hsz := hu.size
      obtain ⟨av, q5, rfl⟩ := owns_shape' hown
      have HO := Lib.hid hown
      have HU := Lib.hid hu
      clear hcc hy hown hu hjl
      by_cases hxy : y1 = x
      · subst hxy
        rw [if_pos rfl] at HB
        go_wp2_with (at_builtin; (refine wpList_append_own _ rfl _ _ 34 rfl w.heap.size 3 i0 (.int .i64 0) 1 8 Tryz.underlying34 hi hz0 hz1 hz2 rfl (by decide) _ k _ rfl ((HO.out.alloc _).alloc _) ⟨wr.heap.size + 1, 0, none⟩ 1 1 [.int .i64 y2] rfl rfl (cell_two_new _ _ _ _) (int_one y2) (by unfold maxLen; omega) (by omega) (by simp; omega) ?_); intro v' w2 hown' hgrow' hnil'; clear hnil')
        have hown2 : w2.ownsRow w.heap.size 3 1 v' (k + 1) (ivs (Rd.byL (l.take (j + 1)) y1)) := by
          rw [HB.out]
          have h := hown'
          unfold ivs at h ⊢
          rw [List.map_append]; exact h
        have HO2 := Lib.hid hown2
        have HU2 := Lib.hid (((HU.out.alloc _).alloc _).grown hgrow' (fun g hg => (HO.out.lt g hg).1))
        clear hown2 hown' hgrow'
        go_roundw
        case rel => exact ⟨j + 1, k + 1, by go_num, by omega, HU2.out, Lib.hid (by rw [HB.out, List.length_append, ← HK.out]; rfl), HO2.out⟩
        case measure => simp [intOf]; omega
      · rw [if_neg hxy] at HB
        have q1 : (y1 == x) = false := by simpa using hxy
        go_wp2_with fail
        go_roundw
        case rel => exact ⟨j + 1, k, by go_num, by omega, HU.out.alloc _, Lib.hid (by rw [HB.out]; exact HK.out), by rw [HB.out]; exact HO.out.alloc _⟩
        case measure => simp [intOf]; omega
    · obtain rfl : j = n := by omega
      have htk : l.take j = l := by rw [HN.out, List.take_length]
      rw [htk] at hown HK
      obtain ⟨av, q5, rfl⟩ := owns_shape' hown
      have HO := Lib.hid hown
      have HU := Lib.hid hu
      clear hown hu htk
      go_wp2_with fail
      go_ret
      have hk := HK.out
      subst hk
      exact ⟨av, q5, rfl, HO.out, HU.out⟩

set_option maxHeartbeats 1000000 in
theorem by_in {w : World} {B p : Nat} {s : Sy.Lts} (x : Int) (h : GraphAt w B s) (hR : Sy.Right s) (hp : p < s.n.toNat) :
    Calls Tryz.prog 50 #[.pointer (some ⟨B, 0, none⟩), .int .i64 (p : Nat), .int .i64 x] w (GotInts w (Rd.byL (Sy.steps s p) x)) := by
  have HE := Lib.hid (each_in h hR hp)
  have HL := Lib.hid (steps_len hR p)
  clear h hp
  go_enter Tryz.func50, Tryz.ntmps50
  go_wp2_with (first
    | (go_at_call 116; refine HE.out.mono ?_; rintro r w1 ⟨v, rfl, hu1, hv⟩; (have hw := with_any x hv HL.out); (obtain ⟨ao, cap, g, off, rfl, -, -⟩ := hv); (have HW := Lib.hid hw); (have HU1 := Lib.hid hu1); clear hw hu1)
    | (go_at_call 123; refine HW.out.mono ?_; rintro r w2 ⟨a2, c2, rfl, ho2, hu2⟩))
  go_ret
  exact ⟨a2, c2, rfl, owns_base ho2 HU1.out.size, HU1.out.trans hu2⟩

/-- Steps that were answered, in new memory. -/
def GotSteps (w : World) (l : List (Int × Int)) (r : Ending) (w' : World) : Prop :=
  ∃ ao cap, r = .returned (.slice ao l.length cap) ∧ w'.ownsRow w.heap.size 88 2 (.slice ao l.length cap) l.length (cells2 l) ∧ Up w w'

set_option maxHeartbeats 1000000 in
theorem out_in {w : World} {B p : Nat} {s : Sy.Lts} (h : GraphAt w B s) (hR : Sy.Right s) (hp : p < s.n.toNat) :
    Calls Tryz.prog 49 #[.pointer (some ⟨B, 0, none⟩), .int .i64 (p : Nat)] w (GotSteps w (Sy.steps s p)) := by
  have HE := Lib.hid (each_in h hR hp)
  have HL := Lib.hid (steps_len hR p)
  clear h hp
  go_enter Tryz.func49, Tryz.ntmps49
  go_wp2_with (first
    | (go_at_call 116; refine HE.out.mono ?_; rintro r w1 ⟨v, rfl, hu1, hv⟩; (have hw := clone_steps hv HL.out); (obtain ⟨ao, cap, g, off, rfl, -, -⟩ := hv); (have HW := Lib.hid hw); (have HU1 := Lib.hid hu1); clear hw hu1)
    | (go_at_call 122; refine HW.out.mono ?_; rintro r w2 ⟨v2, rfl, ho2, hu2⟩; obtain ⟨a2, c2, rfl⟩ := owns_shape' ho2))
  go_ret
  exact ⟨a2, c2, rfl, owns_base ho2 HU1.out.size, HU1.out.trans hu2⟩

theorem gotInts_lst {w : World} {b : Nat} {v : Value} {l : List Int} (h : w.ownsRow b 3 1 v l.length (ivs l)) : Lst w v l := by
  rcases owns_cases h with ⟨rfl, h0, _⟩ | ⟨g, cap, rfl, hr, _⟩
  · have : l = [] := List.eq_nil_of_length_eq_zero h0
    subst this
    exact ⟨none, 0, 0, 0, rfl, fun h => by simp at h, fun i hi => by simp at hi⟩
  · exact ⟨_, _, g, 0, rfl, fun _ => rfl, fun i hi => by rw [Nat.zero_add]; exact hr.cell (by simp [ivs, hi])⟩

set_option maxHeartbeats 8000000 in
set_option maxRecDepth 100000 in
theorem met_any {w : World} {B p q : Nat} {s : Sy.Lts} {c : List Nat} {cv : Value} (h : GraphAt w B s) (hR : Sy.Right s) (hp : p < s.n.toNat) (hq : q < s.n.toNat) (hc : Lst w cv (c.map Int.ofNat)) (hcl : c.length = s.n.toNat) :
    Calls Tryz.prog 13 #[.pointer (some ⟨B, 0, none⟩), cv, .int .i64 (p : Nat), .int .i64 (q : Nat)] w fun r w' => r = .returned (.bool (Rd.meets s c p q)) ∧ Up w w' := by
  have HO := Lib.hid (out_in h hR hp)
  have HB : Hid (∀ W x, Up w W → Calls Tryz.prog 50 #[.pointer (some ⟨B, 0, none⟩), .int .i64 (q : Nat), .int .i64 x] W (GotInts W (Rd.byL (Sy.steps s q) x))) := Lib.hid (fun W x hu => by_in x (h.up hu) hR hq)
  have HSO := Lib.hid (steps_ok hR p)
  have HSQ := Lib.hid (steps_ok hR q)
  have HLP := Lib.hid (steps_len hR p)
  have HLQ := Lib.hid (steps_len hR q)
  have HN1 : Hid (c.length ≤ 1000) := Lib.hid (by have := hR.n1; omega)
  have HCL := Lib.hid hcl
  obtain ⟨bo, cap2, g2, off2, rfl, hb, hy⟩ := hc
  obtain ⟨m, hm⟩ : ∃ m, m = (c.map Int.ofNat).length := ⟨_, rfl⟩
  rw [← hm] at hb ⊢
  have HM : Hid (m = c.length) := Lib.hid (by rw [hm, List.length_map])
  have HY : Hid (∀ i, i < c.length → w.cell? ⟨g2, off2 + i, none⟩ = some (.int .i64 ((c.getD i 0 : Nat) : Int))) := Lib.hid (fun i hi => at_nat hy hi)
  have HBB := Lib.hid hb
  have hm1 : m ≤ 1000 := by rw [HM.out]; exact HN1.out
  clear h hR hp hq hcl hb hy hm
  go_enter Tryz.func13, Tryz.ntmps13
  go_wp2_with (go_at_call 49; refine HO.out.mono ?_; rintro r w1 ⟨ao, cap, rfl, ho1, hu1⟩)
  obtain ⟨ao', cap', g, off, he, ha, hx⟩ := owns_ls2 ho1
  simp only [Value.slice.injEq, true_and] at he
  obtain ⟨rfl, rfl⟩ := he
  obtain ⟨n, hn⟩ : ∃ n, n = (Sy.steps s p).length := ⟨_, rfl⟩
  rw [← hn] at ha ⊢
  have HA := Lib.hid ha
  have HX := Lib.hid hx
  have hnl : n ≤ 1000000 := by rw [hn]; exact HLP.out
  have HN := Lib.hid hn
  have HU1 := Lib.hid hu1
  clear ha hx hn hu1 ho1
  go_wp2_with fail
  go_loopw [18] (fun i wo => ∃ j : Nat, i = .int .i64 j ∧ j ≤ n ∧ Up w1 wo ∧ Hid (Rd.metTo s c p q j)) (fun i _ => n - (intOf i).toNat)
  case atStart => exact ⟨0, rfl, Nat.zero_le _, Up.refl _, Lib.hid (fun j hj => by omega)⟩
  case round =>
    obtain ⟨j, rfl, hj, hu, HMT⟩ := hrel
    rename World => wo
    by_cases hlt : j < n
    · obtain rfl := HA.out (by omega)
      have hjl : j < (Sy.steps s p).length := by rw [← HN.out]; exact hlt
      obtain ⟨x, hxx⟩ : ∃ x, (Sy.steps s p).getD j (0, 0) = x := ⟨_, rfl⟩
      have hok := HSO.out x (by rw [← hxx, ← getD_of (0, 0) hjl]; exact List.getElem_mem hjl)
      have hcc := HX.out j hjl
      rw [hxx] at hcc
      have HXX := Lib.hid hxx
      obtain ⟨x1, x2⟩ := x
      obtain ⟨z, hz⟩ : ∃ z : Nat, x2 = (z : Int) := ⟨x2.toNat, by have := hok.2.2.1; simp only at this; omega⟩
      subst hz
      simp only at hcc hok
      have hzm : z < m := by rw [HM.out, HCL.out]; omega
      have hmp : 0 < m := by omega
      obtain rfl := HBB.out hmp
      have hyz := HY.out z (by rw [← HM.out]; exact hzm)
      obtain ⟨k, hk⟩ : ∃ k, c.getD z 0 = k := ⟨_, rfl⟩
      rw [hk] at hyz
      have HKK := Lib.hid hk
      have d0 := hu.cell hcc.1
      have d1 := hu.cell hcc.2
      have HUW := Lib.hid hu
      have HUU := Lib.hid (HU1.out.trans hu)
      obtain ⟨ys, hys⟩ : ∃ ys, ys = Rd.byL (Sy.steps s q) x1 := ⟨_, rfl⟩
      have HYS := Lib.hid hys
      have HYM : Hid (∀ y ∈ ys, 0 ≤ y ∧ y < (m : Int)) := Lib.hid (fun y hy => by
        rw [hys] at hy
        have := HSQ.out _ (Rd.byL_mem hy)
        simp only at this
        rw [HM.out, HCL.out]
        exact ⟨this.2.2.1, this.2.2.2⟩)
      have HYL : Hid (ys.length ≤ 1000000) := Lib.hid (by rw [hys]; exact Nat.le_trans (Rd.byL_len _ _) HLQ.out)
      have HBY := Lib.hid (HB.out _ x1 (HUU.out.alloc (.cells #[.int .i64 x1, .int .i64 (z : Nat)] 88)))
      rw [← hys] at HBY
      clear hok hxx hjl hk hys hu
      go_wp2_with (go_at_call 50; refine HBY.out.mono ?_; rintro r w2 ⟨bo2, cap4, rfl, ho2, hu2⟩)
      obtain ⟨bo', cap'', g4, off4, he, ha4, hx4⟩ := gotInts_lst ho2
      simp only [Value.slice.injEq, true_and] at he
      obtain ⟨rfl, rfl⟩ := he
      have hst := heap_alloc_new wo (.cells #[.int .i64 x1, .int .i64 (z : Nat)] 88)
      have HST := Lib.hid ((hu2.block _ (by simp)).trans hst)
      have HU2 := Lib.hid ((HUW.out.alloc (.cells #[.int .i64 x1, .int .i64 (z : Nat)] 88)).trans hu2)
      obtain ⟨m2, hm2⟩ : ∃ m2, m2 = ys.length := ⟨_, rfl⟩
      rw [← hm2] at ha4 ⊢
      have HA4 := Lib.hid ha4
      have HX4 := Lib.hid hx4
      have hml : m2 ≤ 1000000 := by rw [hm2]; exact HYL.out
      have HM2 := Lib.hid hm2
      clear ha4 hx4 hm2 ho2 hu2 hst d0 d1 HBY
      go_wp2_with fail
      go_loopw [11, 28] (fun b i wr => ∃ (t : Bool) (e : Nat), b = .bool t ∧ i = .int .i64 e ∧ e ≤ m2 ∧ Up w2 wr ∧ Hid (t = Rd.found c (ys.take e) k)) (fun _ i _ => m2 - (intOf i).toNat)
      case atStart => exact ⟨false, 0, rfl, rfl, Nat.zero_le _, Up.refl _, Lib.hid rfl⟩
      case round =>
        obtain ⟨t, e, rfl, rfl, he, hue, HT⟩ := hrel
        by_cases hlt2 : e < m2
        · obtain rfl := HA4.out (by omega)
          have hel : e < ys.length := by rw [← HM2.out]; exact hlt2
          have HF := Lib.hid (Rd.found_take c ys k e hel)
          obtain ⟨y, hye⟩ : ∃ y, ys.getD e 0 = y := ⟨_, rfl⟩
          have hyo := HYM.out y (by rw [← hye, ← getD_of 0 hel]; exact List.getElem_mem hel)
          have hcy := HX4.out e hel
          rw [hye] at hcy HF
          obtain ⟨u, hu⟩ : ∃ u : Nat, y = (u : Int) := ⟨y.toNat, by omega⟩
          subst hu
          have hum : u < m := by omega
          have hyu := HY.out u (by rw [← HM.out]; exact hum)
          obtain ⟨ku, hku⟩ : ∃ ku, c.getD u 0 = ku := ⟨_, rfl⟩
          rw [hku] at hyu
          rw [Int.toNat_natCast, hku, ← HT.out] at HF
          have hall := HU1.out.trans (HU2.out.trans hue)
          have c1 := hue.cell hcy
          have c2 := hall.cell hyu
          have c3 := hall.cell hyz
          have hstq := (hue.block _ (lt_of_block' HST.out)).trans HST.out
          obtain ⟨c4, c5⟩ := two_cells hstq
          have HUE := Lib.hid hue
          clear hye hyo hcy hyu hku hall hue hstq hel
          cases t
          · by_cases hkk : ku = k
            · subst hkk
              have q1 : ((ku : Int) == (ku : Int)) = true := by simp
              go_wp2_with fail
              go_quiet (fail)
              go_wp2_with fail
              go_roundw
              case rel => exact ⟨true, e + 1, rfl, by go_num, by omega, HUE.out.drewN _, Lib.hid (by rw [HF.out]; simp)⟩
              case measure => simp [intOf]; omega
            · have q1 : ((ku : Int) == (k : Int)) = false := by simp; omega
              go_wp2_with fail
              go_quiet (fail)
              go_wp2_with fail
              go_roundw
              case rel => exact ⟨false, e + 1, rfl, by go_num, by omega, HUE.out.drewN _, Lib.hid (by rw [HF.out]; simp [hkk])⟩
              case measure => simp [intOf]; omega
          · go_wp2_with fail
            go_quiet (fail)
            go_wp2_with fail
            go_roundw
            case rel => exact ⟨true, e + 1, rfl, by go_num, by omega, HUE.out.drewN _, Lib.hid (by rw [HF.out]; simp)⟩
            case measure => simp [intOf]; omega
        · obtain rfl : e = m2 := by omega
          have htk : ys.take e = ys := by rw [HM2.out, List.take_length]
          rw [htk] at HT
          have HUE := Lib.hid (HU2.out.trans hue)
          clear hue
          cases t
          · go_wp2_with fail
            go_ret
            refine ⟨ret_bool (Rd.meets_not (j := j) (by rw [← HN.out]; exact hlt) ?_).symm, HU1.out.trans HUE.out⟩
            rw [HXX.out]
            simp only [Int.toNat_natCast]
            rw [HKK.out, ← HYS.out]
            exact HT.out.symm
          · go_wp2_with fail
            go_roundw
            case rel => exact ⟨j + 1, by go_num, by omega, HUE.out, Lib.hid (fun i hi => by
                by_cases hij : i = j
                · subst hij
                  rw [HXX.out]
                  simp only [Int.toNat_natCast]
                  rw [HKK.out, ← HYS.out]
                  exact HT.out.symm
                · exact HMT.out i (by omega))⟩
            case measure => simp [intOf]; omega
    · obtain rfl : j = n := by omega
      go_wp2_with fail
      go_ret
      exact ⟨ret_bool (Rd.meets_all (by rw [← HN.out]; exact HMT.out)).symm, HU1.out.trans hu⟩

end Go.Proofs.YtpmdjicaefmbnaaGreatDoor
