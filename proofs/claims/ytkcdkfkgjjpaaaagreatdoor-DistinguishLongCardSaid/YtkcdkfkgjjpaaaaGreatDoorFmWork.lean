/- Walks: formula.parts, the closure of depth, work at integers, depth, Depth. -/
import Derived.Test.YtkcdkfkgjjpaaaaGreatDoorDtHolds
import Derived.Test.YtkcdkfkgjjpaaaaGreatDoorDtOf
import Derived.WalkSmall
namespace Go.Proofs.YtkcdkfkgjjpaaaaGreatDoor
open Go.RowKit Go.Maps
set_option linter.unusedVariables false
set_option linter.unusedSimpArgs false

set_option maxHeartbeats 2000000 in
theorem parts_any (a b : Int) (w : World) : Calls Tryz.prog 185 #[.agg #[.int .i64 a, .int .i64 b]] w fun r w' => r = .returned (.int .i64 (Dt.arity (a, b))) ∧ Up w w' := by
  have HU : Hid (∀ o, Up w (w.alloc o)) := Lib.hid (fun o => (Up.refl w).alloc o)
  obtain ⟨k, hk⟩ : ∃ k, k = Dt.arity (a, b) := ⟨_, rfl⟩
  rw [← hk]
  have HK := Lib.hid hk
  clear hk
  by_cases h3 : a = 3
  · subst h3
    by_cases h0 : b = 0
    · subst h0
      have HV : Hid (k = 2) := Lib.hid (by rw [HK.out]; decide)
      go_enter Tryz.func185, Tryz.ntmps185
      go_wp2_with fail
      go_ret
      exact ⟨ret_intD HV.out.symm, HU.out _⟩
    · have q1 : decide (b = 0) = false := by simpa using h0
      have q2 : (b == 0) = false := by simpa using h0
      have HV : Hid (k = -1) := Lib.hid (by rw [HK.out]; simp [Dt.arity, h0])
      clear h0
      go_enter Tryz.func185, Tryz.ntmps185
      go_wp2_with fail
      go_ret
      exact ⟨ret_intD HV.out.symm, HU.out _⟩
  · have a1 : decide (a = 3) = false := by simpa using h3
    have a2 : (a == 3) = false := by simpa using h3
    by_cases h2 : a = 2
    · subst h2
      by_cases h0 : b = 0
      · subst h0
        have HV : Hid (k = 1) := Lib.hid (by rw [HK.out]; decide)
        clear h3
        go_enter Tryz.func185, Tryz.ntmps185
        go_wp2_with fail
        go_ret
        exact ⟨ret_intD HV.out.symm, HU.out _⟩
      · have q1 : decide (b = 0) = false := by simpa using h0
        have q2 : (b == 0) = false := by simpa using h0
        have HV : Hid (k = -1) := Lib.hid (by rw [HK.out]; simp [Dt.arity, h0])
        clear h0 h3
        go_enter Tryz.func185, Tryz.ntmps185
        go_wp2_with fail
        go_ret
        exact ⟨ret_intD HV.out.symm, HU.out _⟩
    · have b1 : decide (a = 2) = false := by simpa using h2
      have b2 : (a == 2) = false := by simpa using h2
      by_cases h1 : a = 1
      · subst h1
        by_cases h0 : b = 0
        · subst h0
          have HV : Hid (k = 0) := Lib.hid (by rw [HK.out]; decide)
          clear h3 h2
          go_enter Tryz.func185, Tryz.ntmps185
          go_wp2_with fail
          go_ret
          exact ⟨ret_intD HV.out.symm, HU.out _⟩
        · have q1 : decide (b = 0) = false := by simpa using h0
          have q2 : (b == 0) = false := by simpa using h0
          have HV : Hid (k = -1) := Lib.hid (by rw [HK.out]; simp [Dt.arity, h0])
          clear h0 h3 h2
          go_enter Tryz.func185, Tryz.ntmps185
          go_wp2_with fail
          go_ret
          exact ⟨ret_intD HV.out.symm, HU.out _⟩
      · have c1 : decide (a = 1) = false := by simpa using h1
        have c2 : (a == 1) = false := by simpa using h1
        by_cases h4 : a = 4
        · subst h4
          by_cases h0 : 0 ≤ b
          · have q1 : decide (0 ≤ b) = true := by simpa using h0
            by_cases h5 : b < 201
            · have q2 : decide (b < 201) = true := by simpa using h5
              have HV : Hid (k = 1) := Lib.hid (by rw [HK.out]; simp [Dt.arity, h0, h5])
              clear h0 h3 h2 h1 h5
              go_enter Tryz.func185, Tryz.ntmps185
              go_wp2_with fail
              go_ret
              exact ⟨ret_intD HV.out.symm, HU.out _⟩
            · have q2 : decide (b < 201) = false := by simpa using h5
              have HV : Hid (k = -1) := Lib.hid (by rw [HK.out]; simp [Dt.arity, h0, h5])
              clear h0 h3 h2 h1 h5
              go_enter Tryz.func185, Tryz.ntmps185
              go_wp2_with fail
              go_ret
              exact ⟨ret_intD HV.out.symm, HU.out _⟩
          · have q1 : decide (0 ≤ b) = false := by simpa using h0
            have HV : Hid (k = -1) := Lib.hid (by rw [HK.out]; simp [Dt.arity, h0])
            clear h0 h3 h2 h1
            go_enter Tryz.func185, Tryz.ntmps185
            go_wp2_with fail
            go_ret
            exact ⟨ret_intD HV.out.symm, HU.out _⟩
        · have d1 : decide (a = 4) = false := by simpa using h4
          have d2 : (a == 4) = false := by simpa using h4
          have HV : Hid (k = -1) := Lib.hid (by rw [HK.out]; simp [Dt.arity, h1, h2, h3, h4])
          clear h3 h2 h1 h4
          go_enter Tryz.func185, Tryz.ntmps185
          go_wp2_with fail
          go_ret
          exact ⟨ret_intD HV.out.symm, HU.out _⟩

/-- The greatest of some numbers. -/
def most0 (l : List Int) : Int := l.foldl max 0

theorem most0_take {l : List Int} {j : Nat} (h : j < l.length) : most0 (l.take (j + 1)) = max (most0 (l.take j)) (l.getD j 0) := by
  unfold most0
  rw [List.take_succ_eq_append_getElem h, List.foldl_append]
  simp [List.getD, h]

theorem most0_le {K : Int} (hK : 0 ≤ K) : ∀ (l : List Int), (∀ z ∈ l, z ≤ K) → most0 l ≤ K := by
  intro l
  refine Sy.snoc_ind (p := fun l => (∀ z ∈ l, z ≤ K) → most0 l ≤ K) (fun _ => by simpa [most0] using hK) (fun l z ih h => ?_) l
  unfold most0 at *
  rw [List.foldl_append]
  have h1 := ih (fun y hy => h y (by simp [hy]))
  have h2 := h z (by simp)
  simp only [List.foldl_cons, List.foldl_nil]
  omega

theorem most0_ge : ∀ (l : List Int), 0 ≤ most0 l := by
  intro l
  refine Sy.snoc_ind (p := fun l => 0 ≤ most0 l) (by simp [most0]) (fun l z ih => ?_) l
  unfold most0 at *
  rw [List.foldl_append]
  simp only [List.foldl_cons, List.foldl_nil]
  omega

set_option maxHeartbeats 4000000 in
set_option maxRecDepth 100000 in
theorem depth1_any (a b : Int) {v : Value} {l : List Int} {w : World} (h : Lst w v l) (hl : l.length ≤ 5000) (hb : ∀ z ∈ l, z ≤ 1000000) :
    Calls Tryz.prog 147 #[.agg #[.int .i64 a, .int .i64 b], v] w fun r w' => r = .returned (.int .i64 (Dt.deep (a, b) l)) ∧ Up w w' := by
  obtain ⟨ao, cap, g, off, rfl, ha, hx⟩ := h
  obtain ⟨m, hm⟩ : ∃ m, m = l.length := ⟨_, rfl⟩
  rw [← hm] at ha hl ⊢
  have HA := Lib.hid ha
  have HX := Lib.hid hx
  have HM := Lib.hid hm
  have HB := Lib.hid hb
  have hub := (Up.refl w).alloc (.cells #[.int .i64 a, .int .i64 b] 71)
  obtain ⟨x0, x1⟩ := two_cells (heap_alloc_new w (.cells #[.int .i64 a, .int .i64 b] 71))
  have HU := Lib.hid hub
  have hbn : most0 l ≤ 1000000 := most0_le (by omega) l hb
  have hbp := most0_ge l
  have HD : Hid (Dt.deep (a, b) l = most0 l + (if a = 4 then 1 else 0)) := Lib.hid rfl
  clear ha hx hm hb
  go_enter Tryz.func147, Tryz.ntmps147
  go_wp2_with fail
  go_loopw [10, 5] (fun i z wr => ∃ j : Nat, i = .int .i64 j ∧ j ≤ m ∧ z = .int .i64 (most0 (l.take j)) ∧ wr = w.alloc (.cells #[.int .i64 a, .int .i64 b] 71)) (fun i _ _ => m - (intOf i).toNat)
  case atStart => exact ⟨0, rfl, Nat.zero_le _, rfl, rfl⟩
  case round =>
    obtain ⟨j, rfl, hj, rfl, rfl⟩ := hrel
    by_cases hlt : j < m
    · obtain rfl := HA.out (by omega)
      have hjl : j < l.length := by rw [← HM.out]; exact hlt
      have c := HU.out.cell (HX.out j hjl)
      have hstep := most0_take hjl
      obtain ⟨z, hz⟩ : ∃ z, z = l.getD j 0 := ⟨_, rfl⟩
      obtain ⟨y, hy⟩ : ∃ y, y = most0 (l.take j) := ⟨_, rfl⟩
      rw [← hz] at c hstep
      rw [← hy] at hstep ⊢
      have HS := Lib.hid hstep
      clear hstep hz hy hjl
      go_wp2_with fail
      go_roundw
      case rel => exact ⟨j + 1, by go_num, by omega, by rw [HS.out], trivial⟩
      case measure => simp [intOf]; omega
    · obtain rfl : j = m := by omega
      have htk : l.take j = l := by rw [HM.out, List.take_length]
      rw [htk]
      obtain ⟨y, hy⟩ : ∃ y, y = most0 l := ⟨_, rfl⟩
      rw [← hy] at hbn hbp ⊢
      have HY := Lib.hid hy
      clear htk hy
      by_cases h4 : a = 4
      · subst h4
        go_wp2_with fail
        go_ret
        exact ⟨ret_intD (by rw [HD.out, HY.out]; simp), HU.out⟩
      · have d1 : decide (a = 4) = false := by simpa using h4
        have d2 : (a == 4) = false := by simpa using h4
        have H4 := Lib.hid h4
        clear h4
        go_wp2_with fail
        go_ret
        exact ⟨ret_intD (by rw [HD.out, HY.out, if_neg H4.out]; simp), HU.out⟩

/-- The first elements of an owned slice. -/
theorem owns_take {w : World} {base : Nat} {e : TypeId} {size g cap n a : Nat} {xs : List Value} (ha : a ≤ n) (h : w.ownsRow base e size (.slice (some ⟨g, 0, none⟩) n cap) n xs) :
    w.ownsRow base e size (.slice (some ⟨g, 0, none⟩) a cap) a (xs.take (a * size)) := by
  obtain ⟨hx, h2⟩ := h
  rcases h2 with ⟨h0, _⟩ | ⟨g', cap', cur, hv, hg, hh, hn, hcap, hsz, htake⟩
  · cases h0
  · cases hv
    have hm := Nat.mul_le_mul_right size ha
    refine ⟨by rw [List.length_take]; omega, .inr ⟨g, cap, cur, rfl, hg, hh, by omega, hcap, hsz, ?_⟩⟩
    have h3 : (cur.toList.take (n * size)).take (a * size) = xs.take (a * size) := by rw [htake]
    rw [List.take_take, Nat.min_eq_left hm] at h3
    exact h3

theorem exec_step {β : Type} {f : Dt.Nd → List β → β} {x : Dt.Nd} {r : List Dt.Nd} {st : List β} {o : List β} (h : Dt.exec f (x :: r) st = some o) :
    ∃ k : Nat, Dt.arity x = (k : Int) ∧ k ≤ st.length ∧ k ≤ 2 ∧ Dt.exec f r (st.take (st.length - k) ++ [f x (st.drop (st.length - k))]) = some o := by
  rw [Dt.exec] at h
  split at h
  · cases h
  · rename_i hn
    have h2 : Dt.arity x ≤ 2 := by
      unfold Dt.arity
      split <;> (try split) <;> (try split) <;> (try split) <;> (try split) <;> omega
    refine ⟨(Dt.arity x).toNat, by omega, by omega, by omega, h⟩

theorem lst_drop {W : World} {g m cap at_ : Nat} {st : List Int} (hc : ∀ i, i < st.length → W.cell? ⟨g, i, none⟩ = some (.int .i64 (st.getD i 0))) (hm : m = st.length - at_) (ha : at_ ≤ st.length) : Lst W (.slice (some ⟨g, at_, none⟩) m cap) (st.drop at_) := by
  refine ⟨_, cap, g, at_, by rw [List.length_drop, hm], fun _ => rfl, fun i hi => ?_⟩
  rw [List.length_drop] at hi
  have h := hc (at_ + i) (by omega)
  rw [h]
  simp [List.getD, show at_ + i < st.length by omega]

theorem lst_arg {W : World} {g a k cp : Nat} {st : List Int} (hc : ∀ i, i < st.length → W.cell? ⟨g, i, none⟩ = some (.int .i64 (st.getD i 0))) (hm : a + k = st.length) (hk : a + k ≤ cp) :
    Lst W (.slice (if cp = a then some ⟨g, 0, none⟩ else some ⟨g, a, none⟩) k (cp - a)) (st.drop a) := by
  by_cases e : cp = a
  · obtain rfl : k = 0 := by omega
    rw [List.drop_eq_nil_of_le (by omega)]
    exact ⟨_, _, 0, 0, rfl, fun h => by simp at h, fun i hi => by simp at hi⟩
  · rw [if_neg e]
    exact lst_drop hc (by omega) (by omega)

theorem lst_none {W : World} {ao : Option Addr} {cap : Nat} : Lst W (.slice ao 0 cap) [] := ⟨ao, cap, 0, 0, rfl, fun h => by simp at h, fun i hi => by simp at hi⟩

set_option maxHeartbeats 8000000 in
set_option maxRecDepth 100000 in
theorem work_int {w : World} {v : Value} {l : List Dt.Nd} (h : Ls2 w v l) (hl : l.length ≤ 5000) {d : Int} (he : Dt.exec Dt.deep l [] = some [d]) :
    Calls Tryz.prog 146 #[v, .func (.func 147) #[] #[]] w fun r w' => r = .returned (.tuple #[.int .i64 d, .bool true]) ∧ Up w w' := by
  obtain ⟨i0, hi, hz0, hz1, hz2⟩ := info_parts Tryz.intsInfo
  obtain ⟨ao, cap, g, off, rfl, ha, hx⟩ := h
  obtain ⟨n, hn⟩ : ∃ n, n = l.length := ⟨_, rfl⟩
  rw [← hn] at ha hl ⊢
  have HA := Lib.hid ha
  have HX := Lib.hid hx
  have HN := Lib.hid hn
  have HE := Lib.hid he
  have q0 : decide ((5000 : Int) < (n : Int)) = false := by simp; omega
  clear ha hx hn he
  go_enter Tryz.func146, Tryz.ntmps146
  go_wp2_with fail
  go_loopw [18, 7] (fun i sv wr => ∃ (j : Nat) (st : List Int), i = .int .i64 j ∧ j ≤ n ∧ st.length ≤ j ∧ Up w wr ∧ wr.ownsRow w.heap.size 3 1 sv st.length (ivs st) ∧ Hid (Dt.exec Dt.deep (l.drop j) st = some [d]) ∧ Hid (∀ z ∈ st, z ≤ j)) (fun i _ _ => n - (intOf i).toNat)
  case atStart => exact ⟨0, [], rfl, Nat.zero_le _, Nat.zero_le _, Up.refl _, World.ownsRow_nil _ _ _ _, Lib.hid (by rw [List.drop_zero]; exact HE.out), Lib.hid (fun z hz => by cases hz)⟩
  case round =>
    obtain ⟨j, st, rfl, hj, hsl, hu, hown, HX2, HB⟩ := hrel
    by_cases hlt : j < n
    · obtain rfl := HA.out (by omega)
      have hjl : j < l.length := by rw [← HN.out]; exact hlt
      have hdrop : l.drop j = l.getD j (0, 0) :: l.drop (j + 1) := by rw [List.drop_eq_getElem_cons hjl]; simp [List.getD, hjl]
      have hcx := HX.out j hjl
      obtain ⟨x, hxe⟩ : ∃ x, x = l.getD j (0, 0) := ⟨_, rfl⟩
      rw [← hxe] at hdrop hcx
      have hex := HX2.out
      rw [hdrop] at hex
      obtain ⟨k, hk1, hk2, hk3, hnext⟩ := exec_step hex
      obtain ⟨x1, x2⟩ := x
      simp only at hcx
      have e0 := hu.cell hcx.1
      have e1 := hu.cell hcx.2
      obtain ⟨m, hm⟩ : ∃ m, m = st.length := ⟨_, rfl⟩
      have HP := fun W => Lib.hid (parts_any x1 x2 W)
      rw [hk1] at HP
      rw [← hm] at hown hk2 hsl hnext
      have p1 : decide ((k : Int) < 0) = false := by simp
      have p2 : decide ((m : Int) < (k : Int)) = false := by simp; omega
      obtain ⟨a, ha⟩ : ∃ a, m = a + k := ⟨m - k, by omega⟩
      subst ha
      have hat : a + k - k = a := by omega
      rw [hat] at hnext
      obtain ⟨y, hy⟩ : ∃ y, y = Dt.deep (x1, x2) (st.drop a) := ⟨_, rfl⟩
      rw [← hy] at hnext
      have hbb := HB.out
      have HC : Hid (∀ v2 W, Lst W v2 (st.drop a) → Calls Tryz.prog 147 #[.agg #[.int .i64 x1, .int .i64 x2], v2] W fun r w' => r = .returned (.int .i64 y) ∧ Up W w') := Lib.hid (fun v2 W hL => by
        rw [hy]; exact depth1_any x1 x2 hL (by rw [List.length_drop]; omega) (fun z hz => by have := hbb z (List.mem_of_mem_drop hz); omega))
      have hyb : y ≤ (j : Int) + 1 := by
        rw [hy]
        have h1 : most0 (st.drop a) ≤ (j : Int) := most0_le (by omega) _ (fun z hz => hbb z (List.mem_of_mem_drop hz))
        have h2 : Dt.deep (x1, x2) (st.drop a) = most0 (st.drop a) + (if x1 = 4 then 1 else 0) := rfl
        rw [h2]
        split <;> omega
      have HNX : Hid (Dt.exec Dt.deep (l.drop (j + 1)) (st.take a ++ [y]) = some [d]) := Lib.hid hnext
      have HB2 : Hid (∀ z ∈ st.take a ++ [y], z ≤ ((j + 1 : Nat) : Int)) := Lib.hid (fun z hz => by
        rcases List.mem_append.1 hz with h1 | h1
        · have := hbb z (List.mem_of_mem_take h1); push_cast; omega
        · rw [List.mem_singleton] at h1; rw [h1]; push_cast; omega)
      have HLN : Hid ((st.take a ++ [y]).length = a + 1) := Lib.hid (by rw [List.length_append, List.length_take, List.length_singleton]; omega)
      have hbx := heap_alloc_new wr (.cells #[.int .i64 x1, .int .i64 x2] 71)
      have hux := (Up.refl wr).alloc (.cells #[.int .i64 x1, .int .i64 x2] 71)
      have HBX := Lib.hid hbx
      have HUX := Lib.hid hux
      have HUW := Lib.hid hu
      have HM := Lib.hid hm
      have hws : w.heap.size ≤ wr.heap.size := hu.size
      have hal : a ≤ 5000 := by omega
      rcases owns_cases hown with ⟨hsv, hm0, hst⟩ | ⟨g7, cp, hsv, hrow, hmc, hcc, -⟩
      · obtain rfl : a = 0 := by omega
        obtain rfl : k = 0 := by omega
        obtain rfl : st = [] := List.eq_nil_of_length_eq_zero (by omega)
        subst hsv
        rw [List.drop_nil] at HC
        rw [List.take_nil, List.nil_append] at HNX HB2
        clear hown hbb hnext hex hdrop hcx hxe hjl hy hk1 hat HB HX2 hbx hux hu hm
        go_upto_region 12 with (go_at_call 185; (with_reducible refine (HP _).out.mono ?_); rintro r w2 ⟨rfl, hu2⟩)
        have hbx2 := (hu2.block _ (lt_of_block' HBX.out)).trans HBX.out
        obtain ⟨b0, b1⟩ := two_cells hbx2
        have hU2 : Up wr w2 := HUX.out.trans hu2
        have HNE : Hid ((Value.slice none 0 0).ownBlock ≠ some wr.heap.size) := Lib.hid (fun e => by simp [Value.ownBlock] at e)
        have hS0 := And.intro b0 b1
        refine wp_region_ord 11 [(0, true), (1, true), (2, true), (3, true), (4, true), (5, true), (6, true), (7, true), (8, false), (9, false), (10, false)] (fun w' => w'.cell? ⟨wr.heap.size, 0, none⟩ = some (.int .i64 x1) ∧ w'.cell? ⟨wr.heap.size, 1, none⟩ = some (.int .i64 x2)) (by kernel_rfl) (by kernel_rfl) (fun _ _ _ _ _ h => h) hS0 ?_
        have hU3 : Up wr w2.drew := hU2.drew
        have hS3 : w2.drew.cell? ⟨wr.heap.size, 0, none⟩ = some (.int .i64 x1) ∧ w2.drew.cell? ⟨wr.heap.size, 1, none⟩ = some (.int .i64 x2) := hS0
        generalize w2.drew = W3 at hU3 hS3 ⊢
        iterate 8
          refine WO.still rfl rfl (fun K hK => ?_)
          apply Exists.intro
          refine ⟨?_, hK _ ?_⟩
          · rintro w' ⟨s1, s2⟩
            go_simp
            first | done | rfl | exact ⟨rfl, rfl⟩ | (trace_state; sorry)
          clear hK K
        refine WO.act rfl rfl (fun K hK => ?_)
        go_simp
        refine (HC.out _ W3 lst_none).mono ?_
        rintro r w5 ⟨rfl, hu5⟩
        have hS5 := And.intro (hu5.cell hS3.1) (hu5.cell hS3.2)
        refine hK _ _ hS5 ?_
        clear hK K
        refine WO.act rfl rfl (fun K hK => ?_)
        go_simp
        have hu6 := (Up.refl w5).alloc (.cells #[.int .i64 y] 3)
        refine hK _ _ ?_ ?_
        · exact ⟨hu6.cell hS5.1, hu6.cell hS5.2⟩
        clear hK K
        refine WO.act rfl rfl (fun K hK => ?_)
        have hU5 : Up wr w5 := hU3.trans hu5
        refine wp_append_own (.tmp 39) (.tmp 46) 35 rfl w.heap.size 3 i0 (.int .i64 0) 1 8 Tryz.underlying35 hi hz0 hz1 hz2 rfl (by decide) (.slice none 0 0) 0 [] rfl (World.ownsRow_nil _ _ _ _) _ 1 1 [.int .i64 y] rfl rfl (one_new _ _ _) (int_one y) (by unfold maxLen; omega) (by omega) (by have := hU5.size; simp only [World.size_alloc]; omega) ?_
        intro v9 x9 hown9 hgrow9 hat9
        have hg9 : (w5.alloc (.cells #[.int .i64 y] 3)).grownBy x9 (Value.slice none 0 0).ownBlock := hgrow9
        refine hK _ _ ⟨grown_cell hg9 (hu6.cell hS5.1) HNE.out, grown_cell hg9 (hu6.cell hS5.2) HNE.out⟩ ?_
        clear hK K
        have HU9 : Hid (Up w x9) := Lib.hid (((HUW.out.trans hU5).alloc _).grown hg9 (fun b hb => by simp [Value.ownBlock] at hb))
        have HO9 : Hid (x9.ownsRow w.heap.size 3 1 v9 ([y]).length (ivs ([y]))) := Lib.hid (by
          exact hown9)
        clear hown9 hgrow9 hat9 hg9 hu6 hu5 hS5 hS3 hS0 b0 b1 hbx2 hu2 hU2 hU3 hU5
        refine WO.last rfl rfl (fun K hK => ?_)
        go_simp
        refine hK _ _ ?_
        clear hK K
        go_wp2_with fail
        go_roundw
        case rel => exact ⟨j + 1, [y], by go_num, by omega, by simp, HU9.out, HO9.out, HNX, HB2⟩
        case measure => simp [intOf]; omega
      · have HROW : Hid (∀ W, Up wr W → ∀ i, i < st.length → W.cell? ⟨g7, i, none⟩ = some (.int .i64 (st.getD i 0))) := Lib.hid (fun W hW i hi => hW.cell (hrow.cell (by simp [ivs, List.getD, hi])))
        rw [hsv] at hown
        have HOA := Lib.hid (owns_take (a := a) (by omega) hown)
        have hglt := (hown.lt g7 rfl).2
        subst hsv
        clear hrow hown hbb hnext hex hdrop hcx hxe hjl hy hk1 hat HB HX2 hbx hux hu hm
        go_upto_region 12 with (go_at_call 185; (with_reducible refine (HP _).out.mono ?_); rintro r w2 ⟨rfl, hu2⟩)
        have hbx2 := (hu2.block _ (lt_of_block' HBX.out)).trans HBX.out
        obtain ⟨b0, b1⟩ := two_cells hbx2
        have hU2 : Up wr w2 := HUX.out.trans hu2
        have HNE : Hid ((Value.slice (some ⟨g7, 0, none⟩) a cp).ownBlock ≠ some wr.heap.size) := Lib.hid (fun e => by
          simp only [Value.ownBlock, Option.some.injEq] at e
          omega)
        have hS0 := And.intro b0 b1
        have hacp : a ≤ cp := by omega
        have haak : (a : Int) ≤ (a : Int) + (k : Int) := by omega
        have hakc : a + k ≤ cp := by omega
        refine wp_region_ord 11 [(0, true), (1, true), (2, true), (3, true), (4, true), (5, true), (6, true), (7, true), (8, false), (9, false), (10, false)] (fun w' => w'.cell? ⟨wr.heap.size, 0, none⟩ = some (.int .i64 x1) ∧ w'.cell? ⟨wr.heap.size, 1, none⟩ = some (.int .i64 x2)) (by kernel_rfl) (by kernel_rfl) (fun _ _ _ _ _ h => h) hS0 ?_
        have hU3 : Up wr w2.drew := hU2.drew
        have hS3 : w2.drew.cell? ⟨wr.heap.size, 0, none⟩ = some (.int .i64 x1) ∧ w2.drew.cell? ⟨wr.heap.size, 1, none⟩ = some (.int .i64 x2) := hS0
        generalize w2.drew = W3 at hU3 hS3 ⊢
        iterate 8
          refine WO.still rfl rfl (fun K hK => ?_)
          apply Exists.intro
          refine ⟨?_, hK _ ?_⟩
          · rintro w' ⟨s1, s2⟩
            go_simp
            first | done | rfl | exact ⟨rfl, rfl⟩ | rw [if_pos hacp] | rw [if_pos haak] | rw [if_pos hakc] | (trace_state; sorry)
          clear hK K
        refine WO.act rfl rfl (fun K hK => ?_)
        go_simp
        refine (HC.out _ W3 (lst_arg (HROW.out W3 hU3) HM.out hakc)).mono ?_
        rintro r w5 ⟨rfl, hu5⟩
        have hS5 := And.intro (hu5.cell hS3.1) (hu5.cell hS3.2)
        refine hK _ _ hS5 ?_
        clear hK K
        refine WO.act rfl rfl (fun K hK => ?_)
        go_simp
        have hu6 := (Up.refl w5).alloc (.cells #[.int .i64 y] 3)
        refine hK _ _ ?_ ?_
        · exact ⟨hu6.cell hS5.1, hu6.cell hS5.2⟩
        clear hK K
        refine WO.act rfl rfl (fun K hK => ?_)
        have hU5 : Up wr w5 := hU3.trans hu5
        refine wp_append_own (.tmp 39) (.tmp 46) 35 rfl w.heap.size 3 i0 (.int .i64 0) 1 8 Tryz.underlying35 hi hz0 hz1 hz2 rfl (by decide) (.slice (some ⟨g7, 0, none⟩) a cp) a _ rfl ((hU5.owns HOA.out).alloc _) _ 1 1 [.int .i64 y] rfl rfl (one_new _ _ _) (int_one y) (by unfold maxLen; omega) (by omega) (by have := hU5.size; simp only [World.size_alloc]; omega) ?_
        intro v9 x9 hown9 hgrow9 hat9
        have hg9 : (w5.alloc (.cells #[.int .i64 y] 3)).grownBy x9 (Value.slice (some ⟨g7, 0, none⟩) a cp).ownBlock := hgrow9
        refine hK _ _ ⟨grown_cell hg9 (hu6.cell hS5.1) HNE.out, grown_cell hg9 (hu6.cell hS5.2) HNE.out⟩ ?_
        clear hK K
        have hsz9 : w.heap.size ≤ g7 := by
          have := (HOA.out.lt g7 rfl).1
          exact this
        have HU9 : Hid (Up w x9) := Lib.hid (((HUW.out.trans hU5).alloc _).grown hg9 (fun b hb => by
          simp only [Value.ownBlock, Option.some.injEq] at hb
          rw [← hb]; exact hsz9))
        have HO9 : Hid (x9.ownsRow w.heap.size 3 1 v9 (st.take a ++ [y]).length (ivs (st.take a ++ [y]))) := Lib.hid (by
          rw [HLN.out]
          have e : ivs (st.take a ++ [y]) = (ivs st).take (a * 1) ++ [.int .i64 y] := by
            rw [Nat.mul_one]; simp [ivs, List.map_take]
          rw [e]
          exact hown9)
        clear hown9 hgrow9 hat9 hg9 hu6 hu5 hS5 hS3 hS0 b0 b1 hbx2 hu2 hU2 hU3 hU5
        refine WO.last rfl rfl (fun K hK => ?_)
        go_simp
        refine hK _ _ ?_
        clear hK K
        go_wp2_with fail
        go_roundw
        case rel => exact ⟨j + 1, st.take a ++ [y], by go_num, by omega, by rw [HLN.out]; omega, HU9.out, HO9.out, HNX, HB2⟩
        case measure => simp [intOf]; omega
    · obtain rfl : j = n := by omega
      have hex := HX2.out
      rw [List.drop_eq_nil_of_le (by rw [HN.out]; exact Nat.le_refl _), Dt.exec, Option.some.injEq] at hex
      subst hex
      rcases owns_cases hown with ⟨_, h0, _⟩ | ⟨g7, cp, hsv, hrow, hmc, hcc, -⟩
      · simp at h0
      · have c0 := hrow.cell (i := 0) (u := .int .i64 d) (by simp [ivs])
        subst hsv
        have HU := Lib.hid hu
        clear hrow hown HX2 HB hu
        go_wp2_with fail
        go_ret2
        exact ⟨rfl, HU.out⟩

set_option maxHeartbeats 1000000 in
theorem depth_any {w : World} {v : Value} {l : List Dt.Nd} (h : Ls2 w v l) (hl : l.length ≤ 5000) {d : Int} (he : Dt.exec Dt.deep l [] = some [d]) :
    Calls Tryz.prog 98 #[v] w fun r w' => r = .returned (.tuple #[.int .i64 d, .bool true]) ∧ Up w w' := by
  have HW := Lib.hid (work_int h hl he)
  clear h hl he
  go_enter Tryz.func98, Tryz.ntmps98
  go_wp2_with (go_at_call 146; refine HW.out.mono ?_; rintro r w1 ⟨rfl, hu1⟩)
  go_ret2
  exact ⟨rfl, hu1⟩

set_option maxHeartbeats 1000000 in
theorem depthTop_any {w : World} {v : Value} {l : List Dt.Nd} (h : Ls2 w v l) (hl : l.length ≤ 5000) {d : Int} (he : Dt.exec Dt.deep l [] = some [d]) :
    Calls Tryz.prog 26 #[v] w fun r w' => r = .returned (.int .i64 d) ∧ Up w w' := by
  have HW := Lib.hid (depth_any h hl he)
  clear h hl he
  go_enter Tryz.func26, Tryz.ntmps26
  go_wp2_with (go_at_call 98; refine HW.out.mono ?_; rintro r w1 ⟨rfl, hu1⟩)
  go_ret
  exact ⟨rfl, hu1⟩

end Go.Proofs.YtkcdkfkgjjpaaaaGreatDoor
