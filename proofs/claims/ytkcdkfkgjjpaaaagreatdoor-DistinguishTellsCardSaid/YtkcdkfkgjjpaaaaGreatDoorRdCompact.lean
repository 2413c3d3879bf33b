/- Walk: slices.Compact at pairs ([2]int). Turned from SyCompact by a program. -/
import Derived.Test.YtkcdkfkgjjpaaaaGreatDoorSyCompact
import Derived.DeepKeys
namespace Go.Proofs.YtkcdkfkgjjpaaaaGreatDoor
open Go.RowKit Go.Sort
set_option linter.unusedVariables false
set_option linter.unusedSimpArgs false

theorem arr_eq (a b c d : Int) (w : World) : (Op.equalIn 10000 253 (.agg #[.int .i64 a, .int .i64 b]) (.agg #[.int .i64 c, .int .i64 d])).run Tryz.prog w = .ok (a == c && b == d) w := by
  have hi0 : (Tryz.prog.info? 3).isSome = true := by kernel_rfl
  obtain ⟨i, hi⟩ := Option.isSome_iff_exists.1 hi0
  rw [show (10000 : Nat) = 9999 + 1 from rfl, run_equalIn_array w 9999 _ _ Tryz.underlying253 hi]
  have u3 := Tryz.underlying3
  have a3 := Tryz.isAgg3
  have hc : Tryz.prog.cellsOf 3 = 1 := by kernel_rfl
  simp only [hc, List.range, List.range.loop, Op.eqItems]
  go_simp
  by_cases h1 : a = c <;> by_cases h2 : b = d <;> simp [h1, h2]

theorem two_at {w : World} {g c : Nat} {e : TypeId} {m : List (Int × Int)} (h : Row w g e c (cells2 m)) (i j : Nat) (hj : j = i * 2) (hi : i < m.length) (x1 x2 : Int) (hx : m.getD i (0, 0) = (x1, x2)) :
    w.cell? ⟨g, j, none⟩ = some (.int .i64 x1) ∧ w.cell? ⟨g, j + 1, none⟩ = some (.int .i64 x2) := by
  subst hj
  have hc := cells2_get m i hi
  rw [hx] at hc
  exact ⟨h.cell hc.1, h.cell hc.2⟩

theorem cells2_set : ∀ (m : List (Int × Int)) (i : Nat) (x1 x2 : Int), cells2 (m.set i (x1, x2)) = ((cells2 m).set (i * 2) (.int .i64 x1)).set (i * 2 + 1) (.int .i64 x2)
  | [], i, _, _ => by simp [cells2]
  | y :: m, 0, x1, x2 => by simp [cells2, two]
  | y :: m, i + 1, x1, x2 => by
    have ih := cells2_set m i x1 x2
    rw [show (i + 1) * 2 = i * 2 + 2 by omega]
    simp only [cells2, List.set_cons_succ, List.flatMap_cons] at ih ⊢
    rw [ih]
    simp [two]

theorem two_set {w : World} {g c : Nat} {e : TypeId} {m : List (Int × Int)} (h : Row w g e c (cells2 m)) (i j : Nat) (hj : j = i * 2) (x1 x2 : Int) :
    Row ((w.setCell ⟨g, j, none⟩ (.int .i64 x1)).setCell ⟨g, j + 1, none⟩ (.int .i64 x2)) g e c (cells2 (m.set i (x1, x2))) := by
  subst hj
  rw [cells2_set]
  exact (h.set _ _).set _ _

theorem zero_arr (w : World) : (zeroValue 253).run Tryz.prog w = .ok (.agg #[.int .i64 0, .int .i64 0]) w := by kernel_rfl

theorem cells2_take : ∀ (m : List (Int × Int)) (i : Nat), cells2 (m.take i) = (cells2 m).take (i * 2)
  | [], i => by simp [cells2]
  | y :: m, 0 => by simp [cells2]
  | y :: m, i + 1 => by
    have ih := cells2_take m i
    rw [show (i + 1) * 2 = i * 2 + 2 by omega]
    simp only [cells2, List.take_succ_cons, List.flatMap_cons] at ih ⊢
    rw [ih]
    simp [two]

set_option maxHeartbeats 8000000 in
set_option maxRecDepth 100000 in
theorem compact_pairs (g cap : Nat) (l : List (Int × Int)) (w : World) (hr : Row w g 253 (cap * 2) (cells2 l)) (hn : l.length ≤ cap) (hm : l.length ≤ 1000000) (hcap : cap ≤ maxLen) :
    Calls Tryz.prog 233 #[.slice (some ⟨g, 0, none⟩) l.length cap] w (Compacted 253 2 w g cap (Sy.cpt l).length (cells2 (Sy.cpt l))) := by
  obtain ⟨n, hln⟩ : ∃ n, n = l.length := ⟨_, rfl⟩
  rw [← hln] at hn hm ⊢
  have HLN := Lib.hid hln
  have HR := Lib.hid hr
  unfold maxLen at hcap
  clear hln hr
  by_cases h2 : n < 2
  · have he : Hid (Sy.cpt l = l) := Lib.hid (by
      match l, HLN.out with
      | [], _ => rfl
      | [x], _ => rfl
      | _ :: _ :: _, h => simp at h; omega)
    go_enter Tryz.func233, Tryz.ntmps233
    go_wp2_with fail
    go_ret
    exact ⟨by rw [he.out, ← HLN.out]; rfl, by rw [he.out, ← HLN.out]; exact hn, by rw [he.out]; exact HR.out, Turned.refl _ _⟩
  · go_enter Tryz.func233, Tryz.ntmps233
    go_wp2_with fail
    go_loopw [3] (fun s3 wr => ∃ k q : Nat, s3 = .int .i64 k ∧ 1 ≤ k ∧ k ≤ n ∧ wr = w.drewN q ∧ Hid (Sy.cpt (l.take k) = l.take k)) (fun s3 _ => n - (intOf s3).toNat)
    case atStart => exact ⟨1, 0, rfl, Nat.le_refl _, by omega, rfl, Lib.hid (Sy.cpt_one l (by rw [← HLN.out]; omega))⟩
    case round =>
      obtain ⟨k, q, rfl, hk1, hkn, rfl, HK⟩ := hrel
      by_cases hlt : k < n
      · obtain ⟨x, hx⟩ : ∃ x, l.getD k (0, 0) = x := ⟨_, rfl⟩
        obtain ⟨y, hy⟩ : ∃ y, l.getD (k - 1) (0, 0) = y := ⟨_, rfl⟩
        obtain ⟨x1, x2⟩ := x
        obtain ⟨y1, y2⟩ := y
        have hkl : k < l.length := by rw [← HLN.out]; exact hlt
        obtain ⟨c1, c2⟩ := two_at HR.out k (k * 2) rfl hkl x1 x2 hx
        obtain ⟨d1, d2⟩ := two_at HR.out (k - 1) ((k - 1) * 2) rfl (by omega) y1 y2 hy
        have HX := Lib.hid hx
        have HY := Lib.hid hy
        have HKL := Lib.hid hkl
        have he := arr_eq x1 x2 y1 y2
        clear hx hy hkl
        by_cases hdup : (x1, x2) = (y1, y2)
        · have HE : Hid (l.getD k (0, 0) = l.getD (k - 1) (0, 0)) := Lib.hid (by rw [HX.out, HY.out, hdup])
          simp only [Prod.mk.injEq] at hdup
          obtain ⟨rfl, rfl⟩ := hdup
          simp only [beq_self_eq_true, Bool.and_self] at he
          go_wp2_with fail
          go_quiet (fail)
          go_wp2_with fail
          clear he c1 c2 d1 d2
          obtain ⟨q1, hq1⟩ : ∃ q1, w.drewN q1 = (w.drewN q).drew := ⟨q + 1, rfl⟩
          go_loopw [3, 5] (fun s3 s5 wr => ∃ (kk k2 : Nat) (m : List (Int × Int)), s3 = .int .i64 kk ∧ s5 = .int .i64 k2 ∧ 1 ≤ k2 ∧ k + k2 ≤ n ∧ Row wr g 253 (cap * 2) (cells2 m) ∧ Turned (fun j => j = g) w wr ∧ Hid (Sy.CptInv (0, 0) l m (k + k2) kk)) (fun _ s5 _ => n - (intOf s5).toNat)
          case atStart => exact ⟨k, 1, l, rfl, rfl, Nat.le_refl _, by omega, HR.out, Turned.drewN (Turned.refl _ _) _, Lib.hid (Sy.CptInv.start HK.out hk1 HKL.out HE.out)⟩
          case round =>
            obtain ⟨kk, k2, m, rfl, rfl, h1, hle, hrow, hT, HI⟩ := hrel
            have hml : m.length = n := by rw [HI.out.len, HLN.out]
            have hkk := HI.out.lt
            by_cases hlt2 : k + k2 < n
            · obtain ⟨u, hu⟩ : ∃ u, l.getD (k + k2) (0, 0) = u := ⟨_, rfl⟩
              obtain ⟨v, hv⟩ : ∃ v, l.getD (k + k2 - 1) (0, 0) = v := ⟨_, rfl⟩
              obtain ⟨u1, u2⟩ := u
              obtain ⟨v1, v2⟩ := v
              obtain ⟨c1, c2⟩ := two_at hrow (k + k2) (k * 2 + k2 * 2) (by omega) (by omega) u1 u2 (by rw [HI.out.high _ (by omega)]; exact hu)
              obtain ⟨d1, d2⟩ := two_at hrow (k + k2 - 1) (k * 2 + (k2 - 1) * 2) (by omega) (by omega) v1 v2 (by rw [HI.out.high _ (by omega)]; exact hv)
              obtain ⟨o, ho⟩ : ∃ o, m.getD kk (0, 0) = o := ⟨_, rfl⟩
              obtain ⟨o1, o2⟩ := o
              obtain ⟨e1, e2⟩ := two_at hrow kk (kk * 2) rfl (by omega) o1 o2 ho
              have f1 := hrow.free (kk * 2)
              have f2 := hrow.free (kk * 2 + 1)
              have HROW := Lib.hid hrow
              have HT := Lib.hid hT
              have HU := Lib.hid hu
              have HV := Lib.hid hv
              have he := arr_eq u1 u2 v1 v2
              clear hu hv ho hrow hT hml
              by_cases huv : (u1, u2) = (v1, v2)
              · have HE2 : Hid (l.getD (k + k2) (0, 0) = l.getD (k + k2 - 1) (0, 0)) := Lib.hid (by rw [HU.out, HV.out, huv])
                simp only [Prod.mk.injEq] at huv
                obtain ⟨rfl, rfl⟩ := huv
                simp only [beq_self_eq_true, Bool.and_self] at he
                go_wp2_with fail
                go_quiet (fail)
                go_wp2_with fail
                go_roundw
                case rel => exact ⟨kk, k2 + 1, m, rfl, by go_num, by omega, by omega, HROW.out, Turned.drewN HT.out _, Lib.hid (HI.out.skip (by rw [← HLN.out]; omega) HE2.out)⟩
                case measure => simp [intOf]; omega
              · have hb : (u1 == v1 && u2 == v2) = false := by
                  cases hq : (u1 == v1 && u2 == v2)
                  · rfl
                  · simp only [Bool.and_eq_true, beq_iff_eq] at hq
                    exact absurd (by rw [hq.1, hq.2]) huv
                have HE2 : Hid (l.getD (k + k2) (0, 0) ≠ l.getD (k + k2 - 1) (0, 0)) := Lib.hid (by rw [HU.out, HV.out]; exact huv)
                rw [hb] at he
                clear hb huv
                go_wp2_with fail
                go_quiet (fail)
                go_wp2_with fail
                go_roundw
                case rel => exact ⟨kk + 1, k2 + 1, m.set kk (u1, u2), by go_num, by go_num, by omega, by omega, two_set (w := wr.drewN _) HROW.out kk (kk * 2) rfl u1 u2, ((Turned.drewN HT.out _).setCell (.inl rfl) _).setCell (.inl rfl) _, Lib.hid (by have := HI.out.keep (by rw [← HLN.out]; omega) HE2.out; rw [HU.out] at this; exact this)⟩
                case measure => simp [intOf]; omega
            · have hend : k + k2 = n := by omega
              have hk2 : kk < n := by omega
              obtain ⟨e1, e2⟩ := (show m.take kk = Sy.cpt l ∧ kk = (Sy.cpt l).length from Sy.CptInv.endd (by have := HI.out; rwa [hend, HLN.out] at this))
              have hall : ∀ j, j < (n - kk) * 2 → (wr.cell? ⟨g, kk * 2 + j, none⟩).isSome = true := fun j hj => by
                have hjl : kk * 2 + j < (cells2 m).length := by rw [cells2_len, hml]; omega
                rw [hrow.cell (List.getElem?_eq_getElem hjl)]; rfl
              have hcl : ∀ ty, (Builtin.clear_ #[307] ty #[.slice (some ⟨g, kk * 2, none⟩) (n - kk) (cap - kk)]).run Tryz.prog wr = .ok (.tuple #[]) (wr.setCells g (kk * 2) (List.replicate ((n - kk) * 2) (.int .i64 0))) :=
                fun ty => run_clear_agg wr _ _ ty _ 2 Tryz.underlying307 zero_arr rfl (by omega) g (kk * 2) (n - kk) _ (by omega) hall (fun j _ => hrow.free _)
              have HROW : Hid (Row (wr.setCells g (kk * 2) (List.replicate ((n - kk) * 2) (.int .i64 0))) g 253 (cap * 2) (cells2 (Sy.cpt l))) := Lib.hid (by
                have := hrow.setCells (List.replicate ((n - kk) * 2) (.int .i64 0)) (kk * 2) (by rw [cells2_len, hml]; omega)
                rwa [← cells2_take, e1] at this)
              have HT := Lib.hid (setCells_turned (S := fun j => j = g) g rfl (List.replicate ((n - kk) * 2) (.int .i64 0)) (kk * 2) hT)
              have HE2 := Lib.hid e2
              clear hall hrow hT hml e1 e2
              go_wp2
              go_ret
              exact ⟨by rw [← HE2.out]; rfl, by rw [← HE2.out]; omega, HROW.out, HT.out⟩
        · have hb : (x1 == y1 && x2 == y2) = false := by
            cases hq : (x1 == y1 && x2 == y2)
            · rfl
            · simp only [Bool.and_eq_true, beq_iff_eq] at hq
              exact absurd (by rw [hq.1, hq.2]) hdup
          have HE : Hid (l.getD k (0, 0) ≠ l.getD (k - 1) (0, 0)) := Lib.hid (by rw [HX.out, HY.out]; exact hdup)
          rw [hb] at he
          clear hb hdup
          go_wp2_with fail
          go_quiet (fail)
          go_wp2_with fail
          go_roundw
          case rel => exact ⟨k + 1, _, by go_num, by omega, by omega, rfl, Lib.hid (Sy.cpt_more (0, 0) HK.out hk1 HKL.out HE.out)⟩
          case measure => simp [intOf]; omega
      · obtain rfl : k = n := by omega
        have he : Hid (Sy.cpt l = l) := Lib.hid (by have := HK.out; rw [HLN.out, List.take_length] at this; exact this)
        go_wp2_with fail
        go_ret
        exact ⟨by rw [he.out, ← HLN.out]; rfl, by rw [he.out, ← HLN.out]; exact hn, by rw [he.out]; exact HR.out, Turned.drewN (Turned.refl _ _) _⟩

theorem compact_pairs_nil (w : World) : Calls Tryz.prog 233 #[.slice none 0 0] w fun r w' => r = .returned (.slice none 0 0) ∧ w = w' := by
  go_enter Tryz.func233, Tryz.ntmps233
  go_wp2_with fail
  go_ret
  exact ⟨rfl, rfl⟩

end Go.Proofs.YtkcdkfkgjjpaaaaGreatDoor
