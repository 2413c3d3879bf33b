/- The document's own answer: the one form of classes, and how many there are. -/
import Derived.Test.YtpmdjicaefmbnaaGreatDoorLst
import Derived.Test.YtpmdjicaefmbnaaGreatDoorCanonW
import Derived.BigRegion

namespace Go.Proofs.YtpmdjicaefmbnaaGreatDoor.Rf
open Go.RowKit
set_option linter.unusedVariables false
set_option linter.unusedSimpArgs false

/-- The greatest of some numbers, one more: what the reference's Together reckons. -/
def topOf (l : List Nat) : Nat := l.foldl (fun n c => if c < n then n else c + 1) 0

theorem topOf_snoc (l : List Nat) (c : Nat) : topOf (l ++ [c]) = if c < topOf l then topOf l else c + 1 := by
  unfold topOf
  rw [List.foldl_append]
  rfl

theorem topOf_take (l : List Nat) (k : Nat) (hk : k < l.length) : topOf (l.take (k + 1)) = if l.getD k 0 < topOf (l.take k) then topOf (l.take k) else l.getD k 0 + 1 := by
  rw [List.take_succ_eq_append_getElem hk, topOf_snoc]
  simp [List.getD, hk]

theorem topOf_le {l : List Nat} {m : Nat} (h : ∀ x ∈ l, x < m) : topOf l ≤ m := by
  suffices g : ∀ k, k ≤ l.length → topOf (l.take k) ≤ m by
    have := g l.length (Nat.le_refl _); rwa [List.take_length] at this
  intro k
  induction k with
  | zero => intro _; simp [topOf]
  | succ k ih =>
    intro hk
    rw [topOf_take _ _ (by omega)]
    have hm := h (l.getD k 0) (by simp only [List.getD, List.getElem?_eq_getElem (show k < l.length by omega), Option.getD_some]; exact List.getElem_mem _)
    have := ih (by omega)
    split <;> omega

theorem topOf_ge (l : List Nat) : ∀ x ∈ l, x < topOf l := by
  suffices g : ∀ k, k ≤ l.length → ∀ x ∈ l.take k, x < topOf (l.take k) by
    have := g l.length (Nat.le_refl _); rwa [List.take_length] at this
  intro k
  induction k with
  | zero => intro _ x hx; simp at hx
  | succ k ih =>
    intro hk x hx
    rw [topOf_take _ _ (by omega)]
    rw [List.take_succ_eq_append_getElem (by omega), List.mem_append, List.mem_singleton] at hx
    have hd : l.getD k 0 = l[k] := by simp [List.getD, show k < l.length by omega]
    rcases hx with hx | hx
    · have := ih (by omega) x hx
      split <;> omega
    · subst hx; split <;> omega

theorem topOf_canon (l : List Int) : topOf (Cn.canon l) = (Cn.seen l).length := by
  apply Nat.le_antisymm
  · apply topOf_le
    intro x hx
    obtain ⟨i, hi, rfl⟩ := List.mem_iff_getElem.1 hx
    have := Cn.canon_lt l i (by rw [← Cn.canon_len l]; exact hi)
    simpa [List.getD, hi] using this
  · rcases Nat.eq_zero_or_pos (Cn.seen l).length with h | h
    · omega
    · obtain ⟨k, hk, hkc⟩ := Cn.canon_onto l ((Cn.seen l).length - 1) (by omega)
      have := topOf_ge (Cn.canon l) ((Cn.canon l).getD k 0) (by simp only [List.getD, List.getElem?_eq_getElem (show k < (Cn.canon l).length by rw [Cn.canon_len]; exact hk), Option.getD_some]; exact List.getElem_mem _)
      omega

end Go.Proofs.YtpmdjicaefmbnaaGreatDoor.Rf

namespace Go.Proofs.YtpmdjicaefmbnaaGreatDoor
open Go.RowKit
set_option linter.unusedVariables false
set_option linter.unusedSimpArgs false

theorem idx_at {s : List Int} {c : Int} {j : Nat} (h : ∀ i, i < j → s.getD i 0 ≠ c) (hj : j < s.length) (hc : s.getD j 0 = c) : s.idxOf c = j := by
  induction s generalizing j with
  | nil => simp at hj
  | cons x s ih =>
    cases j with
    | zero =>
      have : x = c := by simpa using hc
      subst this; simp
    | succ j =>
      have hx : x ≠ c := by have := h 0 (by omega); simpa using this
      rw [List.idxOf_cons, show (x == c) = false by simpa using hx]
      simp only [cond_false, Bool.cond_false]
      rw [ih (j := j) (fun i hi => by have := h (i + 1) (by omega); simpa using this) (by simpa using hj) (by simpa using hc)]

theorem idx_out {s : List Int} {c : Int} (h : ∀ i, i < s.length → s.getD i 0 ≠ c) : c ∉ s := by
  intro hm
  obtain ⟨i, hi, rfl⟩ := List.mem_iff_getElem.1 hm
  exact h i hi (by simp [List.getD, hi])

def CanonDone (w : World) (l : List Int) (n : Nat) (r : Ending) (w' : World) : Prop :=
  ∃ g, r = .returned (.slice (some ⟨g, 0, none⟩) n n) ∧ Row w' g 3 n (ints (Cn.canon l)) ∧ w.heap.size ≤ g ∧ Up w w'

set_option maxHeartbeats 4000000 in
set_option maxRecDepth 100000 in
theorem canonRef {v : Value} {l : List Int} {w : World} (hn : l.length ≤ 1000000) (hv : Lst w v l) :
    Calls Tryz.prog 129 #[v] w (CanonDone w l l.length) := by
  obtain ⟨ao, cap, g, off, rfl, hao, hx⟩ := hv
  obtain ⟨i0, hi, hz0, hz1, hz2⟩ := info_parts Tryz.intInfo
  obtain ⟨n, hnl⟩ : ∃ n, n = l.length := ⟨_, rfl⟩
  rw [← hnl] at hn hao ⊢
  have HAO := Lib.hid hao
  have HX := Lib.hid hx
  have HN := Lib.hid hnl
  clear hao hx hnl
  go_enter Tryz.func129, Tryz.ntmps129
  go_wp2_with (at_make; refine wpList_make_full _ rfl _ _ 34 rfl 0 3 i0 (.int .i64 0) 1 Tryz.underlying34 hi hz0 hz1 _ _ _ _ n rfl rfl rfl rfl (by rw [hz2]; omega) (by unfold maxLen; omega) (Nat.zero_le _) ?_; intro w1 hown hgrow)
  obtain ⟨hrow, -, -, -⟩ := Row.of hown
  have hrow0 : Row w1 w.heap.size 3 n (ints ((Cn.canon l).take 0 ++ List.replicate (n - 0) 0)) := by
    have e : (madeCells (Value.int .i64 0).cells (n * 1)).toList = ints ((Cn.canon l).take 0 ++ List.replicate (n - 0) 0) := by
      rw [Nat.mul_one, List.take_zero, List.nil_append, Nat.sub_zero, ints_zero]; exact toList_madeCells_one _ _
    rw [← e]; simpa using hrow
  have hup0 : Up w w1 := (Up.refl w).grown hgrow (by simp)
  have hs1 : w.heap.size < w1.heap.size := hrow0.lt
  obtain ⟨go, hgo⟩ : ∃ x, x = w.heap.size := ⟨_, rfl⟩
  have hgw : w.heap.size ≤ go := by omega
  rw [← hgo] at hrow0 hs1 ⊢
  obtain ⟨S0, hS0⟩ : ∃ x, x = w1.heap.size := ⟨_, rfl⟩
  have hgS : go < S0 := by omega
  have hS1 : S0 ≤ w1.heap.size := by omega
  clear hown hgrow hrow hgo hS0 hs1
  go_loopw [4, 5] (fun sv i wr => ∃ k : Nat, k ≤ n ∧ i = .int .i64 k ∧ wr.ownsRow S0 3 1 sv (Cn.seen (l.take k)).length ((Cn.seen (l.take k)).map (Value.int .i64)) ∧
      Row wr go 3 n (ints ((Cn.canon l).take k ++ List.replicate (n - k) 0)) ∧ Up w wr ∧ S0 ≤ wr.heap.size) (fun _ i _ => n - (intOf i).toNat)
  case atStart => exact ⟨0, Nat.zero_le _, rfl, World.ownsRow_nil _ _ _ _, hrow0, hup0, hS1⟩
  case round =>
    clear hrow0 hup0 hS1
    obtain ⟨k, hk, rfl, hown, hrow, hup, hS⟩ := hrel
    by_cases hlt : k < n
    · obtain rfl := HAO.out (by omega)
      have hkl : k < l.length := by rw [← HN.out]; exact hlt
      obtain ⟨c, hcv⟩ : ∃ c, c = l.getD k 0 := ⟨_, rfl⟩
      have hcell : wr.cell? ⟨g, off + k, none⟩ = some (.int .i64 c) := by rw [hcv]; exact hup.cell (HX.out k hkl)
      obtain ⟨s, hs⟩ : ∃ s, s = Cn.seen (l.take k) := ⟨_, rfl⟩
      rw [← hs] at hown
      have hsl : s.length ≤ k := by rw [hs]; have := Cn.seen_len (l.take k); simp at this; omega
      have hcan : Hid ((Cn.canon l).getD k 0 = s.idxOf c) := by rw [hs, hcv]; exact Cn.canon_at l k hkl
      have hnext : Hid (Cn.seen (l.take (k + 1)) = if c ∈ s then s else s ++ [c]) := by rw [hs, hcv]; exact Cn.seen_take l k hkl
      have htake : Hid (((Cn.canon l).take k ++ List.replicate (n - k) 0).set k ((Cn.canon l).getD k 0) = (Cn.canon l).take (k + 1) ++ List.replicate (n - (k + 1)) 0) := by
        have := Cn.canon_take l k hkl; rw [← HN.out] at this; exact this
      have hlen : (ints ((Cn.canon l).take k ++ List.replicate (n - k) 0)).length = n := by
        rw [ints_length, List.length_append, List.length_take, List.length_replicate, Cn.canon_len, ← HN.out]; omega
      have hfree := hrow.free k
      obtain ⟨u0, hu0⟩ : ∃ u, wr.cell? ⟨go, k, none⟩ = some u := ⟨_, hrow.cell (List.getElem?_eq_getElem (by omega))⟩
      obtain ⟨so, sc, rfl⟩ := owns_shape' hown
      obtain ⟨m, hm⟩ : ∃ m, m = s.length := ⟨_, rfl⟩
      rw [← hm] at hown hsl ⊢
      have HM := Lib.hid hm
      have hsc : Hid (∀ j, j < m → ∃ gs, so = some ⟨gs, 0, none⟩ ∧ ∀ j, j < m → wr.cell? ⟨gs, j, none⟩ = some (.int .i64 (s.getD j 0))) := by
        intro j hj
        rcases owns_cases hown with ⟨_, h0, _⟩ | ⟨gs, cs, hv, hr, _⟩
        · omega
        · simp only [Value.slice.injEq] at hv
          refine ⟨gs, hv.1, fun j hj => hr.cell ?_⟩
          have : j < s.length := by rw [← HM.out]; exact hj
          simp [List.getD, this]
      clear hcv hs hm hlen
      go_wp2_with fail
      obtain ⟨wo, rfl⟩ : ∃ wo : World, wo = wr := ⟨_, rfl⟩
      go_loopw [6] (fun i wr => ∃ j q : Nat, j ≤ m ∧ i = .int .i64 j ∧ wr = wo.drewN q ∧ ∀ i, i < j → s.getD i 0 ≠ c) (fun i _ => m - (intOf i).toNat)
      case atStart => exact ⟨0, 0, Nat.zero_le _, rfl, rfl, fun i hi => by omega⟩
      case round =>
        obtain ⟨j, q, hj, rfl, rfl, hne⟩ := hrel
        replace hne := Lib.hid hne
        by_cases hjm : j < m
        · obtain ⟨gs, rfl, hcs⟩ := hsc.out j hjm
          have cs := hcs j hjm
          obtain ⟨x, hx⟩ : ∃ x, x = s.getD j 0 := ⟨_, rfl⟩
          rw [← hx] at cs
          have HXV := Lib.hid hx
          clear hcs hx
          by_cases hxc : x = c
          · have qx : (x != c) = false := by simp [hxc]
            have qm : ((j : Int) == (m : Int)) = false := by simp; omega
            have hidx : s.idxOf c = j := idx_at hne.out (by rw [← HM.out]; exact hjm) (by rw [← HXV.out]; exact hxc)
            have hin : c ∈ s := by
              have hjs : j < s.length := by rw [← HM.out]; exact hjm
              rw [← hxc, HXV.out]; simp only [List.getD, List.getElem?_eq_getElem hjs, Option.getD_some]; exact List.getElem_mem _
            have hnx : Hid (Cn.seen (l.take (k + 1)) = s) := by rw [hnext.out, if_pos hin]; rfl
            have hrow' := hrow.set k (.int .i64 ((j : Nat) : Int))
            rw [← ints_set, ← hidx, ← hcan.out, htake.out] at hrow'
            have HR : Hid (Row ((wo.drewN 0).setCell ⟨go, k, none⟩ (.int .i64 ((j : Nat) : Int))) go 3 n (ints ((Cn.canon l).take (k + 1) ++ List.replicate (n - (k + 1)) 0))) := by
              have e : ((Cn.canon l).getD k 0 : Nat) = j := by rw [hcan.out, hidx]
              rw [e] at hrow'; exact hrow'
            clear hrow' hidx hin hxc
            go_wp2_with fail
            go_quiet (fail)
            go_wp2_with fail
            go_roundw
            case rel => exact ⟨k + 1, by omega, by go_num, by rw [hnx.out, ← HM.out]; exact owns_keep hown (fun g hg => Below.heap_setCell _ _ _ _ (by have := (hown.lt g hg).1; simp; omega)), HR.out, (hup.drewN _).setCell hgw _, by simpa using hS⟩
            case measure => simp [intOf]; omega
          · have qx : (x != c) = true := by simp [hxc]
            have HNE : Hid (∀ i, i < j + 1 → s.getD i 0 ≠ c) := by
              intro i hi
              by_cases h : i = j
              · rw [h, ← HXV.out]; exact hxc
              · exact hne.out i (by omega)
            clear hxc
            go_wp2_with fail
            go_quiet (fail)
            go_wp2_with fail
            go_roundw
            case rel => exact ⟨j + 1, _, by omega, by go_num, rfl, HNE.out⟩
            case measure => simp [intOf]; omega
        · obtain rfl : j = m := by omega
          have hnin : c ∉ s := idx_out (fun i hi => hne.out i (by rw [HM.out]; exact hi))
          have hnx : Hid (Cn.seen (l.take (k + 1)) = s ++ [c]) := by rw [hnext.out, if_neg hnin]; rfl
          have hidx : Hid (s.idxOf c = j) := by rw [List.idxOf_eq_length hnin, HM.out]; rfl
          have hrowq : Row (wo.drewN q) go 3 n (ints ((Cn.canon l).take k ++ List.replicate (n - k) 0)) := hrow
          have hownq : (wo.drewN q).ownsRow S0 3 1 (.slice so j sc) j (s.map (Value.int .i64)) := hown
          have hupq := hup.drewN q
          clear hnin hjm
          have hgl := hrowq.lt
          have hog : ∀ g, (Value.slice so j sc).ownBlock = some g → go ≠ g := fun g hg e => by have := (hownq.lt g hg).1; omega
          have HLEN : Hid ((ints ((Cn.canon l).take k ++ List.replicate (n - k) 0)).length = n) := by
            rw [ints_length, List.length_append, List.length_take, List.length_replicate, Cn.canon_len, ← HN.out]; unfold Hid; omega
          have HNS : Hid ((s ++ [c]).length = j + 1) := by rw [List.length_append, ← HM.out]; rfl
          go_wp2_with fail
          go_quiet (fail)
          go_wp2_with (at_builtin; (refine wpList_append_own _ rfl _ _ 34 rfl S0 3 i0 (.int .i64 0) 1 8 Tryz.underlying34 hi hz0 hz1 hz2 rfl (by decide) _ j _ rfl (hownq.alloc _) ⟨wo.heap.size, 0, none⟩ 1 1 [.int .i64 c] rfl rfl (cell_one_new _ _ _) (ints_oneCell .i64 [c]) (by unfold maxLen; omega) (by omega) (by simp; omega) ?_); intro v' w2 hown' hgrow' hnil'; clear hnil'; (have hrow2 := (hrowq.alloc _).keep (hgrow'.block go (by simp; omega) (fun e => hog go e.symm rfl))); (have cg2 : w2.cell? ⟨go, k, none⟩ = some _ := hrow2.cell (List.getElem?_eq_getElem (by rw [HLEN.out]; exact hlt))); (have fg2 := hrow2.free k))
          have hrow3 := hrow2.set k (.int .i64 ((j : Nat) : Int))
          rw [← ints_set] at hrow3
          have e : ((Cn.canon l).getD k 0 : Nat) = j := by rw [hcan.out, hidx.out]
          rw [← e, htake.out, e] at hrow3
          have HU : Hid (Up w w2) := ((hup.drewN _).alloc _).grown hgrow' (fun g hg => by have := (hownq.lt g hg).1; omega)
          go_roundw
          case rel => exact ⟨k + 1, by omega, by go_num, by rw [hnx.out, HNS.out]; exact owns_keep (xs := (s ++ [c]).map (Value.int .i64)) (by rw [List.map_append]; exact hown') (fun g hg => Below.heap_setCell _ _ _ _ (by have := (hown'.lt g hg).1; simp; omega)), hrow3, HU.out.setCell hgw _, by have := hgrow'.size; simp at this ⊢; omega⟩
          case measure => simp [intOf]; omega
    · obtain rfl : k = n := by omega
      go_wp2_with fail
      go_ret
      refine ⟨go, rfl, ?_, hgw, hup⟩
      have e : (Cn.canon l).take k ++ List.replicate (k - k) 0 = Cn.canon l := by
        rw [Nat.sub_self, List.replicate_zero, List.append_nil, List.take_of_length_le (by rw [Cn.canon_len, ← HN.out]; exact Nat.le_refl _)]
      rw [← e]; exact hrow

end Go.Proofs.YtpmdjicaefmbnaaGreatDoor

namespace Go.Proofs.YtpmdjicaefmbnaaGreatDoor
open Go.RowKit
set_option linter.unusedVariables false
set_option linter.unusedSimpArgs false

def TogDone (w : World) (l : List Int) (r : Ending) (w' : World) : Prop := r = .returned (.int .i64 ((Cn.seen l).length : Nat)) ∧ Up w w'

theorem topOf_small (l : List Int) (k : Nat) : Rf.topOf ((Cn.canon l).take k) ≤ l.length := by
  refine Rf.topOf_le (fun x hx => ?_)
  have hx := List.mem_of_mem_take hx
  obtain ⟨i, hi, rfl⟩ := List.mem_iff_getElem.1 hx
  have h1 := Cn.canon_lt l i (by rw [← Cn.canon_len l]; exact hi)
  have h2 := Cn.seen_len l
  have : (Cn.canon l).getD i 0 = (Cn.canon l)[i] := by simp [List.getD, hi]
  omega

set_option maxHeartbeats 1000000 in
set_option maxRecDepth 100000 in
theorem togRef {v : Value} {l : List Int} {w : World} (hn : l.length ≤ 1000000) (hv : Lst w v l) :
    Calls Tryz.prog 58 #[v] w (TogDone w l) := by
  obtain ⟨n, hnl⟩ : ∃ n, n = l.length := ⟨_, rfl⟩
  have HC := Lib.hid (canonRef hn hv)
  rw [← hnl] at HC hn
  have hcl : (Cn.canon l).length = n := by rw [Cn.canon_len, hnl]
  have hcx : ∀ k, k < n → (Cn.canon l).getD k 0 < n := by
    intro k hk
    have h1 := Cn.canon_lt l k (by rw [← hnl]; exact hk)
    have h2 := Cn.seen_len l
    omega
  have HT : Hid (∀ k, Rf.topOf ((Cn.canon l).take k) ≤ n) := fun k => by rw [hnl]; exact topOf_small l k
  have HCL := Lib.hid hcl
  have HCX := Lib.hid hcx
  clear hnl hcl hcx hv
  go_enter Tryz.func58, Tryz.ntmps58
  go_wp2_with (go_at_call 129; refine HC.out.mono ?_; rintro r w1 ⟨g, rfl, hrow, hg, hup⟩)
  go_loopw [4, 5] (fun m i wr => ∃ k q : Nat, k ≤ n ∧ i = .int .i64 k ∧ m = .int .i64 (Rf.topOf ((Cn.canon l).take k) : Nat) ∧ wr = w1.drewN q) (fun _ i _ => n - (intOf i).toNat)
  case atStart => exact ⟨0, 0, Nat.zero_le _, rfl, rfl, rfl⟩
  case round =>
    obtain ⟨k, q, hk, rfl, rfl, rfl⟩ := hrel
    by_cases hlt : k < n
    · have cx := hrow.cell (ints_get (l := Cn.canon l) (i := k) (by rw [HCL.out]; exact hlt))
      have hx := HCX.out k hlt
      have ht := HT.out k
      have HN := Lib.hid (Rf.topOf_take (Cn.canon l) k (by rw [HCL.out]; exact hlt))
      obtain ⟨c, hc⟩ : ∃ c, c = (Cn.canon l).getD k 0 := ⟨_, rfl⟩
      obtain ⟨t, hte⟩ : ∃ t, t = Rf.topOf ((Cn.canon l).take k) := ⟨_, rfl⟩
      rw [← hc] at cx hx HN
      rw [← hte] at ht HN ⊢
      clear hc hte
      by_cases hlc : c < t
      · have qc : decide (t ≤ c) = false := by simp; omega
        have e := HN.out
        rw [if_pos hlc] at e
        have HE := Lib.hid e
        clear e HN
        go_wp2_with fail
        go_roundw
        case rel => exact ⟨k + 1, _, by omega, by go_num, by rw [HE.out], rfl⟩
        case measure => simp [intOf]; omega
      · have qc : decide (t ≤ c) = true := by simp; omega
        have e := HN.out
        rw [if_neg hlc] at e
        have HE := Lib.hid e
        clear e HN
        go_wp2_with fail
        go_roundw
        case rel => exact ⟨k + 1, _, by omega, by go_num, by rw [HE.out]; go_num, rfl⟩
        case measure => simp [intOf]; omega
    · obtain rfl : k = n := by omega
      have e : Rf.topOf ((Cn.canon l).take k) = (Cn.seen l).length := by rw [List.take_of_length_le (by rw [HCL.out]; exact Nat.le_refl _), Rf.topOf_canon]
      rw [e]
      clear e
      go_wp2_with fail
      go_ret
      exact ⟨rfl, hup.drewN q⟩

end Go.Proofs.YtpmdjicaefmbnaaGreatDoor
