/- Walks: the reference's Canon and Together. Walks: the reference's Together; a reference's partition in memory; Members, Marks, Some. Walks: the reference's Some and Split. -/
import Derived.Test.YtfkhaldheclheaaGreatDoorLst
import Derived.Test.YtfkhaldheclheaaGreatDoorCanonW
import Derived.Test.YtfkhaldheclheaaGreatDoorRefRef
import Derived.BigRegion

namespace Go.Proofs.YtfkhaldheclheaaGreatDoor
open Go.RowKit
set_option linter.unusedVariables false
set_option linter.unusedSimpArgs false

theorem idx_at {s : List Int} {c : Int} {j : Nat} (h : ∀ i, i < j → s.getD i 0 ≠ c) (hj : j < s.length) (hc : s.getD j 0 = c) : s.idxOf c = j := by
  induction s generalizing j with
  | nil => simp at hj
  | cons x s ih =>
    cases j with
    | zero =>
      have : x = c := by simpa using hc
      subst this; simp
    | succ j =>
      have hx : x ≠ c := by have := h 0 (by omega); simpa using this
      rw [List.idxOf_cons, show (x == c) = false by simpa using hx]
      simp only [cond_false, Bool.cond_false]
      rw [ih (j := j) (fun i hi => by have := h (i + 1) (by omega); simpa using this) (by simpa using hj) (by simpa using hc)]

theorem idx_out {s : List Int} {c : Int} (h : ∀ i, i < s.length → s.getD i 0 ≠ c) : c ∉ s := by
  intro hm
  obtain ⟨i, hi, rfl⟩ := List.mem_iff_getElem.1 hm
  exact h i hi (by simp [List.getD, hi])

def CanonDone (w : World) (l : List Int) (n : Nat) (r : Ending) (w' : World) : Prop :=
  ∃ g, r = .returned (.slice (some ⟨g, 0, none⟩) n n) ∧ Row w' g 3 n (ints (Cn.canon l)) ∧ w.heap.size ≤ g ∧ Up w w'

set_option maxHeartbeats 4000000 in
set_option maxRecDepth 100000 in
theorem canonRef {v : Value} {l : List Int} {w : World} (hn : l.length ≤ 1000000) (hv : Lst w v l) :
    Calls Tryz.prog 22 #[v] w (CanonDone w l l.length) := by
  obtain ⟨ao, cap, g, off, rfl, hao, hx⟩ := hv
  obtain ⟨i0, hi, hz0, hz1, hz2⟩ := info_parts Tryz.intInfo
  obtain ⟨n, hnl⟩ : ∃ n, n = l.length := ⟨_, rfl⟩
  rw [← hnl] at hn hao ⊢
  have HAO := Lib.hid hao
  have HX := Lib.hid hx
  have HN := Lib.hid hnl
  clear hao hx hnl
  go_enter Tryz.func22, Tryz.ntmps22
  go_wp2_with (at_make; refine wpList_make_full _ rfl _ _ 22 rfl 0 3 i0 (.int .i64 0) 1 Tryz.underlying22 hi hz0 hz1 _ _ _ _ n rfl rfl rfl rfl (by rw [hz2]; omega) (by unfold maxLen; omega) (Nat.zero_le _) ?_; intro w1 hown hgrow)
  obtain ⟨hrow, -, -, -⟩ := Row.of hown
  have hrow0 : Row w1 w.heap.size 3 n (ints ((Cn.canon l).take 0 ++ List.replicate (n - 0) 0)) := by
    have e : (madeCells (Value.int .i64 0).cells (n * 1)).toList = ints ((Cn.canon l).take 0 ++ List.replicate (n - 0) 0) := by
      rw [Nat.mul_one, List.take_zero, List.nil_append, Nat.sub_zero, ints_zero]; exact toList_madeCells_one _ _
    rw [← e]; simpa using hrow
  have hup0 : Up w w1 := (Up.refl w).grown hgrow (by simp)
  have hs1 : w.heap.size < w1.heap.size := hrow0.lt
  obtain ⟨go, hgo⟩ : ∃ x, x = w.heap.size := ⟨_, rfl⟩
  have hgw : w.heap.size ≤ go := by omega
  rw [← hgo] at hrow0 hs1 ⊢
  obtain ⟨S0, hS0⟩ : ∃ x, x = w1.heap.size := ⟨_, rfl⟩
  have hgS : go < S0 := by omega
  have hS1 : S0 ≤ w1.heap.size := by omega
  clear hown hgrow hrow hgo hS0 hs1
  go_loopw [4, 5] (fun sv i wr => ∃ k : Nat, k ≤ n ∧ i = .int .i64 k ∧ wr.ownsRow S0 3 1 sv (Cn.seen (l.take k)).length ((Cn.seen (l.take k)).map (Value.int .i64)) ∧
      Row wr go 3 n (ints ((Cn.canon l).take k ++ List.replicate (n - k) 0)) ∧ Up w wr ∧ S0 ≤ wr.heap.size) (fun _ i _ => n - (intOf i).toNat)
  case atStart => exact ⟨0, Nat.zero_le _, rfl, World.ownsRow_nil _ _ _ _, hrow0, hup0, hS1⟩
  case round =>
    clear hrow0 hup0 hS1
    obtain ⟨k, hk, rfl, hown, hrow, hup, hS⟩ := hrel
    by_cases hlt : k < n
    · obtain rfl := HAO.out (by omega)
      have hkl : k < l.length := by rw [← HN.out]; exact hlt
      obtain ⟨c, hcv⟩ : ∃ c, c = l.getD k 0 := ⟨_, rfl⟩
      have hcell : wr.cell? ⟨g, off + k, none⟩ = some (.int .i64 c) := by rw [hcv]; exact hup.cell (HX.out k hkl)
      obtain ⟨s, hs⟩ : ∃ s, s = Cn.seen (l.take k) := ⟨_, rfl⟩
      rw [← hs] at hown
      have hsl : s.length ≤ k := by rw [hs]; have := Cn.seen_len (l.take k); simp at this; omega
      have hcan : Hid ((Cn.canon l).getD k 0 = s.idxOf c) := by rw [hs, hcv]; exact Cn.canon_at l k hkl
      have hnext : Hid (Cn.seen (l.take (k + 1)) = if c ∈ s then s else s ++ [c]) := by rw [hs, hcv]; exact Cn.seen_take l k hkl
      have htake : Hid (((Cn.canon l).take k ++ List.replicate (n - k) 0).set k ((Cn.canon l).getD k 0) = (Cn.canon l).take (k + 1) ++ List.replicate (n - (k + 1)) 0) := by
        have := Cn.canon_take l k hkl; rw [← HN.out] at this; exact this
      have hlen : (ints ((Cn.canon l).take k ++ List.replicate (n - k) 0)).length = n := by
        rw [ints_length, List.length_append, List.length_take, List.length_replicate, Cn.canon_len, ← HN.out]; omega
      have hfree := hrow.free k
      obtain ⟨u0, hu0⟩ : ∃ u, wr.cell? ⟨go, k, none⟩ = some u := ⟨_, hrow.cell (List.getElem?_eq_getElem (by omega))⟩
      obtain ⟨so, sc, rfl⟩ := owns_shape' hown
      obtain ⟨m, hm⟩ : ∃ m, m = s.length := ⟨_, rfl⟩
      rw [← hm] at hown hsl ⊢
      have HM := Lib.hid hm
      have hsc : Hid (∀ j, j < m → ∃ gs, so = some ⟨gs, 0, none⟩ ∧ ∀ j, j < m → wr.cell? ⟨gs, j, none⟩ = some (.int .i64 (s.getD j 0))) := by
        intro j hj
        rcases owns_cases hown with ⟨_, h0, _⟩ | ⟨gs, cs, hv, hr, _⟩
        · omega
        · simp only [Value.slice.injEq] at hv
          refine ⟨gs, hv.1, fun j hj => hr.cell ?_⟩
          have : j < s.length := by rw [← HM.out]; exact hj
          simp [List.getD, this]
      clear hcv hs hm hlen
      go_wp2_with fail
      obtain ⟨wo, rfl⟩ : ∃ wo : World, wo = wr := ⟨_, rfl⟩
      go_loopw [6] (fun i wr => ∃ j q : Nat, j ≤ m ∧ i = .int .i64 j ∧ wr = wo.drewN q ∧ ∀ i, i < j → s.getD i 0 ≠ c) (fun i _ => m - (intOf i).toNat)
      case atStart => exact ⟨0, 0, Nat.zero_le _, rfl, rfl, fun i hi => by omega⟩
      case round =>
        obtain ⟨j, q, hj, rfl, rfl, hne⟩ := hrel
        replace hne := Lib.hid hne
        by_cases hjm : j < m
        · obtain ⟨gs, rfl, hcs⟩ := hsc.out j hjm
          have cs := hcs j hjm
          obtain ⟨x, hx⟩ : ∃ x, x = s.getD j 0 := ⟨_, rfl⟩
          rw [← hx] at cs
          have HXV := Lib.hid hx
          clear hcs hx
          by_cases hxc : x = c
          · have qx : (x != c) = false := by simp [hxc]
            have qm : ((j : Int) == (m : Int)) = false := by simp; omega
            have hidx : s.idxOf c = j := idx_at hne.out (by rw [← HM.out]; exact hjm) (by rw [← HXV.out]; exact hxc)
            have hin : c ∈ s := by
              have hjs : j < s.length := by rw [← HM.out]; exact hjm
              rw [← hxc, HXV.out]; simp only [List.getD, List.getElem?_eq_getElem hjs, Option.getD_some]; exact List.getElem_mem _
            have hnx : Hid (Cn.seen (l.take (k + 1)) = s) := by rw [hnext.out, if_pos hin]; rfl
            have hrow' := hrow.set k (.int .i64 ((j : Nat) : Int))
            rw [← ints_set, ← hidx, ← hcan.out, htake.out] at hrow'
            have HR : Hid (Row ((wo.drewN 0).setCell ⟨go, k, none⟩ (.int .i64 ((j : Nat) : Int))) go 3 n (ints ((Cn.canon l).take (k + 1) ++ List.replicate (n - (k + 1)) 0))) := by
              have e : ((Cn.canon l).getD k 0 : Nat) = j := by rw [hcan.out, hidx]
              rw [e] at hrow'; exact hrow'
            clear hrow' hidx hin hxc
            go_wp2_with fail
            go_quiet (fail)
            go_wp2_with fail
            go_roundw
            case rel => exact ⟨k + 1, by omega, by go_num, by rw [hnx.out, ← HM.out]; exact owns_keep hown (fun g hg => Below.heap_setCell _ _ _ _ (by have := (hown.lt g hg).1; simp; omega)), HR.out, (hup.drewN _).setCell hgw _, by simpa using hS⟩
            case measure => simp [intOf]; omega
          · have qx : (x != c) = true := by simp [hxc]
            have HNE : Hid (∀ i, i < j + 1 → s.getD i 0 ≠ c) := by
              intro i hi
              by_cases h : i = j
              · rw [h, ← HXV.out]; exact hxc
              · exact hne.out i (by omega)
            clear hxc
            go_wp2_with fail
            go_quiet (fail)
            go_wp2_with fail
            go_roundw
            case rel => exact ⟨j + 1, _, by omega, by go_num, rfl, HNE.out⟩
            case measure => simp [intOf]; omega
        · obtain rfl : j = m := by omega
          have hnin : c ∉ s := idx_out (fun i hi => hne.out i (by rw [HM.out]; exact hi))
          have hnx : Hid (Cn.seen (l.take (k + 1)) = s ++ [c]) := by rw [hnext.out, if_neg hnin]; rfl
          have hidx : Hid (s.idxOf c = j) := by rw [List.idxOf_eq_length hnin, HM.out]; rfl
          have hrowq : Row (wo.drewN q) go 3 n (ints ((Cn.canon l).take k ++ List.replicate (n - k) 0)) := hrow
          have hownq : (wo.drewN q).ownsRow S0 3 1 (.slice so j sc) j (s.map (Value.int .i64)) := hown
          have hupq := hup.drewN q
          clear hnin hjm
          have hgl := hrowq.lt
          have hog : ∀ g, (Value.slice so j sc).ownBlock = some g → go ≠ g := fun g hg e => by have := (hownq.lt g hg).1; omega
          have HLEN : Hid ((ints ((Cn.canon l).take k ++ List.replicate (n - k) 0)).length = n) := by
            rw [ints_length, List.length_append, List.length_take, List.length_replicate, Cn.canon_len, ← HN.out]; unfold Hid; omega
          have HNS : Hid ((s ++ [c]).length = j + 1) := by rw [List.length_append, ← HM.out]; rfl
          go_wp2_with fail
          go_quiet (fail)
          go_wp2_with (at_builtin; (refine wpList_append_own _ rfl _ _ 22 rfl S0 3 i0 (.int .i64 0) 1 8 Tryz.underlying22 hi hz0 hz1 hz2 rfl (by decide) _ j _ rfl (hownq.alloc _) ⟨wo.heap.size, 0, none⟩ 1 1 [.int .i64 c] rfl rfl (cell_one_new _ _ _) (ints_oneCell .i64 [c]) (by unfold maxLen; omega) (by omega) (by simp; omega) ?_); intro v' w2 hown' hgrow' hnil'; clear hnil'; (have hrow2 := (hrowq.alloc _).keep (hgrow'.block go (by simp; omega) (fun e => hog go e.symm rfl))); (have cg2 : w2.cell? ⟨go, k, none⟩ = some _ := hrow2.cell (List.getElem?_eq_getElem (by rw [HLEN.out]; exact hlt))); (have fg2 := hrow2.free k))
          have hrow3 := hrow2.set k (.int .i64 ((j : Nat) : Int))
          rw [← ints_set] at hrow3
          have e : ((Cn.canon l).getD k 0 : Nat) = j := by rw [hcan.out, hidx.out]
          rw [← e, htake.out, e] at hrow3
          have HU : Hid (Up w w2) := ((hup.drewN _).alloc _).grown hgrow' (fun g hg => by have := (hownq.lt g hg).1; omega)
          go_roundw
          case rel => exact ⟨k + 1, by omega, by go_num, by rw [hnx.out, HNS.out]; exact owns_keep (xs := (s ++ [c]).map (Value.int .i64)) (by rw [List.map_append]; exact hown') (fun g hg => Below.heap_setCell _ _ _ _ (by have := (hown'.lt g hg).1; simp; omega)), hrow3, HU.out.setCell hgw _, by have := hgrow'.size; simp at this ⊢; omega⟩
          case measure => simp [intOf]; omega
    · obtain rfl : k = n := by omega
      go_wp2_with fail
      go_ret
      refine ⟨go, rfl, ?_, hgw, hup⟩
      have e : (Cn.canon l).take k ++ List.replicate (k - k) 0 = Cn.canon l := by
        rw [Nat.sub_self, List.replicate_zero, List.append_nil, List.take_of_length_le (by rw [Cn.canon_len, ← HN.out]; exact Nat.le_refl _)]
      rw [← e]; exact hrow

end Go.Proofs.YtfkhaldheclheaaGreatDoor

namespace Go.Proofs.YtfkhaldheclheaaGreatDoor
open Go.RowKit
set_option linter.unusedVariables false
set_option linter.unusedSimpArgs false

def TogDone (w : World) (l : List Int) (r : Ending) (w' : World) : Prop := r = .returned (.int .i64 ((Cn.seen l).length : Nat)) ∧ Up w w'

theorem topOf_small (l : List Int) (k : Nat) : Rf.topOf ((Cn.canon l).take k) ≤ l.length := by
  refine Rf.topOf_le (fun x hx => ?_)
  have hx := List.mem_of_mem_take hx
  obtain ⟨i, hi, rfl⟩ := List.mem_iff_getElem.1 hx
  have h1 := Cn.canon_lt l i (by rw [← Cn.canon_len l]; exact hi)
  have h2 := Cn.seen_len l
  have : (Cn.canon l).getD i 0 = (Cn.canon l)[i] := by simp [List.getD, hi]
  omega

set_option maxHeartbeats 1000000 in
set_option maxRecDepth 100000 in
theorem togRef {v : Value} {l : List Int} {w : World} (hn : l.length ≤ 1000000) (hv : Lst w v l) :
    Calls Tryz.prog 23 #[v] w (TogDone w l) := by
  obtain ⟨n, hnl⟩ : ∃ n, n = l.length := ⟨_, rfl⟩
  have HC := Lib.hid (canonRef hn hv)
  rw [← hnl] at HC hn
  have hcl : (Cn.canon l).length = n := by rw [Cn.canon_len, hnl]
  have hcx : ∀ k, k < n → (Cn.canon l).getD k 0 < n := by
    intro k hk
    have h1 := Cn.canon_lt l k (by rw [← hnl]; exact hk)
    have h2 := Cn.seen_len l
    omega
  have HT : Hid (∀ k, Rf.topOf ((Cn.canon l).take k) ≤ n) := fun k => by rw [hnl]; exact topOf_small l k
  have HCL := Lib.hid hcl
  have HCX := Lib.hid hcx
  clear hnl hcl hcx hv
  go_enter Tryz.func23, Tryz.ntmps23
  go_wp2_with (go_at_call 22; refine HC.out.mono ?_; rintro r w1 ⟨g, rfl, hrow, hg, hup⟩)
  go_loopw [4, 5] (fun m i wr => ∃ k q : Nat, k ≤ n ∧ i = .int .i64 k ∧ m = .int .i64 (Rf.topOf ((Cn.canon l).take k) : Nat) ∧ wr = w1.drewN q) (fun _ i _ => n - (intOf i).toNat)
  case atStart => exact ⟨0, 0, Nat.zero_le _, rfl, rfl, rfl⟩
  case round =>
    obtain ⟨k, q, hk, rfl, rfl, rfl⟩ := hrel
    by_cases hlt : k < n
    · have cx := hrow.cell (ints_get (l := Cn.canon l) (i := k) (by rw [HCL.out]; exact hlt))
      have hx := HCX.out k hlt
      have ht := HT.out k
      have HN := Lib.hid (Rf.topOf_take (Cn.canon l) k (by rw [HCL.out]; exact hlt))
      obtain ⟨c, hc⟩ : ∃ c, c = (Cn.canon l).getD k 0 := ⟨_, rfl⟩
      obtain ⟨t, hte⟩ : ∃ t, t = Rf.topOf ((Cn.canon l).take k) := ⟨_, rfl⟩
      rw [← hc] at cx hx HN
      rw [← hte] at ht HN ⊢
      clear hc hte
      by_cases hlc : c < t
      · have qc : decide (t ≤ c) = false := by simp; omega
        have e := HN.out
        rw [if_pos hlc] at e
        have HE := Lib.hid e
        clear e HN
        go_wp2_with fail
        go_roundw
        case rel => exact ⟨k + 1, _, by omega, by go_num, by rw [HE.out], rfl⟩
        case measure => simp [intOf]; omega
      · have qc : decide (t ≤ c) = true := by simp; omega
        have e := HN.out
        rw [if_neg hlc] at e
        have HE := Lib.hid e
        clear e HN
        go_wp2_with fail
        go_roundw
        case rel => exact ⟨k + 1, _, by omega, by go_num, by rw [HE.out]; go_num, rfl⟩
        case measure => simp [intOf]; omega
    · obtain rfl : k = n := by omega
      have e : Rf.topOf ((Cn.canon l).take k) = (Cn.seen l).length := by rw [List.take_of_length_le (by rw [HCL.out]; exact Nat.le_refl _), Rf.topOf_canon]
      rw [e]
      clear e
      go_wp2_with fail
      go_ret
      exact ⟨rfl, hup.drewN q⟩

def bools (l : List Bool) : List Value := l.map Value.bool

theorem bools_length (l : List Bool) : (bools l).length = l.length := by simp [bools]

theorem bools_get {l : List Bool} {i : Nat} (h : i < l.length) : (bools l)[i]? = some (.bool (l.getD i false)) := by simp [bools, List.getD, h]

theorem bools_set (l : List Bool) (i : Nat) (b : Bool) : bools (l.set i b) = (bools l).set i (.bool b) := by simp [bools, List.map_set]

/-- A reference's partition lies at ⟨pb, po⟩. -/
structure RefAt (w : World) (pb po : Nat) (vB vM : Value) (n : Nat) (inn : List Nat) (mk : List Bool) (nb : Nat) : Prop where
  c0 : w.cell? ⟨pb, po, none⟩ = some vB
  c1 : w.cell? ⟨pb, po + 1, none⟩ = some vM
  c2 : w.cell? ⟨pb, po + 2, none⟩ = some (.int .i64 nb)
  rB : w.ownsRow 0 3 1 vB n (ints inn)
  rM : w.ownsRow 0 4 1 vM n (bools mk)
  nB : ∀ g, vB.ownBlock = some g → g ≠ pb
  nM : ∀ g, vM.ownBlock = some g → g ≠ pb

section
variable {w w1 : World} {pb po n nb : Nat} {vB vM : Value} {inn : List Nat} {mk : List Bool}

theorem RefAt.up (h : RefAt w pb po vB vM n inn mk nb) (hu : Up w w1) : RefAt w1 pb po vB vM n inn mk nb :=
  ⟨hu.cell h.c0, hu.cell h.c1, hu.cell h.c2, hu.owns h.rB, hu.owns h.rM, h.nB, h.nM⟩

theorem RefAt.li (h : RefAt w pb po vB vM n inn mk nb) : inn.length = n := by have := h.rB.1; rw [ints_length, Nat.mul_one] at this; exact this
theorem RefAt.lm (h : RefAt w pb po vB vM n inn mk nb) : mk.length = n := by have := h.rM.1; rw [bools_length, Nat.mul_one] at this; exact this

/-- What a walk sees of a row: its slice, and its cells under a condition. -/
theorem owns_seen {e base : Nat} {v : Value} {xs : List Value} (h : w.ownsRow base e 1 v n xs) :
    ∃ ao cap g, v = .slice ao n cap ∧ (0 < n → ao = some ⟨g, 0, none⟩ ∧ v.ownBlock = some g ∧ Row w g e cap xs) := by
  rcases owns_cases h with ⟨rfl, h0, _⟩ | ⟨g, cap, rfl, hr, _⟩
  · exact ⟨none, 0, 0, by rw [h0], fun hn => by omega⟩
  · rw [Nat.mul_one] at hr
    exact ⟨_, cap, g, rfl, fun _ => ⟨rfl, rfl, hr⟩⟩
end

def LstDone (w : World) (xs : List Int) (r : Ending) (w' : World) : Prop :=
  ∃ v, r = .returned v ∧ w'.ownsRow w.heap.size 3 1 v xs.length (xs.map (Value.int .i64)) ∧ Up w w'

set_option maxHeartbeats 1000000 in
set_option maxRecDepth 100000 in
theorem refMembers {w : World} {pb po n nb : Nat} {vB vM : Value} {inn : List Nat} {mk : List Bool} (b : Int) (h : RefAt w pb po vB vM n inn mk nb) (hn : n ≤ 1000000) :
    Calls Tryz.prog 37 #[.pointer (some ⟨pb, po, none⟩), .int .i64 b] w (LstDone w (Rf.refMem inn n b)) := by
  obtain ⟨i0, hi, hz0, hz1, hz2⟩ := info_parts Tryz.intInfo
  have c0 := h.c0
  have hli := h.li
  obtain ⟨ao, cap, g, rfl, hao⟩ := owns_seen h.rB
  have HR : Hid (∀ k, k < n → ao = some ⟨g, 0, none⟩ ∧ w.cell? ⟨g, k, none⟩ = some (.int .i64 (inn.getD k 0 : Nat))) := by
    intro k hk
    obtain ⟨h1, _, h3⟩ := hao (by omega)
    exact ⟨h1, h3.cell (ints_get (by rw [hli]; exact hk))⟩
  have HLE : Hid (∀ k, (Rf.refMem inn k b).length ≤ k) := fun k => Rf.refMem_le inn k b
  have HC0 := Lib.hid c0
  clear hao hli h c0
  go_enter Tryz.func37, Tryz.ntmps37
  go_wp2_with fail
  go_loopw [5, 6] (fun lv i wr => ∃ k : Nat, k ≤ n ∧ i = .int .i64 k ∧ wr.ownsRow w.heap.size 3 1 lv (Rf.refMem inn k b).length ((Rf.refMem inn k b).map (Value.int .i64)) ∧ Up w wr) (fun _ i _ => n - (intOf i).toNat)
  case atStart => exact ⟨0, Nat.zero_le _, rfl, World.ownsRow_nil _ _ _ _, Up.refl w⟩
  case round =>
    obtain ⟨k, hk, rfl, hown, hup⟩ := hrel
    have c0 := hup.cell HC0.out
    by_cases hlt : k < n
    · obtain ⟨rfl, cx0⟩ := HR.out k hlt
      have cx := hup.cell cx0
      have hsz := hup.size
      have hle := HLE.out k
      have HN := Lib.hid (Rf.refMem_succ inn k b)
      obtain ⟨x, hx⟩ : ∃ x, x = inn.getD k 0 := ⟨_, rfl⟩
      obtain ⟨l, hl⟩ : ∃ l, l = Rf.refMem inn k b := ⟨_, rfl⟩
      rw [← hx] at cx HN
      rw [← hl] at hown hle HN
      obtain ⟨so, sc, rfl⟩ := owns_shape' hown
      obtain ⟨m, hm⟩ : ∃ m, m = l.length := ⟨_, rfl⟩
      rw [← hm] at hown hle ⊢
      have HM := Lib.hid hm
      clear cx0 hx hl hm
      by_cases hxb : (x : Int) = b
      · have qx : ((x : Int) == b) = true := by simp [hxb]
        have e := HN.out
        rw [if_pos hxb] at e
        have HE := Lib.hid e
        have HEL : Hid ((Rf.refMem inn (k + 1) b).length = m + 1) := by rw [e, List.length_append, ← HM.out]; rfl
        clear e HN hxb
        go_wp2_with (at_builtin; (refine wpList_append_own _ rfl _ _ 22 rfl w.heap.size 3 i0 (.int .i64 0) 1 8 Tryz.underlying22 hi hz0 hz1 hz2 rfl (by decide) _ m _ rfl (hown.alloc _) ⟨wr.heap.size, 0, none⟩ 1 1 [.int .i64 (k : Nat)] rfl rfl (cell_one_new _ _ _) (ints_oneCell .i64 [(k : Int)]) (by unfold maxLen; omega) (by omega) (by simp; omega) ?_); intro v' w2 hown' hgrow' hnil'; clear hnil')
        go_roundw
        case rel => exact ⟨k + 1, by omega, by go_num, by rw [HEL.out, HE.out, List.map_append]; exact hown', (hup.alloc _).grown hgrow' (fun g hg => (hown.lt g hg).1)⟩
        case measure => simp [intOf]; omega
      · have qx : ((x : Int) == b) = false := by simp [hxb]
        have e := HN.out
        rw [if_neg hxb] at e
        have HE := Lib.hid e
        clear e HN hxb
        go_wp2_with fail
        go_roundw
        case rel => exact ⟨k + 1, by omega, by go_num, by rw [HE.out, ← HM.out]; exact hown, hup⟩
        case measure => simp [intOf]; omega
    · obtain rfl : k = n := by omega
      go_wp2_with fail
      go_ret
      exact ⟨_, rfl, hown, hup⟩

set_option maxHeartbeats 1000000 in
set_option maxRecDepth 100000 in
theorem refMarks {w : World} {pb po n nb : Nat} {vB vM : Value} {inn : List Nat} {mk : List Bool} (b : Int) (h : RefAt w pb po vB vM n inn mk nb) (hn : n ≤ 1000000) :
    Calls Tryz.prog 36 #[.pointer (some ⟨pb, po, none⟩), .int .i64 b] w fun r w' => r = .returned (.int .i64 (Rf.refMarks inn mk n b : Nat)) ∧ w = w' := by
  have c0 := h.c0
  have c1 := h.c1
  have hli := h.li
  have hlm := h.lm
  obtain ⟨ao, cap, g, rfl, hao⟩ := owns_seen h.rB
  obtain ⟨bo, cap2, g2, rfl, hbo⟩ := owns_seen h.rM
  have HR : Hid (∀ k, k < n → ao = some ⟨g, 0, none⟩ ∧ w.cell? ⟨g, k, none⟩ = some (.int .i64 (inn.getD k 0 : Nat)) ∧ bo = some ⟨g2, 0, none⟩ ∧ w.cell? ⟨g2, k, none⟩ = some (.bool (mk.getD k false))) := by
    intro k hk
    obtain ⟨h1, _, h3⟩ := hao (by omega)
    obtain ⟨h4, _, h6⟩ := hbo (by omega)
    exact ⟨h1, h3.cell (ints_get (by rw [hli]; exact hk)), h4, h6.cell (bools_get (by rw [hlm]; exact hk))⟩
  have HLE : Hid (∀ k, Rf.refMarks inn mk k b ≤ k) := fun k => Rf.refMarks_le inn mk k b
  clear hao hbo hli hlm h
  go_enter Tryz.func36, Tryz.ntmps36
  go_wp2_with fail
  go_loop [5, 6] (fun c i => ∃ k : Nat, k ≤ n ∧ i = .int .i64 k ∧ c = .int .i64 (Rf.refMarks inn mk k b : Nat)) (fun _ i => n - (intOf i).toNat)
  case atStart => exact ⟨0, Nat.zero_le _, rfl, rfl⟩
  case round =>
    obtain ⟨k, hk, rfl, rfl⟩ := hrel
    by_cases hlt : k < n
    · obtain ⟨rfl, cx, rfl, cm⟩ := HR.out k hlt
      have hle := HLE.out k
      have HN := Lib.hid (Rf.refMarks_succ inn mk k b)
      obtain ⟨x, hx⟩ : ∃ x, x = inn.getD k 0 := ⟨_, rfl⟩
      obtain ⟨m, hm⟩ : ∃ m, m = mk.getD k false := ⟨_, rfl⟩
      obtain ⟨t, ht⟩ : ∃ t, t = Rf.refMarks inn mk k b := ⟨_, rfl⟩
      rw [← hx] at cx HN
      rw [← hm] at cm HN
      rw [← ht] at hle HN ⊢
      clear hx hm ht
      by_cases hxb : (x : Int) = b
      · have qx : ((x : Int) == b) = true := by simp [hxb]
        cases m
        · have e := HN.out
          rw [if_neg (by simp)] at e
          have HE := Lib.hid e
          clear e HN hxb
          go_wp2_with fail
          go_round
          case rel => exact ⟨k + 1, by omega, by go_num, by rw [HE.out]; rfl⟩
          case measure => simp [intOf]; omega
        · have e := HN.out
          rw [if_pos ⟨hxb, rfl⟩] at e
          have HE := Lib.hid e
          clear e HN hxb
          go_wp2_with fail
          go_round
          case rel => exact ⟨k + 1, by omega, by go_num, by rw [HE.out]; go_num⟩
          case measure => simp [intOf]; omega
      · have qx : ((x : Int) == b) = false := by simp [hxb]
        have e := HN.out
        rw [if_neg (fun h => hxb h.1)] at e
        have HE := Lib.hid e
        clear e HN hxb
        go_wp2_with fail
        go_round
        case rel => exact ⟨k + 1, by omega, by go_num, by rw [HE.out]; rfl⟩
        case measure => simp [intOf]; omega
    · obtain rfl : k = n := by omega
      go_wp2_with fail
      go_ret
      exact ⟨rfl, rfl⟩

end Go.Proofs.YtfkhaldheclheaaGreatDoor

namespace Go.Proofs.YtfkhaldheclheaaGreatDoor
open Go.RowKit
set_option linter.unusedVariables false
set_option linter.unusedSimpArgs false

set_option maxHeartbeats 1000000 in
set_option maxRecDepth 100000 in
theorem refSome {w : World} {pb po n nb : Nat} {vB vM : Value} {inn : List Nat} {mk : List Bool} {s : Rf.St} (h : RefAt w pb po vB vM n inn mk nb) (hn : n ≤ 1000000) (hnb : nb ≤ 1000000) (hM : ∀ b, b < nb → Rf.refMarks inn mk n b = s.M b) (hMn : ∀ b, b < nb → s.M b ≤ 1000000) :
    Calls Tryz.prog 34 #[.pointer (some ⟨pb, po, none⟩)] w (LstDone w (s.hot nb)) := by
  obtain ⟨i0, hi, hz0, hz1, hz2⟩ := info_parts Tryz.intInfo
  have HLE : Hid (∀ k, (s.hot k).length ≤ k) := fun k => Rf.hot_len s k
  have HR := Lib.hid h
  have HM := Lib.hid hM
  have HMN := Lib.hid hMn
  clear h hM hMn
  go_enter Tryz.func34, Tryz.ntmps34
  go_wp2_with fail
  go_loopw [3, 4] (fun lv i wr => ∃ k : Nat, k ≤ nb ∧ i = .int .i64 k ∧ wr.ownsRow w.heap.size 3 1 lv (s.hot k).length ((s.hot k).map (Value.int .i64)) ∧ Up w wr) (fun _ i _ => nb - (intOf i).toNat)
  case atStart => exact ⟨0, Nat.zero_le _, rfl, World.ownsRow_nil _ _ _ _, Up.refl w⟩
  case round =>
    obtain ⟨k, hk, rfl, hown, hup⟩ := hrel
    have c2 := (HR.out.up hup).c2
    by_cases hlt : k < nb
    · have HC := Lib.hid (refMarks (k : Int) (HR.out.up hup) hn)
      rw [HM.out k hlt] at HC
      have hmn := HMN.out k hlt
      have hsz := hup.size
      have hle := HLE.out k
      have HN : Hid (s.hot (k + 1) = if 0 < s.M k then s.hot k ++ [(k : Int)] else s.hot k) := rfl
      obtain ⟨x, hx⟩ : ∃ x, x = s.M k := ⟨_, rfl⟩
      obtain ⟨l, hl⟩ : ∃ l, l = s.hot k := ⟨_, rfl⟩
      rw [← hx] at HC HN hmn
      rw [← hl] at hown hle HN
      obtain ⟨so, sc, rfl⟩ := owns_shape' hown
      obtain ⟨m, hm⟩ : ∃ m, m = l.length := ⟨_, rfl⟩
      rw [← hm] at hown hle ⊢
      have HML := Lib.hid hm
      clear hx hl hm
      by_cases hx0 : 0 < x
      · have qx : decide ((0 : Int) < (x : Int)) = true := by simp; omega
        have e := HN.out
        rw [if_pos hx0] at e
        have HE := Lib.hid e
        have HEL : Hid ((s.hot (k + 1)).length = m + 1) := by rw [e, List.length_append, ← HML.out]; rfl
        clear e HN
        go_wp2_with (first
          | (go_at_call 36; refine HC.out.mono ?_; rintro r w1 ⟨rfl, rfl⟩)
          | (at_builtin; (refine wpList_append_own _ rfl _ _ 22 rfl w.heap.size 3 i0 (.int .i64 0) 1 8 Tryz.underlying22 hi hz0 hz1 hz2 rfl (by decide) _ m _ rfl (hown.alloc _) ⟨wr.heap.size, 0, none⟩ 1 1 [.int .i64 (k : Nat)] rfl rfl (cell_one_new _ _ _) (ints_oneCell .i64 [(k : Int)]) (by unfold maxLen; omega) (by omega) (by simp; omega) ?_); intro v' w2 hown' hgrow' hnil'; clear hnil'))
        go_roundw
        case rel => exact ⟨k + 1, by omega, by go_num, by rw [HEL.out, HE.out, List.map_append]; exact hown', (hup.alloc _).grown hgrow' (fun g hg => (hown.lt g hg).1)⟩
        case measure => simp [intOf]; omega
      · obtain rfl : x = 0 := by omega
        have e := HN.out
        rw [if_neg hx0] at e
        have HE := Lib.hid e
        clear e HN
        go_wp2_with (go_at_call 36; refine HC.out.mono ?_; rintro r w1 ⟨rfl, rfl⟩)
        go_roundw
        case rel => exact ⟨k + 1, by omega, by go_num, by rw [HE.out, ← HML.out]; exact hown, hup⟩
        case measure => simp [intOf]; omega
    · obtain rfl : k = nb := by omega
      go_wp2_with fail
      go_ret
      exact ⟨_, rfl, hown, hup⟩

/-- The blocks that a reference's partition writes. -/
def RFoot (pb : Nat) (vB vM : Value) (k : Nat) : Prop := k = pb ∨ vB.ownBlock = some k ∨ vM.ownBlock = some k

section
variable {w w1 : World} {pb po n nb : Nat} {vB vM : Value} {inn : List Nat} {mk : List Bool}

theorem RefAt.setB {g cap : Nat} (h : RefAt w pb po (.slice (some ⟨g, 0, none⟩) n cap) vM n inn mk nb) (e v : Nat) : RefAt (w.setCell ⟨g, e, none⟩ (.int .i64 (v : Nat))) pb po (.slice (some ⟨g, 0, none⟩) n cap) vM n (inn.set e v) mk nb := by
  have hg := h.nB g rfl
  have hr := Row.of h.rB
  refine ⟨?_, ?_, ?_, ?_, ?_, h.nB, h.nM⟩
  · rw [World.cell?_setCell_other _ _ _ _ (by simp only [ne_eq, Addr.mk.injEq]; omega)]; exact h.c0
  · rw [World.cell?_setCell_other _ _ _ _ (by simp only [ne_eq, Addr.mk.injEq]; omega)]; exact h.c1
  · rw [World.cell?_setCell_other _ _ _ _ (by simp only [ne_eq, Addr.mk.injEq]; omega)]; exact h.c2
  · rw [ints_set]
    exact (hr.1.set e _).owns hr.2.1 hr.2.2.1 (by rw [List.length_set]; exact hr.2.2.2)
  · refine owns_keep h.rM (fun g2 hg2 => Below.heap_setCell _ _ _ _ ?_)
    rintro rfl
    obtain ⟨cur, hc⟩ := owns_type h.rM hg2
    exact row_ne' hr.1 hc (by decide)

theorem RefAt.setM {g cap : Nat} (h : RefAt w pb po vB (.slice (some ⟨g, 0, none⟩) n cap) n inn mk nb) (e : Nat) (b : Bool) : RefAt (w.setCell ⟨g, e, none⟩ (.bool b)) pb po vB (.slice (some ⟨g, 0, none⟩) n cap) n inn (mk.set e b) nb := by
  have hg := h.nM g rfl
  have hr := Row.of h.rM
  refine ⟨?_, ?_, ?_, ?_, ?_, h.nB, h.nM⟩
  · rw [World.cell?_setCell_other _ _ _ _ (by simp only [ne_eq, Addr.mk.injEq]; omega)]; exact h.c0
  · rw [World.cell?_setCell_other _ _ _ _ (by simp only [ne_eq, Addr.mk.injEq]; omega)]; exact h.c1
  · rw [World.cell?_setCell_other _ _ _ _ (by simp only [ne_eq, Addr.mk.injEq]; omega)]; exact h.c2
  · refine owns_keep h.rB (fun g2 hg2 => Below.heap_setCell _ _ _ _ ?_)
    rintro rfl
    obtain ⟨cur, hc⟩ := owns_type h.rB hg2
    exact row_ne' hr.1 hc (by decide)
  · rw [bools_set]
    exact (hr.1.set e _).owns hr.2.1 hr.2.2.1 (by rw [List.length_set]; exact hr.2.2.2)

theorem RefAt.setN (h : RefAt w pb po vB vM n inn mk nb) (v : Nat) : RefAt (w.setCell ⟨pb, po + 2, none⟩ (.int .i64 (v : Nat))) pb po vB vM n inn mk v := by
  refine ⟨?_, ?_, ?_, ?_, ?_, h.nB, h.nM⟩
  · rw [World.cell?_setCell_other _ _ _ _ (by simp only [ne_eq, Addr.mk.injEq]; omega)]; exact h.c0
  · rw [World.cell?_setCell_other _ _ _ _ (by simp only [ne_eq, Addr.mk.injEq]; omega)]; exact h.c1
  · exact World.cell?_setCell_same _ _ _ h.c2
  · exact owns_keep h.rB (fun g2 hg2 => Below.heap_setCell _ _ _ _ (h.nB g2 hg2))
  · exact owns_keep h.rM (fun g2 hg2 => Below.heap_setCell _ _ _ _ (h.nM g2 hg2))
end

end Go.Proofs.YtfkhaldheclheaaGreatDoor
