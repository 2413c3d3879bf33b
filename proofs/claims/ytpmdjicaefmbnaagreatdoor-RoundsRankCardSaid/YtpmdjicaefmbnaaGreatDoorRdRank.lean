/- Walks: rounds.rank$1, slices.IndexFunc at rows, rounds.rank. -/
import Derived.Test.YtpmdjicaefmbnaaGreatDoorRdAll
namespace Go.Proofs.YtpmdjicaefmbnaaGreatDoor
open Go.RowKit Go.Sort Go.Maps
set_option linter.unusedVariables false
set_option linter.unusedSimpArgs false

theorem at_nat {w : World} {g off i : Nat} {c : List Nat} (h : IntsAt w g off (c.map Int.ofNat)) (hi : i < c.length) : w.cell? ⟨g, off + i, none⟩ = some (.int .i64 ((c.getD i 0 : Nat) : Int)) := by
  have := h i (by rw [List.length_map]; exact hi)
  rw [this]
  simp [List.getD, hi]

set_option maxHeartbeats 2000000 in
set_option maxRecDepth 100000 in
theorem rank1_any {w : World} {pb qb p q : Nat} {c : List Nat} {v : Value} (hp : w.cell? ⟨pb, 0, none⟩ = some (.int .i64 (p : Nat))) (hq : w.cell? ⟨qb, 0, none⟩ = some (.int .i64 (q : Nat))) (hv : Lst w v (c.map Int.ofNat)) (hpl : p < c.length) (hql : q < c.length) (hm : c.length ≤ 1000) :
    Calls Tryz.prog 125 #[v, .pointer (some ⟨pb, 0, none⟩), .pointer (some ⟨qb, 0, none⟩)] w fun r w' => r = .returned (.bool (c.getD p 0 != c.getD q 0)) ∧ Up w w' := by
  obtain ⟨ao, cap, g, off, rfl, ha, hx⟩ := hv
  have hx1 := at_nat hx hpl
  have hx2 := at_nat hx hql
  rw [List.length_map] at ha ⊢
  obtain rfl := ha (by omega)
  obtain ⟨n, hn⟩ : ∃ n, n = c.length := ⟨_, rfl⟩
  rw [← hn] at hpl hql hm ⊢
  obtain ⟨x, hxe⟩ : ∃ x, c.getD p 0 = x := ⟨_, rfl⟩
  obtain ⟨y, hye⟩ : ∃ y, c.getD q 0 = y := ⟨_, rfl⟩
  rw [hxe] at hx1 ⊢
  rw [hye] at hx2 ⊢
  clear hx ha hn hxe hye
  by_cases hxy : x = y
  · subst hxy
    have q1 : ((x : Int) != (x : Int)) = false := by simp
    have HQ : Hid (false = (x != x)) := Lib.hid (by simp)
    go_enter Tryz.func125, Tryz.ntmps125
    go_wp2_with fail
    go_quiet (fail)
    go_wp2_with fail
    go_ret
    exact ⟨ret_bool HQ.out, (Up.refl w).drewN _⟩
  · have q1 : ((x : Int) != (y : Int)) = true := by simp; omega
    have HQ : Hid (true = (x != y)) := Lib.hid (by simp [hxy])
    clear hxy
    go_enter Tryz.func125, Tryz.ntmps125
    go_wp2_with fail
    go_quiet (fail)
    go_wp2_with fail
    go_ret
    exact ⟨ret_bool HQ.out, (Up.refl w).drewN _⟩

/-- A list of rows, as it reads. -/
def RowsRd (w : World) (v : Value) (rows : List (List Nat)) : Prop :=
  ∃ g cap, v = .slice (some ⟨g, 0, none⟩) rows.length cap ∧ ∀ i, i < rows.length → ∃ u, w.cell? ⟨g, i, none⟩ = some u ∧ Lst w u ((rows.getD i []).map Int.ofNat)

theorem RowsRd.up {w w1 : World} {v : Value} {rows : List (List Nat)} (h : RowsRd w v rows) (hu : Up w w1) : RowsRd w1 v rows := by
  obtain ⟨g, cap, hv, hr⟩ := h
  refine ⟨g, cap, hv, fun i hi => ?_⟩
  obtain ⟨u, h1, h2⟩ := hr i hi
  exact ⟨u, hu.cell h1, h2.up hu⟩

theorem RowsOf.at {w : World} {b n : Nat} {v : Value} {vs : List Value} {rows : List (List Nat)} (ho : w.ownsRow b 34 1 v n vs) (h : RowsOf b w vs rows) (hn : rows.length = n) (h0 : 0 < n) : RowsRd w v rows := by
  rcases owns_cases ho with ⟨-, h1, -⟩ | ⟨g, cap, rfl, hr, -⟩
  · omega
  · refine ⟨g, cap, by rw [hn], fun i hi => ?_⟩
    have hi2 : i < vs.length := by rw [h.1]; exact hi
    refine ⟨vs.getD i undef, hr.cell (by simp [List.getD, hi2]), owns_lst (h.2.1 i hi)⟩

/-- The first row in which two places part; -1: there is none. -/
def firstApart (rows : List (List Nat)) (p q : Nat) : Int :=
  match rows.findIdx? (fun l => l.getD p 0 != l.getD q 0) with
  | some k => (k : Int)
  | none => -1

theorem apart_hit {rows : List (List Nat)} {p q j : Nat} (hj : j < rows.length) (h : ∀ k, k < j → ((rows.getD k []).getD p 0 != (rows.getD k []).getD q 0) = false) (h1 : ((rows.getD j []).getD p 0 != (rows.getD j []).getD q 0) = true) : firstApart rows p q = j := by
  have : rows.findIdx? (fun l => l.getD p 0 != l.getD q 0) = some j := by
    rw [List.findIdx?_eq_some_iff_getElem]
    refine ⟨hj, ?_, fun k hk => ?_⟩
    · rw [getD_of [] hj]; exact h1
    · rw [getD_of [] (by omega : k < rows.length), h k hk]; simp
  unfold firstApart; rw [this]

theorem apart_none {rows : List (List Nat)} {p q : Nat} (h : ∀ k, k < rows.length → ((rows.getD k []).getD p 0 != (rows.getD k []).getD q 0) = false) : firstApart rows p q = -1 := by
  have : rows.findIdx? (fun l => l.getD p 0 != l.getD q 0) = none := by
    rw [List.findIdx?_eq_none_iff]
    intro l hl
    obtain ⟨k, hk, rfl⟩ := List.mem_iff_getElem.1 hl
    rw [getD_of [] hk]; exact h k hk
  unfold firstApart; rw [this]

set_option maxHeartbeats 800000 in
set_option maxRecDepth 100000 in
theorem index_any {w : World} {pb qb p q : Nat} {rows : List (List Nat)} {v : Value} (hp : w.cell? ⟨pb, 0, none⟩ = some (.int .i64 (p : Nat))) (hq : w.cell? ⟨qb, 0, none⟩ = some (.int .i64 (q : Nat))) (hv : RowsRd w v rows) (hm : rows.length ≤ 1001)
    (hl : ∀ c ∈ rows, p < c.length ∧ q < c.length ∧ c.length ≤ 1000) :
    Calls Tryz.prog 124 #[v, .func (.func 125) #[] #[.pointer (some ⟨pb, 0, none⟩), .pointer (some ⟨qb, 0, none⟩)]] w fun r w' => r = .returned (.int .i64 (firstApart rows p q)) ∧ Up w w' := by
  obtain ⟨g, cap, rfl, hr⟩ := hv
  obtain ⟨m, hmm⟩ : ∃ m, m = rows.length := ⟨_, rfl⟩
  rw [← hmm] at hm ⊢
  have HM := Lib.hid hmm
  have HR := Lib.hid hr
  have HL := Lib.hid hl
  have HP := Lib.hid hp
  have HQ := Lib.hid hq
  clear hmm hr hl hp hq
  go_enter Tryz.func124, Tryz.ntmps124
  go_wp2_with fail
  go_loopw [8] (fun i wr => ∃ j : Nat, j ≤ m ∧ i = .int .i64 j ∧ Up w wr ∧ Hid (∀ k, k < j → ((rows.getD k []).getD p 0 != (rows.getD k []).getD q 0) = false)) (fun i _ => m - (intOf i).toNat)
  case atStart => exact ⟨0, Nat.zero_le _, rfl, Up.refl _, fun k hk => by omega⟩
  case round =>
    obtain ⟨j, hj, rfl, hU, HE⟩ := hrel
    by_cases hlt : j < m
    · obtain ⟨u, hc, hlst⟩ := HR.out j (by rw [← HM.out]; exact hlt)
      have hmem : rows.getD j [] ∈ rows := by rw [← getD_of [] (by rw [← HM.out]; exact hlt)]; exact List.getElem_mem _
      obtain ⟨hp1, hq1, hm1⟩ := HL.out _ hmem
      have hcall : ∀ W, Up w W → Calls Tryz.prog 125 #[u, .pointer (some ⟨pb, 0, none⟩), .pointer (some ⟨qb, 0, none⟩)] W fun r w' => r = .returned (.bool ((rows.getD j []).getD p 0 != (rows.getD j []).getD q 0)) ∧ Up W w' := fun W hW =>
        rank1_any (hW.cell HP.out) (hW.cell HQ.out) (hlst.up hW) hp1 hq1 hm1
      obtain ⟨ao, ucap, ug, uoff, hue, -, -⟩ := hlst
      obtain ⟨L, hLL⟩ : ∃ L, L = ((rows.getD j []).map Int.ofNat).length := ⟨_, rfl⟩
      rw [← hLL] at hue
      subst hue
      clear hLL
      have c0 := hU.cell hc
      obtain ⟨t, ht⟩ : ∃ t, ((rows.getD j []).getD p 0 != (rows.getD j []).getD q 0) = t := ⟨_, rfl⟩
      rw [ht] at hcall
      have HT := Lib.hid ht
      have HC := Lib.hid hcall
      clear hc hmem hp1 hq1 hm1 hcall ht
      cases t
      · go_wp2_with (go_at_call 125; refine (HC.out _ hU).mono ?_; rintro r w1 ⟨rfl, hu1⟩)
        go_roundw
        case rel => exact ⟨j + 1, by omega, by go_num, hU.trans hu1, fun k hk => by
            by_cases hkj : k = j
            · rw [hkj]; exact HT.out
            · exact HE.out k (by omega)⟩
        case measure => simp [intOf] <;> omega
      · go_wp2_with (go_at_call 125; refine (HC.out _ hU).mono ?_; rintro r w1 ⟨rfl, hu1⟩)
        go_ret
        exact ⟨ret_int (apart_hit (by rw [← HM.out]; exact hlt) HE.out HT.out).symm, hU.trans hu1⟩
    · obtain rfl : j = m := by omega
      go_wp2_with fail
      go_ret
      exact ⟨ret_int (apart_none (fun k hk => HE.out k (by rw [HM.out]; exact hk))).symm, hU⟩

theorem rank_eq (s : Sy.Lts) (p q : Nat) : firstApart (Rd.rounds s) p q = Rd.rank s p q := rfl

set_option maxHeartbeats 800000 in
theorem rank_any {w : World} {p q : Nat} {rows : List (List Nat)} {v : Value} (hv : RowsRd w v rows) (hm : rows.length ≤ 1001) (hl : ∀ c ∈ rows, p < c.length ∧ q < c.length ∧ c.length ≤ 1000) :
    Calls Tryz.prog 52 #[v, .int .i64 (p : Nat), .int .i64 (q : Nat)] w fun r w' => r = .returned (.int .i64 (firstApart rows p q)) ∧ Up w w' := by
  have HI : Hid (∀ W pb qb, Up w W → W.cell? ⟨pb, 0, none⟩ = some (.int .i64 (p : Nat)) → W.cell? ⟨qb, 0, none⟩ = some (.int .i64 (q : Nat)) → Calls Tryz.prog 124 #[v, .func (.func 125) #[] #[.pointer (some ⟨pb, 0, none⟩), .pointer (some ⟨qb, 0, none⟩)]] W fun r w' => r = .returned (.int .i64 (firstApart rows p q)) ∧ Up W w') :=
    Lib.hid (fun W pb qb hW h1 h2 => index_any h1 h2 (hv.up hW) hm hl)
  obtain ⟨g, cap, rfl, -⟩ := hv
  obtain ⟨m, hmm⟩ : ∃ m, m = rows.length := ⟨_, rfl⟩
  rw [← hmm] at HI ⊢
  obtain ⟨f, hf⟩ : ∃ f, f = firstApart rows p q := ⟨_, rfl⟩
  rw [← hf] at HI ⊢
  clear hmm hf hm hl
  go_enter Tryz.func52, Tryz.ntmps52
  go_wp2_with (go_at_call 124; refine (HI.out _ _ _ (((Up.refl w).alloc _).alloc _) (by simp) (by simp)).mono ?_; rintro r w1 ⟨rfl, hu1⟩)
  go_ret
  exact ⟨rfl, (((Up.refl w).alloc _).alloc _).trans hu1⟩

end Go.Proofs.YtpmdjicaefmbnaaGreatDoor
