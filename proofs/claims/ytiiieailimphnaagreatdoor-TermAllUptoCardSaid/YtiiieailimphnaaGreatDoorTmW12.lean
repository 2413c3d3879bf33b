/- Walks: what Weight reckons of one term; gather; Weight; alive. -/
import Derived.Test.YtiiieailimphnaaGreatDoorTmW11
namespace Go.Proofs.YtiiieailimphnaaGreatDoor
open Go.RowKit Go.Maps
set_option linter.unusedVariables false
set_option linter.unusedSimpArgs false

theorem sum_snoc (l : List Int) (ps : List Int) (k : Nat) (h : k < ps.length) : Tm.sumAt l (ps.take (k + 1)) = Tm.sumAt l (ps.take k) + l.getD (ps.getD k 0).toNat 0 := by
  rw [Tm.sumAt, List.take_succ_eq_append_getElem h, List.foldl_append]
  simp [Tm.sumAt, List.getD, h]

/-- What the reckoning of one term leaves. -/
def SumDone (t : Tm.T) (l : List Int) (w : World) (r : Ending) (w' : World) : Prop := r = .returned (.int .i64 (Tm.sumAt l t.parts)) ∧ Up w w'

set_option maxHeartbeats 4000000 in
set_option maxRecDepth 100000 in
theorem sum_any (t : Tm.T) (nv pv : Value) (l : List Int) (g m : Nat) (w : World) (hr : Row w g 3 m (vals l)) (hl : l.length = m) (hm : m ≤ 1000) (hp : ∀ p ∈ t.parts, 0 ≤ p ∧ p < m) (hb : ∀ k, 0 ≤ l.getD k 0 ∧ l.getD k 0 ≤ 65537) :
    Calls Tryz.prog 27 #[.agg #[.int .i64 t.kind, .int .i64 t.label, .int .i64 t.a, .int .i64 t.b, nv, pv], .slice (some ⟨g, 0, none⟩) m m] w (SumDone t l w) := by
  have hU0 := (Up.refl w).alloc (.cells #[.int .i64 t.kind, .int .i64 t.label, .int .i64 t.a, .int .i64 t.b, nv, pv] 35)
  have HR : Hid (∀ W, Up w W → Row W g 3 m (vals l)) := fun W hW => hW.row hr
  have HP := Lib.hid hp
  have HL := Lib.hid hl
  have HSB : Hid (∀ q, q ≤ 2 → 1 ≤ Tm.sumAt l (t.parts.take q) ∧ Tm.sumAt l (t.parts.take q) ≤ 200000) := fun q hq => by
    have := Tm.sum_bound (l := l) (B := 65537) hb (by omega) (t.parts.take q) 1
    have hl2 : (t.parts.take q).length ≤ 2 := by rw [List.length_take]; omega
    have h3 : (65537 : Int) * ((t.parts.take q).length : Int) ≤ 65537 * 2 := by omega
    exact ⟨this.1, by have := this.2; unfold Tm.sumAt; omega⟩
  have HBD := Lib.hid hb
  clear hr hp hl hb
  go_enter Tryz.func27, Tryz.ntmps27
  go_wp2_with fail
  (with_reducible refine (parts_lit t _ _ _).mono ?_)
  rintro e w3 ⟨v, rfl, hv, hb3⟩
  have hU3 := hU0.trans hb3
  have hr3 := HR.out _ hU3
  obtain ⟨ao3, c3, g3, o3, rfl, ha3, hx3⟩ := hv
  unfold IntsAt at hx3
  obtain ⟨k, hk⟩ : ∃ k, k = t.parts.length := ⟨_, rfl⟩
  have hk2 : k ≤ 2 := by rw [hk]; exact parts_le t
  rw [← hk] at ha3 hx3 ⊢
  have HK := Lib.hid hk
  have HA3 := Lib.hid ha3
  have HX3 := Lib.hid hx3
  have HR3 := Lib.hid hr3
  clear hk ha3 hx3 hb3 hU0 hr3
  go_wp2_with fail
  go_loop [5, 11] (fun n i => ∃ q : Nat, q ≤ k ∧ i = .int .i64 q ∧ n = .int .i64 (Tm.sumAt l (t.parts.take q))) (fun _ i => k - (intOf i).toNat)
  case atStart => exact ⟨0, Nat.zero_le _, rfl, rfl⟩
  case round =>
    obtain ⟨q, hq, rfl, rfl⟩ := hrel
    by_cases hlt : q < k
    · obtain rfl := HA3.out (by omega)
      have hc := HX3.out q hlt
      have hp := HP.out (t.parts.getD q 0) (by
        have hq' : q < t.parts.length := by rw [← HK.out]; exact hlt
        simp only [List.getD, List.getElem?_eq_getElem hq', Option.getD_some]; exact List.getElem_mem hq')
      have HS : Hid (Tm.sumAt l (t.parts.take (q + 1)) = Tm.sumAt l (t.parts.take q) + l.getD (t.parts.getD q 0).toNat 0) := sum_snoc _ _ _ (by rw [← HK.out]; exact hlt)
      obtain ⟨x, hx⟩ : ∃ x, x = t.parts.getD q 0 := ⟨_, rfl⟩
      rw [← hx] at hc hp HS
      obtain ⟨y, rfl⟩ := Int.eq_ofNat_of_zero_le hp.1
      have hym : y < m := by omega
      have hcy := HR3.out.cell (vals_get (l := l) (i := y) (by rw [HL.out]; exact hym))
      have hb1 := HSB.out q (by omega)
      have hb2 := HBD.out y
      obtain ⟨a, ha⟩ : ∃ a, a = Tm.sumAt l (t.parts.take q) := ⟨_, rfl⟩
      obtain ⟨b, hb⟩ : ∃ b, b = l.getD y 0 := ⟨_, rfl⟩
      rw [← hb] at hcy hb2
      rw [← ha] at hb1 ⊢
      have HSS : Hid (Tm.sumAt l (t.parts.take (q + 1)) = a + b) := Lib.hid (by rw [HS.out, ha, hb]; rfl)
      clear hx hp ha hb HS
      go_wp2_with fail
      go_round
      case rel => exact ⟨q + 1, by omega, by go_num, by rw [HSS.out]⟩
      case measure => simp [intOf]; omega
    · obtain rfl : q = k := by omega
      have e : t.parts.take q = t.parts := by rw [HK.out, List.take_length]
      rw [e]
      clear e
      go_wp2_with fail
      go_ret
      exact ⟨rfl, hU3⟩

theorem kn_bound (s : List Tm.T) (ins : List Bool) (m : Nat) : ∀ i k, 0 ≤ (Tm.kn s ins m i).getD k 0 ∧ (Tm.kn s ins m i).getD k 0 ≤ 65537 := by
  intro i
  induction i with
  | zero => intro k; rw [Tm.kn]; simp only [List.getD, List.getElem?_replicate]; split <;> simp
  | succ i ih =>
    intro k
    rw [Tm.kn]
    split
    · rw [Tm.getD_set']
      split
      · have := (Tm.sum_bound ih (by omega) (Tm.partsAt s i) 1).1
        unfold Tm.sumAt
        omega
      · exact ih k
    · exact ih k

/-- What gather leaves, the reckoning being that of weights. -/
def GatherDone (s : List Tm.T) (id : Nat) (w : World) (r : Ending) (w' : World) : Prop := r = .returned (.int .i64 (Tm.weight s id)) ∧ Up w w'

set_option maxHeartbeats 8000000 in
set_option maxRecDepth 100000 in
theorem gather_any {F : Nat → Prop} {w : World} {B : Nat} {s : List Tm.T} (h : St F w B s) {id : Nat} (hi : id < s.length) (hm : s.length ≤ 1000) :
    Calls Tryz.prog 26 #[.pointer (some ⟨B, 0, none⟩), .int .i64 id, .func (.func 27) #[] #[]] w (GatherDone s id w) := by
  obtain ⟨i0, hif, hz0, hz1, hz2⟩ := info_parts Tryz.intInfo'
  have HT : Hid (∀ (W : World) (j : Nat), Up w W → (hj : j < s.length) → ∃ g cap nv pv, W.cell? ⟨B, 0, none⟩ = some (.slice (some ⟨g, 0, none⟩) s.length cap) ∧
      W.cell? ⟨g, j * 6, none⟩ = some (.int .i64 s[j].kind) ∧ W.cell? ⟨g, j * 6 + 1, none⟩ = some (.int .i64 s[j].label) ∧ W.cell? ⟨g, j * 6 + 2, none⟩ = some (.int .i64 s[j].a) ∧ W.cell? ⟨g, j * 6 + 3, none⟩ = some (.int .i64 s[j].b) ∧
      W.cell? ⟨g, j * 6 + 4, none⟩ = some nv ∧ W.cell? ⟨g, j * 6 + 5, none⟩ = some pv ∧ (∃ p q, nv = .slice p s[j].names.length q) ∧ ∃ p q, pv = .slice p s[j].pairs.length q) := fun W j hW hj => by
    obtain ⟨g, cap, vm, nv, pv, hb, hc, ho, -⟩ := (h.up hW).term hj
    exact ⟨g, cap, nv, pv, (box2 hb).1, hc 0 _ (by omega) rfl, hc 1 _ (by omega) rfl, hc 2 _ (by omega) rfl, hc 3 _ (by omega) rfl, hc 4 _ (by omega) rfl, hc 5 _ (by omega) rfl, owns_shape' ho.n, owns_shape' ho.p⟩
  have HP : Hid (∀ j (hj : j < s.length), s[j].parts = Tm.partsAt s j ∧ (∀ p ∈ s[j].parts, 0 ≤ p ∧ p < j)) := fun j hj => by
    have e : s[j].parts = Tm.partsAt s j := by simp [Tm.partsAt, hj]
    exact ⟨e, by rw [e]; exact Tm.partsAt_lt h.inv j⟩
  have HWI : Hid (∀ W, Up w W → Calls Tryz.prog 29 #[.pointer (some ⟨B, 0, none⟩), .int .i64 id] W (WithinDone s id W)) := fun W hW => within_any (h.up hW) hi hm
  have HEND : Hid ((Tm.kn s (Tm.within s id) (id + 1) (id + 1)).getD id 0 = Tm.weight s id) := Tm.weight_kn h.inv id
  clear h
  go_enter Tryz.func26, Tryz.ntmps26
  go_wp2_with (first
    | (at_make; refine wpList_make_full _ rfl _ _ 29 rfl 0 3 i0 (.int .i64 0) 1 Tryz.underlying29 hif hz0 hz1 _ _ _ _ (id + 1) rfl rfl (by omega) (by omega) (by rw [hz2]; omega) (by unfold maxLen; omega) (Nat.zero_le _) ?_; intro w1 hown hgrow; rw [made_zeros] at hown; (obtain ⟨hrow, -, -, -⟩ := Row.of hown); rw [Nat.mul_one] at hrow; (have hU1 : Up w w1 := (Up.refl w).grown hgrow (fun k hk => by cases hk)); clear hown hgrow; (replace hrow := Lib.hid hrow))
    | (go_at_call 29; (with_reducible refine (HWI.out _ hU1).mono ?_); rintro e w2 ⟨gm, rfl, hrm, hgm, hU2⟩; (replace hrm := Lib.hid hrm)))
  have hU3 := hU1.trans hU2
  have hrow2 := hU2.row hrow.out
  have HGG : Hid (gm ≠ w.heap.size) := fun e => by
    obtain ⟨cur, hg, -⟩ := hrm.out
    rw [e] at hg
    exact row_ne' hrow2 hg (by decide)
  obtain ⟨g, hg⟩ : ∃ g, g = w.heap.size := ⟨_, rfl⟩
  rw [← hg] at hrow2 HGG ⊢
  have HG := Lib.hid hg
  have hrm2 := hrm.out
  obtain ⟨ins, hins⟩ : ∃ ins, ins = Tm.within s id := ⟨_, rfl⟩
  rw [← hins] at hrm2 HEND
  have HINS : Hid (ins.length = id + 1) := Lib.hid (by rw [hins]; exact Tm.within_len s id)
  have HKL : Hid (∀ j, (Tm.kn s ins (id + 1) j).length = id + 1) := fun j => Tm.kn_len _ _ _ _
  clear hg hrow hrm hins hU1 hU2 hgm HWI
  go_loopw [17] (fun i wr => ∃ j : Nat, j ≤ id + 1 ∧ i = .int .i64 j ∧ Row wr g 3 (id + 1) (vals (Tm.kn s ins (id + 1) j)) ∧ Row wr gm 4 (id + 1) (bvals ins) ∧ Up w wr) (fun i _ => id + 1 - (intOf i).toNat)
  case atStart => exact ⟨0, Nat.zero_le _, rfl, hrow2, hrm2, hU3⟩
  case round =>
    clear hrow2 hrm2 hU3
    obtain ⟨j, hj, rfl, hr, hrm, hU⟩ := hrel
    by_cases hlt : j < id + 1
    · obtain ⟨b, hb⟩ : ∃ b, b = ins.getD j false := ⟨_, rfl⟩
      have hcb : wr.cell? ⟨gm, j, none⟩ = some (.bool b) := by rw [hb]; exact hrm.cell (bvals_get (by rw [HINS.out]; exact hlt))
      have hKS : Tm.kn s ins (id + 1) (j + 1) = if b = true then (Tm.kn s ins (id + 1) j).set j (min (Tm.sumAt (Tm.kn s ins (id + 1) j) (Tm.partsAt s j)) 65537) else Tm.kn s ins (id + 1) j := by rw [Tm.kn, hb]
      have HKS := Lib.hid hKS
      clear hb hKS
      cases b
      · have HN : Hid (Tm.kn s ins (id + 1) (j + 1) = Tm.kn s ins (id + 1) j) := Lib.hid (by have := HKS.out; simpa using this)
        clear HKS
        go_wp2_with fail
        go_roundw
        case rel => exact ⟨j + 1, by omega, by go_num, by rw [HN.out]; exact hr, hrm, hU⟩
        case measure => simp [intOf] <;> omega
      · have HN : Hid (Tm.kn s ins (id + 1) (j + 1) = (Tm.kn s ins (id + 1) j).set j (min (Tm.sumAt (Tm.kn s ins (id + 1) j) (Tm.partsAt s j)) 65537)) := Lib.hid (by have := HKS.out; simpa using this)
        have hjs : j < s.length := by omega
        obtain ⟨g6, cap, nv, pv, c0, y0, y1, y2, y3, y4, y5, ⟨p1, q1, rfl⟩, p2, q2, rfl⟩ := HT.out wr j hU hjs
        obtain ⟨ep, hp⟩ := HP.out j hjs
        obtain ⟨t, ht⟩ : ∃ t, t = s[j] := ⟨_, rfl⟩
        rw [← ht] at y0 y1 y2 y3 y4 y5 ep hp
        obtain ⟨n, hn⟩ : ∃ n, n = s.length := ⟨_, rfl⟩
        rw [← hn] at c0 hjs
        obtain ⟨l1, hl1⟩ : ∃ l, l = t.names.length := ⟨_, rfl⟩
        obtain ⟨l2, hl2⟩ : ∃ l, l = t.pairs.length := ⟨_, rfl⟩
        rw [← hl1] at y4
        rw [← hl2] at y5
        rw [← ep] at HN
        have HSUM : Hid (Calls Tryz.prog 27 #[.agg #[.int .i64 t.kind, .int .i64 t.label, .int .i64 t.a, .int .i64 t.b, .slice p1 l1 q1, .slice p2 l2 q2], .slice (some ⟨g, 0, none⟩) (id + 1) (id + 1)] wr (SumDone t (Tm.kn s ins (id + 1) j) wr)) :=
          sum_any t _ _ _ g (id + 1) wr hr (HKL.out j) (by omega) (fun p hpp => by have := hp p hpp; omega) (kn_bound s ins (id + 1) j)
        have hcg := hr.cell (vals_get (l := Tm.kn s ins (id + 1) j) (i := j) (by rw [HKL.out]; exact hlt))
        have hfg := hr.free j
        obtain ⟨x0, hx0⟩ : ∃ x, x = (Tm.kn s ins (id + 1) j).getD j 0 := ⟨_, rfl⟩
        rw [← hx0] at hcg
        obtain ⟨sm, hsm⟩ : ∃ sm, sm = Tm.sumAt (Tm.kn s ins (id + 1) j) t.parts := ⟨_, rfl⟩
        have HSM := Lib.hid hsm
        rw [← hsm] at HN
        have HR := Lib.hid hr
        have HRM := Lib.hid hrm
        clear ht hn hl1 hl2 hp ep HKS hx0 hsm hr hrm
        go_wp2_with fail
        (with_reducible refine HSUM.out.mono ?_)
        rintro e w4 ⟨rfl, hU4⟩
        rw [← HSM.out]
        have hcg4 := hU4.cell hcg
        have hfg4 := (hU4.free hcg).trans hfg
        have hr4 := Lib.hid ((hU4.row HR.out).set j (.int .i64 (min sm 65537)))
        have hrm4 := Lib.hid ((hU4.row HRM.out).other (a := ⟨g, j, none⟩) HGG.out (.int .i64 (min sm 65537)))
        have hU5 := Lib.hid ((hU.trans hU4).setCell (p := ⟨g, j, none⟩) (Nat.le_of_eq HG.out.symm) (.int .i64 (min sm 65537)))
        clear hcb c0 y0 y1 y2 y3 y4 y5 hcg hfg hU hU4 HSUM
        go_wp2_with fail
        go_roundw
        case rel => exact ⟨j + 1, by omega, by go_num, by rw [HN.out, vals_set]; exact hr4.out, hrm4.out, hU5.out⟩
        case measure => simp [intOf] <;> omega
    · obtain rfl : j = id + 1 := by omega
      have hcg := hr.cell (vals_get (l := Tm.kn s ins (id + 1) (id + 1)) (i := id) (by rw [HKL.out]; omega))
      rw [HEND.out] at hcg
      go_wp2_with fail
      go_ret
      exact ⟨rfl, hU⟩

/-- What Weight of a term that is there leaves. -/
def WeightDone (s : List Tm.T) (id : Nat) (w : World) (r : Ending) (w' : World) : Prop := r = .returned (.tuple #[.int .i64 (Tm.weight s id), .nilIface]) ∧ Up w w'

theorem weight_in {F : Nat → Prop} {w : World} {B : Nat} {s : List Tm.T} (h : St F w B s) {id : Nat} (hi : id < s.length) (hm : s.length ≤ 1000) :
    Calls Tryz.prog 9 #[.pointer (some ⟨B, 0, none⟩), .int .i64 id] w (WeightDone s id w) := by
  have HA := Lib.hid (asked_in h id ⟨by omega, by omega⟩)
  have HG := Lib.hid (gather_any h hi hm)
  clear h hi hm
  go_enter Tryz.func9, Tryz.ntmps9
  go_wp2_with (first | (go_at_call 25; (with_reducible refine HA.out.mono ?_); rintro e w' ⟨rfl, rfl⟩) | (go_at_call 26; (with_reducible refine HG.out.mono ?_); rintro e w' ⟨rfl, hU⟩))
  go_ret2
  exact ⟨rfl, hU⟩

def t1 : Tm.T := ⟨2, 1, 0, 0, [], []⟩
def t2 : Tm.T := ⟨3, 0, 1, 0, [], []⟩

theorem put_t1 : Tm.put [nilT] ⟨2, 1, 0, 0, [], []⟩ = (some 1, [nilT, t1]) := by decide
theorem put_t2 : Tm.put [nilT, t1] ⟨3, 0, 1, 0, [], []⟩ = (some 2, [nilT, t1, t2]) := by decide
theorem weight_t2 : Tm.weight [nilT, t1, t2] 2 = 4 := by decide

/-- A store that a law made: its blocks among those made since the law began. -/
def Own (w0 w : World) (B : Nat) (s : List Tm.T) : Prop := St (fun k => w0.heap.size ≤ k) w B s

theorem Own.put {w0 w w' : World} {B : Nat} {s' : List Tm.T} (hU : Up w0 w) (h : St (fun j => w0.heap.size ≤ j ∨ w.heap.size ≤ j) w' B s') (ht : Turned (fun k => w0.heap.size ≤ k) w w') : St (fun k => w0.heap.size ≤ k) w' B s' ∧ Up w0 w' := by
  refine ⟨h.mono (fun k _ hk => by rcases hk with hk | hk; exact hk; have := hU.size; omega), ?_⟩
  have T := (Turned.below hU).trans ht (fun i _ hi => hi)
  exact ⟨T.os, T.tape, T.output, T.size, fun i hi => T.block i hi (by omega)⟩

/-- A law's store: Put of a term that may be put. -/
theorem put_own {w0 w : World} {B : Nat} {s : List Tm.T} {t : Tm.T} {nv pv : Value} (h : St (fun k => w0.heap.size ≤ k) w B s) (hU : Up w0 w) (hr : TRead w t nv pv) (hm : t.may s.length = true) (hn : s.length ≤ 1000) (hT : Tab w0) {k : Nat} {s' : List Tm.T} (hp : Tm.put s t = (some k, s')) :
    Calls Tryz.prog 20 #[.pointer (some ⟨B, 0, none⟩), .agg #[.int .i64 t.kind, .int .i64 t.label, .int .i64 t.a, .int .i64 t.b, nv, pv]] w fun r w' => r = .returned (.tuple #[.int .i64 (k : Nat), .nilIface]) ∧ St (fun k => w0.heap.size ≤ k) w' B s' ∧ Up w0 w' :=
  (put_term h hr hm hn (hT.up hU)).mono fun r w' ⟨k', hk, he, hs, ht⟩ => by
    rw [hp] at hk hs
    simp only [Option.some.injEq] at hk
    subst hk
    exact ⟨he, Own.put hU hs ht⟩

set_option maxHeartbeats 4000000 in
set_option maxRecDepth 100000 in
theorem alive_true (w : World) (hT : Tab w) : Calls Tryz.prog 5 #[] w fun r w' => r = .returned (.bool true) ∧ Up w w' := by
  have HT := Lib.hid hT
  clear hT
  go_enter Tryz.func5, Tryz.ntmps5
  go_wp2_with fail
  (with_reducible refine (new_any w HT.out).mono ?_)
  rintro e w1 ⟨B, rfl, hS, hU⟩
  go_wp2_with fail
  (with_reducible refine (put_own (t := ⟨2, 1, 0, 0, [], []⟩) hS hU ⟨lst_nil _, lsp_nil _⟩ (by decide) (by decide) HT.out put_t1).mono ?_)
  rintro e w2 ⟨rfl, hS2, hU2⟩
  clear hS hU
  go_wp2_with fail
  (with_reducible refine (put_own (t := ⟨3, 0, 1, 0, [], []⟩) hS2 hU2 ⟨lst_nil _, lsp_nil _⟩ (by decide) (by decide) HT.out put_t2).mono ?_)
  rintro e w3 ⟨rfl, hS3, hU3⟩
  clear hS2 hU2
  have HW : Hid (Calls Tryz.prog 9 #[.pointer (some ⟨B, 0, none⟩), .int .i64 2] w3 fun r w' => r = .returned (.tuple #[.int .i64 4, .nilIface]) ∧ Up w3 w') := by
    have := weight_in hS3 (id := 2) (by decide) (by decide)
    unfold WeightDone at this
    rw [weight_t2] at this
    exact this
  have HZ : Hid (∀ W, Up w3 W → Calls Tryz.prog 21 #[.pointer (some ⟨B, 0, none⟩)] W fun e w' => e = .returned (.int .i64 3) ∧ W = w') := fun W hW => size_st (hS3.up hW)
  go_wp2_with fail
  (with_reducible refine HW.out.mono ?_)
  rintro e w4 ⟨rfl, hU4⟩
  go_wp2_with fail
  (with_reducible refine (HZ.out _ hU4).mono ?_)
  rintro e w5 ⟨rfl, rfl⟩
  go_wp2_with fail
  go_ret
  exact ⟨rfl, hU3.trans hU4⟩

end Go.Proofs.YtiiieailimphnaaGreatDoor
