/- Walks: the reference's Split. -/
import Derived.Test.YtfkhaldheclheaaGreatDoorRefR3
import Derived.Test.YtfkhaldheclheaaGreatDoorRefPart
import Derived.Deep.DeepCutAuto
namespace Go.Proofs.YtfkhaldheclheaaGreatDoor
open Go.RowKit
set_option linter.unusedVariables false
set_option linter.unusedSimpArgs false

/-- What the reference's Split leaves. -/
def RSplitDone (w : World) (pb po : Nat) (vB vM : Value) (n : Nat) (inn : List Nat) (mk : List Bool) (nb : Nat) (l : List Int) (sp moved : Bool) (r : Ending) (w' : World) : Prop :=
  r = .returned (.tuple #[.int .i64 ((if sp then nb else 0 : Nat) : Int), .bool sp]) ∧
    RefAt w' pb po vB vM n (Rf.refSplit moved sp nb inn mk l).1 (Rf.refSplit moved sp nb inn mk l).2 (nb + if sp then 1 else 0) ∧ Turned (RFoot pb vB vM) w w' ∧
    w'.heap[pb]? = (if sp then (w.setCell ⟨pb, po + 2, none⟩ (.int .i64 ((nb + 1 : Nat) : Int))).heap[pb]? else w.heap[pb]?)

theorem heap_set_congr {w w1 : World} {p : Addr} {v : Value} (h : w1.heap[p.block]? = w.heap[p.block]?) : (w1.setCell p v).heap[p.block]? = (w.setCell p v).heap[p.block]? := by
  simp [World.setCell, Array.getElem?_modify, h]

theorem refMem_at {inn : List Nat} {n : Nat} {b : Int} {j : Nat} (hj : j < (Rf.refMem inn n b).length) : ∃ e : Nat, (Rf.refMem inn n b).getD j 0 = e ∧ e < n := by
  have : (Rf.refMem inn n b).getD j 0 ∈ Rf.refMem inn n b := by simp only [List.getD, List.getElem?_eq_getElem hj, Option.getD_some]; exact List.getElem_mem hj
  obtain ⟨e, h1, h2, _⟩ := Rf.refMem_mem.1 this
  exact ⟨e, h1, h2⟩

/-- A list that a call made, its shape told. -/
def LstAt (w : World) (xs : List Int) (n : Nat) (r : Ending) (w' : World) : Prop :=
  ∃ so sc g, r = .returned (.slice so n sc) ∧ (0 < n → so = some ⟨g, 0, none⟩ ∧ w.heap.size ≤ g ∧ Row w' g 3 sc (xs.map (Value.int .i64))) ∧ Up w w'

theorem LstDone.at_ {w w' : World} {xs : List Int} {r : Ending} {n : Nat} (hn : n = xs.length) (h : LstDone w xs r w') : LstAt w xs n r w' := by
  obtain ⟨v, rfl, hown, hup⟩ := h
  subst hn
  rcases owns_cases hown with ⟨rfl, h0, _⟩ | ⟨g, cap, rfl, hr, _⟩
  · exact ⟨none, 0, 0, by rw [h0], fun h => by omega, hup⟩
  · rw [Nat.mul_one] at hr
    exact ⟨_, cap, g, rfl, fun _ => ⟨rfl, (hown.lt g rfl).1, hr⟩, hup⟩

def SpIs (sp : Bool) (w1 : World) (v : Value) (w' : World) : Prop := v = .bool sp ∧ w1 = w'

/-- What stands in a round of the reference's Split. -/
structure SpAt (w : World) (pb po : Nat) (vB vM : Value) (n nb gl sc ll : Nat) (l : List Int) (q : List Nat × List Bool) (wr : World) : Prop where
  ref : RefAt wr pb po vB vM n q.1 q.2 nb
  tur : Turned (RFoot pb vB vM) w wr
  fr : wr.frozen? ⟨pb, po + 2, none⟩ = false
  row : 0 < ll → Row wr gl 3 sc (l.map (Value.int .i64))
  bx : wr.heap[pb]? = w.heap[pb]?

section
variable {w wr : World} {pb po n nb gl sc ll : Nat} {vB vM : Value} {l : List Int} {q : List Nat × List Bool}

theorem SpAt.drewN (h : SpAt w pb po vB vM n nb gl sc ll l q wr) (k : Nat) : SpAt w pb po vB vM n nb gl sc ll l q (wr.drewN k) :=
  ⟨h.ref.up ((Up.refl wr).drewN k), h.tur.drewN k, h.fr, h.row, h.bx⟩

theorem SpAt.setB {g cap : Nat} (h : SpAt w pb po (.slice (some ⟨g, 0, none⟩) n cap) vM n nb gl sc ll l q wr) (hg : gl ≠ g) (e v : Nat) : SpAt w pb po (.slice (some ⟨g, 0, none⟩) n cap) vM n nb gl sc ll l (q.1.set e v, q.2) (wr.setCell ⟨g, e, none⟩ (.int .i64 (v : Nat))) :=
  ⟨h.ref.setB e v, h.tur.setCell (p := ⟨g, e, none⟩) (.inl (.inr (.inl rfl))) _, by rw [World.frozen?_setCell]; exact h.fr, fun h0 => (h.row h0).other (a := ⟨g, e, none⟩) hg _, (Below.heap_setCell _ _ _ _ (h.ref.nB g rfl).symm).trans h.bx⟩

theorem SpAt.setM {g cap : Nat} (h : SpAt w pb po vB (.slice (some ⟨g, 0, none⟩) n cap) n nb gl sc ll l q wr) (hg : gl ≠ g) (e : Nat) (b : Bool) : SpAt w pb po vB (.slice (some ⟨g, 0, none⟩) n cap) n nb gl sc ll l (q.1, q.2.set e b) (wr.setCell ⟨g, e, none⟩ (.bool b)) :=
  ⟨h.ref.setM e b, h.tur.setCell (p := ⟨g, e, none⟩) (.inl (.inr (.inr rfl))) _, by rw [World.frozen?_setCell]; exact h.fr, fun h0 => (h.row h0).other (a := ⟨g, e, none⟩) hg _, (Below.heap_setCell _ _ _ _ (h.ref.nM g rfl).symm).trans h.bx⟩
end

set_option maxHeartbeats 4000000 in
set_option maxRecDepth 100000 in
theorem refSplit_any {w : World} {pb po n nb cnt ll : Nat} {vB vM : Value} {inn : List Nat} {mk : List Bool} (b : Int) (sp moved : Bool) (h : RefAt w pb po vB vM n inn mk nb) (hf : w.frozen? ⟨pb, po + 2, none⟩ = false) (hn : n ≤ 100000) (hnb : nb ≤ 100000)
    (hcnt : cnt = Rf.refMarks inn mk n b) (hll : ll = (Rf.refMem inn n b).length) (hsp : sp = (decide (0 < cnt) && decide (cnt < ll))) (hmv : moved = decide (2 * cnt ≤ ll)) :
    Calls Tryz.prog 26 #[.pointer (some ⟨pb, po, none⟩), .int .i64 b] w (RSplitDone w pb po vB vM n inn mk nb (Rf.refMem inn n b) sp moved) := by
  have hln := Rf.refMem_le inn n b
  have hcn := Rf.refMarks_le inn mk n b
  rw [← hcnt] at hcn
  rw [← hll] at hln
  have HM := Lib.hid ((refMembers b h (by omega)).mono fun r w' hh => LstDone.at_ hll hh)
  have HK : Hid (∀ w1, Up w w1 → Calls Tryz.prog 36 #[.pointer (some ⟨pb, po, none⟩), .int .i64 b] w1 fun r w' => r = .returned (.int .i64 (cnt : Nat)) ∧ w1 = w') := fun w1 hu => by
    rw [hcnt]; exact refMarks b (h.up hu) (by omega)
  have HAT : Hid (∀ j, j < ll → ∃ e : Nat, (Rf.refMem inn n b).getD j 0 = e ∧ e < n) := fun j hj => refMem_at (by rw [← hll]; exact hj)
  have HST : Hid (∀ j, j < ll → Rf.refSplit moved sp nb inn mk ((Rf.refMem inn n b).take (j + 1)) = Rf.refSplit1 moved sp nb (Rf.refSplit moved sp nb inn mk ((Rf.refMem inn n b).take j)) ((Rf.refMem inn n b).getD j 0)) := fun j hj => Rf.refSplit_take _ _ _ _ _ _ _ (by rw [← hll]; exact hj)
  have HLL := Lib.hid hll
  have hlB := h.rB
  have hlM := h.rM
  have hpw : pb < w.heap.size := World.block_lt_of_cell? w _ h.c0
  obtain ⟨ao, capB, gB, rfl, hao⟩ := owns_seen h.rB
  obtain ⟨bo, capM, gM, rfl, hbo⟩ := owns_seen h.rM
  have HA : Hid (0 < n → ao = some ⟨gB, 0, none⟩ ∧ gB < w.heap.size) := fun h0 => ⟨(hao h0).1, (hao h0).2.2.lt⟩
  have HB : Hid (0 < n → bo = some ⟨gM, 0, none⟩ ∧ gM < w.heap.size) := fun h0 => ⟨(hbo h0).1, (hbo h0).2.2.lt⟩
  have H0 := Lib.hid h
  have HF := Lib.hid hf
  clear hao hbo hlB hlM h hll hf hcnt
  go_enter Tryz.func26, Tryz.ntmps26
  go_upto_region 2 with (first
    | (go_at_call 37; refine HM.out.mono ?_; rintro r w1 ⟨so, sc, gl, rfl, hl1, hup⟩; replace hl1 := Lib.hid hl1)
    | (go_at_call 36; refine (HK.out _ hup).mono ?_; rintro r w2 ⟨rfl, rfl⟩))
  have H1 : Hid (RefAt w1 pb po (.slice ao n capB) (.slice bo n capM) n inn mk nb) := H0.out.up hup
  have hT1 : Hid (Turned (RFoot pb (.slice ao n capB) (.slice bo n capM)) w w1) := ⟨hup.os, hup.tape, hup.output, hup.size, fun k hk _ => hup.block k hk⟩
  have hF1 : Hid (w1.frozen? ⟨pb, po + 2, none⟩ = false) := (hup.free H0.out.c2).trans HF.out
  have hs1 := hup.size
  have hB1 : Hid (w1.heap[pb]? = w.heap[pb]?) := hup.block _ hpw
  clear HM HK H0 HF hup
  go_cut [8] (SpIs sp w1)
  case first =>
    have hcn0 : 0 ≤ (cnt : Int) := by omega
    by_cases h0 : 0 < cnt
    · by_cases h1 : cnt < ll
      · go_wp2_with fail
        go_meet
        exact ⟨by rw [hsp]; simp [h0, h1], rfl⟩
      · have h1' : ll ≤ cnt := by omega
        go_wp2_with fail
        go_meet
        exact ⟨by rw [hsp]; simp [h1], rfl⟩
    · obtain rfl : cnt = 0 := by omega
      go_wp2_with fail
      go_meet
      exact ⟨by rw [hsp]; simp, rfl⟩
  case rest =>
    obtain ⟨rfl, rfl⟩ := hcut
    have qm : decide (2 * (cnt : Int) ≤ (ll : Int)) = moved := by rw [hmv]; apply decide_eq_decide.2; omega
    clear hmv hsp
    go_upto_region 5 with fail
    have HRM : Hid (∀ k inn' mk' wr, 0 < n → RefAt wr pb po (.slice ao n capB) (.slice bo n capM) n inn' mk' nb → k < n →
        wr.cell? ⟨gB, k, none⟩ = some (.int .i64 (inn'.getD k 0 : Nat)) ∧ wr.frozen? ⟨gB, k, none⟩ = false ∧ wr.cell? ⟨gM, k, none⟩ = some (.bool (mk'.getD k false)) ∧ wr.frozen? ⟨gM, k, none⟩ = false) := by
      intro k inn' mk' wr h0 hr hk
      obtain ⟨ha, _⟩ := HA.out h0
      obtain ⟨hb, _⟩ := HB.out h0
      subst ha hb
      have r1 := Row.of hr.rB
      have r2 := Row.of hr.rM
      exact ⟨r1.1.cell (ints_get (by rw [hr.li]; exact hk)), r1.1.free k, r2.1.cell (bools_get (by rw [hr.lm]; exact hk)), r2.1.free k⟩
    go_loopw [10] (fun i wr => ∃ j : Nat, j ≤ ll ∧ i = .int .i64 j ∧ SpAt w pb po (.slice ao n capB) (.slice bo n capM) n nb gl sc ll (Rf.refMem inn n b) (Rf.refSplit moved sp nb inn mk ((Rf.refMem inn n b).take j)) wr) (fun i _ => ll - (intOf i).toNat)
    case atStart => exact ⟨0, Nat.zero_le _, rfl, H1.out, hT1.out, hF1.out, fun h0 => (hl1.out h0).2.2, hB1.out⟩
    case round =>
      clear H1 hT1 hF1 hB1
      obtain ⟨j, hj, rfl, hS⟩ := hrel
      by_cases hjm : j < ll
      · obtain ⟨e, he, hen⟩ := HAT.out j hjm
        obtain ⟨rfl, hgl, _⟩ := hl1.out (by omega)
        obtain ⟨rfl, hgB⟩ := HA.out (by omega)
        obtain ⟨rfl, hgM⟩ := HB.out (by omega)
        have cl := (hS.row (by omega)).cell (i := j) (u := .int .i64 (e : Int)) (by
          have : j < (Rf.refMem inn n b).length := by rw [← HLL.out]; exact hjm
          rw [← he]; simp [List.getD, this])
        have HN := HST.out j hjm
        rw [he] at HN
        obtain ⟨q, hq⟩ : ∃ q, q = Rf.refSplit moved sp nb inn mk ((Rf.refMem inn n b).take j) := ⟨_, rfl⟩
        rw [← hq] at hS HN
        have hR := hS.ref
        have c0 := hR.c0
        have c1 := hR.c1
        have c2 := hR.c2
        obtain ⟨cB, fB, cM, fM⟩ := HRM.out e q.1 q.2 wr (by omega) hR hen
        have nB := hR.nB gB rfl
        have nM := hR.nM gM rfl
        have nBM : gB ≠ gM := row_ne (Row.of hR.rB).1 (Row.of hR.rM).1 (by decide)
        have nlB : gl ≠ gB := by omega
        have nlM : gl ≠ gM := by omega
        obtain ⟨v, hv⟩ : ∃ v, v = q.2.getD e false := ⟨_, rfl⟩
        rw [← hv] at cM
        simp only [Rf.refSplit1, Int.toNat_natCast] at HN
        rw [← hv] at HN
        have HEE := Lib.hid he
        have HV := Lib.hid hv
        have HNX := Lib.hid HN
        have HS := Lib.hid hS
        clear he hq hv HN hR hS
        cases sp
        · go_wp2_with fail
          go_quiet (fail)
          go_wp2_with fail
          go_region
          go_wp2_with fail
          go_roundw
          case rel => exact ⟨j + 1, by omega, by go_num, by rw [HNX.out]; exact (HS.out.drewN _).setM nlM e false⟩
          case measure => simp [intOf]; omega
        · by_cases hvm : v = moved
          · subst hvm
            have qv : (v == v) = true := by simp
            have e1 := HNX.out
            rw [qv, Bool.and_self, if_pos rfl] at e1
            have HE := Lib.hid e1
            clear e1 HNX
            go_wp2_with fail
            go_quiet (fail)
            go_wp2_with fail
            go_region
            have hS5 := (HS.out.drewN (nq + 1)).setB nlB e nb
            obtain ⟨w5, hw5⟩ : ∃ w5, (wr.drewN (nq + 1)).setCell ⟨gB, e, none⟩ (.int .i64 (nb : Nat)) = w5 := ⟨_, rfl⟩
            rw [hw5] at hS5 ⊢
            have d1 := hS5.ref.c1
            obtain ⟨_, _, dM, gMf⟩ := HRM.out e (q.1.set e nb) q.2 w5 (by omega) hS5.ref hen
            rw [← HV.out] at dM
            have dl := (hS5.row (by omega)).cell (i := j) (u := .int .i64 (e : Int)) (by
              have : j < (Rf.refMem inn n b).length := by rw [← HLL.out]; exact hjm
              rw [← HEE.out]; simp [List.getD, this])
            have HS5 := Lib.hid hS5
            clear hS5 hw5 c0 c1 c2 cB fB cM fM cl
            go_wp2_with fail
            go_region
            go_wp2_with fail
            go_roundw
            case rel => exact ⟨j + 1, by omega, by go_num, by rw [HE.out]; exact (HS5.out.drewN 1).setM nlM e false⟩
            case measure => simp [intOf]; omega
          · have qv : (v == moved) = false := by simp [hvm]
            have e1 := HNX.out
            rw [qv, Bool.and_false, if_neg (by decide)] at e1
            have HE := Lib.hid e1
            clear e1 HNX
            go_wp2_with fail
            go_quiet (fail)
            go_wp2_with fail
            go_region
            go_wp2_with fail
            go_roundw
            case rel => exact ⟨j + 1, by omega, by go_num, by rw [HE.out]; exact (HS.out.drewN _).setM nlM e false⟩
            case measure => simp [intOf]; omega
      · obtain rfl : j = ll := by omega
        rw [List.take_of_length_le (by rw [HLL.out]; exact Nat.le_refl _)] at hS
        have c2 := hS.ref.c2
        have f2 := hS.fr
        cases sp
        · go_wp2_with fail
          go_ret2
          exact ⟨rfl, hS.ref, hS.tur, hS.bx⟩
        · have s1 : IntKind.i64.wrap ((nb : Int) + 1) = ((nb + 1 : Nat) : Int) := (IntWalk.i64_in _ (by omega)).trans (by omega)
          have s2 : IntKind.i64.wrap (((nb + 1 : Nat) : Int) - 1) = (nb : Int) := (IntWalk.i64_in _ (by omega)).trans (by omega)
          go_wp2_with fail
          go_ret2
          exact ⟨rfl, hS.ref.setN (nb + 1), hS.tur.setCell (p := ⟨pb, po + 2, none⟩) (.inl (.inl rfl)) _, heap_set_congr (p := ⟨pb, po + 2, none⟩) hS.bx⟩

end Go.Proofs.YtfkhaldheclheaaGreatDoor
