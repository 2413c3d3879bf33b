/- Walks: the statement RefineHalves. -/
import Derived.Test.YtfkhaldheclheaaDoorRefW19
namespace Go.Proofs.YtfkhaldheclheaaDoor
open Go.RowKit
set_option linter.unusedVariables false
set_option linter.unusedSimpArgs false

theorem Tryd.boolInfo : (Tryd.prog.info? 4).map (fun i => (i.zero, i.size, i.bytes)) = some (some (.bool false), 1, 1) := by kernel_rfl

theorem ofSt_marks (l : List Int) : (Rf.ofSt l).marks l.length = List.replicate l.length false := by
  apply Rf.bools_ext
  · simp [Rf.marks_len]
  · intro x hx
    rw [Rf.marks_len] at hx
    rw [Rf.marks_get _ _ _ hx]
    have hI := Rf.of_inv l
    have o := hI.in1 x hx
    have hB : (Rf.ofSt l).blocks.length = (Cn.seen l).length := Rf.outer_blocks _ _ _
    have hM : (Rf.ofSt l).M ((Rf.ofSt l).I x) = 0 := by
      have h1 := o.1
      rw [hB] at h1
      simp only [Rf.St.M, Rf.ofSt] at h1 ⊢
      rw [Rf.outer_block _ _ _ _ h1]
    have : (Rf.ofSt l).marked x = false := by
      simp only [Rf.St.marked, hM, decide_eq_false_iff_not]; omega
    rw [this]
    simp [List.getD, hx]

/-- At the head of a round. -/
structure Hm (w wr : World) (B n : Nat) (s : Rf.St) (gm : Nat) (mk : List Bool) : Prop where
  held : Held w wr B s
  row : Row wr gm 4 n (bools mk)
  ml : mk.length = n
  new : w.heap.size ≤ gm

theorem Hm.rnd {w wr : World} {B n : Nat} {s : Rf.St} {gm : Nat} {mk : List Bool} (h : Hm w wr B n s gm mk) (kd ev : Int) : Rnd w (wr.alloc (.cells #[.int .i64 kd, .int .i64 ev] 40)) B n s gm mk wr.heap.size kd ev :=
  ⟨h.held.below ((Below.refl _ _).alloc (Nat.le_refl _) _), h.row.alloc _, h.ml, h.new, heap_alloc_new wr _⟩

theorem Rnd.hm {w wr : World} {B n : Nat} {s : Rf.St} {gm : Nat} {mk : List Bool} {ob : Nat} {kd ev : Int} (h : Rnd w wr B n s gm mk ob kd ev) : Hm w wr B n s gm mk := ⟨h.held, h.row, h.ml, h.new⟩

theorem step_mark (s : Rf.St) (n e : Nat) (he : e < n) : s.step n (1, (e : Int)) = (s.mark e).2 := by
  simp only [Rf.St.step, if_true]
  rw [if_pos (by omega), Int.toNat_natCast]

theorem step_mark_off (s : Rf.St) (n : Nat) (e : Int) (he : e < 0 ∨ (n : Int) ≤ e) : s.step n (1, e) = s := by
  simp only [Rf.St.step, if_true]
  rw [if_neg (by omega)]

theorem step_split (s : Rf.St) (n b : Nat) (kd : Int) (hk : kd ≠ 1) (hb : b < s.blocks.length) : s.step n (kd, (b : Int)) = (s.split b).2 := by
  simp only [Rf.St.step, if_neg hk]
  rw [if_pos (by omega), Int.toNat_natCast]

theorem step_split_off (s : Rf.St) (n : Nat) (b kd : Int) (hk : kd ≠ 1) (hb : b < 0 ∨ (s.blocks.length : Int) ≤ b) : s.step n (kd, b) = s := by
  simp only [Rf.St.step, if_neg hk]
  rw [if_neg (by omega)]

set_option maxHeartbeats 8000000 in
set_option maxRecDepth 100000 in
theorem halves_in (n m cap g off : Nat) (ao : Option Addr) (l : List (Int × Int)) (ai : Value) (w : World) (hn0 : 0 < n) (hn : n ≤ 60) (hm : m ≤ 200) (hl : l.length = m) (hao : 0 < m → ao = some ⟨g, off, none⟩) (hL : Laid2 w ai) (hs : ScriptAt w g off l) :
    Calls Tryd.prog 4 #[.int .i64 n, .slice ao m cap] w (PartsDone w) := by
  obtain ⟨i0, hi, hz0, hz1, hz2⟩ := info_parts Tryd.boolInfo
  have hI0 : Rf.Inv (Rf.ofSt (List.replicate n 0)) n := by have := Rf.of_inv (List.replicate n 0); rwa [List.length_replicate] at this
  have HM0 : Hid ((Rf.ofSt (List.replicate n 0)).marks n = List.replicate n false) := by have := ofSt_marks (List.replicate n 0); rwa [List.length_replicate] at this
  have HI : Hid (∀ k, Rf.Inv ((Rf.ofSt (List.replicate n 0)).play n (l.take k)) n) := fun k => Rf.play_inv _ hI0
  have HAO := Lib.hid hao
  have HL := Lib.hid hl
  have HS := Lib.hid hs
  have HV := Lib.hid hL
  clear hl hs hL hI0 hao
  go_enter Tryd.func4, Tryd.ntmps4
  go_upto_region 8 with (first
    | (go_at_call 6; refine (new_ok n _ (by omega)).mono ?_; rintro e w1 ⟨B, ve, vp, vi, vb, rfl, hP, hF, hb⟩)
    | (at_make; refine wpList_make_full _ rfl _ _ 38 rfl 0 4 i0 (.bool false) 1 Tryd.underlying38 hi hz0 hz1 _ _ _ _ n rfl rfl rfl rfl (by rw [hz2]; omega) (by unfold maxLen; omega) (Nat.zero_le _) ?_; intro w2 hown hgrow))
  have hrow := (Row.of hown).1
  rw [Nat.mul_one] at hrow
  have hb2 : Below w1.heap.size w1 w2 := (Below.refl _ _).grown hgrow (Nat.le_refl _) (by simp)
  have hH0 : Hm w w2 B n ((Rf.ofSt (List.replicate n 0)).play n (l.take 0)) w1.heap.size (((Rf.ofSt (List.replicate n 0)).play n (l.take 0)).marks n) := by
    refine ⟨(Held.mk ⟨ve, vp, vi, vb, hP, hF⟩ hb).below hb2, ?_, Rf.marks_len _ _, hb.size⟩
    have e : (madeCells (Value.bool false).cells n).toList = bools (((Rf.ofSt (List.replicate n 0)).play n (l.take 0)).marks n) := by
      show _ = bools ((Rf.ofSt (List.replicate n 0)).marks n)
      rw [HM0.out, show (Value.bool false).cells = #[Value.bool false] from rfl, toList_madeCells_one]; simp [bools]
    rw [← e]; exact hrow
  obtain ⟨gm, hgm⟩ : ∃ gm, gm = w1.heap.size := ⟨_, rfl⟩
  rw [← hgm] at hH0 ⊢
  clear hP hF hb hown hgrow hrow hb2 hgm HM0 hi hz0 hz1 hz2
  go_loopw [8] (fun i wr => ∃ k : Nat, k ≤ m ∧ i = .int .i64 k ∧ Hm w wr B n ((Rf.ofSt (List.replicate n 0)).play n (l.take k)) gm (((Rf.ofSt (List.replicate n 0)).play n (l.take k)).marks n)) (fun i _ => m - (intOf i).toNat)
  case atStart => exact ⟨0, Nat.zero_le _, rfl, hH0⟩
  case round =>
    clear hH0
    obtain ⟨k, hk, rfl, hH⟩ := hrel
    by_cases hlt : k < m
    · obtain rfl := HAO.out (by omega)
      obtain ⟨s, hse⟩ : ∃ s, s = (Rf.ofSt (List.replicate n 0)).play n (l.take k) := ⟨_, rfl⟩
      obtain ⟨kd, hkd⟩ : ∃ x, x = (l.getD k (0, 0)).1 := ⟨_, rfl⟩
      obtain ⟨ev, hev⟩ : ∃ x, x = (l.getD k (0, 0)).2 := ⟨_, rfl⟩
      have a0 := Below.cellUp hH.held.bel (cell_lt (HS.out.c0 k (by rw [HL.out]; exact hlt))) (HS.out.c0 k (by rw [HL.out]; exact hlt))
      have a1 := Below.cellUp hH.held.bel (cell_lt (HS.out.c1 k (by rw [HL.out]; exact hlt))) (HS.out.c1 k (by rw [HL.out]; exact hlt))
      rw [← hkd] at a0
      rw [← hev] at a1
      have hnext : (Rf.ofSt (List.replicate n 0)).play n (l.take (k + 1)) = s.step n (kd, ev) := by rw [take_play _ _ _ _ (by rw [HL.out]; exact hlt), ← hse, hkd, hev]
      have HN := Lib.hid hnext
      have hIs : Rf.Inv s n := by rw [hse]; exact HI.out k
      rw [← hse] at hH
      have HIs := Lib.hid hIs
      clear hnext hse hkd hev hIs
      obtain ⟨mk, hmke⟩ : ∃ mk, mk = s.marks n := ⟨_, rfl⟩
      rw [← hmke] at hH
      have HMK := Lib.hid hmke
      clear hmke
      go_upto_region 11 with fail
      have hR := hH.rnd kd ev
      obtain ⟨ob, hob⟩ : ∃ ob, ob = wr.heap.size := ⟨_, rfl⟩
      obtain ⟨w3, hw3⟩ : ∃ w3, wr.alloc (.cells #[.int .i64 kd, .int .i64 ev] 40) = w3 := ⟨_, rfl⟩
      rw [← hob, hw3] at hR
      rw [← hob, hw3]
      clear hob hw3 a0 a1 hH
      have c0 := hR.c0
      have c1 := hR.c1
      by_cases h1 : kd = 1
      · subst h1
        by_cases he : 0 ≤ ev ∧ ev < (n : Int)
        · obtain ⟨e, rfl⟩ : ∃ e : Nat, ev = e := ⟨ev.toNat, by omega⟩
          have hen : e < n := by omega
          clear he
          go_wp2_with (go_at_call 11; refine (hR.mark HIs.out (by omega) hen).mono ?_; rintro r w4 ⟨b, rfl, hR4⟩; (have o1 := hR4.c1); (have cm := hR4.cm hen); (have fm := hR4.fm e))
          go_roundw
          case rel => exact ⟨k + 1, by omega, by go_num, by rw [HN.out, step_mark _ _ _ hen, Rf.marks_mark HIs.out hen, ← HMK.out]; exact (hR4.setM e true).hm⟩
          case measure => simp [intOf]; omega
        · have he' : ev < 0 ∨ (n : Int) ≤ ev := by omega
          have HE := Lib.hid he'
          clear he he'
          go_wp2_with (go_at_call 11; refine (hR.mark_off HV.out HIs.out HE.out).mono ?_; rintro r w4 ⟨F, rfl, hR4, _⟩; (have o1 := hR4.c1))
          go_roundw
          case rel => exact ⟨k + 1, by omega, by go_num, by rw [HN.out, step_mark_off _ _ _ HE.out, ← HMK.out]; exact hR4.hm⟩
          case measure => simp [intOf]; omega
      · have q1 : (kd == 1) = false := by simp; exact h1
        have H1 := Lib.hid h1
        clear h1
        by_cases he : 0 ≤ ev ∧ ev < (s.blocks.length : Int)
        · obtain ⟨b, rfl⟩ : ∃ b : Nat, ev = b := ⟨ev.toNat, by omega⟩
          have hbn : b < s.blocks.length := by omega
          clear he
          have hml := Rf.mem_len HIs.out hbn
          have hb1 := HIs.out.b1 b hbn
          obtain ⟨ml, hmle⟩ : ∃ x, x = (s.mem b).length := ⟨_, rfl⟩
          have hml1 : 1 ≤ ml := by omega
          have hml2 : ml ≤ 60 := by omega
          have hat : Hid (∀ j, j < ml → ∃ e : Nat, (s.mem b).getD j 0 = e ∧ e < n ∧ s.I e = b) := fun j hj => Rf.mem_at HIs.out hbn (by rw [← hmle]; exact hj)
          have HML := Lib.hid hmle
          have hIn := Rf.split_inv HIs.out hbn
          have HIn := Lib.hid hIn
          have hread : Hid (∀ j, j < ml → ∀ e : Nat, (s.mem b).getD j 0 = e → (Rf.clr mk ((s.mem b).take j)).getD e false = mk.getD e false) := by
            intro j hj e he
            have := Rf.clr_read HIs.out hbn (show j < (s.mem b).length by rw [← hmle]; exact hj) mk
            rw [he, Int.toNat_natCast] at this; exact this
          have hclr : Hid (∀ j, j < ml → ∀ e : Nat, (s.mem b).getD j 0 = e → Rf.clr mk ((s.mem b).take (j + 1)) = (Rf.clr mk ((s.mem b).take j)).set e false) := by
            intro j hj e he
            rw [Rf.clr_take _ _ _ (by rw [← hmle]; exact hj), he, Int.toNat_natCast]
          have hmark : Hid (∀ e, e < n → mk.getD e false = s.marked e) := fun e he => by rw [HMK.out, Rf.marks_get _ _ _ he]
          have hend : Hid ((s.split b).2.marks n = Rf.clr mk ((s.mem b).take ml)) := by
            rw [List.take_of_length_le (by omega), HMK.out]; exact Rf.marks_split HIs.out hbn
          have hstep : Hid (s.step n (kd, (b : Int)) = (s.split b).2) := step_split _ _ _ _ H1.out hbn
          clear hmle hIn
          cases hsp : (s.split b).1 with
          | none =>
            obtain ⟨hinn, mv, hmv⟩ := Rf.split_none HIs.out hbn hsp
            have HMV := Lib.hid hmv
            have HINN := Lib.hid hinn
            have HSP := Lib.hid hsp
            clear hmv hinn hsp
            go_upto_region 24 with (first
              | (go_at_call 12; refine (hR.classes HIs.out hn0 (by omega)).mono ?_; rintro r w4 ⟨gw, rfl, hw4, hgw, hR4, hb4⟩; (have o1 := hR4.c1))
              | (go_at_call 13; refine (hR4.members HIs.out (by omega) hbn).mono ?_; rintro r w5 ⟨gl, cl, rfl, hl5, hgl, hR5, hb5⟩; (have o2 := hR5.c1); rw [← HML.out])
              | (go_at_call 14; refine (hR5.split (w0 := w3) (g0 := w3.heap.size) hR.held (hb4.trans (hb5.mono hb4.size)) (Nat.le_refl _) HIs.out (by omega) hbn).mono ?_; rintro r w6 ⟨hr6, hR6, hs6, hg6⟩; rw [HSP.out] at hr6; subst hr6; replace hg6 := Lib.hid hg6))
            have hs4 := hb4.size
            have hs5 := hb5.size
            have hw6 : Row w6 gw 3 n ((((Cn.canon (s.inn.map Int.ofNat))).map Int.ofNat).map (Value.int .i64)) := (hw4.keep (hb5.block _ hw4.lt)).keep (hg6.out gw (by omega) (by have := hw4.lt; omega))
            have hl6 : Row w6 gl 3 cl ((s.mem b).map (Value.int .i64)) := hl5.keep (hg6.out gl (by omega) hl5.lt)
            clear hw4 hl5 hgw hgl hR4 hR5 hb4 hb5 o1 o2 hs4 hs5 hs6 hg6 c0 c1 hR
            go_loopw [18, 19, 115] (fun x y i wr => ∃ (j : Nat) (a c : Bool), j ≤ ml ∧ i = .int .i64 j ∧ x = .bool a ∧ y = .bool c ∧ (j = 0 ∧ a = false ∧ c = true ∨ 0 < j ∧ a = mv ∧ c = mv) ∧
                Rnd w wr B n (s.split b).2 gm (Rf.clr mk ((s.mem b).take j)) ob kd b ∧ Row wr gw 3 n ((((Cn.canon (s.inn.map Int.ofNat))).map Int.ofNat).map (Value.int .i64)) ∧ Row wr gl 3 cl ((s.mem b).map (Value.int .i64)))
              (fun _ _ i _ => ml - (intOf i).toNat)
            case atStart => exact ⟨0, false, true, Nat.zero_le _, rfl, rfl, rfl, .inl ⟨rfl, rfl, rfl⟩, hR6, hw6, hl6⟩
            case round =>
              clear hR6 hw6 hl6
              obtain ⟨j, a, c, hj, rfl, rfl, rfl, hac, hR7, hw7, hl7⟩ := hrel
              by_cases hjm : j < ml
              · obtain ⟨e, he, hen, hei⟩ := hat.out j hjm
                have cl7 := hl7.cell (i := j) (u := .int .i64 (e : Int)) (by
                  have : j < (s.mem b).length := by rw [← HML.out]; exact hjm
                  rw [← he]; simp [List.getD, this])
                have cm := hR7.cm hen
                rw [hread.out j hjm e he, hmark.out e hen, HMV.out e hen hei] at cm
                have fm := hR7.fm e
                have HC := Lib.hid (hclr.out j hjm e he)
                have hRn : Hid (∀ q, Rnd w ((wr.drewN q).setCell ⟨gm, e, none⟩ (.bool false)) B n (s.split b).2 gm (Rf.clr mk ((s.mem b).take (j + 1))) ob kd b ∧
                    Row ((wr.drewN q).setCell ⟨gm, e, none⟩ (.bool false)) gw 3 n ((((Cn.canon (s.inn.map Int.ofNat))).map Int.ofNat).map (Value.int .i64)) ∧ Row ((wr.drewN q).setCell ⟨gm, e, none⟩ (.bool false)) gl 3 cl ((s.mem b).map (Value.int .i64))) := by
                  intro q
                  rw [HC.out]
                  have hd := hR7.drewN q
                  have hw8 : Row (wr.drewN q) gw 3 n ((((Cn.canon (s.inn.map Int.ofNat))).map Int.ofNat).map (Value.int .i64)) := hw7
                  have hl8 : Row (wr.drewN q) gl 3 cl ((s.mem b).map (Value.int .i64)) := hl7
                  exact ⟨hd.setM e false, hw8.other (a := ⟨gm, e, none⟩) (row_ne hw7 hR7.row (by decide)) _, hl8.other (a := ⟨gm, e, none⟩) (row_ne hl7 hR7.row (by decide)) _⟩
                clear hR7 hw7 hl7 hei he HC
                rcases hac with ⟨rfl, rfl, rfl⟩ | ⟨hj0, rfl, rfl⟩
                · go_wp2_with fail
                  go_quiet (fail)
                  go_wp2_with fail
                  go_roundw
                  case rel => exact ⟨1, _, _, by omega, by go_num, rfl, rfl, .inr ⟨by omega, by cases mv <;> rfl, by cases mv <;> rfl⟩, (hRn.out _).1, (hRn.out _).2.1, (hRn.out _).2.2⟩
                  case measure => simp [intOf]; omega
                · clear hj0
                  cases c
                  · go_wp2_with fail
                    go_quiet (fail)
                    go_wp2_with fail
                    go_roundw
                    case rel => exact ⟨j + 1, _, _, by omega, by go_num, rfl, rfl, .inr ⟨by omega, rfl, rfl⟩, (hRn.out _).1, (hRn.out _).2.1, (hRn.out _).2.2⟩
                    case measure => simp [intOf]; omega
                  · go_wp2_with fail
                    go_quiet (fail)
                    go_wp2_with fail
                    go_roundw
                    case rel => exact ⟨j + 1, _, _, by omega, by go_num, rfl, rfl, .inr ⟨by omega, rfl, rfl⟩, (hRn.out _).1, (hRn.out _).2.1, (hRn.out _).2.2⟩
                    case measure => simp [intOf]; omega
              · obtain rfl : j = ml := by omega
                obtain ⟨rfl, rfl⟩ : a = mv ∧ c = mv := by
                  rcases hac with ⟨h0, _⟩ | ⟨_, h1, h2⟩
                  · omega
                  · exact ⟨h1, h2⟩
                have HCL := Lib.hid (hR7.classes HIn.out hn0 (by omega))
                have hlw : (((Cn.canon (s.inn.map Int.ofNat))).map Int.ofNat).length = n := by rw [List.length_map, Cn.canon_len, List.length_map, HIs.out.li]
                have HLW := Lib.hid hlw
                have HNX : Hid (Hm w wr B n ((Rf.ofSt (List.replicate n 0)).play n (l.take (k + 1))) gm (((Rf.ofSt (List.replicate n 0)).play n (l.take (k + 1))).marks n)) := by
                  rw [HN.out, hstep.out, hend.out]; exact hR7.hm
                clear hac hlw hjm
                cases c
                all_goals
                  go_wp2_with (first
                    | (go_at_call 12; refine HCL.out.mono ?_; rintro r w7 ⟨gw2, rfl, hw8, hgw2, hR8, hb8⟩; (have hw9 := hw7.keep (hb8.block _ hw7.lt)); rw [HINN.out] at hw8)
                    | (go_at_call 15; refine (sameInts_same n gw 0 n gw2 0 n _ w7 HLW.out (by omega) hw9.intsAt hw8.intsAt).mono ?_; rintro r w8 ⟨rfl, q, rfl⟩))
                  go_roundw
                  case rel => exact ⟨k + 1, by omega, by go_num, ⟨(HNX.out.held.below hb8).below (below_drewN (Below.refl _ _) q), (HNX.out.row.keep (hb8.block _ HNX.out.row.lt)), HNX.out.ml, HNX.out.new⟩⟩
                  case measure => simp [intOf]; omega
          | some kk =>
            obtain ⟨rfl, mv, hP⟩ := Rf.split_some HIs.out hbn hsp
            have hnb : s.blocks.length < (s.split b).2.blocks.length := by have := hP.len; omega
            have hbn2 : b < (s.split b).2.blocks.length := by omega
            have hsum := hP.sum
            have hhalf := hP.half
            have l1 := Rf.mem_len HIn.out hnb
            have l2 := Rf.mem_len HIn.out hbn2
            have hpos := (HIn.out.b1 _ hnb).1
            obtain ⟨ma, hmae⟩ : ∃ x, x = ((s.split b).2.mem s.blocks.length).length := ⟨_, rfl⟩
            obtain ⟨mc, hmce⟩ : ∃ x, x = ((s.split b).2.mem b).length := ⟨_, rfl⟩
            have ha1 : 1 ≤ ma := by omega
            have ha2 : 2 * ma ≤ ml := by have := HML.out; omega
            have ha3 : ma + mc = ml := by have := HML.out; omega
            have HMA := Lib.hid hmae
            have HMC := Lib.hid hmce
            have hnew : Hid (∀ j, j < ma → ∃ e : Nat, ((s.split b).2.mem s.blocks.length).getD j 0 = e ∧ e < n ∧ mk.getD e false = mv) := by
              intro j hj
              obtain ⟨e, he, hen, hei⟩ := Rf.mem_at HIn.out hnb (show j < _ by rw [← hmae]; exact hj)
              exact ⟨e, he, hen, by rw [hmark.out e hen]; exact hP.new e hen hei⟩
            have hold : Hid (∀ j, j < mc → ∃ e : Nat, ((s.split b).2.mem b).getD j 0 = e ∧ e < n ∧ mk.getD e false = !mv) := by
              intro j hj
              obtain ⟨e, he, hen, hei⟩ := Rf.mem_at HIn.out hbn2 (show j < _ by rw [← hmce]; exact hj)
              exact ⟨e, he, hen, by rw [hmark.out e hen]; exact hP.old e hen hei⟩
            have HSP := Lib.hid hsp
            obtain ⟨nb, hnbe⟩ : ∃ nb, nb = s.blocks.length := ⟨_, rfl⟩
            rw [← hnbe] at HMA hnew hnb HSP
            clear hsum hhalf l1 l2 hpos hmae hmce hP hsp hnbe hb1 hml
            go_upto_region 31 with (first
              | (go_at_call 12; refine (hR.classes HIs.out hn0 (by omega)).mono ?_; rintro r w4 ⟨gw, rfl, hw4, hgw, hR4, hb4⟩; (have o1 := hR4.c1))
              | (go_at_call 13; refine (hR4.members HIs.out (by omega) hbn).mono ?_; rintro r w5 ⟨gl, cl, rfl, hl5, hgl, hR5, hb5⟩; (have o2 := hR5.c1); rw [← HML.out])
              | (go_at_call 14; refine (hR5.split (w0 := w3) (g0 := w3.heap.size) hR.held (hb4.trans (hb5.mono hb4.size)) (Nat.le_refl _) HIs.out (by omega) hbn).mono ?_; rintro r w6 ⟨hr6, hR6, hs6, hg6⟩; rw [HSP.out] at hr6; subst hr6; replace hg6 := Lib.hid hg6; (have o6 := hR6.c1)))
            have hs4 := hb4.size
            have hl6 : Row w6 gl 3 cl ((s.mem b).map (Value.int .i64)) := hl5.keep (hg6.out gl (by omega) hl5.lt)
            clear hw4 hl5 hgw hgl hR4 hR5 hb4 hb5 o1 o2 hs4 hs6 hg6 c0 c1 hR
            go_upto_region 32 with (go_at_call 13; refine (hR6.members HIn.out (by omega) hnb).mono ?_; rintro r w7 ⟨ga, ca, rfl, ha7, hga, hR7, hb7⟩; (have o7 := hR7.c1); rw [← HMA.out])
            go_upto_region 33 with (go_at_call 13; refine (hR7.members HIn.out (by omega) hbn2).mono ?_; rintro r w8 ⟨gc, cc, rfl, hc8, hgc, hR8, hb8⟩; (have o8 := hR8.c1); rw [← HMC.out])
            have hl8 := (hl6.keep (hb7.block _ hl6.lt)).keep (hb8.block _ (by have := hl6.lt; have := hb7.size; omega))
            have ha8 := ha7.keep (hb8.block _ ha7.lt)
            clear hl6 ha7 hga hR6 hR7 hb7 hgc hb8 o6 o7
            have q2 : ((ma : Int) == 0) = false := by simp; omega
            go_wp2_with fail
            have c80 : w8.cell? ⟨ga, 0, none⟩ = some (.int .i64 (((s.split b).2.mem nb).getD 0 0)) := by
              refine ha8.cell ?_
              have : 0 < ((s.split b).2.mem nb).length := by rw [← HMA.out]; omega
              simp [List.getD, this]
            obtain ⟨e0, he0, hen0, hm0⟩ := hnew.out 0 (by omega)
            rw [he0] at c80
            have m80 := hR8.cm hen0
            rw [hm0] at m80
            have qm : (mv != mv) = false := by cases mv <;> rfl
            have qm2 : ((!mv) == mv) = false := by cases mv <;> rfl
            have HR8 := Lib.hid hR8
            have HL8 := Lib.hid hl8
            have HA8 := Lib.hid ha8
            have HC8 := Lib.hid hc8
            clear hR8 hl8 ha8 hc8 he0 hm0 o8
            go_loopw [191] (fun i wr => ∃ j q : Nat, j ≤ ma ∧ i = .int .i64 j ∧ wr = w8.drewN q) (fun i _ => ma - (intOf i).toNat)
            case atStart => exact ⟨0, 0, Nat.zero_le _, rfl, rfl⟩
            case round =>
              obtain ⟨j, q, hj, rfl, rfl⟩ := hrel
              by_cases hjm : j < ma
              · obtain ⟨e, he, hen, hem⟩ := hnew.out j hjm
                have cj : w8.cell? ⟨ga, j, none⟩ = some (.int .i64 e) := by
                  rw [← he]
                  refine HA8.out.cell ?_
                  have : j < ((s.split b).2.mem nb).length := by rw [← HMA.out]; omega
                  simp [List.getD, this]
                have mj := HR8.out.cm hen
                rw [hem] at mj
                clear he hem
                go_wp2_with fail
                go_quiet (fail)
                go_wp2_with fail
                go_roundw
                case rel => exact ⟨j + 1, _, by omega, by go_num, rfl⟩
                case measure => simp [intOf]; omega
              · obtain rfl : j = ma := by omega
                go_wp2_with fail
                go_loopw [209] (fun i wr => ∃ j q : Nat, j ≤ mc ∧ i = .int .i64 j ∧ wr = w8.drewN q) (fun i _ => mc - (intOf i).toNat)
                case atStart => exact ⟨0, q, Nat.zero_le _, rfl, rfl⟩
                case round =>
                  obtain ⟨i, q, hi, rfl, rfl⟩ := hrel
                  by_cases him : i < mc
                  · obtain ⟨e, he, hen, hem⟩ := hold.out i him
                    have cj : w8.cell? ⟨gc, i, none⟩ = some (.int .i64 e) := by
                      rw [← he]
                      refine HC8.out.cell ?_
                      have : i < ((s.split b).2.mem b).length := by rw [← HMC.out]; omega
                      simp [List.getD, this]
                    have mj := HR8.out.cm hen
                    rw [hem] at mj
                    clear he hem
                    go_wp2_with fail
                    go_quiet (fail)
                    go_wp2_with fail
                    go_roundw
                    case rel => exact ⟨i + 1, _, by omega, by go_num, rfl⟩
                    case measure => simp [intOf]; omega
                  · obtain rfl : i = mc := by omega
                    go_wp2_with fail
                    have hRq := HR8.out.drewN q
                    have hlq : Row (w8.drewN q) gl 3 cl ((s.mem b).map (Value.int .i64)) := HL8.out
                    obtain ⟨w9, hw9⟩ : ∃ w9, w8.drewN q = w9 := ⟨_, rfl⟩
                    rw [hw9] at hRq hlq ⊢
                    clear hw9 c80 m80 qm qm2 hj hjm hi him
                    go_loopw [227] (fun i wr => ∃ j : Nat, j ≤ ml ∧ i = .int .i64 j ∧ Rnd w wr B n (s.split b).2 gm (Rf.clr mk ((s.mem b).take j)) ob kd b ∧ Row wr gl 3 cl ((s.mem b).map (Value.int .i64))) (fun i _ => ml - (intOf i).toNat)
                    case atStart => exact ⟨0, Nat.zero_le _, rfl, hRq, hlq⟩
                    case round =>
                      clear hRq hlq
                      obtain ⟨j, hj, rfl, hR9, hl9⟩ := hrel
                      by_cases hjl : j < ml
                      · obtain ⟨e, he, hen, hei⟩ := hat.out j hjl
                        have cl9 := hl9.cell (i := j) (u := .int .i64 (e : Int)) (by
                          have : j < (s.mem b).length := by rw [← HML.out]; exact hjl
                          rw [← he]; simp [List.getD, this])
                        have cm := hR9.cm hen
                        have fm := hR9.fm e
                        have hRn := Lib.hid (hR9.setM e false)
                        rw [← hclr.out j hjl e he] at hRn
                        have hln := Lib.hid (hl9.other (a := ⟨gm, e, none⟩) (row_ne hl9 hR9.row (by decide)) (.bool false))
                        clear hR9 hl9 hei he
                        go_wp2_with fail
                        go_roundw
                        case rel => exact ⟨j + 1, by omega, by go_num, hRn.out, hln.out⟩
                        case measure => simp [intOf]; omega
                      · obtain rfl : j = ml := by omega
                        have HNX : Hid (Hm w wr B n ((Rf.ofSt (List.replicate n 0)).play n (l.take (k + 1))) gm (((Rf.ofSt (List.replicate n 0)).play n (l.take (k + 1))).marks n)) := by
                          rw [HN.out, hstep.out, hend.out]; exact hR9.hm
                        clear hR9 hl9
                        go_wp2_with fail
                        go_roundw
                        case rel => exact ⟨k + 1, by omega, by go_num, HNX.out⟩
                        case measure => simp [intOf]; omega
        · have he' : ev < 0 ∨ (s.blocks.length : Int) ≤ ev := by omega
          have HE := Lib.hid he'
          clear he he'
          go_wp2_with (first
            | (go_at_call 12; refine (hR.classes HIs.out hn0 (by omega)).mono ?_; rintro r w4 ⟨gw, rfl, hw4, hgw, hR4, hb4⟩; (have o1 := hR4.c1))
            | (go_at_call 13; refine (hR4.members_off HV.out HE.out).mono ?_; rintro r w5 ⟨F, rfl, hR5, _⟩; (have o2 := hR5.c1))
            | (go_at_call 14; refine (hR5.split_off HV.out HE.out).mono ?_; rintro r w6 ⟨F2, rfl, hR6, _⟩; (have o3 := hR6.c1)))
          go_roundw
          case rel => exact ⟨k + 1, by omega, by go_num, by rw [HN.out, step_split_off _ _ _ _ H1.out HE.out, ← HMK.out]; exact hR6.hm⟩
          case measure => simp [intOf]; omega
    · obtain rfl : k = m := by omega
      go_wp2_with (go_at_call 7; refine (alive_true _).mono ?_; rintro e w3 ⟨rfl, hb3⟩)
      go_ret
      exact ⟨rfl, (hH.held.below hb3).bel⟩

set_option maxHeartbeats 1000000 in
set_option maxRecDepth 100000 in
theorem halves_out (n : Int) (m cap : Nat) (ao : Option Addr) (w : World) (hm : m ≤ maxLen) (h : n < 1 ∨ 60 < n ∨ 200 < m) :
    Calls Tryd.prog 4 #[.int .i64 n, .slice ao m cap] w (PartsDone w) := by
  unfold maxLen at hm
  by_cases h1 : n < 1
  · clear h
    go_enter Tryd.func4, Tryd.ntmps4
    go_wp2_with (go_at_call 7; refine (alive_true _).mono ?_; rintro e w3 ⟨rfl, hb3⟩)
    go_ret
    exact ⟨rfl, hb3⟩
  · by_cases h2 : 60 < n
    · have h3 : 1 ≤ n := by omega
      clear h h1
      go_enter Tryd.func4, Tryd.ntmps4
      go_wp2_with (go_at_call 7; refine (alive_true _).mono ?_; rintro e w3 ⟨rfl, hb3⟩)
      go_ret
      exact ⟨rfl, hb3⟩
    · have h3 : 1 ≤ n := by omega
      have h4 : n ≤ 60 := by omega
      have h5 : 200 < (m : Int) := by omega
      clear h h1 h2
      go_enter Tryd.func4, Tryd.ntmps4
      go_wp2_with (go_at_call 7; refine (alive_true _).mono ?_; rintro e w3 ⟨rfl, hb3⟩)
      go_ret
      exact ⟨rfl, hb3⟩

theorem halves_any (n : Int) (m cap g off : Nat) (ao : Option Addr) (l : List (Int × Int)) (ai : Value) (w : World) (hm : m ≤ maxLen) (hl : l.length = m) (hao : 0 < m → ao = some ⟨g, off, none⟩) (hL : Laid2 w ai) (hs : ScriptAt w g off l) :
    Calls Tryd.prog 4 #[.int .i64 n, .slice ao m cap] w (PartsDone w) := by
  by_cases h : n < 1 ∨ 60 < n ∨ 200 < m
  · exact halves_out n m cap ao w hm h
  · obtain ⟨k, rfl⟩ : ∃ k : Nat, n = k := ⟨n.toNat, by omega⟩
    exact halves_in k m cap g off ao l ai w (by omega) (by omega) (by omega) hl hao hL hs

end Go.Proofs.YtfkhaldheclheaaDoor
