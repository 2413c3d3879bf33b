/- Walks: the book's lists of integers, grown: growInts. Walks: the book's lists of integers, asked for their marks; asked whether they are as they were. -/
import Derived.Test.YtiiieailimphnaaGreatDoorBookPut
import Derived.Deep.RegionHeld3

namespace Go.Proofs.YtiiieailimphnaaGreatDoor
open Go.RowKit
set_option linter.unusedVariables false
set_option linter.unusedSimpArgs false

theorem own_none_len {w : World} {base size n : Nat} {e : TypeId} {v : Value} {xs : List Value} (h : w.ownsRow base e size v n xs) (hv : v.ownBlock = none) : n = 0 := by
  rcases h.2 with ⟨_, h0⟩ | ⟨g, cap, cur, rfl, _⟩
  · exact h0
  · cases hv

/-- A row of one element type keeps while a slice of another grows. -/
theorem Keeps.other {w w' : World} {v : Value} {n size base b m size' : Nat} {e e' : TypeId} {xs ys : List Value} {v0 : Value} (h : Keeps w w' v n size) (hv : w.ownsRow base e size v n xs) (h0 : w.ownsRow b e' size' v0 m ys) (he : e ≠ e') : w'.ownsRow b e' size' v0 m ys := by
  refine h _ _ _ _ _ _ h0 (fun hh => ?_)
  cases hg : v.ownBlock with
  | none =>
    rw [hg] at hh
    rw [own_none_len h0 hh]; simp
  | some g =>
    rw [hg] at hh
    obtain ⟨c1, e1⟩ := owns_type hv hg
    obtain ⟨c2, e2⟩ := owns_type h0 hh
    rw [e1] at e2
    simp only [Option.some.injEq, Obj.cells.injEq] at e2
    exact absurd e2.2.1 he

structure GrowSt (w wr : World) (vs : List Value) (L : Nat → Nat) (outs : List Value) : Prop where
  el : Els wr vs (fun j => marks j 0 (L j))
  oel : Els wr outs (fun j => marks j 0 (L j + 96))
  obl : ∀ j g, j < outs.length → (nth outs j).ownBlock = some g → (nth vs j).ownBlock = some g ∨ w.heap.size ≤ g
  tur : Turned (InV vs) w wr

/-- While one of the lists grows. -/
structure GrowIn (w wo wr : World) (vs : List Value) (L : Nat → Nat) (outs : List Value) (i : Nat) (lv : Value) (n : Nat) : Prop where
  st : GrowSt w wr vs L outs
  lrow : wr.ownsRow 0 3 1 lv n ((marks i 0 n).map (Value.int .i64))
  lbl : ∀ g, lv.ownBlock = some g → (nth vs i).ownBlock = some g ∨ wo.heap.size ≤ g
  ge : L i ≤ n
  sz : w.heap.size ≤ wo.heap.size ∧ wo.heap.size ≤ wr.heap.size
  olt : ∀ j g, j < outs.length → (nth outs j).ownBlock = some g → g < wo.heap.size
  vlt : ∀ j g, j < vs.length → (nth vs j).ownBlock = some g → g < w.heap.size

theorem Turned.upR {S : Nat → Prop} {w wr w' : World} (h : Turned S w wr) (hu : Up wr w') : Turned S w w' :=
  h.trans (T := fun _ => False) ⟨hu.os, hu.tape, hu.output, hu.size, fun k hk _ => hu.block k hk⟩ (fun _ _ h => h.elim)

theorem GrowSt.up {w wr w' : World} {vs : List Value} {L : Nat → Nat} {outs : List Value} (h : GrowSt w wr vs L outs) (hu : Up wr w') : GrowSt w w' vs L outs :=
  ⟨h.el.up hu, h.oel.up hu, h.obl, h.tur.upR hu⟩

theorem GrowIn.up {w wo wr w' : World} {vs : List Value} {L : Nat → Nat} {outs : List Value} {i n : Nat} {lv : Value} (h : GrowIn w wo wr vs L outs i lv n) (hu : Up wr w') : GrowIn w wo w' vs L outs i lv n :=
  ⟨h.st.up hu, hu.owns h.lrow, h.lbl, h.ge, ⟨h.sz.1, Nat.le_trans h.sz.2 hu.size⟩, h.olt, h.vlt⟩

theorem GrowIn.app {w wo w1 w2 : World} {vs : List Value} {L : Nat → Nat} {outs : List Value} {i n m : Nat} {lv v' : Value} (h : GrowIn w wo w1 vs L outs i lv n) (ha : Apt vs) (hi : i < vs.length) (ho : outs.length = i)
    (hown : w2.ownsRow 0 3 1 v' (n + m) ((marks i 0 n).map (Value.int .i64) ++ (marks i n m).map (Value.int .i64))) (hg : w1.grownBy w2 lv.ownBlock) (hat : v'.ownBlock = lv.ownBlock ∨ v'.ownBlock = some w1.heap.size) (hk : Keeps w1 w2 lv n 1) :
    GrowIn w wo w2 vs L outs i v' (n + m) := by
  have hs := h.sz
  have hgs := hg.size
  refine ⟨⟨?_, ?_, h.st.obl, ?_⟩, ?_, ?_, by have := h.ge; omega, ⟨hs.1, by omega⟩, h.olt, h.vlt⟩
  · intro j hj
    have h0 := h.st.el j hj
    refine hk _ _ _ _ _ _ h0 (fun hh => ?_)
    rw [marks_len]
    by_cases hji : j = i
    · subst hji; have := h.ge; omega
    · cases hl : lv.ownBlock with
      | none => rw [hl] at hh; have := own_none_len h0 hh; rw [marks_len] at this; omega
      | some g =>
        rw [hl] at hh
        rcases h.lbl g hl with h2 | h2
        · exact absurd hh (ha i j g hi hj (fun e => hji e.symm) h2)
        · have := h.vlt j g hj hh; omega
  · intro j hj
    have h0 := h.st.oel j hj
    refine hk _ _ _ _ _ _ h0 (fun hh => ?_)
    rw [marks_len]
    cases hl : lv.ownBlock with
    | none => rw [hl] at hh; have := own_none_len h0 hh; rw [marks_len] at this; omega
    | some g =>
      rw [hl] at hh
      exfalso
      have h3 := h.olt j g hj hh
      rcases h.lbl g hl with h2 | h2
      · have h4 := h.vlt i g hi h2
        rcases h.st.obl j g hj hh with h5 | h5
        · exact ha i j g hi (by omega) (by omega) h2 h5
        · omega
      · omega
  · refine h.st.tur.grown hg (fun k hk => ?_)
    rcases h.lbl k hk with h2 | h2
    · exact .inl ⟨i, hi, h2⟩
    · right; omega
  · have e := marks_append i 0 n m
    rw [Nat.zero_add] at e
    rw [← e, List.map_append]; exact hown
  · intro g hg2
    rcases hat with h2 | h2
    · exact h.lbl g (h2 ▸ hg2)
    · rw [h2] at hg2; simp only [Option.some.injEq] at hg2; right; omega

theorem owns_posG {w : World} {n size base : Nat} {e : TypeId} {v : Value} {xs : List Value} (h : w.ownsRow base e size v n xs) (hn : 0 < n) :
    ∃ g cap, v = .slice (some ⟨g, 0, none⟩) n cap ∧ Row w g e (cap * size) xs := by
  rcases owns_cases h with ⟨_, h0, _⟩ | ⟨g, cap, hv, hr, h1, h2, _⟩
  · omega
  · exact ⟨g, cap, hv, hr⟩

theorem add_plain0 (b i : Nat) : (⟨b, 0, none⟩ : Addr).add i = ⟨b, i, none⟩ := by
  unfold Addr.add
  split
  · rename_i h; subst h; rfl
  · simp

theorem nth_snoc (vs : List Value) (v : Value) (j : Nat) : nth (vs ++ [v]) j = if j = vs.length then v else nth vs j := by
  simp only [nth, List.getD, List.getElem?_append]
  by_cases h : j < vs.length
  · simp [h, show ¬ j = vs.length by omega]
  · by_cases h2 : j = vs.length
    · subst h2; simp
    · simp [h, h2, show ¬ j - vs.length = 0 by omega]

/-- One more list has grown. -/
theorem GrowIn.out {w wo w3 w4 : World} {vs : List Value} {L : Nat → Nat} {outs : List Value} {i m : Nat} {lv vo : Value} {e : TypeId} {xs : List Value} (h : GrowIn w wo w3 vs L outs i lv (L i + 96)) (ho : outs.length = i) (hvo : w3.ownsRow w.heap.size e 1 vo m xs) (he : e ≠ 3)
    (hg : w3.grownBy w4 vo.ownBlock) (hk : Keeps w3 w4 vo m 1) : GrowSt w w4 vs L (outs ++ [lv]) := by
  have hs := h.sz
  refine ⟨fun j hj => hk.other hvo (h.st.el j hj) he, ?_, ?_, ?_⟩
  · intro j hj
    rw [List.length_append, List.length_singleton] at hj
    rw [nth_snoc]
    by_cases hji : j = outs.length
    · subst hji
      rw [if_pos rfl, marks_len]
      subst ho
      exact hk.other hvo h.lrow he
    · rw [if_neg hji]
      exact hk.other hvo (h.st.oel j (by omega)) he
  · intro j g hj hh
    rw [List.length_append, List.length_singleton] at hj
    rw [nth_snoc] at hh
    by_cases hji : j = outs.length
    · subst hji
      rw [if_pos rfl] at hh
      subst ho
      rcases h.lbl g hh with h2 | h2
      · exact .inl h2
      · right; omega
    · rw [if_neg hji] at hh
      exact h.st.obl j g (by omega) hh
  · exact h.st.tur.grown hg (fun k hk => .inr (hvo.lt k hk).1)

theorem one_cell_slice' (a : Option Addr) (n c : Nat) : ∀ u ∈ [Value.slice a n c], u.oneCell' = true := by
  intro u hu
  simp only [List.mem_singleton] at hu
  subst hu; rfl

theorem Tryz.sliceInfoG : (Tryz.prog.info? 29).map (fun i => (i.zero, i.size, i.bytes)) = some (some (.slice none 0 0), 1, 24) := by kernel_rfl

/-- What growInts leaves. -/
def Grew (w : World) (vs : List Value) (L : Nat → Nat) (r : Ending) (w' : World) : Prop :=
  ∃ vo outs, r = .returned vo ∧ outs.length = vs.length ∧ w'.ownsRow w.heap.size 29 1 vo vs.length outs ∧ GrowSt w w' vs L outs

set_option maxHeartbeats 4000000 in
set_option maxRecDepth 100000 in
theorem growInts_any {w : World} {bk : Nat} {vi : Value} {vs : List Value} {L : Nat → Nat} {bc : Array Value} (h : BookI w bk vi vs) (he : Els w vs (fun j => marks j 0 (L j))) (ha : Apt vs) (hb : w.heap[bk]? = some (.cells bc 49 (0, 0))) (hm : vs.length ≤ 400) (hL : ∀ i, i < vs.length → L i ≤ 900000) :
    Calls Tryz.prog 57 #[.pointer (some ⟨bk, 0, none⟩)] w (Grew w vs L) := by
  obtain ⟨i0, hi, hz0, hz1, hz2⟩ := info_parts Tryz.sliceInfoG
  obtain ⟨j0, hj, hy0, hy1, hy2⟩ := info_parts Tryz.intInfoM
  obtain ⟨ao, ci, g, rfl, hen⟩ := h.env he hb
  have HE := Lib.hid hen
  have H0 : Hid (GrowSt w w vs L []) := ⟨he, fun j hj => by simp at hj, fun j g hj => by simp at hj, Turned.refl _ _⟩
  have HV : Hid (∀ j g, j < vs.length → (nth vs j).ownBlock = some g → g < w.heap.size) := fun j g hj hg => owns_lt (he j hj) hg
  obtain ⟨m, hmm⟩ : ∃ m, m = vs.length := ⟨_, rfl⟩
  have HM := Lib.hid hmm
  have HL := Lib.hid hL
  have HA := Lib.hid ha
  rw [← hmm] at hm
  have c00 := hen.c0 w (Turned.refl _ _)
  rw [← hmm] at c00
  clear h he ha hb hmm hL hen
  go_enter Tryz.func57, Tryz.ntmps57
  go_wp2_with fail
  go_loopw [3, 4] (fun vo i wr => ∃ (k : Nat) (outs : List Value), k ≤ m ∧ i = .int .i64 k ∧ outs.length = k ∧ wr.ownsRow w.heap.size 29 1 vo k outs ∧ GrowSt w wr vs L outs) (fun _ i _ => m - (intOf i).toNat)
  case atStart => exact ⟨0, [], Nat.zero_le _, rfl, rfl, World.ownsRow_nil _ _ _ _, H0.out⟩
  case round =>
    clear H0 c00
    obtain ⟨k, outs, hk, rfl, hol, hvo, hG⟩ := hrel
    have d0 := HE.out.c0 wr hG.tur
    rw [← HM.out] at d0
    by_cases hlt : k < m
    · have hkv : k < vs.length := by rw [← HM.out]; exact hlt
      obtain ⟨rfl, d1⟩ := HE.out.el wr k hG.tur hkv
      have hLk := HL.out k hkv
      obtain ⟨n, hn⟩ : ∃ n, n = L k := ⟨_, rfl⟩
      have hel : wr.ownsRow 0 3 1 (nth vs k) n ((marks k 0 n).map (Value.int .i64)) := by have := hG.el k hkv; simp only [marks_len] at this; rw [← hn] at this; exact this
      rw [← hn] at hLk
      have qk : (k : Int) < (m : Int) := by omega
      obtain ⟨vo', vc', hvv⟩ := owns_shape' hvo
      obtain ⟨eo, ec, hev⟩ := owns_shape' hel
      have HGI : Hid (GrowIn w wr wr vs L outs k (nth vs k) (n + 0)) := ⟨hG, hel, fun g hg => .inl hg, by omega, ⟨hG.tur.size, Nat.le_refl _⟩, fun j g hj hg => owns_lt (hG.oel j hj) hg, HV.out⟩
      rw [hev] at d1 HGI
      have HN := Lib.hid hn
      have HOL := Lib.hid hol
      have HVO := Lib.hid hvo
      have HEV := Lib.hid hev
      have hws : w.heap.size ≤ wr.heap.size := hG.tur.size
      obtain ⟨wo, hwo⟩ : ∃ wo, wo = wr := ⟨_, rfl⟩
      rw [← hwo] at d0 d1 HGI HVO hws ⊢
      subst hvv
      clear hG hn hol hvo hel hev hwo
      go_wp2_with fail
      go_loopw [5, 6] (fun lv j wr => ∃ c : Nat, c ≤ 16 ∧ j = .int .i64 c ∧ GrowIn w wo wr vs L outs k lv (n + c) ∧ wr.ownsRow w.heap.size 29 1 (.slice vo' k vc') k outs) (fun _ j _ => 16 - (intOf j).toNat)
      case atStart => exact ⟨0, by omega, rfl, HGI.out, HVO.out⟩
      case round =>
        clear HGI HVO d0 d1
        obtain ⟨c, hc, rfl, hI, hvo⟩ := hrel
        have hsz := hI.sz
        obtain ⟨lo, lc, rfl⟩ := owns_shape' hI.lrow
        have HI := Lib.hid hI
        have HVO := Lib.hid hvo
        obtain ⟨x, hx⟩ : ∃ x, x = n + c := ⟨_, rfl⟩
        rw [← hx] at HI ⊢
        have hxl : x ≤ 900016 := by omega
        have HX := Lib.hid hx
        clear hI hvo hx
        by_cases hlt2 : c < 16
        · have qc : (c : Int) < 16 := by omega
          go_wp2_with (first
            | (go_at_call 100; refine (markInts_any k x 1 _ (by omega) (by omega) (by omega)).mono ?_; rintro r w1 ⟨mv, rfl, hmo, hup⟩; rw [marks_len] at hmo; (obtain ⟨gm, cm, rfl, hrm⟩ := owns_posG hmo (by omega)); (have HI1 := Lib.hid (HI.out.up hup)); (have HVO1 := Lib.hid (hup.owns HVO.out)); (have hs1 := hup.size); (have hrm2 := Lib.hid hrm); clear hmo hrm)
            | (at_builtin; (refine wpList_append_keep rfl _ _ 29 rfl 0 3 j0 (.int .i64 0) 1 8 Tryz.underlying29 hj hy0 hy1 hy2 rfl (by decide) (.slice lo x lc) x _ rfl HI1.out.lrow ⟨gm, 0, none⟩ 1 cm ((marks k x 1).map (Value.int .i64)) rfl (by rw [List.length_map, marks_len]) (fun j u hu => (by have := hrm2.out.cell hu; rw [add_plain0]; exact this)) (ints_oneCell .i64 _) (by unfold maxLen; omega) (by omega) (Nat.zero_le _) ?_); intro v' w2 hown' hgrow' hat' hkeep'))
          have hI2 := HI1.out.app HA.out hkv HOL.out (m := 1) hown' hgrow' hat' hkeep'
          have hvo2 := hkeep'.other HI1.out.lrow HVO1.out (by decide)
          go_roundw
          case rel => exact ⟨c + 1, by omega, by go_num, by rw [HX.out] at hI2; exact hI2, hvo2⟩
          case measure => simp [intOf]; omega
        · obtain rfl : c = 16 := by omega
          go_wp2_with (first
            | (go_at_call 100; refine (markInts_any k x 80 _ (by omega) (by omega) (by omega)).mono ?_; rintro r w1 ⟨mv, rfl, hmo, hup⟩; rw [marks_len] at hmo; (obtain ⟨gm, cm, rfl, hrm⟩ := owns_posG hmo (by omega)); (have HI1 := Lib.hid (HI.out.up hup)); (have HVO1 := Lib.hid (hup.owns HVO.out)); (have hs1 := hup.size); (have hrm2 := Lib.hid hrm); clear hmo hrm)
            | (at_builtin; (refine wpList_append_keep rfl _ _ 29 rfl 0 3 j0 (.int .i64 0) 1 8 Tryz.underlying29 hj hy0 hy1 hy2 rfl (by decide) (.slice lo x lc) x _ rfl HI1.out.lrow ⟨gm, 0, none⟩ 80 cm ((marks k x 80).map (Value.int .i64)) rfl (by rw [List.length_map, marks_len]) (fun j u hu => (by have := hrm2.out.cell hu; rw [add_plain0]; exact this)) (ints_oneCell .i64 _) (by unfold maxLen; omega) (by omega) (Nat.zero_le _) ?_); intro v' w2 hown' hgrow' hat' hkeep'; (have HI2 := Lib.hid (HI1.out.app HA.out hkv HOL.out (m := 80) hown' hgrow' hat' hkeep')); (have HVO2 := Lib.hid (hkeep'.other HI1.out.lrow HVO1.out (by decide))); (obtain ⟨no, nc, rfl⟩ := owns_shape' hown'); (have hg2 := hgrow'.size); clear hown' hgrow' hat' hkeep')
            | (at_builtin; (refine wpList_append_keep rfl _ _ 37 rfl w.heap.size 29 i0 (.slice none 0 0) 1 24 Tryz.underlying37 hi hz0 hz1 hz2 rfl (by decide) (.slice vo' k vc') k _ rfl (HVO2.out.alloc _) ⟨w2.heap.size, 0, none⟩ 1 1 [.slice no (x + 80) nc] rfl rfl (cell_one_new _ _ _) (one_cell_slice' _ _ _) (by unfold maxLen; omega) (by omega) (by simp; omega) ?_); intro v3 w4 hown3 hgrow3 hat3 hkeep3))
          have hI4 : GrowIn w wo (w2.alloc (.cells #[.slice no (x + 80) nc] 29)) vs L outs k (.slice no (x + 80) nc) (L k + 96) := by
            have := HI2.out.up ((Up.refl w2).alloc (.cells #[.slice no (x + 80) nc] 29))
            rw [show x + 80 = L k + 96 by rw [HX.out, HN.out]] at this ⊢
            exact this
          have hG4 := hI4.out HOL.out (HVO2.out.alloc _) (by decide) hgrow3 hkeep3
          have hol4 : (outs ++ [Value.slice no (x + 80) nc]).length = k + 1 := by rw [List.length_append, HOL.out]; rfl
          go_wp2_with fail
          go_roundw
          case rel => exact ⟨k + 1, _, by omega, by go_num, hol4, hown3, hG4⟩
          case measure => simp [intOf]; omega
    · obtain rfl : k = m := by omega
      go_wp2_with fail
      go_ret
      exact ⟨_, outs, rfl, by rw [hol, HM.out], by rw [← HM.out]; exact hvo, hG⟩

end Go.Proofs.YtiiieailimphnaaGreatDoor

namespace Go.Proofs.YtiiieailimphnaaGreatDoor
open Go.RowKit
set_option linter.unusedVariables false
set_option linter.unusedSimpArgs false

set_option maxHeartbeats 4000000 in
set_option maxRecDepth 100000 in
theorem markedInts_any {w : World} {base : Nat} {vo : Value} {vs : List Value} {L : Nat → Nat} (hr : w.ownsRow base 29 1 vo vs.length vs) (he : Els w vs (fun j => marks j 0 (L j))) (hm : vs.length ≤ 400) (hL : ∀ i, i < vs.length → L i ≤ 1000000) :
    Calls Tryz.prog 68 #[vo] w fun r w' => r = .returned (.bool true) ∧ Up w w' := by
  have hrow : ∃ ao ci g, vo = .slice ao vs.length ci ∧ ∀ i, i < vs.length → ao = some ⟨g, 0, none⟩ ∧ w.cell? ⟨g, i, none⟩ = some (nth vs i) := by
    rcases owns_cases hr with ⟨rfl, h0, _⟩ | ⟨g, ci, rfl, hr, _⟩
    · exact ⟨none, 0, 0, by rw [h0], fun i hi => by omega⟩
    · exact ⟨_, ci, g, rfl, fun i hi => ⟨rfl, hr.cell (nth_get hi)⟩⟩
  obtain ⟨ao, ci, g, rfl, hc⟩ := hrow
  obtain ⟨m, hmm⟩ : ∃ m, m = vs.length := ⟨_, rfl⟩
  have HM := Lib.hid hmm
  have HL := Lib.hid hL
  have HC := Lib.hid hc
  have HE := Lib.hid he
  rw [← hmm] at hm ⊢
  clear hr he hmm hL hc
  go_enter Tryz.func68, Tryz.ntmps68
  go_wp2_with fail
  go_loopw [3] (fun i wr => ∃ k : Nat, k ≤ m ∧ i = .int .i64 k ∧ Up w wr) (fun i _ => m - (intOf i).toNat)
  case atStart => exact ⟨0, Nat.zero_le _, rfl, Up.refl w⟩
  case round =>
    obtain ⟨k, hk, rfl, hup⟩ := hrel
    by_cases hlt : k < m
    · have hkv : k < vs.length := by rw [← HM.out]; exact hlt
      obtain ⟨rfl, d1⟩ := HC.out k hkv
      have hLk := HL.out k hkv
      have hel : w.ownsRow 0 3 1 (nth vs k) (L k) ((marks k 0 (L k)).map (Value.int .i64)) := by have := HE.out k hkv; simp only [marks_len] at this; exact this
      obtain ⟨n, hn⟩ : ∃ n, n = L k := ⟨_, rfl⟩
      rw [← hn] at hel hLk
      obtain ⟨eo, ec, hev⟩ := owns_shape' hel
      rw [hev] at d1 hel
      have HEL := Lib.hid hel
      have qk : (k : Int) < (m : Int) := by omega
      have e1 := hup.cell d1
      have HD := Lib.hid d1
      have HS : Hid (∀ w1 v, Up wr w1 → Lst w1 v (marks k 0 n) → Calls Tryz.prog 14 #[.slice eo n ec, v] w1 (Same w1 true)) := fun w1 v hu hv => sameInts_same (by rw [marks_len]; omega) (owns_lst ((hup.trans hu).owns HEL.out)) hv
      clear hn hel hev d1
      go_wp2_with fail
      go_region_held3 (fun w => w.cell? ⟨g, k, none⟩ = some (.slice eo n ec)) (first | assumption) (first
        | (go_at_call 100; refine (markInts_any k 0 n _ (by omega) (by omega) hLk).mono ?_; rintro r w1 ⟨mv, rfl, hmo, hup1⟩; (have hu1 : Up wr w1 := Up.trans (by repeat (first | (with_reducible exact Up.refl _) | assumption | (with_reducible apply Up.drewN) | (with_reducible apply Up.drew))) hup1); (have e2 := hu1.cell e1))
        | (go_at_call 14; (with_reducible refine (HS.out _ mv ?_ ?_).mono ?_); (repeat (first | (with_reducible exact Up.refl _) | assumption | (with_reducible apply Up.drewN) | (with_reducible apply Up.drew))); (refine (owns_lst hmo).up ?_; repeat (first | (with_reducible exact Up.refl _) | assumption | (with_reducible apply Up.drewN) | (with_reducible apply Up.drew))); rintro r w2 ⟨rfl, q2, hq2⟩; (have hu2 : Up wr w2 := by (rw [hq2]; repeat (first | (with_reducible exact Up.refl _) | assumption | (with_reducible apply Up.drewN) | (with_reducible apply Up.drew)))); (have e3 := hu2.cell e1); clear hq2))
      go_wp2_with fail
      go_roundw
      case rel => exact ⟨k + 1, by omega, by go_num, by repeat (first | exact hup.trans hu2 | (with_reducible apply Up.drewN) | (with_reducible apply Up.drew))⟩
      case measure => simp [intOf]; omega
    · obtain rfl : k = m := by omega
      go_wp2_with fail
      go_ret
      exact ⟨rfl, hup⟩

theorem quiet_same {P : Program} {f : FuncId} {args : Array Value} {w : World} {n : Nat} {b : Bool} (h : Calls P f args (w.drewN n) (Same (w.drewN n) b)) : Calls P f args (w.drewN n) fun e w' => e = .returned (.bool b) ∧ ∃ m, w' = w.drewN m :=
  h.mono fun _ _ ⟨he, q, hq⟩ => ⟨he, n + q, by rw [hq]; simp [World.drewN, Nat.add_assoc]⟩

theorem quiet_same_add {P : Program} {f : FuncId} {args : Array Value} {w : World} {a n : Nat} {b : Bool} (h : Calls P f args (w.drewN (a + n)) (Same (w.drewN (a + n)) b)) : Calls P f args (w.drewN (a + n)) fun e w' => e = .returned (.bool b) ∧ ∃ m, w' = w.drewN (a + m) :=
  h.mono fun _ _ ⟨he, q, hq⟩ => ⟨he, n + q, by rw [hq]; simp [World.drewN, Nat.add_assoc]⟩

set_option maxHeartbeats 4000000 in
set_option maxRecDepth 100000 in
theorem stillInts_any {w : World} {bk base : Nat} {vi vw : Value} {vs us : List Value} {C : Nat → List Int} (c0 : w.cell? ⟨bk, 0, none⟩ = some vi) (c1 : w.cell? ⟨bk, 1, none⟩ = some vw) (hr : w.ownsRow base 29 1 vi vs.length vs) (hu : w.ownsRow base 29 1 vw vs.length us) (hul : us.length = vs.length)
    (he : Els w vs C) (hf : Els w us C) (hm : vs.length ≤ 400) (hL : ∀ i, i < vs.length → (C i).length ≤ 1000000) :
    Calls Tryz.prog 35 #[.pointer (some ⟨bk, 0, none⟩)] w fun r w' => r = .returned (.bool true) ∧ Up w w' := by
  have hrow : ∃ ao ci g, vi = .slice ao vs.length ci ∧ ∀ i, i < vs.length → ao = some ⟨g, 0, none⟩ ∧ w.cell? ⟨g, i, none⟩ = some (nth vs i) := by
    rcases owns_cases hr with ⟨rfl, h0, _⟩ | ⟨g, ci, rfl, hr, _⟩
    · exact ⟨none, 0, 0, by rw [h0], fun i hi => by omega⟩
    · exact ⟨_, ci, g, rfl, fun i hi => ⟨rfl, hr.cell (nth_get hi)⟩⟩
  have hrow2 : ∃ ao ci g, vw = .slice ao vs.length ci ∧ ∀ i, i < vs.length → ao = some ⟨g, 0, none⟩ ∧ w.cell? ⟨g, i, none⟩ = some (nth us i) := by
    rcases owns_cases hu with ⟨rfl, h0, _⟩ | ⟨g, ci, rfl, hr, _⟩
    · exact ⟨none, 0, 0, by rw [h0], fun i hi => by omega⟩
    · exact ⟨_, ci, g, rfl, fun i hi => ⟨rfl, hr.cell (nth_get (by rw [hul]; exact hi))⟩⟩
  obtain ⟨ao, ci, g, rfl, hc⟩ := hrow
  obtain ⟨bo, di, g', rfl, hd⟩ := hrow2
  obtain ⟨m, hmm⟩ : ∃ m, m = vs.length := ⟨_, rfl⟩
  have HM := Lib.hid hmm
  have HL := Lib.hid hL
  have HC := Lib.hid hc
  have HD := Lib.hid hd
  have HE := Lib.hid he
  have HF := Lib.hid hf
  have HUL := Lib.hid hul
  rw [← hmm] at hm c0 c1
  clear hr hu he hf hmm hL hc hd hul
  go_enter Tryz.func35, Tryz.ntmps35
  go_wp2_with fail
  go_loopw [3] (fun i wr => ∃ (k q : Nat), k ≤ m ∧ i = .int .i64 k ∧ wr = w.drewN q) (fun i _ => m - (intOf i).toNat)
  case atStart => exact ⟨0, 0, Nat.zero_le _, rfl, rfl⟩
  case round =>
    obtain ⟨k, q, hk, rfl, rfl⟩ := hrel
    by_cases hlt : k < m
    · have hkv : k < vs.length := by rw [← HM.out]; exact hlt
      obtain ⟨rfl, d1⟩ := HC.out k hkv
      obtain ⟨rfl, d2⟩ := HD.out k hkv
      have hLk := HL.out k hkv
      have hel := HE.out k hkv
      have hfl := HF.out k (by rw [HUL.out]; exact hkv)
      obtain ⟨eo, ec, hev⟩ := owns_shape' hel
      obtain ⟨fo, fc, hfv⟩ := owns_shape' hfl
      obtain ⟨n, hn⟩ : ∃ n, n = (C k).length := ⟨_, rfl⟩
      rw [hev] at d1 hel
      rw [hfv] at d2 hfl
      rw [← hn] at d1 d2 hLk hel hfl
      have qk : (k : Int) < (m : Int) := by omega
      have HS : Hid (∀ w1, Up w w1 → Calls Tryz.prog 14 #[.slice eo n ec, .slice fo n fc] w1 (Same w1 true)) := fun w1 hu => sameInts_same (by rw [← hn]; exact hLk) (owns_lst (hu.owns hel)) (owns_lst (hu.owns hfl))
      clear hn hel hfl hev hfv
      go_wp2_with fail
      go_quiet ((go_at_call 14; first | exact quiet_same (HS.out _ (by repeat (first | (with_reducible exact Up.refl _) | (with_reducible apply Up.drewN) | (with_reducible apply Up.drew)))) | exact quiet_same_add (HS.out _ (by repeat (first | (with_reducible exact Up.refl _) | (with_reducible apply Up.drewN) | (with_reducible apply Up.drew))))))
      go_wp2_with fail
      go_roundw
      case rel => exact ⟨k + 1, _, by omega, by go_num, rfl⟩
      case measure => simp [intOf]; omega
    · obtain rfl : k = m := by omega
      go_wp2_with fail
      go_ret
      exact ⟨rfl, (Up.refl w).drewN q⟩

end Go.Proofs.YtiiieailimphnaaGreatDoor
