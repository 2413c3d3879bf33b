/- Walk: Consts of the program's store. Walks over the document's own store: needs. Walk over the document's own store: Weight. Walk over the document's own store: Consts. -/
import Derived.Test.YtiiieailimphnaaGreatDoorTmW12
import Derived.Ground.NamesProg
import Derived.Ground.Names2Prog
import Derived.Test.YtiiieailimphnaaGreatDoorLayS
import Derived.Shelf.Slices.In.SortNone
import Derived.Sort.OwnSortedInts
import Derived.Sort.EveryDepth
import Derived.Test.YtiiieailimphnaaGreatDoorTmRMem
import Derived.Test.YtiiieailimphnaaGreatDoorTmW11
import Derived.Deep.DeepCutAuto
import Derived.Deep.CutBlock
import Derived.Test.YtiiieailimphnaaGreatDoorTmR4

namespace Go.Proofs.YtiiieailimphnaaGreatDoor
open Go.RowKit Go.Maps Go.Shelf Go.Sort
set_option linter.unusedVariables false
set_option linter.unusedSimpArgs false

/-- slices.Sort of a row of the call's own. -/
theorem sort_vals {base : Nat} {v : Value} {zs : List Int} {w : World} (hown : w.ownsRow base 3 1 v zs.length (vals zs)) (hsz : zs.length < 4611686018427387904) :
    Calls Tryz.prog 30 #[v] w fun e w' => e = .returned (.tuple #[]) ∧
      w'.ownsRow base 3 1 v zs.length (vals (zs.mergeSort fun x y => decide (x ≤ y))) ∧ w.grownBy w' v.ownBlock := by
  rcases hown.2 with ⟨h0, hl⟩ | ⟨g, cap, cur, hv, hbase, hb, h1, h2, h3, h4⟩
  · subst h0
    have hz : zs = [] := List.eq_nil_of_length_eq_zero (by omega)
    subst hz
    refine (Any.slices_Sort_int_none Tryz.laysSort none 0 w).mono fun e w' ⟨he, hw⟩ => ?_
    subst hw
    exact ⟨he, by simpa using hown, ⟨rfl, rfl, rfl, Nat.le_refl _, fun _ _ _ => rfl⟩⟩
  · subst hv
    have h4' : cur.toList.take zs.length = zs.map (Value.int .i64) := by rw [Nat.mul_one] at h4; exact h4
    have hg : g < w.heap.size := (Array.getElem?_eq_some_iff.1 hb).1
    refine (calls_of_every_depth fun D => AnyS.slices_Sort_int_alone Tryz.laysSort D g 0 cap zs w (holds_of_blockI hb h4') hg hsz).mono ?_
    rintro e w' ⟨rfl, n, os, rfl⟩
    exact ⟨rfl, ownsRow_sortedI (List.length_mergeSort zs) hbase hb h1 h2 h3, grownBy_sortedI _⟩

theorem Tm.consts_len (s : List Tm.T) (ins : List Bool) (n : Nat) : (Tm.consts s ins n).length ≤ n := by
  have := List.length_filterMap_le (Tm.constAt s ins) (List.range n)
  simpa [Tm.consts] using this

theorem cells_newC (w : World) (a : Value) (t : TypeId) : ∀ j u, ([a] : List Value)[j]? = some u → (w.alloc (.cells #[a] t)).cell? ((⟨w.heap.size, 0, none⟩ : Addr).add j) = some u := by
  intro j u hj
  match j, hj with
  | 0, hj => simp at hj; subst hj; simp [Addr.add]
  | j + 1, hj => simp at hj

theorem cells_newC' (w : World) (o : Obj) (a : Value) (t : TypeId) : ∀ j u, ([a] : List Value)[j]? = some u → ((w.alloc o).alloc (.cells #[a] t)).cell? ((⟨w.heap.size + 1, 0, none⟩ : Addr).add j) = some u := by
  have := cells_newC (w.alloc o) a t
  rwa [World.size_alloc] at this

/-- What Consts of a term that is there leaves: a new list. -/
def ConstsDone (s : List Tm.T) (id : Nat) (w : World) (r : Ending) (w' : World) : Prop :=
  ∃ v, r = .returned (.tuple #[v, .nilIface]) ∧ w'.ownsRow w.heap.size 3 1 v (Tm.refConsts s (Tm.within s id) (id + 1)).length (vals (Tm.refConsts s (Tm.within s id) (id + 1))) ∧ Up w w'

set_option maxHeartbeats 8000000 in
set_option maxRecDepth 100000 in
theorem consts_in {F : Nat → Prop} {w : World} {B : Nat} {s : List Tm.T} (h : St F w B s) {id : Nat} (hi : id < s.length) (hm : s.length ≤ 1000) :
    Calls Tryz.prog 10 #[.pointer (some ⟨B, 0, none⟩), .int .i64 id] w (ConstsDone s id w) := by
  obtain ⟨i0, hif, hz0, hz1, hz2⟩ := info_parts Tryz.intInfo'
  have HT : Hid (∀ (W : World) (j : Nat), Up w W → (hj : j < s.length) → ∃ g cap nv pv, W.cell? ⟨B, 0, none⟩ = some (.slice (some ⟨g, 0, none⟩) s.length cap) ∧
      W.cell? ⟨g, j * 6, none⟩ = some (.int .i64 s[j].kind) ∧ W.cell? ⟨g, j * 6 + 1, none⟩ = some (.int .i64 s[j].label) ∧ W.cell? ⟨g, j * 6 + 2, none⟩ = some (.int .i64 s[j].a) ∧ W.cell? ⟨g, j * 6 + 3, none⟩ = some (.int .i64 s[j].b) ∧
      W.cell? ⟨g, j * 6 + 4, none⟩ = some nv ∧ W.cell? ⟨g, j * 6 + 5, none⟩ = some pv ∧ (∃ p q, nv = .slice p s[j].names.length q) ∧ ∃ p q, pv = .slice p s[j].pairs.length q) := fun W j hW hj => by
    obtain ⟨g, cap, vm, nv, pv, hb, hc, ho, -⟩ := (h.up hW).term hj
    exact ⟨g, cap, nv, pv, (box2 hb).1, hc 0 _ (by omega) rfl, hc 1 _ (by omega) rfl, hc 2 _ (by omega) rfl, hc 3 _ (by omega) rfl, hc 4 _ (by omega) rfl, hc 5 _ (by omega) rfl, owns_shape' ho.n, owns_shape' ho.p⟩
  have HA := Lib.hid (asked_in h id ⟨by omega, by omega⟩)
  have HWI := Lib.hid (within_any h hi hm)
  have HINV := Lib.hid h.inv
  obtain ⟨ins, hins⟩ : ∃ ins, ins = Tm.within s id := ⟨_, rfl⟩
  have HINS : Hid (ins.length = id + 1) := Lib.hid (by rw [hins]; exact Tm.within_len s id)
  have HIE := Lib.hid hins
  clear h hins
  go_enter Tryz.func10, Tryz.ntmps10
  go_wp2_with fail
  (with_reducible refine HA.out.mono ?_)
  rintro e w1 ⟨rfl, rfl⟩
  go_wp2_with fail
  (with_reducible refine HWI.out.mono ?_)
  rintro e w2 ⟨gm, rfl, hrm, hgm, hU2⟩
  rw [← HIE.out] at hrm
  have H0 : Hid (w2.ownsRow w.heap.size 3 1 (.slice none 0 0) (Tm.consts s ins 0).length (vals (Tm.consts s ins 0))) := Lib.hid (World.ownsRow_nil _ _ _ _)
  have HRM := Lib.hid hrm
  have HU2 := Lib.hid hU2
  clear hrm hgm hU2 HWI HA
  go_wp2_with fail
  go_loopw [7, 21] (fun v i wr => ∃ j : Nat, j ≤ id + 1 ∧ i = .int .i64 j ∧ wr.ownsRow w.heap.size 3 1 v (Tm.consts s ins j).length (vals (Tm.consts s ins j)) ∧ Row wr gm 4 (id + 1) (bvals ins) ∧ Up w wr) (fun _ i _ => id + 1 - (intOf i).toNat)
  case atStart => exact ⟨0, Nat.zero_le _, rfl, H0.out, HRM.out, HU2.out⟩
  case round =>
    clear H0 HRM HU2
    obtain ⟨j, hj, rfl, hown, hrm, hU⟩ := hrel
    obtain ⟨p, c, rfl⟩ := owns_shape' hown
    obtain ⟨n, hn⟩ : ∃ n, n = (Tm.consts s ins j).length := ⟨_, rfl⟩
    have hn1 : n ≤ 1000 := by have := Tm.consts_len s ins j; omega
    by_cases hlt : j < id + 1
    · obtain ⟨b, hb⟩ : ∃ b, b = ins.getD j false := ⟨_, rfl⟩
      have hcb : wr.cell? ⟨gm, j, none⟩ = some (.bool b) := by rw [hb]; exact hrm.cell (bvals_get (by rw [HINS.out]; exact hlt))
      have hjs : j < s.length := by omega
      have hcs := Tm.consts_succ s ins j
      have hca : Tm.constAt s ins j = if b = true ∧ s[j].kind = 7 then some s[j].a else none := by
        rw [hb]; unfold Tm.constAt; rw [List.getElem?_eq_getElem hjs]
      obtain ⟨g6, cap, nv, pv, c0, y0, y1, y2, y3, y4, y5, ⟨p1, q1, rfl⟩, p2, q2, rfl⟩ := HT.out wr j hU hjs
      obtain ⟨t, ht⟩ : ∃ t, t = s[j] := ⟨_, rfl⟩
      rw [← ht] at y0 y1 y2 y3 y4 y5 hca
      obtain ⟨z, hz⟩ : ∃ n, n = s.length := ⟨_, rfl⟩
      rw [← hz] at c0 hjs
      obtain ⟨l1, hl1⟩ : ∃ l, l = t.names.length := ⟨_, rfl⟩
      obtain ⟨l2, hl2⟩ : ∃ l, l = t.pairs.length := ⟨_, rfl⟩
      obtain ⟨kd, hkd⟩ : ∃ l, l = t.kind := ⟨_, rfl⟩
      rw [← hl1] at y4
      rw [← hl2] at y5
      rw [← hkd] at y0 hca
      rw [← hn] at hown ⊢
      have HO := Lib.hid hown
      have HN := Lib.hid hn
      have HRM := Lib.hid hrm
      have HU := Lib.hid hU
      have HKEEP : Hid (∀ W, Up wr W → Tm.constAt s ins j = none → W.ownsRow w.heap.size 3 1 (.slice p n c) (Tm.consts s ins (j + 1)).length (vals (Tm.consts s ins (j + 1))) ∧ Row W gm 4 (id + 1) (bvals ins) ∧ Up w W) := Lib.hid (fun W hW hc => by
        rw [hcs, hc]
        simp only [Option.toList_none, List.append_nil]
        exact ⟨by rw [← hn]; exact hW.owns hown, hW.row hrm, hU.trans hW⟩)
      have HADD : Hid (∀ w5 w6 v', Up wr w5 → Tm.constAt s ins j = some t.a → w6.ownsRow w.heap.size 3 1 v' (n + 1) (vals (Tm.consts s ins j) ++ [.int .i64 t.a]) → w5.grownBy w6 (Value.slice p n c).ownBlock → w6.ownsRow w.heap.size 3 1 v' (Tm.consts s ins (j + 1)).length (vals (Tm.consts s ins (j + 1))) ∧ Row w6 gm 4 (id + 1) (bvals ins) ∧ Up w w6) := Lib.hid (fun w5 w6 v' h5 hc ho hg => by
        rw [hcs, hc]
        simp only [Option.toList_some, List.length_append, List.length_singleton, ← hn]
        refine ⟨by simpa [vals] using ho, (h5.row hrm).keep (hg.block gm (h5.row hrm).lt ?_), (hU.trans h5).grown hg (fun k hk => (hown.lt k hk).1)⟩
        intro e
        obtain ⟨cur, hcur⟩ := owns_type hown e.symm
        exact row_ne' hrm hcur (by decide))
      clear hown hn hrm hU hb hcs ht hz hl1 hl2 hkd
      cases b
      · have HC : Hid (Tm.constAt s ins j = none) := Lib.hid (by rw [hca]; simp)
        clear hca
        go_wp2_with fail
        go_roundw
        case rel => exact ⟨j + 1, by omega, by go_num, HKEEP.out _ ((Up.refl wr).alloc _) HC.out⟩
        case measure => simp [intOf] <;> omega
      · by_cases hk : kd = 7
        · have HC : Hid (Tm.constAt s ins j = some t.a) := Lib.hid (by rw [hca, if_pos ⟨rfl, hk⟩])
          subst hk
          clear hca
          go_wp2_with (at_builtin; refine wpList_append_own _ rfl _ _ 29 rfl w.heap.size 3 i0 _ 1 8 Tryz.underlying29 hif hz0 hz1 hz2 rfl (by decide) (.slice p n c) n _ rfl ((HO.out.alloc _).alloc _) _ 1 1 [.int .i64 t.a] rfl rfl (cells_newC' _ _ _ _) (by intro u hu; simp at hu; subst hu; rfl) (by unfold maxLen; omega) (by omega) (by simp; have := HU.out.size; omega) ?_; intro v2 w6 hown2 hgrow2 hnil2; (replace hown2 := Lib.hid hown2); (replace hgrow2 := Lib.hid hgrow2))
          go_roundw
          case rel => exact ⟨j + 1, by omega, by go_num, HADD.out _ _ _ (((Up.refl wr).alloc _).alloc _) HC.out hown2.out hgrow2.out⟩
          case measure => simp [intOf] <;> omega
        · have HC : Hid (Tm.constAt s ins j = none) := Lib.hid (by rw [hca, if_neg (fun e => hk e.2)])
          have hkb : (kd == 7) = false := by simp [hk]
          clear hca
          go_wp2_with fail
          go_roundw
          case rel => exact ⟨j + 1, by omega, by go_num, HKEEP.out _ ((Up.refl wr).alloc _) HC.out⟩
          case measure => simp [intOf] <;> omega
    · obtain rfl : j = id + 1 := by omega
      have HSORT := Lib.hid (sort_vals hown (by omega))
      have HS := Lib.hid (Tm.consts_sorted HINV.out ins (id + 1))
      rw [← hn] at hown HSORT ⊢
      have HO := Lib.hid hown
      have HU := Lib.hid hU
      have HN := Lib.hid hn
      clear hown hrm hU hn
      go_wp2_with fail
      (with_reducible refine HSORT.out.mono ?_)
      rintro e w6 ⟨rfl, hown6, hgrow6⟩
      have HFIN : Hid (ConstsDone s id w (.returned (.tuple #[.slice p n c, .nilIface])) w6) := Lib.hid ⟨_, rfl, by
        rw [← HIE.out, ← HS.out, List.length_mergeSort, ← HN.out]; exact hown6, HU.out.grown hgrow6 (fun k hk => (HO.out.lt k hk).1)⟩
      clear hown6 hgrow6
      go_wp2_with fail
      go_ret2
      exact HFIN.out

end Go.Proofs.YtiiieailimphnaaGreatDoor

namespace Go.Proofs.YtiiieailimphnaaGreatDoor
open Go.RowKit Go.Maps
set_option linter.unusedVariables false
set_option linter.unusedSimpArgs false

/-- A term of the document's store, where it stands, in every later world. -/
theorem Rs.terms {F : Nat → Prop} {w : World} {R : Nat} {s : List Tm.T} (hs : Rs F w R s) : ∃ ao cap, w.cell? ⟨R, 0, none⟩ = some (.slice ao s.length cap) ∧ ∀ i (hi : i < s.length), ∃ g p1 k1 p2 k2, ao = some ⟨g, 0, none⟩ ∧ ∀ W, Up w W →
    (W.cell? ⟨R, 0, none⟩ = some (.slice (some ⟨g, 0, none⟩) s.length cap) ∧ W.cell? ⟨g, i * 6, none⟩ = some (.int .i64 s[i].kind) ∧ W.cell? ⟨g, i * 6 + 1, none⟩ = some (.int .i64 s[i].label) ∧ W.cell? ⟨g, i * 6 + 2, none⟩ = some (.int .i64 s[i].a) ∧
      W.cell? ⟨g, i * 6 + 3, none⟩ = some (.int .i64 s[i].b) ∧ W.cell? ⟨g, i * 6 + 4, none⟩ = some (.slice p1 s[i].names.length k1) ∧ W.cell? ⟨g, i * 6 + 5, none⟩ = some (.slice p2 s[i].pairs.length k2)) := by
  obtain ⟨ao, cap, c0, -, ct⟩ := hs.at
  refine ⟨ao, cap, c0, fun i hi => ?_⟩
  obtain ⟨g, nv, pv, e, hc, hown⟩ := ct i hi
  have e1 : s.getD i Tm.nilT = s[i] := by simp [List.getD, hi]
  rw [e1] at hc hown
  obtain ⟨p1, k1, rfl⟩ := owns_shape' hown.n
  obtain ⟨p2, k2, rfl⟩ := owns_shape' hown.p
  exact ⟨g, p1, k1, p2, k2, e, fun W hW => ⟨hW.cell (by rw [← e]; exact c0), hW.cell (hc 0 _ (by omega) rfl), hW.cell (hc 1 _ (by omega) rfl), hW.cell (hc 2 _ (by omega) rfl), hW.cell (hc 3 _ (by omega) rfl), hW.cell (hc 4 _ (by omega) rfl), hW.cell (hc 5 _ (by omega) rfl)⟩⟩

theorem Tm.partsAt_kind {s : List Tm.T} {j : Nat} (hj : j < s.length) : Tm.partsAt s j = if s[j].kind = 3 ∨ s[j].kind = 4 then [s[j].a, s[j].b] else if s[j].kind = 2 ∨ s[j].kind = 5 ∨ s[j].kind = 6 then [s[j].a] else [] := by
  simp only [Tm.partsAt, List.getElem?_eq_getElem hj]
  rfl

set_option maxHeartbeats 8000000 in
set_option maxRecDepth 100000 in
theorem needs_any {F : Nat → Prop} {w : World} {R : Nat} {s : List Tm.T} (h : Rs F w R s) {id : Nat} (hi : id < s.length) (hm : s.length ≤ 1000) :
    Calls Tryz.prog 34 #[.pointer (some ⟨R, 0, none⟩), .int .i64 id] w (WithinDone s id w) := by
  obtain ⟨i0, hif, hz0, hz1, hz2⟩ := info_parts Tryz.boolInfo
  have hinv := h.inv
  obtain ⟨ao, cap, -, ct⟩ := h.terms
  have HT := Lib.hid ct
  have HI := Lib.hid hinv
  clear h ct hinv
  go_enter Tryz.func34, Tryz.ntmps34
  go_wp2_with (at_make; refine wpList_make_full _ rfl _ _ 80 rfl 0 4 i0 (.bool false) 1 Tryz.underlying80 hif hz0 hz1 _ _ _ _ (id + 1) rfl rfl (by omega) (by omega) (by rw [hz2]; omega) (by unfold maxLen; omega) (Nat.zero_le _) ?_; intro w1 hown hgrow; rw [made_bools] at hown; (obtain ⟨hrow, -, -, -⟩ := Row.of hown); rw [Nat.mul_one] at hrow; (have hc1 : w1.cell? ⟨w.heap.size, id, none⟩ = some (.bool false) := hrow.cell (by rw [bvals_get (by simp)]; simp [List.getD])); (have hf1 := hrow.free id); (replace hown := Lib.hid hown); (replace hgrow := Lib.hid hgrow); (replace hrow := Lib.hid hrow))
  have hU1 : Up w w1 := (Up.refl w).grown hgrow.out (fun k hk => by cases hk)
  have hrow1 := hrow.out.set id (.bool true)
  rw [← bvals_set] at hrow1
  have hU2 := hU1.setCell (p := ⟨w.heap.size, id, none⟩) (Nat.le_refl _) (.bool true)
  have HW : Hid (Tm.down s (id + 1) ((List.replicate (id + 1) false).set id true) = Tm.within s id) := rfl
  obtain ⟨l0, hl0⟩ : ∃ l0, l0 = (List.replicate (id + 1) false).set id true := ⟨_, rfl⟩
  have HL0 : Hid (l0.length = id + 1) := Lib.hid (by rw [hl0]; simp)
  obtain ⟨w2, hw2⟩ : ∃ w2, w1.setCell ⟨w.heap.size, id, none⟩ (.bool true) = w2 := ⟨_, rfl⟩
  rw [← hl0] at hrow1 HW
  rw [hw2] at hrow1 hU2 ⊢
  obtain ⟨g, hg⟩ : ∃ g, g = w.heap.size := ⟨_, rfl⟩
  rw [← hg] at hrow1 ⊢
  have HG := Lib.hid hg
  clear hw2 hl0 hrow hown hgrow hc1 hf1 hU1 hg
  go_loopw [6] (fun i wr => ∃ (m : Nat) (l : List Bool), m ≤ id + 1 ∧ i = .int .i64 ((m : Int) - 1) ∧ l.length = id + 1 ∧ Hid (Tm.down s m l = Tm.within s id) ∧ Row wr g 4 (id + 1) (bvals l) ∧ Up w wr) (fun i _ => (intOf i + 1).toNat)
  case atStart => exact ⟨id + 1, l0, Nat.le_refl _, by go_num, HL0.out, HW, hrow1, hU2⟩
  case round =>
    clear hrow1 hU2
    obtain ⟨m, l, hml, rfl, hll, HD, hr, hU⟩ := hrel
    have HLL := Lib.hid hll
    clear hll
    by_cases h0 : m = 0
    · subst h0
      go_wp2_with fail
      go_ret
      exact ⟨g, rfl, by have := HD.out; rw [Tm.down] at this; rw [← this]; exact hr, Nat.le_of_eq HG.out.symm, hU⟩
    · obtain ⟨j, rfl⟩ : ∃ j, m = j + 1 := ⟨m - 1, by omega⟩
      have hz : ((j + 1 : Nat) : Int) - 1 = (j : Int) := by omega
      rw [hz]
      have hjl : j < l.length := by rw [HLL.out]; omega
      obtain ⟨b, hb⟩ : ∃ b, b = l.getD j false := ⟨_, rfl⟩
      have hcj : wr.cell? ⟨g, j, none⟩ = some (.bool b) := by rw [hb]; exact hr.cell (bvals_get hjl)
      have HD2 := HD.out
      rw [Tm.down, ← hb] at HD2
      have HDD := Lib.hid HD2
      have HB := Lib.hid hb
      clear hz HD2 hb h0 HD hjl
      cases b
      · have HN : Hid (Tm.down s j l = Tm.within s id) := Lib.hid (by have := HDD.out; simpa using this)
        go_wp2_with fail
        go_roundw
        case rel => exact ⟨j, l, by omega, by go_num, HLL.out, HN, hr, hU⟩
        case measure => simp [intOf] <;> omega
      · have HN : Hid (Tm.down s j (Tm.mk1 l (Tm.partsAt s j)) = Tm.within s id) := Lib.hid (by have := HDD.out; simpa using this)
        have hjs : j < s.length := by omega
        obtain ⟨g6, p1, q1, p2, q2, rfl, ht⟩ := HT.out j hjs
        obtain ⟨c0, y0, y1, y2, y3, y4, y5⟩ := ht wr hU
        have hpk := Tm.partsAt_kind hjs
        have hpl := Tm.partsAt_lt HI.out j
        have h17 := (Tm.may_zero (HI.out.may j hjs)).2.2
        rw [hpk] at HN hpl
        obtain ⟨t, htt⟩ : ∃ t, t = s[j] := ⟨_, rfl⟩
        rw [← htt] at y0 y1 y2 y3 y4 y5 HN hpl h17
        obtain ⟨n, hn⟩ : ∃ n, n = s.length := ⟨_, rfl⟩
        rw [← hn] at c0 hjs
        obtain ⟨l1, hl1⟩ : ∃ l, l = t.names.length := ⟨_, rfl⟩
        obtain ⟨l2, hl2⟩ : ∃ l, l = t.pairs.length := ⟨_, rfl⟩
        rw [← hl1] at y4
        rw [← hl2] at y5
        obtain ⟨kd, hkd⟩ : ∃ x, x = t.kind := ⟨_, rfl⟩
        obtain ⟨xa, hxa⟩ : ∃ x, x = t.a := ⟨_, rfl⟩
        obtain ⟨xb, hxb⟩ : ∃ x, x = t.b := ⟨_, rfl⟩
        rw [← hkd] at y0 HN hpl h17
        rw [← hxa] at y2 HN hpl
        rw [← hxb] at y3 HN hpl
        have HPL := Lib.hid hpl
        have H17 := Lib.hid h17
        have HUr := Lib.hid hU
        have HR := Lib.hid hr
        have hgl := hr.lt
        obtain ⟨K, hKe⟩ : ∃ K, K = wr.heap.size := ⟨_, rfl⟩
        have hKg : g ≠ K := by omega
        have hK0 := heap_alloc_new wr (.cells #[.int .i64 kd, .int .i64 t.label, .int .i64 xa, .int .i64 xb, .slice p1 l1 q1, .slice p2 l2 q2] 35 (0, 0))
        have hKw : w.heap.size ≤ K := by rw [hKe]; exact hU.size
        rw [← hKe] at hK0
        have HKE := Lib.hid hKe
        have HRA := Lib.hid (hr.alloc (.cells #[.int .i64 kd, .int .i64 t.label, .int .i64 xa, .int .i64 xb, .slice p1 l1 q1, .slice p2 l2 q2] 35 (0, 0)))
        have HUA := Lib.hid (hU.alloc (.cells #[.int .i64 kd, .int .i64 t.label, .int .i64 xa, .int .i64 xb, .slice p1 l1 q1, .slice p2 l2 q2] 35 (0, 0)))
        have HK0 := Lib.hid hK0
        clear htt hn hl1 hl2 hkd hxa hxb hpl h17 hpk ht hr hU hKe hK0 HDD HB
        go_upto_block 2 with fail
        obtain ⟨w6, hw6⟩ : ∃ x, wr.alloc (.cells #[.int .i64 kd, .int .i64 t.label, .int .i64 xa, .int .i64 xb, .slice p1 l1 q1, .slice p2 l2 q2] 35 (0, 0)) = x := ⟨_, rfl⟩
        rw [hw6] at HK0 HRA HUA ⊢
        rw [← HKE.out]
        obtain ⟨d0, d1, d2, d3, d4, d5, df⟩ := six_cells HK0.out
        have hgl6 := HRA.out.lt
        clear y0 y1 y2 y3 y4 y5 hcj hw6 c0 hgl
        have hkk : kd = 1 ∨ kd = 2 ∨ kd = 3 ∨ kd = 4 ∨ kd = 5 ∨ kd = 6 ∨ kd = 7 := by have := H17.out; omega
        rcases hkk with rfl | rfl | rfl | rfl | rfl | rfl | rfl
        · have HN2 : Hid (Tm.down s j l = Tm.within s id) := Lib.hid (by have := HN.out; simpa [Tm.mk1] using this)
          go_wp2_with fail
          go_roundw
          case rel => exact ⟨j, l, by omega, by go_num, HLL.out, HN2, HRA.out, HUA.out⟩
          case measure => simp [intOf] <;> omega
        · have hp := HPL.out xa (by simp)
          obtain ⟨pa, rfl⟩ := Int.eq_ofNat_of_zero_le hp.1
          have HN2 : Hid (Tm.down s j (l.set pa true) = Tm.within s id) := Lib.hid (by have := HN.out; simpa [Tm.mk1] using this)
          have hpa : pa < id + 1 := by omega
          have hpi : (pa : Int) < (id : Int) + 1 := by omega
          have hcy := HRA.out.cell (bvals_get (l := l) (i := pa) (by rw [HLL.out]; exact hpa))
          have hfy := HRA.out.free pa
          obtain ⟨b0, hb0⟩ : ∃ b0, b0 = l.getD pa false := ⟨_, rfl⟩
          rw [← hb0] at hcy
          have HR2 : Hid (Row (w6.setCell ⟨g, pa, none⟩ (.bool true)) g 4 (id + 1) (bvals (l.set pa true))) := Lib.hid (by rw [bvals_set]; exact HRA.out.set pa _)
          have HU2 : Hid (Up w (w6.setCell ⟨g, pa, none⟩ (.bool true))) := Lib.hid (HUA.out.setCell (Nat.le_of_eq HG.out.symm) _)
          clear hp hb0
          go_wp2_with fail
          go_roundw
          case rel => exact ⟨j, l.set pa true, by omega, by go_num, by rw [List.length_set]; exact HLL.out, HN2, HR2.out, HU2.out⟩
          case measure => simp [intOf] <;> omega
        · have hp := HPL.out xa (by simp)
          have hp2 := HPL.out xb (by simp)
          obtain ⟨pa, rfl⟩ := Int.eq_ofNat_of_zero_le hp.1
          obtain ⟨pb, rfl⟩ := Int.eq_ofNat_of_zero_le hp2.1
          have HN2 : Hid (Tm.down s j ((l.set pa true).set pb true) = Tm.within s id) := Lib.hid (by have := HN.out; simpa [Tm.mk1] using this)
          have hpa : pa < id + 1 := by omega
          have hpb : pb < id + 1 := by omega
          have hpi : (pa : Int) < (id : Int) + 1 := by omega
          have hpj : (pb : Int) < (id : Int) + 1 := by omega
          have hcy := HRA.out.cell (bvals_get (l := l) (i := pa) (by rw [HLL.out]; exact hpa))
          have hfy := HRA.out.free pa
          obtain ⟨b0, hb0⟩ : ∃ b0, b0 = l.getD pa false := ⟨_, rfl⟩
          rw [← hb0] at hcy
          have hR2 : Row (w6.setCell ⟨g, pa, none⟩ (.bool true)) g 4 (id + 1) (bvals (l.set pa true)) := by rw [bvals_set]; exact HRA.out.set pa _
          have hcz := hR2.cell (bvals_get (l := l.set pa true) (i := pb) (by rw [List.length_set, HLL.out]; exact hpb))
          have hfz := HRA.out.free pb
          obtain ⟨b1, hb1⟩ : ∃ b0, b0 = (l.set pa true).getD pb false := ⟨_, rfl⟩
          rw [← hb1] at hcz
          have HR3 : Hid (Row ((w6.setCell ⟨g, pa, none⟩ (.bool true)).setCell ⟨g, pb, none⟩ (.bool true)) g 4 (id + 1) (bvals ((l.set pa true).set pb true))) := Lib.hid (by rw [bvals_set]; exact hR2.set pb _)
          have HU3 : Hid (Up w ((w6.setCell ⟨g, pa, none⟩ (.bool true)).setCell ⟨g, pb, none⟩ (.bool true))) := Lib.hid ((HUA.out.setCell (Nat.le_of_eq HG.out.symm) _).setCell (Nat.le_of_eq HG.out.symm) _)
          clear hp hp2 hb0 hb1 hR2
          go_wp2_with fail
          go_region
          all_goals go_wp2_with fail
          all_goals go_roundw
          case rel => exact ⟨j, (l.set pa true).set pb true, by omega, by go_num, by rw [List.length_set, List.length_set]; exact HLL.out, HN2, HR3.out.drew, HU3.out.drew⟩
          case measure => simp [intOf] <;> omega
        · have hp := HPL.out xa (by simp)
          have hp2 := HPL.out xb (by simp)
          obtain ⟨pa, rfl⟩ := Int.eq_ofNat_of_zero_le hp.1
          obtain ⟨pb, rfl⟩ := Int.eq_ofNat_of_zero_le hp2.1
          have HN2 : Hid (Tm.down s j ((l.set pa true).set pb true) = Tm.within s id) := Lib.hid (by have := HN.out; simpa [Tm.mk1] using this)
          have hpa : pa < id + 1 := by omega
          have hpb : pb < id + 1 := by omega
          have hpi : (pa : Int) < (id : Int) + 1 := by omega
          have hpj : (pb : Int) < (id : Int) + 1 := by omega
          have hcy := HRA.out.cell (bvals_get (l := l) (i := pa) (by rw [HLL.out]; exact hpa))
          have hfy := HRA.out.free pa
          obtain ⟨b0, hb0⟩ : ∃ b0, b0 = l.getD pa false := ⟨_, rfl⟩
          rw [← hb0] at hcy
          have hR2 : Row (w6.setCell ⟨g, pa, none⟩ (.bool true)) g 4 (id + 1) (bvals (l.set pa true)) := by rw [bvals_set]; exact HRA.out.set pa _
          have hcz := hR2.cell (bvals_get (l := l.set pa true) (i := pb) (by rw [List.length_set, HLL.out]; exact hpb))
          have hfz := HRA.out.free pb
          obtain ⟨b1, hb1⟩ : ∃ b0, b0 = (l.set pa true).getD pb false := ⟨_, rfl⟩
          rw [← hb1] at hcz
          have HR3 : Hid (Row ((w6.setCell ⟨g, pa, none⟩ (.bool true)).setCell ⟨g, pb, none⟩ (.bool true)) g 4 (id + 1) (bvals ((l.set pa true).set pb true))) := Lib.hid (by rw [bvals_set]; exact hR2.set pb _)
          have HU3 : Hid (Up w ((w6.setCell ⟨g, pa, none⟩ (.bool true)).setCell ⟨g, pb, none⟩ (.bool true))) := Lib.hid ((HUA.out.setCell (Nat.le_of_eq HG.out.symm) _).setCell (Nat.le_of_eq HG.out.symm) _)
          clear hp hp2 hb0 hb1 hR2
          go_wp2_with fail
          go_region
          all_goals go_wp2_with fail
          all_goals go_roundw
          case rel => exact ⟨j, (l.set pa true).set pb true, by omega, by go_num, by rw [List.length_set, List.length_set]; exact HLL.out, HN2, HR3.out.drew, HU3.out.drew⟩
          case measure => simp [intOf] <;> omega
        · have hp := HPL.out xa (by simp)
          obtain ⟨pa, rfl⟩ := Int.eq_ofNat_of_zero_le hp.1
          have HN2 : Hid (Tm.down s j (l.set pa true) = Tm.within s id) := Lib.hid (by have := HN.out; simpa [Tm.mk1] using this)
          have hpa : pa < id + 1 := by omega
          have hpi : (pa : Int) < (id : Int) + 1 := by omega
          have hcy := HRA.out.cell (bvals_get (l := l) (i := pa) (by rw [HLL.out]; exact hpa))
          have hfy := HRA.out.free pa
          obtain ⟨b0, hb0⟩ : ∃ b0, b0 = l.getD pa false := ⟨_, rfl⟩
          rw [← hb0] at hcy
          have HR2 : Hid (Row (w6.setCell ⟨g, pa, none⟩ (.bool true)) g 4 (id + 1) (bvals (l.set pa true))) := Lib.hid (by rw [bvals_set]; exact HRA.out.set pa _)
          have HU2 : Hid (Up w (w6.setCell ⟨g, pa, none⟩ (.bool true))) := Lib.hid (HUA.out.setCell (Nat.le_of_eq HG.out.symm) _)
          clear hp hb0
          go_wp2_with fail
          go_roundw
          case rel => exact ⟨j, l.set pa true, by omega, by go_num, by rw [List.length_set]; exact HLL.out, HN2, HR2.out, HU2.out⟩
          case measure => simp [intOf] <;> omega
        · have hp := HPL.out xa (by simp)
          obtain ⟨pa, rfl⟩ := Int.eq_ofNat_of_zero_le hp.1
          have HN2 : Hid (Tm.down s j (l.set pa true) = Tm.within s id) := Lib.hid (by have := HN.out; simpa [Tm.mk1] using this)
          have hpa : pa < id + 1 := by omega
          have hpi : (pa : Int) < (id : Int) + 1 := by omega
          have hcy := HRA.out.cell (bvals_get (l := l) (i := pa) (by rw [HLL.out]; exact hpa))
          have hfy := HRA.out.free pa
          obtain ⟨b0, hb0⟩ : ∃ b0, b0 = l.getD pa false := ⟨_, rfl⟩
          rw [← hb0] at hcy
          have HR2 : Hid (Row (w6.setCell ⟨g, pa, none⟩ (.bool true)) g 4 (id + 1) (bvals (l.set pa true))) := Lib.hid (by rw [bvals_set]; exact HRA.out.set pa _)
          have HU2 : Hid (Up w (w6.setCell ⟨g, pa, none⟩ (.bool true))) := Lib.hid (HUA.out.setCell (Nat.le_of_eq HG.out.symm) _)
          clear hp hb0
          go_wp2_with fail
          go_roundw
          case rel => exact ⟨j, l.set pa true, by omega, by go_num, by rw [List.length_set]; exact HLL.out, HN2, HR2.out, HU2.out⟩
          case measure => simp [intOf] <;> omega
        · have HN2 : Hid (Tm.down s j l = Tm.within s id) := Lib.hid (by have := HN.out; simpa [Tm.mk1] using this)
          go_wp2_with fail
          go_roundw
          case rel => exact ⟨j, l, by omega, by go_num, HLL.out, HN2, HRA.out, HUA.out⟩
          case measure => simp [intOf] <;> omega

end Go.Proofs.YtiiieailimphnaaGreatDoor

namespace Go.Proofs.YtiiieailimphnaaGreatDoor
open Go.RowKit Go.Maps
set_option linter.unusedVariables false
set_option linter.unusedSimpArgs false

theorem rwt_bound (s : List Tm.T) (m : Nat) : ∀ i k, 0 ≤ (Tm.rwt s m i).getD k 0 ∧ (Tm.rwt s m i).getD k 0 ≤ 65537 := by
  intro i
  induction i with
  | zero => intro k; rw [Tm.rwt]; simp only [List.getD, List.getElem?_replicate]; split <;> simp
  | succ i ih =>
    intro k
    rw [Tm.rwt, Tm.getD_set']
    split
    · have := (Tm.sum_bound ih (by omega) (Tm.partsAt s i) 1).1
      unfold Tm.sumAt
      omega
    · exact ih k

/-- Behind the switch: the sum stands in its place. -/
def WtAt (w : World) (g n : Nat) (xs : List Int) (wc : World) : Prop := Row wc g 3 n (vals xs) ∧ Up w wc

set_option maxHeartbeats 8000000 in
set_option maxRecDepth 100000 in
theorem refweight_in {F : Nat → Prop} {w : World} {R : Nat} {s : List Tm.T} (h : Rs F w R s) {id : Nat} (hi : id < s.length) (hm : s.length ≤ 1000) :
    Calls Tryz.prog 13 #[.pointer (some ⟨R, 0, none⟩), .int .i64 id] w fun r w' => r = .returned (.int .i64 (Tm.weight s id)) ∧ Up w w' := by
  obtain ⟨i0, hif, hz0, hz1, hz2⟩ := info_parts Tryz.intInfo'
  have hinv := h.inv
  obtain ⟨ao, cap, c0, ct⟩ := h.terms
  have HHAS := Lib.hid (refhas_is R ao s.length cap id true w c0 (by simp [Tm.has]; omega))
  have HT := Lib.hid ct
  have HI := Lib.hid hinv
  clear h ct hinv c0
  go_enter Tryz.func13, Tryz.ntmps13
  go_wp2_with (first
    | (go_at_call 33; (with_reducible refine HHAS.out.mono ?_); rintro e w' ⟨rfl, rfl⟩)
    | (at_make; refine wpList_make_full _ rfl _ _ 29 rfl 0 3 i0 (.int .i64 0) 1 Tryz.underlying29 hif hz0 hz1 _ _ _ _ (id + 1) rfl rfl (by omega) (by omega) (by rw [hz2]; omega) (by unfold maxLen; omega) (Nat.zero_le _) ?_; intro w2 hown hgrow; (replace hown := Lib.hid hown); (replace hgrow := Lib.hid hgrow)))
  have hB0 : WtAt w w.heap.size (id + 1) (Tm.rwt s (id + 1) 0) w2 := by
    have hU2 : Up w w2 := (Up.refl w).grown hgrow.out (fun k hk => by cases hk)
    have hown := hown.out
    rw [made_zeros] at hown
    obtain ⟨hrow, -, -, -⟩ := Row.of hown
    rw [Nat.mul_one] at hrow
    exact ⟨hrow, hU2⟩
  obtain ⟨g, hg⟩ : ∃ g, g = w.heap.size := ⟨_, rfl⟩
  rw [← hg] at hB0 ⊢
  have HG := Lib.hid hg
  clear hown hgrow hg
  go_loopw [6] (fun i wr => ∃ j : Nat, j ≤ id + 1 ∧ i = .int .i64 j ∧ WtAt w g (id + 1) (Tm.rwt s (id + 1) j) wr) (fun i _ => id + 1 - (intOf i).toNat)
  case atStart => exact ⟨0, Nat.zero_le _, rfl, hB0⟩
  case round =>
    clear hB0
    obtain ⟨j, hj, rfl, hr, hU⟩ := hrel
    by_cases hlt : j < id + 1
    · have hjs : j < s.length := by omega
      obtain ⟨g6, p1, q1, p2, q2, rfl, ht⟩ := HT.out j hjs
      obtain ⟨c0, y0, y1, y2, y3, y4, y5⟩ := ht wr hU
      have hpk := Tm.partsAt_kind hjs
      have hpl := Tm.partsAt_lt HI.out j
      have h17 := (Tm.may_zero (HI.out.may j hjs)).2.2
      obtain ⟨sm, hsm⟩ : ∃ x, x = Tm.sumAt (Tm.rwt s (id + 1) j) (Tm.partsAt s j) := ⟨_, rfl⟩
      have hsb : 0 ≤ sm ∧ sm ≤ 200000 := by
        have h1 := (Tm.sum_bound (rwt_bound s (id + 1) j) (by omega) (Tm.partsAt s j) 1)
        have h2 : (Tm.partsAt s j).length ≤ 2 := by rw [show Tm.partsAt s j = s[j].parts by simp [Tm.partsAt, hjs]]; exact parts_le _
        rw [hsm]; unfold Tm.sumAt
        have h3 := h1.2
        have h4 : (65537 : Int) * ((Tm.partsAt s j).length : Int) ≤ 65537 * 2 := by omega
        omega
      have hnext : Tm.rwt s (id + 1) (j + 1) = (Tm.rwt s (id + 1) j).set j (min sm 65537) := by rw [Tm.rwt, hsm]
      have HNEXT := Lib.hid hnext
      rw [hpk] at hsm hpl
      have hxs : ∀ k, 0 ≤ (Tm.rwt s (id + 1) j).getD k 0 ∧ (Tm.rwt s (id + 1) j).getD k 0 ≤ 65537 := rwt_bound s (id + 1) j
      have hxl : (Tm.rwt s (id + 1) j).length = id + 1 := Tm.rwt_len _ _ _
      obtain ⟨xs, hxse⟩ : ∃ x, x = Tm.rwt s (id + 1) j := ⟨_, rfl⟩
      rw [← hxse] at hsm hxs hxl HNEXT hr
      have HXS := Lib.hid hxs
      have HXL := Lib.hid hxl
      obtain ⟨t, htt⟩ : ∃ t, t = s[j] := ⟨_, rfl⟩
      rw [← htt] at y0 y1 y2 y3 y4 y5 hsm hpl h17
      obtain ⟨n, hn⟩ : ∃ n, n = s.length := ⟨_, rfl⟩
      rw [← hn] at c0 hjs
      obtain ⟨l1, hl1⟩ : ∃ l, l = t.names.length := ⟨_, rfl⟩
      obtain ⟨l2, hl2⟩ : ∃ l, l = t.pairs.length := ⟨_, rfl⟩
      rw [← hl1] at y4
      rw [← hl2] at y5
      obtain ⟨kd, hkd⟩ : ∃ x, x = t.kind := ⟨_, rfl⟩
      obtain ⟨xa, hxa⟩ : ∃ x, x = t.a := ⟨_, rfl⟩
      obtain ⟨xb, hxb⟩ : ∃ x, x = t.b := ⟨_, rfl⟩
      rw [← hkd] at y0 hsm hpl h17
      rw [← hxa] at y2 hsm hpl
      rw [← hxb] at y3 hsm hpl
      have HPL := Lib.hid hpl
      have HSM := Lib.hid hsm
      have H17 := Lib.hid h17
      have hgl := hr.lt
      have hcg := hr.cell (vals_get (l := xs) (i := j) (by rw [hxl]; exact hlt))
      have hfg := hr.free j
      obtain ⟨x0, hx0⟩ : ∃ x, x = xs.getD j 0 := ⟨_, rfl⟩
      rw [← hx0] at hcg
      obtain ⟨K, hKe⟩ : ∃ K, K = wr.heap.size := ⟨_, rfl⟩
      have hKg : g ≠ K := by omega
      have hK0 := heap_alloc_new (wr.setCell ⟨g, j, none⟩ (.int .i64 1)) (.cells #[.int .i64 kd, .int .i64 t.label, .int .i64 xa, .int .i64 xb, .slice p1 l1 q1, .slice p2 l2 q2] 35 (0, 0))
      rw [World.size_setCell, ← hKe] at hK0
      have HKE := Lib.hid hKe
      have hra := (hr.set j (.int .i64 1)).alloc (.cells #[.int .i64 kd, .int .i64 t.label, .int .i64 xa, .int .i64 xb, .slice p1 l1 q1, .slice p2 l2 q2] 35 (0, 0))
      rw [← vals_set] at hra
      have HRA := Lib.hid hra
      have HUA := Lib.hid ((hU.setCell (p := ⟨g, j, none⟩) (Nat.le_of_eq HG.out.symm) (.int .i64 1)).alloc (.cells #[.int .i64 kd, .int .i64 t.label, .int .i64 xa, .int .i64 xb, .slice p1 l1 q1, .slice p2 l2 q2] 35 (0, 0)))
      have HK0 := Lib.hid hK0
      have hji : (j : Int) < (id : Int) + 1 := by omega
      clear htt hn hl1 hl2 hkd hxa hxb hpl h17 hpk ht hr hU hKe hK0 hsm hra hxs hxl hx0 hnext hxse
      go_upto_block 2 with fail
      obtain ⟨w6, hw6⟩ : ∃ x, (wr.setCell ⟨g, j, none⟩ (.int .i64 1)).alloc (.cells #[.int .i64 kd, .int .i64 t.label, .int .i64 xa, .int .i64 xb, .slice p1 l1 q1, .slice p2 l2 q2] 35 (0, 0)) = x := ⟨_, rfl⟩
      rw [hw6] at HK0 HRA HUA ⊢
      rw [← HKE.out]
      obtain ⟨d0, d1, d2, d3, d4, d5, df⟩ := six_cells HK0.out
      have hgl6 := HRA.out.lt
      clear y0 y1 y2 y3 y4 y5 hw6 c0 hgl hcg hfg
      go_cut [] (WtAt w g (id + 1) (xs.set j sm))
      case first =>
        have hcj := HRA.out.cell (vals_get (l := xs.set j 1) (i := j) (by rw [List.length_set, HXL.out]; exact hlt))
        have hfj := HRA.out.free j
        obtain ⟨x1, hx1⟩ : ∃ x, x = (xs.set j 1).getD j 0 := ⟨_, rfl⟩
        rw [← hx1] at hcj
        have HSET : Hid (∀ W, W = w6.setCell ⟨g, j, none⟩ (.int .i64 sm) → WtAt w g (id + 1) (xs.set j sm) W) := Lib.hid (fun W hW => by
          subst hW
          have := HRA.out.set j (.int .i64 sm)
          rw [← vals_set, List.set_set] at this
          exact ⟨this, HUA.out.setCell (Nat.le_of_eq HG.out.symm) _⟩)
        clear hx1
        have hkk : kd = 1 ∨ kd = 2 ∨ kd = 3 ∨ kd = 4 ∨ kd = 5 ∨ kd = 6 ∨ kd = 7 := by have := H17.out; omega
        rcases hkk with rfl | rfl | rfl | rfl | rfl | rfl | rfl
        · have HV : Hid (sm = 1) := Lib.hid (by have := HSM.out; simpa [Tm.sumAt] using this)
          go_wp2_with fail
          go_meet
          exact ⟨by rw [HV.out]; exact HRA.out, HUA.out⟩
        · have hpa := HPL.out xa (by simp)
          obtain ⟨pa, rfl⟩ := Int.eq_ofNat_of_zero_le hpa.1
          have hpal : pa < id + 1 := by omega
          have hpai : (pa : Int) < (id : Int) + 1 := by omega
          have hcpa := HRA.out.cell (vals_get (l := xs.set j 1) (i := pa) (by rw [List.length_set, HXL.out]; exact hpal))
          rw [show (xs.set j 1).getD pa 0 = xs.getD pa 0 by rw [Tm.getD_set', if_neg (by omega)]] at hcpa
          have hbpa := HXS.out pa
          obtain ⟨vpa, hvpa⟩ : ∃ x, x = xs.getD pa 0 := ⟨_, rfl⟩
          rw [← hvpa] at hcpa hbpa
          replace hvpa := Lib.hid hvpa
          have HV : Hid (sm = 1 + vpa) := Lib.hid (by have := HSM.out; simp [Tm.sumAt] at this; rw [hvpa.out]; simp [List.getD]; exact this)
          have q1 : IntKind.i64.wrap (1 + vpa) = 1 + vpa := wrap_small (by omega)
          go_wp2_with fail
          go_meet
          exact HSET.out _ (by rw [HV.out])
        · have hpa := HPL.out xa (by simp)
          have hpb := HPL.out xb (by simp)
          obtain ⟨pa, rfl⟩ := Int.eq_ofNat_of_zero_le hpa.1
          have hpal : pa < id + 1 := by omega
          have hpai : (pa : Int) < (id : Int) + 1 := by omega
          have hcpa := HRA.out.cell (vals_get (l := xs.set j 1) (i := pa) (by rw [List.length_set, HXL.out]; exact hpal))
          rw [show (xs.set j 1).getD pa 0 = xs.getD pa 0 by rw [Tm.getD_set', if_neg (by omega)]] at hcpa
          have hbpa := HXS.out pa
          obtain ⟨vpa, hvpa⟩ : ∃ x, x = xs.getD pa 0 := ⟨_, rfl⟩
          rw [← hvpa] at hcpa hbpa
          replace hvpa := Lib.hid hvpa
          obtain ⟨pb, rfl⟩ := Int.eq_ofNat_of_zero_le hpb.1
          have hpbl : pb < id + 1 := by omega
          have hpbi : (pb : Int) < (id : Int) + 1 := by omega
          have hcpb := HRA.out.cell (vals_get (l := xs.set j 1) (i := pb) (by rw [List.length_set, HXL.out]; exact hpbl))
          rw [show (xs.set j 1).getD pb 0 = xs.getD pb 0 by rw [Tm.getD_set', if_neg (by omega)]] at hcpb
          have hbpb := HXS.out pb
          obtain ⟨vpb, hvpb⟩ : ∃ x, x = xs.getD pb 0 := ⟨_, rfl⟩
          rw [← hvpb] at hcpb hbpb
          replace hvpb := Lib.hid hvpb
          have HV : Hid (sm = 1 + vpa + vpb) := Lib.hid (by have := HSM.out; simp [Tm.sumAt] at this; rw [hvpa.out, hvpb.out]; simp [List.getD]; exact this)
          have q1 : IntKind.i64.wrap (1 + vpa) = 1 + vpa := wrap_small (by omega)
          have q2 : IntKind.i64.wrap (1 + vpa + vpb) = 1 + vpa + vpb := wrap_small (by omega)
          go_wp2_with fail
          go_region
          all_goals go_wp2_with fail
          all_goals go_meet
          all_goals (have h9 := HSET.out _ rfl; rw [HV.out] at h9 ⊢; exact ⟨h9.1, h9.2.drew⟩)
        · have hpa := HPL.out xa (by simp)
          have hpb := HPL.out xb (by simp)
          obtain ⟨pa, rfl⟩ := Int.eq_ofNat_of_zero_le hpa.1
          have hpal : pa < id + 1 := by omega
          have hpai : (pa : Int) < (id : Int) + 1 := by omega
          have hcpa := HRA.out.cell (vals_get (l := xs.set j 1) (i := pa) (by rw [List.length_set, HXL.out]; exact hpal))
          rw [show (xs.set j 1).getD pa 0 = xs.getD pa 0 by rw [Tm.getD_set', if_neg (by omega)]] at hcpa
          have hbpa := HXS.out pa
          obtain ⟨vpa, hvpa⟩ : ∃ x, x = xs.getD pa 0 := ⟨_, rfl⟩
          rw [← hvpa] at hcpa hbpa
          replace hvpa := Lib.hid hvpa
          obtain ⟨pb, rfl⟩ := Int.eq_ofNat_of_zero_le hpb.1
          have hpbl : pb < id + 1 := by omega
          have hpbi : (pb : Int) < (id : Int) + 1 := by omega
          have hcpb := HRA.out.cell (vals_get (l := xs.set j 1) (i := pb) (by rw [List.length_set, HXL.out]; exact hpbl))
          rw [show (xs.set j 1).getD pb 0 = xs.getD pb 0 by rw [Tm.getD_set', if_neg (by omega)]] at hcpb
          have hbpb := HXS.out pb
          obtain ⟨vpb, hvpb⟩ : ∃ x, x = xs.getD pb 0 := ⟨_, rfl⟩
          rw [← hvpb] at hcpb hbpb
          replace hvpb := Lib.hid hvpb
          have HV : Hid (sm = 1 + vpa + vpb) := Lib.hid (by have := HSM.out; simp [Tm.sumAt] at this; rw [hvpa.out, hvpb.out]; simp [List.getD]; exact this)
          have q1 : IntKind.i64.wrap (1 + vpa) = 1 + vpa := wrap_small (by omega)
          have q2 : IntKind.i64.wrap (1 + vpa + vpb) = 1 + vpa + vpb := wrap_small (by omega)
          go_wp2_with fail
          go_region
          all_goals go_wp2_with fail
          all_goals go_meet
          all_goals (have h9 := HSET.out _ rfl; rw [HV.out] at h9 ⊢; exact ⟨h9.1, h9.2.drew⟩)
        · have hpa := HPL.out xa (by simp)
          obtain ⟨pa, rfl⟩ := Int.eq_ofNat_of_zero_le hpa.1
          have hpal : pa < id + 1 := by omega
          have hpai : (pa : Int) < (id : Int) + 1 := by omega
          have hcpa := HRA.out.cell (vals_get (l := xs.set j 1) (i := pa) (by rw [List.length_set, HXL.out]; exact hpal))
          rw [show (xs.set j 1).getD pa 0 = xs.getD pa 0 by rw [Tm.getD_set', if_neg (by omega)]] at hcpa
          have hbpa := HXS.out pa
          obtain ⟨vpa, hvpa⟩ : ∃ x, x = xs.getD pa 0 := ⟨_, rfl⟩
          rw [← hvpa] at hcpa hbpa
          replace hvpa := Lib.hid hvpa
          have HV : Hid (sm = 1 + vpa) := Lib.hid (by have := HSM.out; simp [Tm.sumAt] at this; rw [hvpa.out]; simp [List.getD]; exact this)
          have q1 : IntKind.i64.wrap (1 + vpa) = 1 + vpa := wrap_small (by omega)
          go_wp2_with fail
          go_meet
          exact HSET.out _ (by rw [HV.out])
        · have hpa := HPL.out xa (by simp)
          obtain ⟨pa, rfl⟩ := Int.eq_ofNat_of_zero_le hpa.1
          have hpal : pa < id + 1 := by omega
          have hpai : (pa : Int) < (id : Int) + 1 := by omega
          have hcpa := HRA.out.cell (vals_get (l := xs.set j 1) (i := pa) (by rw [List.length_set, HXL.out]; exact hpal))
          rw [show (xs.set j 1).getD pa 0 = xs.getD pa 0 by rw [Tm.getD_set', if_neg (by omega)]] at hcpa
          have hbpa := HXS.out pa
          obtain ⟨vpa, hvpa⟩ : ∃ x, x = xs.getD pa 0 := ⟨_, rfl⟩
          rw [← hvpa] at hcpa hbpa
          replace hvpa := Lib.hid hvpa
          have HV : Hid (sm = 1 + vpa) := Lib.hid (by have := HSM.out; simp [Tm.sumAt] at this; rw [hvpa.out]; simp [List.getD]; exact this)
          have q1 : IntKind.i64.wrap (1 + vpa) = 1 + vpa := wrap_small (by omega)
          go_wp2_with fail
          go_meet
          exact HSET.out _ (by rw [HV.out])
        · have HV : Hid (sm = 1) := Lib.hid (by have := HSM.out; simpa [Tm.sumAt] using this)
          go_wp2_with fail
          go_meet
          exact ⟨by rw [HV.out]; exact HRA.out, HUA.out⟩
      case rest =>
      obtain ⟨w7, rfl⟩ : ∃ x, x = wc := ⟨_, rfl⟩
      obtain ⟨hr7, hU7⟩ := hcut
      have hc7 := hr7.cell (vals_get (l := xs.set j sm) (i := j) (by rw [List.length_set, HXL.out]; exact hlt))
      rw [show (xs.set j sm).getD j 0 = sm by rw [Tm.getD_set', if_pos ⟨rfl, by rw [HXL.out]; exact hlt⟩]] at hc7
      have hf7 := hr7.free j
      have hsb2 := hsb
      by_cases hbig : 65537 < sm
      · have HB9 : Hid (WtAt w g (id + 1) (Tm.rwt s (id + 1) (j + 1)) (w7.setCell ⟨g, j, none⟩ (.int .i64 65537))) := Lib.hid (by
          have := hr7.set j (.int .i64 65537)
          rw [← vals_set, List.set_set] at this
          refine ⟨?_, hU7.setCell (Nat.le_of_eq HG.out.symm) _⟩
          rw [HNEXT.out, show min sm 65537 = 65537 by omega]; exact this)
        clear hr7 hU7 d0 d1 d2 d3 d4 d5 df
        go_wp2_with fail
        go_roundw
        case rel => exact ⟨j + 1, by omega, by go_num, HB9.out⟩
        case measure => simp [intOf] <;> omega
      · have HB9 : Hid (WtAt w g (id + 1) (Tm.rwt s (id + 1) (j + 1)) w7) := Lib.hid (by
          refine ⟨?_, hU7⟩
          rw [HNEXT.out, show min sm 65537 = sm by omega]; exact hr7)
        clear hr7 hU7 d0 d1 d2 d3 d4 d5 df
        go_wp2_with fail
        go_roundw
        case rel => exact ⟨j + 1, by omega, by go_num, HB9.out⟩
        case measure => simp [intOf] <;> omega
    · obtain rfl : j = id + 1 := by omega
      have hcg := hr.cell (vals_get (l := Tm.rwt s (id + 1) (id + 1)) (i := id) (by rw [Tm.rwt_len]; omega))
      have HE : Hid ((Tm.rwt s (id + 1) (id + 1)).getD id 0 = Tm.weight s id) := Lib.hid rfl
      rw [HE.out] at hcg
      have HU := Lib.hid hU
      clear hr hU
      go_wp2_with fail
      go_ret
      exact ⟨rfl, HU.out⟩

end Go.Proofs.YtiiieailimphnaaGreatDoor

namespace Go.Proofs.YtiiieailimphnaaGreatDoor
open Go.RowKit Go.Maps
set_option linter.unusedVariables false
set_option linter.unusedSimpArgs false

namespace Tm
/-- Which constants there are. -/
def hasL (s : List T) (ins : List Bool) (k : Nat) : List Bool := (List.range 200).map fun a => decide (((a : Nat) : Int) ∈ consts s ins k)

theorem hasL_len (s : List T) (ins : List Bool) (k : Nat) : (hasL s ins k).length = 200 := by simp [hasL]

theorem hasL_get (s : List T) (ins : List Bool) (k : Nat) {a : Nat} (h : a < 200) : (hasL s ins k).getD a false = decide (((a : Nat) : Int) ∈ consts s ins k) := by
  simp [hasL, List.getD, h]

theorem hasL_zero (s : List T) (ins : List Bool) : hasL s ins 0 = List.replicate 200 false := by
  apply List.ext_getElem
  · rw [hasL_len, List.length_replicate]
  · intro i h1 h2
    simp only [hasL, List.getElem_map, List.getElem_range, List.getElem_replicate]
    exact decide_eq_false (by simp [consts])

theorem hasL_none {s : List T} {ins : List Bool} {k : Nat} (h : constAt s ins k = none) : hasL s ins (k + 1) = hasL s ins k := by
  unfold hasL
  rw [consts_succ, h]
  simp

theorem hasL_some {s : List T} {ins : List Bool} {k pa : Nat} (h : constAt s ins k = some (pa : Int)) (hp : pa < 200) : hasL s ins (k + 1) = (hasL s ins k).set pa true := by
  apply List.ext_getElem
  · simp [hasL]
  · intro i h1 h2
    simp only [hasL, consts_succ, h, List.getElem_map, List.getElem_range, List.getElem_set, Option.toList_some, List.mem_append, List.mem_singleton]
    by_cases e : pa = i
    · subst e; simp
    · rw [if_neg e]
      have : ¬ (i : Int) = (pa : Int) := by omega
      simp [this]

def outL (s : List T) (ins : List Bool) (n j : Nat) : List Int := ((List.range j).filter fun a => decide (((a : Nat) : Int) ∈ consts s ins n)).map Int.ofNat

theorem outL_end (s : List T) (ins : List Bool) (n : Nat) : outL s ins n 200 = refConsts s ins n := rfl

theorem outL_succ (s : List T) (ins : List Bool) (n j : Nat) : outL s ins n (j + 1) = outL s ins n j ++ (if ((j : Nat) : Int) ∈ consts s ins n then [(j : Int)] else []) := by
  unfold outL
  rw [List.range_succ, List.filter_append, List.map_append]
  congr 1
  by_cases h : ((j : Nat) : Int) ∈ consts s ins n
  · simp [h]
  · simp [h]

theorem outL_len (s : List T) (ins : List Bool) (n j : Nat) : (outL s ins n j).length ≤ j := by
  unfold outL
  rw [List.length_map]
  have := List.length_filter_le (fun a => decide (((a : Nat) : Int) ∈ consts s ins n)) (List.range j)
  simpa using this
end Tm

theorem has_zero : Tryz.zeroCells87 = Array.replicate 200 (.bool false) := by kernel_rfl

/-- What Consts of the document leaves: a new list. -/
def RefConstsDone (s : List Tm.T) (id : Nat) (w : World) (r : Ending) (w' : World) : Prop :=
  ∃ v, r = .returned v ∧ w'.ownsRow w.heap.size 3 1 v (Tm.refConsts s (Tm.within s id) (id + 1)).length (vals (Tm.refConsts s (Tm.within s id) (id + 1))) ∧ Up w w'

set_option maxHeartbeats 8000000 in
set_option maxRecDepth 100000 in
theorem refconsts_in {F : Nat → Prop} {w : World} {R : Nat} {s : List Tm.T} (h : Rs F w R s) {id : Nat} (hi : id < s.length) (hm : s.length ≤ 1000) :
    Calls Tryz.prog 15 #[.pointer (some ⟨R, 0, none⟩), .int .i64 id] w (RefConstsDone s id w) := by
  obtain ⟨i0, hif, hz0, hz1, hz2⟩ := info_parts Tryz.intInfo'
  have hinv := h.inv
  obtain ⟨ao, cap, -, ct⟩ := h.terms
  have HN := Lib.hid (needs_any h hi hm)
  have HT := Lib.hid ct
  have HI := Lib.hid hinv
  obtain ⟨ins, hins⟩ : ∃ ins, ins = Tm.within s id := ⟨_, rfl⟩
  have HINS : Hid (ins.length = id + 1) := Lib.hid (by rw [hins]; exact Tm.within_len s id)
  have HIE := Lib.hid hins
  clear h ct hinv hins
  go_enter Tryz.func15, Tryz.ntmps15
  go_wp2_with fail
  (with_reducible refine HN.out.mono ?_)
  rintro e w2 ⟨gm, rfl, hrm, hgm, hU2⟩
  rw [← HIE.out] at hrm
  have hrm3 := hrm.alloc (.cells Tryz.zeroCells87 87)
  have hrh : Row (w2.alloc (.cells Tryz.zeroCells87 87)) w2.heap.size 87 200 (bvals (Tm.hasL s ins 0)) := by
    rw [Tm.hasL_zero, has_zero]
    refine ⟨_, heap_alloc_new w2 _, by simp, by simp [bvals], by simp [bvals]⟩
  have hU3 := hU2.alloc (.cells Tryz.zeroCells87 87)
  obtain ⟨H, hH⟩ : ∃ H, H = w2.heap.size := ⟨_, rfl⟩
  have HHM : Hid (H ≠ gm) := Lib.hid (by have := hrm.lt; omega)
  have HHW : Hid (w.heap.size ≤ H) := Lib.hid (by rw [hH]; exact hU2.size)
  have HHE := Lib.hid hH
  rw [← hH] at hrh
  clear hrm hgm hU2 HN hH
  go_wp2_with fail
  obtain ⟨w3, hw3⟩ : ∃ x, w2.alloc (.cells Tryz.zeroCells87 87) = x := ⟨_, rfl⟩
  rw [hw3] at hrm3 hrh hU3 ⊢
  rw [← HHE.out]
  have HRM := Lib.hid hrm3
  have HRH := Lib.hid hrh
  have HU3 := Lib.hid hU3
  clear hrm3 hrh hU3 hw3 HHE
  go_loopw [7] (fun i wr => ∃ j : Nat, j ≤ id + 1 ∧ i = .int .i64 j ∧ Row wr H 87 200 (bvals (Tm.hasL s ins j)) ∧ Row wr gm 4 (id + 1) (bvals ins) ∧ Up w wr) (fun i _ => id + 1 - (intOf i).toNat)
  case atStart => exact ⟨0, Nat.zero_le _, rfl, HRH.out, HRM.out, HU3.out⟩
  case round =>
    clear HRH HRM HU3
    obtain ⟨j, hj, rfl, hrh, hrm, hU⟩ := hrel
    by_cases hlt : j < id + 1
    · obtain ⟨b, hb⟩ : ∃ b, b = ins.getD j false := ⟨_, rfl⟩
      have hcb : wr.cell? ⟨gm, j, none⟩ = some (.bool b) := by rw [hb]; exact hrm.cell (bvals_get (by rw [HINS.out]; exact hlt))
      have hjs : j < s.length := by omega
      have hca : Tm.constAt s ins j = if b = true ∧ s[j].kind = 7 then some s[j].a else none := by
        rw [hb]; unfold Tm.constAt; rw [List.getElem?_eq_getElem hjs]
      have hct := fun hk => (Tm.const_term (HI.out.may j hjs) hk).2
      obtain ⟨g6, p1, q1, p2, q2, rfl, ht⟩ := HT.out j hjs
      obtain ⟨c0, y0, y1, y2, y3, y4, y5⟩ := ht wr hU
      obtain ⟨t, htt⟩ : ∃ t, t = s[j] := ⟨_, rfl⟩
      rw [← htt] at y0 y1 y2 y3 y4 y5 hca hct
      obtain ⟨z, hz⟩ : ∃ n, n = s.length := ⟨_, rfl⟩
      rw [← hz] at c0 hjs
      obtain ⟨kd, hkd⟩ : ∃ l, l = t.kind := ⟨_, rfl⟩
      obtain ⟨xa, hxa⟩ : ∃ l, l = t.a := ⟨_, rfl⟩
      rw [← hkd] at y0 hca hct
      rw [← hxa] at y2 hca hct
      have HRH := Lib.hid hrh
      have HRM := Lib.hid hrm
      have HU := Lib.hid hU
      have HCT := Lib.hid hct
      have hji : (j : Int) < (id : Int) + 1 := by omega
      clear hrh hrm hU hb htt hz hkd hxa ht hct
      cases b
      · have HC : Hid (Tm.hasL s ins (j + 1) = Tm.hasL s ins j) := Lib.hid (Tm.hasL_none (by rw [hca]; simp))
        clear hca y0 y1 y2 y3 y4 y5
        go_wp2_with fail
        go_roundw
        case rel => exact ⟨j + 1, by omega, by go_num, by rw [HC.out]; exact HRH.out, HRM.out, HU.out⟩
        case measure => simp [intOf] <;> omega
      · by_cases hk : kd = 7
        · subst hk
          have ha := HCT.out rfl
          obtain ⟨pa, rfl⟩ := Int.eq_ofNat_of_zero_le ha.1
          have hpa : pa < 200 := by omega
          have hpi : (pa : Int) < 200 := ha.2
          have HC : Hid (Tm.hasL s ins (j + 1) = (Tm.hasL s ins j).set pa true) := Lib.hid (Tm.hasL_some (by rw [hca]; simp) hpa)
          have hcy := HRH.out.cell (bvals_get (l := Tm.hasL s ins j) (i := pa) (by rw [Tm.hasL_len]; exact hpa))
          have hfy := HRH.out.free pa
          obtain ⟨b0, hb0⟩ : ∃ b0, b0 = (Tm.hasL s ins j).getD pa false := ⟨_, rfl⟩
          rw [← hb0] at hcy
          have HR2 : Hid (Row (wr.setCell ⟨H, pa, none⟩ (.bool true)) H 87 200 (bvals (Tm.hasL s ins (j + 1)))) := Lib.hid (by rw [HC.out, bvals_set]; exact HRH.out.set pa _)
          have HM2 : Hid (Row (wr.setCell ⟨H, pa, none⟩ (.bool true)) gm 4 (id + 1) (bvals ins)) := Lib.hid (HRM.out.other (fun e => HHM.out e.symm) _)
          have HU2 : Hid (Up w (wr.setCell ⟨H, pa, none⟩ (.bool true))) := Lib.hid (HU.out.setCell HHW.out _)
          clear hca ha hb0
          go_wp2_with fail
          go_roundw
          case rel => exact ⟨j + 1, by omega, by go_num, HR2.out, HM2.out, HU2.out⟩
          case measure => simp [intOf] <;> omega
        · have HC : Hid (Tm.hasL s ins (j + 1) = Tm.hasL s ins j) := Lib.hid (Tm.hasL_none (by rw [hca, if_neg (fun e => hk e.2)]))
          have hkb : (kd == 7) = false := by simp [hk]
          clear hca
          go_wp2_with fail
          go_roundw
          case rel => exact ⟨j + 1, by omega, by go_num, by rw [HC.out]; exact HRH.out, HRM.out, HU.out⟩
          case measure => simp [intOf] <;> omega
    · obtain ⟨m, rfl⟩ : ∃ m, m = j := ⟨_, rfl⟩
      have HME : Hid (m = id + 1) := Lib.hid (by omega)
      have hnm : ¬ ((m : Int) ≤ (id : Int)) := by omega
      have H0 : Hid (wr.ownsRow w.heap.size 3 1 (.slice none 0 0) (Tm.outL s ins m 0).length (vals (Tm.outL s ins m 0))) := Lib.hid (World.ownsRow_nil _ _ _ _)
      have HRH := Lib.hid hrh
      have HU := Lib.hid hU
      clear hrh hrm hU hlt hj
      go_wp2_with fail
      go_loopw [8, 9] (fun v i wr => ∃ j : Nat, j ≤ 200 ∧ i = .int .i64 j ∧ wr.ownsRow w.heap.size 3 1 v (Tm.outL s ins m j).length (vals (Tm.outL s ins m j)) ∧ Row wr H 87 200 (bvals (Tm.hasL s ins m)) ∧ Up w wr) (fun _ i _ => 200 - (intOf i).toNat)
      case atStart => exact ⟨0, Nat.zero_le _, rfl, H0.out, HRH.out, HU.out⟩
      case round =>
        clear H0 HRH HU
        obtain ⟨j, hj, rfl, hown, hrh, hU⟩ := hrel
        obtain ⟨p, c, rfl⟩ := owns_shape' hown
        obtain ⟨n, hn⟩ : ∃ n, n = (Tm.outL s ins m j).length := ⟨_, rfl⟩
        have hn1 : n ≤ 200 := by have := Tm.outL_len s ins m j; omega
        rw [← hn] at hown ⊢
        by_cases hlt : j < 200
        · have hos := Tm.outL_succ s ins m j
          have hch := hrh.cell (bvals_get (l := Tm.hasL s ins m) (i := j) (by rw [Tm.hasL_len]; exact hlt))
          rw [Tm.hasL_get s ins m hlt] at hch
          have hji : (j : Int) < 200 := by omega
          have HO := Lib.hid hown
          have HN := Lib.hid hn
          have HRH := Lib.hid hrh
          have HU := Lib.hid hU
          by_cases hc : ((j : Nat) : Int) ∈ Tm.consts s ins m
          · rw [decide_eq_true hc] at hch
            rw [if_pos hc] at hos
            have HOS := Lib.hid hos
            have HADD : Hid (∀ w5 w6 v', Up wr w5 → w6.ownsRow w.heap.size 3 1 v' (n + 1) (vals (Tm.outL s ins m j) ++ [.int .i64 (j : Nat)]) → w5.grownBy w6 (Value.slice p n c).ownBlock → w6.ownsRow w.heap.size 3 1 v' (Tm.outL s ins m (j + 1)).length (vals (Tm.outL s ins m (j + 1))) ∧ Row w6 H 87 200 (bvals (Tm.hasL s ins m)) ∧ Up w w6) := Lib.hid (fun w5 w6 v' h5 ho hg => by
              rw [HOS.out]
              simp only [List.length_append, List.length_singleton, ← hn]
              refine ⟨by simpa [vals] using ho, (h5.row hrh).keep (hg.block H (h5.row hrh).lt ?_), (hU.trans h5).grown hg (fun k hk => (hown.lt k hk).1)⟩
              intro e
              obtain ⟨cur, hcur⟩ := owns_type hown e.symm
              exact row_ne' hrh hcur (by decide))
            clear hown hn hrh hU hos hc
            go_wp2_with (at_builtin; refine wpList_append_own _ rfl _ _ 29 rfl w.heap.size 3 i0 _ 1 8 Tryz.underlying29 hif hz0 hz1 hz2 rfl (by decide) (.slice p n c) n _ rfl (HO.out.alloc _) _ 1 1 [.int .i64 (j : Nat)] rfl rfl (cells_newC _ _ _) (by intro u hu; simp at hu; subst hu; rfl) (by unfold maxLen; omega) (by omega) (by simp; have := HU.out.size; omega) ?_; intro v2 w6 hown2 hgrow2 hnil2; (replace hown2 := Lib.hid hown2); (replace hgrow2 := Lib.hid hgrow2))
            go_roundw
            case rel => exact ⟨j + 1, by omega, by go_num, HADD.out _ _ _ ((Up.refl wr).alloc _) hown2.out hgrow2.out⟩
            case measure => simp [intOf] <;> omega
          · rw [decide_eq_false hc] at hch
            rw [if_neg hc, List.append_nil] at hos
            have HOS := Lib.hid hos
            clear hown hn hrh hU hos hc
            go_wp2_with fail
            go_roundw
            case rel => exact ⟨j + 1, by omega, by go_num, by rw [HOS.out, ← HN.out]; exact HO.out, HRH.out, HU.out⟩
            case measure => simp [intOf] <;> omega
        · obtain rfl : j = 200 := by omega
          have HFIN : Hid (RefConstsDone s id w (.returned (.slice p n c)) wr) := Lib.hid ⟨_, rfl, by
            rw [← HIE.out, ← HME.out, ← Tm.outL_end, ← hn]; exact hown, hU⟩
          clear hown hn hrh hU
          go_wp2_with fail
          go_ret
          exact HFIN.out

end Go.Proofs.YtiiieailimphnaaGreatDoor
