/- Walks: the statement RefineParts. -/
import Derived.Test.YtfkhaldheclheaaDoorRefW17
import Derived.Test.YtfkhaldheclheaaDoorRefHalf
namespace Go.Proofs.YtfkhaldheclheaaDoor
open Go.RowKit
set_option linter.unusedVariables false
set_option linter.unusedSimpArgs false

/-- A partition that the call made lies at B; nothing that was there has turned. -/
structure Held (w wr : World) (B : Nat) (s : Rf.St) : Prop where
  part : ∃ ve vp vi vb, PartAt wr B ve vp vi vb s ∧ ∀ k, Foot B ve vp vi vb k → w.heap.size ≤ k
  bel : Below w.heap.size w wr

theorem Held.below {w wr w' : World} {B : Nat} {s : Rf.St} (h : Held w wr B s) (hb : Below wr.heap.size wr w') : Held w w' B s := by
  obtain ⟨ve, vp, vi, vb, hp, hf⟩ := h.part
  exact ⟨⟨ve, vp, vi, vb, hp.below hb, hf⟩, h.bel.trans (hb.mono h.bel.size)⟩

theorem Held.step {w wr w' : World} {B : Nat} {s s' : Rf.St} {ve vp vi vb vb' : Value} (h : Held w wr B s) (hf : ∀ k, Foot B ve vp vi vb k → w.heap.size ≤ k)
    (hp : PartAt w' B ve vp vi vb' s') (hn : ∀ k, vb'.ownBlock = some k → vb.ownBlock = some k ∨ wr.heap.size ≤ k) (hT : Turned (Foot B ve vp vi vb) wr w') : Held w w' B s' := by
  refine ⟨⟨ve, vp, vi, vb', hp, ?_⟩, h.bel.trans (hT.newOnly hf h.bel.size)⟩
  have := h.bel.size
  intro k hk
  rcases hk with rfl | hk | hk | hk | hk
  · exact hf _ (.inl rfl)
  · exact hf _ (.inr (.inl hk))
  · exact hf _ (.inr (.inr (.inl hk)))
  · exact hf _ (.inr (.inr (.inr (.inl hk))))
  · rcases hn k hk with hk | hk
    · exact hf _ (.inr (.inr (.inr (.inr hk))))
    · omega

/-- The two variables that a play reaches. -/
structure Laid2 (w : World) (ai : Value) : Prop where
  idx : w.cell? ⟨0, 0, none⟩ = some (.iface 126 ai)
  typ : w.cell? ⟨10, 0, none⟩ = some (.iface 83 (.agg #[.pointer (some ⟨20, 24, none⟩)]))

theorem Laid2.below {w w' : World} {ai : Value} (h : Laid2 w ai) (hb : Below w.heap.size w w') : Laid2 w' ai :=
  ⟨Below.cellUp hb (cell_lt h.idx) h.idx, Below.cellUp hb (cell_lt h.typ) h.typ⟩

def Played (w : World) (B : Nat) (s : Rf.St) (r : Ending) (w' : World) : Prop := (∃ v, r = .returned v) ∧ Held w w' B s

theorem mark_play {w wr : World} {B n : Nat} {e : Int} {s : Rf.St} {ai : Value} (h : Held w wr B s) (hL : Laid2 wr ai) (hI : Rf.Inv s n) (hn : n ≤ 1000) :
    Calls Tryd.prog 11 #[.pointer (some ⟨B, 0, none⟩), .int .i64 e] wr (Played w B (s.step n (1, e))) := by
  obtain ⟨ve, vp, vi, vb, hp, hf⟩ := h.part
  by_cases he : 0 ≤ e ∧ e < (n : Int)
  · obtain ⟨k, rfl⟩ : ∃ k : Nat, e = k := ⟨e.toNat, by omega⟩
    have hs : s.step n (1, (k : Int)) = (s.mark k).2 := by simp only [Rf.St.step, if_true, if_pos he, Int.toNat_natCast]
    rw [hs]
    refine (mark_any hp hI hn (by omega)).mono ?_
    rintro r w' ⟨rfl, hp', hT, hsz⟩
    exact ⟨⟨_, rfl⟩, h.step hf hp' (fun k hk => .inl hk) hT⟩
  · have hs : s.step n (1, e) = s := by simp only [Rf.St.step, if_true, if_neg he]
    rw [hs]
    refine (mark_off hp hI (by omega) hL.idx).mono ?_
    rintro r w' ⟨F, rfl, hF⟩
    exact ⟨⟨_, rfl⟩, h.below hF.bel⟩

theorem split_play {w wr : World} {B n : Nat} {k e : Int} {s : Rf.St} {ai : Value} (h : Held w wr B s) (hL : Laid2 wr ai) (hI : Rf.Inv s n) (hn : n ≤ 1000) (hk : k ≠ 1) :
    Calls Tryd.prog 14 #[.pointer (some ⟨B, 0, none⟩), .int .i64 e] wr (Played w B (s.step n (k, e))) := by
  obtain ⟨ve, vp, vi, vb, hp, hf⟩ := h.part
  by_cases he : 0 ≤ e ∧ e < (s.blocks.length : Int)
  · obtain ⟨j, rfl⟩ : ∃ k : Nat, e = k := ⟨e.toNat, by omega⟩
    have hs : s.step n (k, (j : Int)) = (s.split j).2 := by simp only [Rf.St.step, if_neg hk, if_pos he, Int.toNat_natCast]
    rw [hs]
    refine (split_any hp hI hn (by omega)).mono ?_
    rintro r w' ⟨rfl, vb', hp', hn', hT⟩
    exact ⟨⟨_, rfl⟩, h.step hf hp' hn' hT⟩
  · have hs : s.step n (k, e) = s := by simp only [Rf.St.step, if_neg hk, if_neg he]
    rw [hs]
    refine (split_off hp (by omega) hL.idx hL.typ).mono ?_
    rintro r w' ⟨F, rfl, hF⟩
    exact ⟨⟨_, rfl⟩, h.below hF.bel⟩

/-- A script, where it stands. -/
structure ScriptAt (w : World) (g off : Nat) (l : List (Int × Int)) : Prop where
  c0 : ∀ i, i < l.length → w.cell? ⟨g, off + i * 2, none⟩ = some (.int .i64 (l.getD i (0, 0)).1)
  c1 : ∀ i, i < l.length → w.cell? ⟨g, off + i * 2 + 1, none⟩ = some (.int .i64 (l.getD i (0, 0)).2)

theorem held_members {w wr : World} {B n b : Nat} {s : Rf.St} (h : Held w wr B s) (hI : Rf.Inv s n) (hn : n ≤ 1000) (hb : b < s.blocks.length) :
    Calls Tryd.prog 13 #[.pointer (some ⟨B, 0, none⟩), .int .i64 b] wr (MembersDone wr s b) := by
  obtain ⟨ve, vp, vi, vb, hp, hf⟩ := h.part
  exact members_any hp hI hn hb

theorem held_blocks {w wr : World} {B : Nat} {s : Rf.St} (h : Held w wr B s) :
    Calls Tryd.prog 16 #[.pointer (some ⟨B, 0, none⟩)] wr fun e w' => e = .returned (.int .i64 (s.blocks.length : Nat)) ∧ wr = w' := by
  obtain ⟨ve, vp, vi, vb, hp, hf⟩ := h.part
  exact blocks_any hp

theorem held_size {w wr : World} {B : Nat} {s : Rf.St} (h : Held w wr B s) :
    Calls Tryd.prog 17 #[.pointer (some ⟨B, 0, none⟩)] wr fun e w' => e = .returned (.int .i64 (s.elems.length : Nat)) ∧ wr = w' := by
  obtain ⟨ve, vp, vi, vb, hp, hf⟩ := h.part
  exact size_any hp

theorem held_block {w wr : World} {B n e : Nat} {s : Rf.St} (h : Held w wr B s) (hI : Rf.Inv s n) (he : e < n) :
    Calls Tryd.prog 9 #[.pointer (some ⟨B, 0, none⟩), .int .i64 e] wr fun r w' => r = .returned (.tuple #[.int .i64 (s.I e : Nat), .nilIface]) ∧ wr = w' := by
  obtain ⟨ve, vp, vi, vb, hp, hf⟩ := h.part
  exact block_at hp hI he

theorem take_play (s : Rf.St) (n k : Nat) (l : List (Int × Int)) (hk : k < l.length) : s.play n (l.take (k + 1)) = (s.play n (l.take k)).step n ((l.getD k (0, 0)).1, (l.getD k (0, 0)).2) := by
  rw [List.take_succ_eq_append_getElem hk, Rf.play_snoc]
  simp [List.getD, hk]

def PartsDone (w : World) (r : Ending) (w' : World) : Prop := r = .returned (.bool true) ∧ Below w.heap.size w w'

set_option maxHeartbeats 4000000 in
set_option maxRecDepth 100000 in
theorem parts_in (n m cap g off : Nat) (ao : Option Addr) (l : List (Int × Int)) (ai : Value) (w : World) (hn : n ≤ 60) (hm : m ≤ 200) (hl : l.length = m) (hao : 0 < m → ao = some ⟨g, off, none⟩) (hL : Laid2 w ai) (hs : ScriptAt w g off l) :
    Calls Tryd.prog 5 #[.int .i64 n, .slice ao m cap] w (PartsDone w) := by
  have hI0 : Rf.Inv (Rf.ofSt (List.replicate n 0)) n := by have := Rf.of_inv (List.replicate n 0); rwa [List.length_replicate] at this
  have HI : Hid (∀ k, Rf.Inv ((Rf.ofSt (List.replicate n 0)).play n (l.take k)) n) := fun k => Rf.play_inv _ hI0
  have HAO := Lib.hid hao
  have HL := Lib.hid hl
  have HS := Lib.hid hs
  have HV := Lib.hid hL
  clear hl hs hL hI0 hao
  go_enter Tryd.func5, Tryd.ntmps5
  go_upto_region 7 with (go_at_call 6; refine (new_ok n _ (by omega)).mono ?_; rintro e w1 ⟨B, ve, vp, vi, vb, rfl, hP, hF, hb⟩)
  have hH0 : Held w w1 B ((Rf.ofSt (List.replicate n 0)).play n (l.take 0)) := ⟨⟨ve, vp, vi, vb, hP, hF⟩, hb⟩
  clear hP hF hb
  go_loopw [7] (fun i wr => ∃ k : Nat, k ≤ m ∧ i = .int .i64 k ∧ Held w wr B ((Rf.ofSt (List.replicate n 0)).play n (l.take k))) (fun i _ => m - (intOf i).toNat)
  case atStart => exact ⟨0, Nat.zero_le _, rfl, hH0⟩
  case round =>
    clear hH0
    obtain ⟨k, hk, rfl, hH⟩ := hrel
    by_cases hlt : k < m
    · obtain rfl := HAO.out (by omega)
      obtain ⟨s, hse⟩ : ∃ s, s = (Rf.ofSt (List.replicate n 0)).play n (l.take k) := ⟨_, rfl⟩
      obtain ⟨kd, hkd⟩ : ∃ x, x = (l.getD k (0, 0)).1 := ⟨_, rfl⟩
      obtain ⟨ev, hev⟩ : ∃ x, x = (l.getD k (0, 0)).2 := ⟨_, rfl⟩
      have a0 := Below.cellUp hH.bel (cell_lt (HS.out.c0 k (by rw [HL.out]; exact hlt))) (HS.out.c0 k (by rw [HL.out]; exact hlt))
      have a1 := Below.cellUp hH.bel (cell_lt (HS.out.c1 k (by rw [HL.out]; exact hlt))) (HS.out.c1 k (by rw [HL.out]; exact hlt))
      rw [← hkd] at a0
      rw [← hev] at a1
      have hnext : (Rf.ofSt (List.replicate n 0)).play n (l.take (k + 1)) = s.step n (kd, ev) := by rw [take_play _ _ _ _ (by rw [HL.out]; exact hlt), ← hse, hkd, hev]
      have HN := Lib.hid hnext
      have hIs : Rf.Inv s n := by rw [hse]; exact HI.out k
      rw [← hse] at hH
      have hLw := HV.out.below hH.bel
      have HM := Lib.hid (mark_play (e := ev) hH hLw hIs (by omega))
      have HSp := Lib.hid (fun h : kd ≠ 1 => split_play (k := kd) (e := ev) hH hLw hIs (by omega) h)
      clear hnext hse hkd hev hIs hH hLw
      by_cases h1 : kd = 1
      · subst h1
        go_wp2_with (go_at_call 11; refine HM.out.mono ?_; rintro e w2 ⟨⟨v, rfl⟩, hH2⟩)
        go_roundw
        case rel => exact ⟨k + 1, by omega, by go_num, by rw [HN.out]; exact hH2⟩
        case measure => simp [intOf]; omega
      · have q1 : (kd == 1) = false := by simp; exact h1
        have HSp2 := Lib.hid (HSp.out h1)
        clear h1
        go_wp2_with (go_at_call 14; refine HSp2.out.mono ?_; rintro e w2 ⟨⟨v, rfl⟩, hH2⟩)
        go_roundw
        case rel => exact ⟨k + 1, by omega, by go_num, by rw [HN.out]; exact hH2⟩
        case measure => simp [intOf]; omega
    · obtain rfl : k = m := by omega
      have hIs := HI.out k
      obtain ⟨s, hse⟩ : ∃ s, s = (Rf.ofSt (List.replicate n 0)).play n (l.take k) := ⟨_, rfl⟩
      rw [← hse] at hH hIs
      clear hse hlt
      have hnb := Rf.blocks_le hIs
      obtain ⟨nb, hnbe⟩ : ∃ nb, nb = s.blocks.length := ⟨_, rfl⟩
      rw [← hnbe] at hnb
      have HNB := Lib.hid hnbe
      have hIs' := Lib.hid hIs
      clear hnbe hIs HI HS HL
      go_wp2_with fail
      obtain ⟨wo, rfl⟩ : ∃ wo : World, wo = wr := ⟨_, rfl⟩
      go_loopw [8, 9] (fun c i wr => ∃ b : Nat, b ≤ nb ∧ i = .int .i64 b ∧ c = .int .i64 (s.tot b : Nat) ∧ Held w wr B s) (fun _ i _ => nb - (intOf i).toNat)
      case atStart => exact ⟨0, Nat.zero_le _, rfl, rfl, hH⟩
      case round =>
        clear hH
        obtain ⟨b, hb, rfl, rfl, hH⟩ := hrel
        by_cases hlt : b < nb
        · have HB := Lib.hid (held_blocks hH)
          have HM := Lib.hid (held_members (b := b) hH hIs'.out (by omega) (by rw [← HNB.out]; exact hlt))
          rw [← HNB.out] at HB
          have hbl : b < s.blocks.length := by rw [← HNB.out]; exact hlt
          have hml := Rf.mem_len hIs'.out hbl
          have hb1 := (hIs'.out.b1 b hbl).1
          have htot : s.tot (b + 1) = s.tot b + (s.T b - s.F b) := rfl
          have htn := Rf.tot_le hIs'.out (b + 1) (by omega)
          obtain ⟨tb, htb⟩ : ∃ x, x = s.tot b := ⟨_, rfl⟩
          obtain ⟨mb, hmb⟩ : ∃ x, x = (s.mem b).length := ⟨_, rfl⟩
          have hmb1 : 1 ≤ mb := by omega
          have hmb2 : tb + mb ≤ 60 := by omega
          have HT : Hid (s.tot (b + 1) = tb + mb) := by unfold Hid; omega
          have hat : Hid (∀ j, j < mb → ∃ e : Nat, (s.mem b).getD j 0 = e ∧ e < n ∧ s.I e = b) := fun j hj => Rf.mem_at hIs'.out hbl (by rw [← hmb]; exact hj)
          have hsl : Hid (∀ j, j + 1 < mb → (s.mem b).getD j 0 < (s.mem b).getD (j + 1) 0) := fun j hj => Rf.mem_lt hIs'.out hbl (Nat.succ_pos j) (by rw [← hmb]; exact hj)
          rw [← htb]
          have HMB := Lib.hid hmb
          clear htb hmb hml hb1 htot htn hbl
          go_wp2_with (first
            | (go_at_call 16; refine HB.out.mono ?_; rintro e w' ⟨rfl, rfl⟩)
            | (go_at_call 13; refine HM.out.mono ?_; rintro e w2 ⟨gm, cm, rfl, hown, hbm⟩; rw [← HMB.out] at hown ⊢; (have q0 : ((mb : Int) == 0) = false := by simp; omega); replace hown := Lib.hid hown))
          have hH2 := hH.below hbm
          have hcells : Hid (∀ j, j < mb → w2.cell? ⟨gm, j, none⟩ = some (.int .i64 ((s.mem b).getD j 0))) := by
            intro j hj
            refine (Row.of hown.out).1.cell ?_
            have : j < (s.mem b).length := by rw [← HMB.out]; exact hj
            simp [List.getD, this]
          have H2 := Lib.hid hH2
          clear hH hown hbm HB HM hH2 q0
          go_loopw [8, 12] (fun c i wr => ∃ j q : Nat, j ≤ mb ∧ i = .int .i64 j ∧ c = .int .i64 ((tb + j : Nat) : Int) ∧ wr = w2.drewN q) (fun _ i _ => mb - (intOf i).toNat)
          case atStart => exact ⟨0, 0, Nat.zero_le _, rfl, rfl, rfl⟩
          case round =>
            obtain ⟨j, q, hj, rfl, rfl, rfl⟩ := hrel
            by_cases hjm : j < mb
            · obtain ⟨e, he, hen, hei⟩ := hat.out j hjm
              have ce := hcells.out j hjm
              rw [he] at ce
              have hHq : Held w (w2.drewN q) B s := H2.out.below (below_drewN (Below.refl _ _) q)
              have HBk := held_block hHq hIs'.out hen
              rw [hei] at HBk
              have HBL := Lib.hid HBk
              clear HBk hei hHq
              have s0 : IntKind.i64.wrap (((tb + j : Nat) : Int) + 1) = ((tb + (j + 1) : Nat) : Int) := (IntWalk.i64_in _ (by omega)).trans (by omega)
              have qb : ((b : Int) == (b : Int)) = true := by simp
              have qb' : ((b : Int) != (b : Int)) = false := by simp
              rcases Nat.eq_zero_or_pos j with h0 | h0
              · subst h0
                clear he
                go_wp2_with (go_at_call 9; refine HBL.out.mono ?_; rintro e w3 ⟨rfl, rfl⟩)
                go_quiet (fail)
                go_wp2_with fail
                go_roundw
                case rel => exact ⟨1, _, by omega, by go_num, by go_num, rfl⟩
                case measure => simp [intOf]; omega
              · obtain ⟨i, rfl⟩ : ∃ i, j = i + 1 := ⟨j - 1, by omega⟩
                have cp := hcells.out i (by omega)
                have hlt2 := hsl.out i hjm
                rw [he] at hlt2
                obtain ⟨y, hy⟩ : ∃ y, y = (s.mem b).getD i 0 := ⟨_, rfl⟩
                rw [← hy] at cp hlt2
                have qy : decide ((e : Int) ≤ y) = false := by simp; omega
                have s1 : IntKind.i64.wrap (((i + 1 : Nat) : Int) - 1) = (i : Int) := (IntWalk.i64_in _ (by omega)).trans (by omega)
                clear hy he h0 hlt2
                go_wp2_with (go_at_call 9; refine HBL.out.mono ?_; rintro e w3 ⟨rfl, rfl⟩)
                go_quiet (fail)
                go_wp2_with fail
                go_roundw
                case rel => exact ⟨i + 1 + 1, _, by omega, by go_num, by go_num, rfl⟩
                case measure => simp [intOf]; omega
            · obtain rfl : j = mb := by omega
              go_wp2_with fail
              go_roundw
              case rel => exact ⟨b + 1, by omega, by go_num, by rw [HT.out], H2.out.below (below_drewN (Below.refl _ _) q)⟩
              case measure => simp [intOf]; omega
        · obtain rfl : b = nb := by omega
          have HB := Lib.hid (held_blocks hH)
          rw [← HNB.out] at HB
          have ht : s.tot b = n := by rw [HNB.out]; exact Rf.tot_all hIs'.out
          rw [ht]
          have hle := hIs'.out.le
          have HLE := Lib.hid hle
          have qs : ((n : Int) == (n : Int)) = true := by simp
          clear ht hle hlt
          go_wp2_with (first
            | (go_at_call 16; refine HB.out.mono ?_; rintro e w' ⟨rfl, rfl⟩)
            | (go_at_call 7; refine (alive_true _).mono ?_; rintro e w3 ⟨rfl, hb3⟩; replace hH := hH.below hb3)
            | (go_at_call 17; refine (held_size hH).mono ?_; rw [HLE.out]; rintro e w4 ⟨rfl, rfl⟩))
          go_ret
          exact ⟨rfl, hH.bel⟩

set_option maxHeartbeats 1000000 in
theorem parts_out (n : Int) (m cap : Nat) (ao : Option Addr) (w : World) (hm : m ≤ maxLen) (h : n < 0 ∨ 60 < n ∨ 200 < m) :
    Calls Tryd.prog 5 #[.int .i64 n, .slice ao m cap] w (PartsDone w) := by
  unfold maxLen at hm
  by_cases h1 : n < 0
  · clear h
    go_enter Tryd.func5, Tryd.ntmps5
    go_wp2_with (go_at_call 7; refine (alive_true _).mono ?_; rintro e w3 ⟨rfl, hb3⟩)
    go_ret
    exact ⟨rfl, hb3⟩
  · by_cases h2 : 60 < n
    · have h3 : 0 ≤ n := by omega
      clear h h1
      go_enter Tryd.func5, Tryd.ntmps5
      go_wp2_with (go_at_call 7; refine (alive_true _).mono ?_; rintro e w3 ⟨rfl, hb3⟩)
      go_ret
      exact ⟨rfl, hb3⟩
    · have h3 : 0 ≤ n := by omega
      have h4 : n ≤ 60 := by omega
      have h5 : 200 < (m : Int) := by omega
      clear h h1 h2
      go_enter Tryd.func5, Tryd.ntmps5
      go_wp2_with (go_at_call 7; refine (alive_true _).mono ?_; rintro e w3 ⟨rfl, hb3⟩)
      go_ret
      exact ⟨rfl, hb3⟩

theorem parts_any (n : Int) (m cap g off : Nat) (ao : Option Addr) (l : List (Int × Int)) (ai : Value) (w : World) (hm : m ≤ maxLen) (hl : l.length = m) (hao : 0 < m → ao = some ⟨g, off, none⟩) (hL : Laid2 w ai) (hs : ScriptAt w g off l) :
    Calls Tryd.prog 5 #[.int .i64 n, .slice ao m cap] w (PartsDone w) := by
  by_cases h : n < 0 ∨ 60 < n ∨ 200 < m
  · exact parts_out n m cap ao w hm h
  · obtain ⟨k, rfl⟩ : ∃ k : Nat, n = k := ⟨n.toNat, by omega⟩
    exact parts_in k m cap g off ao l ai w (by omega) (by omega) hl hao hL hs

end Go.Proofs.YtfkhaldheclheaaDoor
