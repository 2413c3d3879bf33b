/- Walk: the statement TermCopied. -/
import Derived.Test.YtiiieailimphnaaDoorTmW15
import Derived.Test.YtiiieailimphnaaDoorTmSameW
import Derived.Deep.DeepCutAuto
namespace Go.Proofs.YtiiieailimphnaaDoor
open Go.RowKit Go.Maps
set_option linter.unusedVariables false
set_option linter.unusedSimpArgs false

namespace Tm
/-- The copy ahead of the term i. -/
def oAt (s : List T) (i : Nat) : List T := s.take (max i 1)

theorem run_head (l : List T) : (run l)[0]? = some nilT := by
  have := (run_keeps l 0 l.length (by omega) 0 (by simp [run])).1
  simpa [run] using this

theorem run_cons (l : List T) : ∃ r, run l = nilT :: r := by
  have := run_head l
  cases h : run l with
  | nil => rw [h] at this; cases this
  | cons x r => rw [h] at this; simp at this; exact ⟨r, by rw [this]⟩

theorem copied_put {l : List T} {i : Nat} (hi : i < (run l).length) : put (oAt (run l) i) (run l)[i] = (some i, oAt (run l) (i + 1)) := by
  by_cases h : i = 0
  · subst h
    have h0 : (run l)[0] = nilT := (List.getElem?_eq_some_iff.1 (run_head l)).2
    obtain ⟨r, hr⟩ := run_cons l
    have e0 : oAt (run l) 0 = [nilT] := by rw [hr]; rfl
    have e1 : oAt (run l) (0 + 1) = [nilT] := by rw [hr]; rfl
    rw [h0, e0, e1]
    decide
  · have e0 : oAt (run l) i = (run l).take i := by unfold oAt; rw [Nat.max_eq_left (by omega)]
    have e1 : oAt (run l) (i + 1) = (run l).take (i + 1) := by unfold oAt; rw [Nat.max_eq_left (by omega)]
    rw [e0, e1]
    exact put_copied (run_inv l) hi

theorem oAt_len (s : List T) (i : Nat) : (oAt s i).length = min (max i 1) s.length := by simp [oAt]

theorem copied_may {l : List T} {i : Nat} (hi : i < (run l).length) : (run l)[i].may (oAt (run l) i).length = true := by
  by_cases h : i = 0
  · subst h
    have h0 : (run l)[0] = nilT := (List.getElem?_eq_some_iff.1 (run_head l)).2
    rw [h0, oAt_len, Nat.min_eq_left (by simp; omega)]
    decide
  · rw [oAt_len, Nat.max_eq_left (by omega), Nat.min_eq_left (by omega)]
    exact (run_inv l).may i hi

theorem copied_alike {l : List T} {i : Nat} (hi : i < (run l).length) : alike (run l) (oAt (run l) (i + 1)) i i = true :=
  alike_self (run_inv l) (i + 1) i (by omega) hi (fun j hj => by
    unfold oAt
    rw [List.getElem?_take, if_pos (by omega)])
end Tm

/-- Two stores beside each other. -/
structure TwoAt (w wr : World) (G : Nat → Prop) (B1 B2 : Nat) (s o : List Tm.T) : Prop where
  s1 : St (fun j => w.heap.size ≤ j ∧ ¬ G j) wr B1 s
  s2 : St G wr B2 o
  up : Up w wr
  ge : ∀ j, G j → w.heap.size ≤ j

theorem TwoAt.upw {w wr w2 : World} {G : Nat → Prop} {B1 B2 : Nat} {s o : List Tm.T} (h : TwoAt w wr G B1 B2 s o) (hu : Up wr w2) : TwoAt w w2 G B1 B2 s o := ⟨h.s1.up hu, h.s2.up hu, h.up.trans hu, h.ge⟩

theorem TwoAt.put1 {w wr w2 : World} {G : Nat → Prop} {B1 B2 : Nat} {s s' o : List Tm.T} (h : TwoAt w wr G B1 B2 s o) (hs : St (fun j => w.heap.size ≤ j ∧ ¬ G j) w2 B1 s') (ht : Turned (fun j => w.heap.size ≤ j ∧ ¬ G j) wr w2) : TwoAt w w2 G B1 B2 s' o :=
  ⟨hs, h.s2.turned ht (fun k _ hk e => e.2 hk), upTurn h.up ht (fun _ hk => hk.1), h.ge⟩

theorem TwoAt.put2 {w wr w2 : World} {G : Nat → Prop} {B1 B2 : Nat} {s o o' : List Tm.T} (h : TwoAt w wr G B1 B2 s o) (hs : St G w2 B2 o') (ht : Turned G wr w2) : TwoAt w w2 G B1 B2 s o' :=
  ⟨h.s1.turned ht (fun k _ hk e => hk.2 e), hs, upTurn h.up ht h.ge, h.ge⟩

theorem TwoAt.again {w wr : World} {n1 n2 : Nat} {B1 B2 : Nat} {s o : List Tm.T} (h : TwoAt w wr (fun j => n1 ≤ j ∧ j < n2) B1 B2 s o) : TwoAt w wr (fun j => (n1 ≤ j ∧ j < n2) ∨ wr.heap.size ≤ j) B1 B2 s o :=
  ⟨h.s1.mono (fun k hk h => ⟨h.1, fun e => e.elim h.2 (fun e => by omega)⟩), h.s2.mono (fun k _ h => .inl h), h.up, fun j hj => hj.elim (h.ge j) (fun e => by have := h.up.size; omega)⟩

set_option maxHeartbeats 1000000 in
set_option maxRecDepth 100000 in
theorem copied_many (n cap : Nat) (ao : Option Addr) (w : World) (hT : Tab w) (h : 150 < n) (hm : n ≤ 9223372036854775807) :
    Calls Tryd.prog 3 #[.slice ao n cap] w (Done w) := by
  have h2 : (150 : Int) < (n : Int) := by omega
  have HA := Lib.hid (alive_true w hT)
  clear hT h
  go_enter Tryd.func3, Tryd.ntmps3
  go_wp2_with (go_at_call 6; (with_reducible refine HA.out.mono ?_); rintro e w' ⟨rfl, hU⟩)
  go_ret
  exact ⟨rfl, hU⟩

set_option maxHeartbeats 16000000 in
set_option maxRecDepth 100000 in
theorem copied_main (g off cap : Nat) (ao : Option Addr) (l : List Tm.T) (a : Addr) (w : World) (hT : Tab w) (hG : w.cell? ⟨0, 0, none⟩ = some (.iface 129 (.pointer (some a))))
    (hao : 0 < l.length → ao = some ⟨g, off, none⟩) (hA : TermsAt w g off l) (hm : l.length ≤ 150) :
    Calls Tryd.prog 3 #[.slice ao l.length cap] w (Done w) := by
  obtain ⟨n, hn⟩ : ∃ n, n = l.length := ⟨_, rfl⟩
  have hm2 : ¬ (150 : Int) < (n : Int) := by omega
  rw [← hn] at hao hm ⊢
  have HN := Lib.hid hn
  have HAO := Lib.hid hao
  have HA := Lib.hid hA
  have HT := Lib.hid hT
  have HG := Lib.hid hG
  have HNEW : Hid (∀ W, Up w W → Calls Tryd.prog 7 #[] W (NewStore W)) := Lib.hid (fun W hW => new_any W (hT.up hW))
  clear hn hao hA hT hG
  go_enter Tryd.func3, Tryd.ntmps3
  go_wp2_with fail
  (with_reducible refine (HNEW.out _ (Up.refl w)).mono ?_)
  rintro e w1 ⟨B1, rfl, hS1, hU1⟩
  go_wp2_with fail
  (with_reducible refine (HNEW.out _ hU1).mono ?_)
  rintro e w2 ⟨B2, rfl, hS2, hU2⟩
  have h0 : TwoAt w w2 (fun j => w1.heap.size ≤ j ∧ j < w2.heap.size) B1 B2 (Tm.run (l.take 0)) [Tm.nilT] :=
    ⟨((hS1.bound).up hU2).mono (fun k _ hk => ⟨hk.1, fun e => by omega⟩), hS2.bound, hU1.trans hU2, fun j hj => Nat.le_trans hU1.size hj.1⟩
  obtain ⟨n1, hn1⟩ : ∃ n, n = w1.heap.size := ⟨_, rfl⟩
  obtain ⟨n2, hn2⟩ : ∃ n, n = w2.heap.size := ⟨_, rfl⟩
  rw [← hn1, ← hn2] at h0
  have hw2 : n2 ≤ w2.heap.size := by omega
  clear hS1 hU1 hS2 hU2 HNEW hn1 hn2
  go_wp2_with fail
  go_loopw [5] (fun i wr => ∃ k : Nat, k ≤ n ∧ i = .int .i64 k ∧ n2 ≤ wr.heap.size ∧ TwoAt w wr (fun j => n1 ≤ j ∧ j < n2) B1 B2 (Tm.run (l.take k)) [Tm.nilT]) (fun i _ => n - (intOf i).toNat)
  case atStart => exact ⟨0, Nat.zero_le _, rfl, hw2, h0⟩
  case round =>
    clear h0 hw2
    obtain ⟨k, hk, rfl, hwn, hB⟩ := hrel
    have HB := Lib.hid hB
    by_cases hlt : k < n
    · obtain rfl := HAO.out (by omega)
      have hkl : k < l.length := by rw [← HN.out]; exact hlt
      have HKL := Lib.hid hkl
      obtain ⟨nv, pv, ⟨c0, c1, c2, c3, c4, c5⟩, hr, hln, hlp⟩ := (HA.out.up hB.up) k hkl
      obtain ⟨s, hs⟩ : ∃ s, s = Tm.run (l.take k) := ⟨_, rfl⟩
      obtain ⟨t, ht⟩ : ∃ t, t = l.getD k Tm.nilT := ⟨_, rfl⟩
      have hsl : s.length ≤ 200 := by
        have h1 := (Tm.run_len (l.take k)).2
        rw [← hs, List.length_take] at h1; omega
      have hst := hB.s1
      rw [← hs] at hst
      rw [← ht] at c0 c1 c2 c3 hr hln hlp
      obtain ⟨p1, q1, g1, o1, e1, -⟩ := hr.n
      obtain ⟨p2, q2, g2, o2, e2, -⟩ := hr.p
      subst e1 e2
      have HS := Lib.hid hs
      have HTT := Lib.hid ht
      have HNX : Hid (Tm.run (l.take (k + 1)) = (Tm.put s t).2) := Lib.hid (by rw [Tm.run_take l k hkl, hs, ht])
      obtain ⟨l1, hl1⟩ : ∃ l, l = t.names.length := ⟨_, rfl⟩
      obtain ⟨l2, hl2⟩ : ∃ l, l = t.pairs.length := ⟨_, rfl⟩
      have HWN : Hid (n2 ≤ wr.heap.size) := hwn
      cases hmay : t.may s.length
      · have HPUT := Lib.hid (put_not hst hr hln hlp hmay (hB.up.cell HG.out))
        have HEQ : Hid ((Tm.put s t).2 = s) := Lib.hid (by rw [Tm.put_none hmay])
        rw [← hl1] at c4 HPUT
        rw [← hl2] at c5 HPUT
        clear hB hst hs ht hr hln hlp hl1 hl2 hmay hkl
        go_wp2_with fail
        (with_reducible refine HPUT.out.mono ?_)
        rintro e w3 ⟨pb, rfl, -, hU3⟩
        go_wp2_with fail
        go_roundw
        case rel => exact ⟨k + 1, by omega, by go_num, Nat.le_trans HWN.out hU3.size, by rw [HNX.out, HEQ.out, HS.out]; exact HB.out.upw hU3⟩
        case measure => simp [intOf]; omega
      · have HPUT := Lib.hid (put_F hst (fun j hj => (⟨by have := hB.up.size; omega, fun e => by omega⟩ : w.heap.size ≤ j ∧ ¬ (n1 ≤ j ∧ j < n2))) hr hmay (by omega) (HT.out.up hB.up))
        rw [← hl1] at c4 HPUT
        rw [← hl2] at c5 HPUT
        clear hB hst hs ht hr hln hlp hl1 hl2 hmay hkl
        go_wp2_with fail
        (with_reducible refine HPUT.out.mono ?_)
        rintro e w3 ⟨k', hk', rfl, hst3, ht3⟩
        clear hk'
        have HST3 := Lib.hid hst3
        have HT3 := Lib.hid ht3
        clear hst3 ht3
        go_wp2_with fail
        go_roundw
        case rel => exact ⟨k + 1, by omega, by go_num, Nat.le_trans HWN.out HT3.out.size, by rw [HNX.out]; exact HB.out.put1 HST3.out HT3.out⟩
        case measure => simp [intOf]; omega
    · obtain rfl : k = n := by omega
      have hB2 := hB.again
      obtain ⟨n3, hn3⟩ : ∃ n, n = wr.heap.size := ⟨_, rfl⟩
      rw [← hn3] at hB2
      rw [HN.out, List.take_length] at hB2
      have hI0 : [Tm.nilT] = Tm.oAt (Tm.run l) 0 := by
        obtain ⟨r, hr⟩ := Tm.run_cons l
        rw [hr]; rfl
      rw [hI0] at hB2
      have hzl := (Tm.run_len l)
      obtain ⟨z, hz⟩ : ∃ z, z = (Tm.run l).length := ⟨_, rfl⟩
      have HZ := Lib.hid hz
      have hz1 : 1 ≤ z ∧ z ≤ 151 := by have := HN.out; omega
      have hw3 : n3 ≤ wr.heap.size := by omega
      have HB2 := Lib.hid hB2
      have HW3 := Lib.hid hw3
      clear hB hn3 hB2 hI0 hzl hz hwn HB
      go_wp2_with fail
      go_loopw [6] (fun i wr => ∃ k : Nat, k ≤ z ∧ i = .int .i64 k ∧ n3 ≤ wr.heap.size ∧ TwoAt w wr (fun j => (n1 ≤ j ∧ j < n2) ∨ n3 ≤ j) B1 B2 (Tm.run l) (Tm.oAt (Tm.run l) k)) (fun i _ => z - (intOf i).toNat)
      case atStart => exact ⟨0, Nat.zero_le _, rfl, HW3.out, HB2.out⟩
      case round =>
        clear HB2 HW3
        obtain ⟨k, hk, rfl, hwn, hB⟩ := hrel
        have HB := Lib.hid hB
        have HZW : Hid (∀ W, Up wr W → Calls Tryd.prog 9 #[.pointer (some ⟨B1, 0, none⟩)] W fun e w' => e = .returned (.int .i64 z) ∧ W = w') := Lib.hid (fun W hW => by rw [HZ.out]; exact size_st (hB.s1.up hW))
        by_cases hlt : k < z
        · have hkl : k < (Tm.run l).length := by rw [← HZ.out]; exact hlt
          have HGET := Lib.hid (get_in hB.s1 hkl (by rw [← HZ.out]; omega))
          have HCP := Lib.hid (Tm.copied_put hkl)
          have HCM := Lib.hid (Tm.copied_may hkl)
          have HCA := Lib.hid (Tm.copied_alike hkl)
          have HKL := Lib.hid hkl
          have HTW := Lib.hid (HT.out.up hB.up)
          have HWN : Hid (n3 ≤ wr.heap.size) := hwn
          obtain ⟨t, ht⟩ : ∃ t, t = (Tm.run l)[k]'hkl := ⟨_, rfl⟩
          rw [← ht] at HGET HCP HCM
          have qk : ((k : Int) != (k : Int)) = false := by simp
          clear hB hkl ht hwn
          go_wp2_with fail
          (with_reducible refine (HZW.out _ (Up.refl _)).mono ?_)
          rintro e w' ⟨rfl, rfl⟩
          go_wp2_with fail
          (with_reducible refine HGET.out.mono ?_)
          rintro e w5 ⟨nv2, pv2, he, ho5, -, hU5⟩
          obtain ⟨p3, q3, rfl⟩ := owns_shape' ho5.n
          obtain ⟨p4, q4, rfl⟩ := owns_shape' ho5.p
          rw [tlit] at he
          subst he
          have hR5 := ho5.read
          have HPUT := Lib.hid (fun (W : World) (hW : Up w5 W) => put_F (((HB.out.upw hU5).upw hW).s2) (fun j hj => (Or.inr (by have h1 := hU5.size; have h2 := hW.size; have h3 := HWN.out; omega) : (n1 ≤ j ∧ j < n2) ∨ n3 ≤ j)) (hR5.up hW) HCM.out (by rw [Tm.oAt_len, ← HZ.out]; omega) ((HTW.out.up hU5).up hW))
          obtain ⟨l1, hl1⟩ : ∃ l, l = t.names.length := ⟨_, rfl⟩
          obtain ⟨l2, hl2⟩ : ∃ l, l = t.pairs.length := ⟨_, rfl⟩
          rw [← hl1, ← hl2] at HPUT ⊢
          have HU5 := Lib.hid hU5
          clear ho5 hR5 hU5 hl1 hl2 HGET
          go_wp2_with fail
          (with_reducible refine (HPUT.out _ ((Up.refl w5).alloc _)).mono ?_)
          rintro e w7 ⟨k', hk', rfl, hst7, ht7⟩
          rw [HCP.out] at hk' hst7
          obtain rfl : k = k' := by simpa using hk'
          have hT7 := (HB.out.upw (HU5.out.trans ((Up.refl w5).alloc _))).put2 hst7 ht7
          have HSAME := Lib.hid (same_in hT7.s1 hT7.s2 (a := k) (b := k) HKL.out (by have := HKL.out; rw [Tm.oAt_len]; omega) (by rw [← HZ.out]; omega) (by rw [Tm.oAt_len, ← HZ.out]; omega))
          rw [HCA.out] at HSAME
          have hw7 := ht7.size
          rw [World.size_alloc] at hw7
          have hw7' : n3 ≤ w7.heap.size := by have h1 := HU5.out.size; have h2 := HWN.out; omega
          have HW7 := Lib.hid hw7'
          have HT7 := Lib.hid hT7
          clear hk' hst7 ht7 hT7 hw7 hw7' HPUT HU5
          go_wp2_with fail
          (with_reducible refine HSAME.out.mono ?_)
          rintro e w8 ⟨rfl, hU8⟩
          go_wp2_with fail
          go_roundw
          case rel => exact ⟨k + 1, by omega, by go_num, Nat.le_trans HW7.out hU8.size, HT7.out.upw hU8⟩
          case measure => simp [intOf]; omega
        · obtain rfl : z = k := by omega
          have HZ2 : Hid (∀ W, Up wr W → Calls Tryd.prog 9 #[.pointer (some ⟨B2, 0, none⟩)] W fun e w' => e = .returned (.int .i64 z) ∧ W = w') := Lib.hid (fun W hW => by
            have := size_st (hB.s2.up hW)
            rw [show (Tm.oAt (Tm.run l) z).length = z by rw [Tm.oAt_len, ← HZ.out]; omega] at this
            exact this)
          have HA2 := Lib.hid (alive_true wr (HT.out.up hB.up))
          have qz : ((z : Int) == (z : Int)) = true := by simp
          clear hB hwn
          go_wp2_with (first
            | (go_at_call 6; (with_reducible refine HA2.out.mono ?_); rintro e w' ⟨rfl, hU⟩)
            | (go_at_call 9; (with_reducible refine (HZ2.out _ hU).mono ?_); rintro e w4 ⟨rfl, rfl⟩)
            | (go_at_call 9; (with_reducible refine (HZW.out _ hU).mono ?_); rintro e w4 ⟨rfl, rfl⟩)
            | (go_at_call 9; (with_reducible refine (HZW.out _ (Up.refl _)).mono ?_); rintro e w4 ⟨rfl, rfl⟩))
          go_ret
          exact ⟨rfl, HB.out.up.trans hU⟩

/-- TermCopied, whatever it is handed. -/
theorem copied_any (g off cap : Nat) (ao : Option Addr) (l : List Tm.T) (a : Addr) (w : World) (hT : Tab w) (hG : w.cell? ⟨0, 0, none⟩ = some (.iface 129 (.pointer (some a))))
    (hao : 0 < l.length → ao = some ⟨g, off, none⟩) (hA : TermsAt w g off l) (hl : l.length ≤ 9223372036854775807) :
    Calls Tryd.prog 3 #[.slice ao l.length cap] w (Done w) := by
  by_cases h : l.length ≤ 150
  · exact copied_main g off cap ao l a w hT hG hao hA h
  · exact copied_many _ cap ao w hT (by omega) hl

end Go.Proofs.YtiiieailimphnaaDoor
