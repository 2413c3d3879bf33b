/- Walks: Marked, Marks, Classes of a partition of any size; Of of too long a list; the partition that has nothing. Walks: Bad, Told of a fault of refine, index. -/
import Derived.Test.YtfkhaldheclheaaGreatDoorRefR3
import Derived.Test.YtfkhaldheclheaaGreatDoorRefW17
import Derived.Test.YtfkhaldheclheaaGreatDoorErrBare

namespace Go.Proofs.YtfkhaldheclheaaGreatDoor
open Go.RowKit
set_option linter.unusedVariables false
set_option linter.unusedSimpArgs false

set_option maxHeartbeats 1000000 in
theorem of_bad (ao : Option Addr) (n cap : Nat) (xt : TypeId) (xv : Value) (w : World) (h : 1000 < n) (hm : n ≤ 9223372036854775807) (hg : w.cell? ⟨0, 0, none⟩ = some (.iface xt xv)) :
    Calls Tryz.prog 9 #[.slice ao n cap] w (Off w [.pointer none] layerRef (.iface xt xv)) := by
  have h1 : (1000 : Int) < (n : Int) := by omega
  go_enter Tryz.func9, Tryz.ntmps9
  go_wp2_with (go_at_call 19; refine (faultNew _ _ _ _).mono ?_; rintro e w' ⟨rfl, rfl⟩)
  go_ret2
  exact ⟨_, rfl, FaultAt.of_alloc _ _ _⟩

set_option maxHeartbeats 1000000 in
theorem marks_in {w : World} {B n b : Nat} {ve vp vi vb : Value} {s : Rf.St} (h : PartAt w B ve vp vi vb s) (hI : Rf.Inv s n) (hb : b < s.blocks.length) :
    Calls Tryz.prog 30 #[.pointer (some ⟨B, 0, none⟩), .int .i64 b] w fun r w' => r = .returned (.tuple #[.int .i64 (s.M b : Nat), .nilIface]) ∧ w = w' := by
  have HS := Lib.hid (blocks_any h)
  have bb := hI.b1 b hb
  obtain ⟨ge, ce, gp, cp, gi, ci, gb, cb, rfl, rfl, rfl, rfl, o⟩ := h.ob hI (by omega)
  have c3 := o.c3
  have cm := o.o.rb.cell (cellsB_get2 s.blocks b hb)
  change _ = some (Value.int .i64 (s.M b : Nat)) at cm
  obtain ⟨nb, hnb⟩ : ∃ nb, nb = s.blocks.length := ⟨_, rfl⟩
  obtain ⟨m, hm⟩ : ∃ m, m = s.M b := ⟨_, rfl⟩
  rw [← hnb] at HS c3 hb
  rw [← hm] at cm ⊢
  clear h hI bb o hnb hm
  go_enter Tryz.func30, Tryz.ntmps30
  go_wp2_with (first
    | (go_at_call 18; refine HS.out.mono ?_; rintro e w' ⟨rfl, rfl⟩)
    | (go_at_call 82; refine (asked_in _ _ _ _ (by omega) (by omega)).mono ?_; rintro e w' ⟨rfl, rfl⟩))
  go_ret2
  exact ⟨rfl, rfl⟩

theorem marks_off {w : World} {B : Nat} {b : Int} {ve vp vi vb : Value} {s : Rf.St} {xt : TypeId} {xv : Value} (h : PartAt w B ve vp vi vb s) (he : b < 0 ∨ (s.blocks.length : Int) ≤ b) (hg : w.cell? ⟨2, 0, none⟩ = some (.iface xt xv)) :
    Calls Tryz.prog 30 #[.pointer (some ⟨B, 0, none⟩), .int .i64 b] w (Off w [.int .i64 0] layerRef (.iface xt xv)) := by
  have HS := Lib.hid (blocks_any h)
  obtain ⟨nb, hnb⟩ : ∃ nb, nb = s.blocks.length := ⟨_, rfl⟩
  rw [← hnb] at HS he
  clear h hnb
  go_enter Tryz.func30, Tryz.ntmps30
  go_wp2_with (first
    | (go_at_call 18; refine HS.out.mono ?_; rintro e w' ⟨rfl, rfl⟩)
    | (go_at_call 82; refine (asked_out _ _ _ _ _ _ he hg).mono ?_; rintro e w' ⟨rfl, rfl⟩))
  go_ret2
  exact ⟨_, rfl, FaultAt.of_alloc _ _ _⟩

theorem block_in' {w : World} {B n : Nat} {e : Int} {ve vp vi vb : Value} {s : Rf.St} {xt : TypeId} {xv : Value} (h : PartAt w B ve vp vi vb s) (hI : Rf.Inv s n) (he : e < 0 ∨ (n : Int) ≤ e) (hg : w.cell? ⟨2, 0, none⟩ = some (.iface xt xv)) :
    Calls Tryz.prog 27 #[.pointer (some ⟨B, 0, none⟩), .int .i64 e] w (Off w [.int .i64 0] layerRef (.iface xt xv)) := by
  refine (block_off h hI he hg).mono ?_
  rintro r w' ⟨rfl, rfl⟩
  exact ⟨_, rfl, FaultAt.of_alloc _ _ _⟩

/-- What Classes leaves. -/
def ClassesAt (w : World) (l : List Nat) (n : Nat) (r : Ending) (w' : World) : Prop :=
  ∃ g, r = .returned (.slice (some ⟨g, 0, none⟩) n n) ∧ Row w' g 3 n (ints l) ∧ w.heap.size ≤ g ∧ Up w w'

set_option maxHeartbeats 1000000 in
set_option maxRecDepth 100000 in
theorem classes_all {w : World} {B n : Nat} {ve vp vi vb : Value} {s : Rf.St} (h : PartAt w B ve vp vi vb s) (hI : Rf.Inv s n) (hn : n ≤ 1000) :
    Calls Tryz.prog 31 #[.pointer (some ⟨B, 0, none⟩)] w (ClassesAt w (Cn.canon (s.inn.map Int.ofNat)) n) := by
  have ri := h.ri
  rw [hI.li] at ri
  have hbox := h.box
  obtain ⟨ao, ci, gi, rfl, hao⟩ := owns_seen ri
  have c2 : w.cell? ⟨B, 2, none⟩ = some (.slice ao n ci) := by simp [World.cell?, hbox]
  have hli : (s.inn.map Int.ofNat).length = n := by rw [List.length_map, hI.li]
  have hb : ∀ k, k < n → (s.inn.map Int.ofNat).getD k 0 = (s.inn.getD k 0 : Nat) := by
    intro k hk
    simp [List.getD, show k < s.inn.length by rw [hI.li]; exact hk]
  have HC := Lib.hid (canon_any' gi 0 n ci ao (fun h0 => (hao h0).1) (s.inn.map Int.ofNat) w hli (by omega) (by
    intro k hk
    rw [hb k hk]
    have := (hI.in1 k hk).1
    have h2 := Rf.blocks_le hI
    have h3 : s.inn.getD k 0 = s.I k := rfl
    exact WalkArith.wf_i64 (by omega)) (by
    intro k hk
    rw [hb k hk, Nat.zero_add]
    exact (hao (by omega)).2.2.cell (ints_get (by rw [hI.li]; exact hk))))
  clear h hI hli hb hbox hao ri
  go_enter Tryz.func31, Tryz.ntmps31
  go_wp2_with (first
    | (go_at_call 86; refine (own_some _ _).mono ?_; rintro e w' ⟨rfl, rfl⟩)
    | (go_at_call 20; refine HC.out.mono ?_; rintro e w1 ⟨rfl, hrow, hbel⟩))
  go_ret
  exact ⟨_, rfl, hrow, by omega, hbel⟩

set_option maxHeartbeats 1000000 in
set_option maxRecDepth 100000 in
theorem marked_all {w : World} {B n : Nat} {ve vp vi vb : Value} {s : Rf.St} (h : PartAt w B ve vp vi vb s) (hI : Rf.Inv s n) (hn : n ≤ 1000) :
    Calls Tryz.prog 32 #[.pointer (some ⟨B, 0, none⟩)] w (LstDone w (s.hot s.blocks.length)) := by
  obtain ⟨i0, hi, hz0, hz1, hz2⟩ := info_parts Tryz.intInfo
  have hbn := Rf.blocks_le hI
  have rb := h.rb
  have hbox := h.box
  obtain ⟨nb, hnb⟩ : ∃ nb, nb = s.blocks.length := ⟨_, rfl⟩
  rw [← hnb] at hbn rb ⊢
  have hk : ∃ ao cap g, vb = .slice ao nb cap ∧ (0 < nb → ao = some ⟨g, 0, none⟩ ∧ Row w g 75 (cap * 3) (cellsB s.blocks)) := by
    rcases owns_cases rb with ⟨rfl, h0, _⟩ | ⟨g, cap, rfl, hr, _⟩
    · exact ⟨none, 0, 0, by rw [h0], fun h => by omega⟩
    · exact ⟨_, cap, g, rfl, fun _ => ⟨rfl, hr⟩⟩
  obtain ⟨ao, cap, gb, rfl, hao⟩ := hk
  have c3 : w.cell? ⟨B, 3, none⟩ = some (.slice ao nb cap) := by simp [World.cell?, hbox]
  have HB : Hid (∀ k, k < nb → ao = some ⟨gb, 0, none⟩ ∧ w.cell? ⟨gb, k * 3, none⟩ = some (.int .i64 (s.F k : Nat)) ∧ w.cell? ⟨gb, k * 3 + 1, none⟩ = some (.int .i64 (s.T k : Nat)) ∧ w.cell? ⟨gb, k * 3 + 2, none⟩ = some (.int .i64 (s.M k : Nat))) := by
    intro k hk
    obtain ⟨h1, h2⟩ := hao (by omega)
    rw [hnb] at hk
    exact ⟨h1, h2.cell (cellsB_get0 _ _ hk), h2.cell (cellsB_get1 _ _ hk), h2.cell (cellsB_get2 _ _ hk)⟩
  have HLE : Hid (∀ k, (s.hot k).length ≤ k) := fun k => Rf.hot_len s k
  clear hao rb hbox h hI hnb
  go_enter Tryz.func32, Tryz.ntmps32
  go_wp2_with (go_at_call 86; refine (own_some _ _).mono ?_; rintro e w' ⟨rfl, rfl⟩)
  go_loopw [3, 12] (fun lv i wr => ∃ k : Nat, k ≤ nb ∧ i = .int .i64 k ∧ wr.ownsRow w.heap.size 3 1 lv (s.hot k).length ((s.hot k).map (Value.int .i64)) ∧ Up w wr) (fun _ i _ => nb - (intOf i).toNat)
  case atStart => exact ⟨0, Nat.zero_le _, rfl, World.ownsRow_nil _ _ _ _, Up.refl w⟩
  case round =>
    obtain ⟨k, hk, rfl, hown, hup⟩ := hrel
    by_cases hlt : k < nb
    · obtain ⟨rfl, x0, x1, x2⟩ := HB.out k hlt
      have y0 := hup.cell x0
      have y1 := hup.cell x1
      have y2 := hup.cell x2
      have hsz := hup.size
      have hle := HLE.out k
      have HN : Hid (s.hot (k + 1) = if 0 < s.M k then s.hot k ++ [(k : Int)] else s.hot k) := rfl
      obtain ⟨x, hx⟩ : ∃ x, x = s.M k := ⟨_, rfl⟩
      obtain ⟨l, hl⟩ : ∃ l, l = s.hot k := ⟨_, rfl⟩
      rw [← hx] at y2 HN
      rw [← hl] at hown hle HN
      obtain ⟨so, sc, rfl⟩ := owns_shape' hown
      obtain ⟨m, hm⟩ : ∃ m, m = l.length := ⟨_, rfl⟩
      rw [← hm] at hown hle ⊢
      have HML := Lib.hid hm
      clear hx hl hm x0 x1 x2
      by_cases hx0 : 0 < x
      · have qx : decide ((0 : Int) < (x : Int)) = true := by simp; omega
        have e := HN.out
        rw [if_pos hx0] at e
        have HE := Lib.hid e
        have HEL : Hid ((s.hot (k + 1)).length = m + 1) := by rw [e, List.length_append, ← HML.out]; rfl
        clear e HN
        go_wp2_with (at_builtin; (refine wpList_append_own _ rfl _ _ 22 rfl w.heap.size 3 i0 (.int .i64 0) 1 8 Tryz.underlying22 hi hz0 hz1 hz2 rfl (by decide) _ m _ rfl ((hown.alloc _).alloc _) ⟨wr.heap.size + 1, 0, none⟩ 1 1 [.int .i64 (k : Nat)] rfl rfl (by simpa using cell_one_new (wr.alloc _) _ _) (ints_oneCell .i64 [(k : Int)]) (by unfold maxLen; omega) (by omega) (by simp; omega) ?_); intro v' w2 hown' hgrow' hnil'; clear hnil')
        go_roundw
        case rel => exact ⟨k + 1, by omega, by go_num, by rw [HEL.out, HE.out, List.map_append]; exact hown', ((hup.alloc _).alloc _).grown hgrow' (fun g hg => (hown.lt g hg).1)⟩
        case measure => simp [intOf]; omega
      · obtain rfl : x = 0 := by omega
        have e := HN.out
        rw [if_neg hx0] at e
        have HE := Lib.hid e
        clear e HN
        go_wp2_with fail
        go_roundw
        case rel => exact ⟨k + 1, by omega, by go_num, by rw [HE.out, ← HML.out]; exact hown.alloc _, hup.alloc _⟩
        case measure => simp [intOf]; omega
    · obtain rfl : k = nb := by omega
      go_wp2_with fail
      go_ret
      exact ⟨_, rfl, hown, hup⟩

/-- The partition that has nothing. -/
def noSt : Rf.St := ⟨[], [], [], []⟩

theorem noSt_inv : Rf.Inv noSt 0 := by
  refine ⟨rfl, rfl, rfl, ?_, ?_, ?_, ?_, ?_⟩ <;> intro i hi <;> first | omega | (simp [noSt] at hi)

theorem noSt_part {w : World} {B : Nat} (h : w.heap[B]? = some (.cells #[.slice none 0 0, .slice none 0 0, .slice none 0 0, .slice none 0 0] 59 (0, 0))) :
    PartAt w B (.slice none 0 0) (.slice none 0 0) (.slice none 0 0) (.slice none 0 0) noSt :=
  ⟨h, World.ownsRow_nil _ _ _ _, World.ownsRow_nil _ _ _ _, World.ownsRow_nil _ _ _ _, World.ownsRow_nil _ _ _ _, fun g hg => (by cases hg), fun g hg => (by cases hg), fun g hg => (by cases hg)⟩

end Go.Proofs.YtfkhaldheclheaaGreatDoor

namespace Go.Proofs.YtfkhaldheclheaaGreatDoor
open Go.RowKit
set_option linter.unusedVariables false
set_option linter.unusedSimpArgs false

theorem quiet_left {P : Program} {f : FuncId} {args : Array Value} {w : World} {n : Nat} {v : Value}
    (h : Calls P f args (w.drewN n) fun e w' => e = .returned v ∧ w.drewN n = w') : Calls P f args (w.drewN n) fun e w' => e = .returned v ∧ ∃ m, w' = w.drewN m :=
  h.mono fun _ _ ⟨he, hm⟩ => ⟨he, n, hm.symm⟩

theorem quiet_add_left {P : Program} {f : FuncId} {args : Array Value} {w : World} {a n : Nat} {v : Value}
    (h : Calls P f args (w.drewN (a + n)) fun e w' => e = .returned v ∧ w.drewN (a + n) = w') :
    Calls P f args (w.drewN (a + n)) fun e w'' => e = .returned v ∧ ∃ m, w'' = w.drewN (a + m) :=
  h.mono fun _ _ ⟨he, hm⟩ => ⟨he, n, hm.symm⟩

theorem Tryz.asFault (v : Value) (w : World) : (Instr.typeAssert (.iface 77 v) 43 77 true).run Tryz.prog w = .ok (.tuple #[v, .bool true]) w := by kernel_rfl
theorem Tryz.asNoFault (v : Value) (w : World) : (Instr.typeAssert (.iface 219 v) 43 77 true).run Tryz.prog w = .ok (.tuple #[.pointer none, .bool false]) w := by kernel_rfl

/-- "refine " -/
def layersRef : ByteArray := { data := #[114, 101, 102, 105, 110, 101, 32] }

set_option maxHeartbeats 1000000 in
theorem bad_any (k : Int) (w : World) :
    Calls Tryz.prog 11 #[.string layerRef, .int .i64 k] w fun r w' => r = .returned (.agg #[.int .i64 k, .int .i64 0, .int .i64 0, .string layersRef]) ∧ Up w w' := by
  unfold layerRef
  go_enter Tryz.func11, Tryz.ntmps11
  go_wp2_with fail
  apply bodyPost_ret
  · (simp [results, Tryz.results11, go_sem]; rfl)
  · rfl
  · exact ⟨rfl, by repeat (first | (with_reducible exact Up.refl _) | (with_reducible apply Up.drew) | (with_reducible apply Up.alloc))⟩

set_option maxHeartbeats 4000000 in
set_option maxRecDepth 100000 in
theorem told_fault {w : World} (F : Nat) (a : Addr) (code : Int) (h0 : 1 ≤ code) (h1 : code ≤ 100) (hF : w.heap[F]? = some (.cells #[.string layerRef, .int .i64 0, .int .i64 0, .iface 219 (.pointer (some a))] 80 (0, 0)))
    (hK : ∀ (w1 : World) (v : Value), Up w w1 → Wraps w1 v a → Calls Tryz.prog 24 #[v] w1 fun r w' => r = .returned (.int .i64 code) ∧ w1 = w') :
    Calls Tryz.prog 12 #[.iface 77 (.pointer (some ⟨F, 0, none⟩)), .agg #[.int .i64 code, .int .i64 0, .int .i64 0, .string layersRef]] w fun r w' => r = .returned (.bool true) ∧ Up w w' := by
  have c0 : w.cell? ⟨F, 0, none⟩ = some (.string layerRef) := by simp [World.cell?, hF]
  have c1 : w.cell? ⟨F, 1, none⟩ = some (.int .i64 0) := by simp [World.cell?, hF]
  have c2 : w.cell? ⟨F, 2, none⟩ = some (.int .i64 0) := by simp [World.cell?, hF]
  have c3 : w.cell? ⟨F, 3, none⟩ = some (.iface 219 (.pointer (some a))) := by simp [World.cell?, hF]
  have HK1 : Hid (∀ w1, Up w w1 → Calls Tryz.prog 24 #[.iface 77 (.pointer (some ⟨F, 0, none⟩))] w1 fun r w' => r = .returned (.int .i64 code) ∧ w1 = w') := fun w1 hu => hK w1 _ hu (.inr ⟨F, rfl, hu.cell c3⟩)
  have HK2 : Hid (∀ w1, Up w w1 → Calls Tryz.prog 24 #[.iface 219 (.pointer (some a))] w1 fun r w' => r = .returned (.int .i64 code) ∧ w1 = w') := fun w1 hu => hK w1 _ hu (.inl rfl)
  have hFl := (Array.getElem?_eq_some_iff.1 hF).1
  have q0 : (code == 0) = false := by simp; omega
  have qc : (code != code) = false := by simp
  have qd : (code == code) = true := by simp
  unfold layerRef at c0
  have aF := Tryz.asFault
  have aN := Tryz.asNoFault
  clear hK hF
  go_enter Tryz.func12, Tryz.ntmps12
  go_wp2_with fail
  go_quiet ((go_at_call 24; exact quiet_left (HK1.out _ (by repeat (first | (with_reducible exact Up.refl _) | (with_reducible apply Up.drewN) | (with_reducible apply Up.drew) | (with_reducible apply Up.alloc))))))
  go_wp2_with fail
  refine wp_loop_rounds 2 ?_
  rw [rounds_succ]
  go_wp2_with fail
  go_quiet (fail)
  go_wp2_with fail
  rw [rounds_succ]
  go_wp2_with fail
  rw [show (({ data := #[] } : ByteArray) ++ { data := #[114, 101, 102, 105, 110, 101] } ++ { data := #[32] }) = layersRef from by decide]
  have hq : (layersRef == layersRef) = true := by decide
  go_quiet ((go_at_call 24; exact quiet_add_left (HK2.out _ (by repeat (first | (with_reducible exact Up.refl _) | (with_reducible apply Up.drewN) | (with_reducible apply Up.drew) | (with_reducible apply Up.alloc))))))
  go_wp2_with fail
  go_ret
  exact ⟨rfl, by repeat (first | (with_reducible exact Up.refl _) | (with_reducible apply Up.drewN) | (with_reducible apply Up.drew) | (with_reducible apply Up.alloc))⟩

def IndexDone (w : World) (r : Ending) (w' : World) : Prop := r = .returned (.bool true) ∧ Up w w'

theorem index_ok (w : World) : Calls Tryz.prog 25 #[.nilIface, .bool true] w (IndexDone w) := by
  go_enter Tryz.func25, Tryz.ntmps25
  go_wp2_with fail
  go_ret
  exact ⟨rfl, Up.refl _⟩

theorem index_bad {w : World} (F : Nat) (a a1 a2 : Addr) (hF : w.heap[F]? = some (.cells #[.string layerRef, .int .i64 0, .int .i64 0, .iface 219 (.pointer (some a))] 80 (0, 0)))
    (s1 : Sent w 0 a1) (s2 : Sent w 1 a2) (s3 : Sent w 2 a) (n1 : a ≠ a1) (n2 : a ≠ a2) :
    Calls Tryz.prog 25 #[.iface 77 (.pointer (some ⟨F, 0, none⟩)), .bool false] w (IndexDone w) := by
  have HT : Hid (∀ w1, Up w w1 → Calls Tryz.prog 12 #[.iface 77 (.pointer (some ⟨F, 0, none⟩)), .agg #[.int .i64 3, .int .i64 0, .int .i64 0, .string layersRef]] w1 fun r w' => r = .returned (.bool true) ∧ Up w1 w') := fun w1 hu =>
    told_fault F a 3 (by omega) (by omega) ((hu.block F (Array.getElem?_eq_some_iff.1 hF).1).trans hF) (fun w2 v hu2 hv => code_3 hv (s1.below (hu.trans hu2)) (s2.below (hu.trans hu2)) (s3.below (hu.trans hu2)) n1 n2)
  have HB := Lib.hid (bad_any 3 w)
  clear hF s1 s2 s3 n1 n2
  go_enter Tryz.func25, Tryz.ntmps25
  go_wp2_with (first
    | (go_at_call 11; refine HB.out.mono ?_; rintro r w1 ⟨rfl, hu1⟩)
    | (go_at_call 12; refine (HT.out _ hu1).mono ?_; rintro r w2 ⟨rfl, hu2⟩))
  go_ret
  exact ⟨rfl, hu1.trans hu2⟩

end Go.Proofs.YtfkhaldheclheaaGreatDoor
