/- Walks: the statement RefineAs. -/
import Derived.Test.YtfkhaldheclheaaDoorRefW13
import Derived.LaidEql
import Derived.Deep.Quiet
namespace Go.Proofs.YtfkhaldheclheaaDoor
open Go.RowKit
set_option linter.unusedVariables false
set_option linter.unusedSimpArgs false

/-- What is laid at the variables that the statement reaches. -/
structure Laid (w : World) (a ai : Addr) : Prop where
  arg : w.cell? ⟨1, 0, none⟩ = some (.iface 126 (.pointer (some a)))
  idx : w.cell? ⟨0, 0, none⟩ = some (.iface 126 (.pointer (some ai)))
  typ : w.cell? ⟨10, 0, none⟩ = some (.iface 83 (.agg #[.pointer (some ⟨20, 24, none⟩)]))

theorem cell_lt {w : World} {p : Addr} {v : Value} (h : w.cell? p = some v) : p.block < w.heap.size := World.block_lt_of_cell? w p h

theorem Below.cellUp {w w' : World} {n : Nat} {p : Addr} {v : Value} (hb : Below n w w') (hp : p.block < n) (h : w.cell? p = some v) : w'.cell? p = some v := (hb.cell hp).trans h

theorem Laid.below {w w' : World} {a ai : Addr} (h : Laid w a ai) (hb : Below w.heap.size w w') : Laid w' a ai :=
  ⟨Below.cellUp hb (cell_lt h.arg) h.arg, Below.cellUp hb (cell_lt h.idx) h.idx, Below.cellUp hb (cell_lt h.typ) h.typ⟩

/-- The lexical walk of a quiet region, shut: so that no tactic lays it open ahead of its time. -/
structure WQ (P : Program) (ops : Array Oper) (C : World → Prop) (Q : Act → Prop) (l : List Oper) (a : Act) : Prop where
  out : wpQuiet P ops C Q l a

/-- A region that draws its order, every operation quiet in a class of worlds. -/
theorem wp_region_quiet_in {P : Program} {id : Nat} {Q : Exit → Act → World → Prop} {a : Act} {w : World} {l : List Oper} (C : World → Prop) (hm : P.follows .mixedOrders = true) (hB : Region.lexB .any l.toArray = true) (hC : C w.drew)
    (h : WQ P l.toArray C (fun a' => ∀ w', C w' → Q .normal a' w') l a) : (Code.region id l.toArray true).wp P Q a w :=
  wp_region_quiet (C := C) hm hB hC (by simpa using h.out)

section
variable {P : Program} {ops : Array Oper} {C : World → Prop} {Q : Act → Prop} {a : Act} {o : Oper} {rest : List Oper}

theorem WQ.nil (h : Q a) : WQ P ops C Q [] a := ⟨h⟩

theorem WQ.step (h : ∀ K : Act → Prop, (∀ a, WQ P ops C Q rest a → K a) → if Region.wanted o (yielded ops a.tmps) then o.quiet P a C K else K (a.put o.dst undef)) : WQ P ops C Q (o :: rest) a :=
  ⟨wpQuiet_step (fun K hK => h K (fun a h => hK a h.out))⟩

theorem WQ.skip (h : Region.wanted o (yielded ops a.tmps) = false) (hr : WQ P ops C Q rest (a.put o.dst undef)) : WQ P ops C Q (o :: rest) a := by
  refine ⟨?_⟩
  unfold wpQuiet; rw [if_neg (by rw [h]; simp)]; exact hr.out

theorem WQ.want (v : Value) (h : Region.wanted o (yielded ops a.tmps) = true) (hq : ∀ w, C w → o.quietAt P a C w v) (hr : WQ P ops C Q rest (a.put o.dst v)) : WQ P ops C Q (o :: rest) a := by
  refine ⟨?_⟩
  unfold wpQuiet; rw [if_pos h]; exact ⟨v, hq, hr.out⟩
end

def AsDone (w : World) (r : Ending) (w' : World) : Prop := r = .returned (.bool true) ∧ Below w.heap.size w w'

set_option maxHeartbeats 4000000 in
set_option maxRecDepth 100000 in
theorem refineAs_bad (n e : Int) (a ai : Addr) (w : World) (hL : Laid w a ai) (h : n < 0 ∨ 1000 < n) :
    Calls Tryd.prog 3 #[.int .i64 n, .int .i64 e] w (AsDone w) := by
  go_enter Tryd.func3, Tryd.ntmps3
  go_upto_region 2 with (go_at_call 6; refine (new_bad n _ _ _ h hL.arg).mono ?_; rintro e w1 ⟨rfl, rfl⟩)
  have hb1 : Below w.heap.size w (w.alloc (.cells #[.string layerRef, .int .i64 0, .int .i64 0, .iface 126 (.pointer (some a))] 35)) := (Below.refl _ _).alloc (Nat.le_refl _) _
  have hL1 := hL.below hb1
  have hf := heap_alloc_new w (.cells #[.string layerRef, .int .i64 0, .int .i64 0, .iface 126 (.pointer (some a))] 35)
  obtain ⟨w1, hw1⟩ : ∃ w1, w.alloc (.cells #[.string layerRef, .int .i64 0, .int .i64 0, .iface 126 (.pointer (some a))] 35) = w1 := ⟨_, rfl⟩
  have hs1 : w1.heap.size = w.heap.size + 1 := by rw [← hw1]; simp
  rw [hw1] at hb1 hL1 hf ⊢
  clear hw1
  go_wp2_with (first
    | (go_at_call 7; refine (alive_true _).mono ?_; rintro e w2 ⟨rfl, hb2⟩;
        (have hc : w2.cell? ⟨w.heap.size, 3, none⟩ = some (.iface 126 (.pointer (some a))) := Below.cellUp hb2 (by simp; omega) (by simp [World.cell?, hf])))
    | (go_at_call 8; refine (code_arg _ a _ hc (hL1.below hb2).arg).mono ?_; rintro e w3 ⟨rfl, rfl⟩))
  go_ret
  exact ⟨rfl, hb1.trans (hb2.mono (by omega))⟩

theorem block_at {w : World} {B n e : Nat} {ve vp vi vb : Value} {s : Rf.St} (h : PartAt w B ve vp vi vb s) (hI : Rf.Inv s n) (he : e < n) :
    Calls Tryd.prog 9 #[.pointer (some ⟨B, 0, none⟩), .int .i64 e] w fun r w' => r = .returned (.tuple #[.int .i64 (s.I e : Nat), .nilIface]) ∧ w = w' := by
  obtain ⟨ge, ce, gp, cp, gi, ci, gb, cb, rfl, rfl, rfl, rfl, o⟩ := h.ob hI (by omega)
  exact block_in B n ce n ci gi e _ _ w he he o.c0 o.c2 (o.o.ri.cell (ints_get (l := s.inn) (i := e) (by rw [hI.li]; exact he)))

theorem block_off {w : World} {B n : Nat} {e : Int} {ve vp vi vb : Value} {s : Rf.St} {xt : TypeId} {xv : Value} (h : PartAt w B ve vp vi vb s) (hI : Rf.Inv s n) (he : e < 0 ∨ (n : Int) ≤ e) (hg : w.cell? ⟨0, 0, none⟩ = some (.iface xt xv)) :
    Calls Tryd.prog 9 #[.pointer (some ⟨B, 0, none⟩), .int .i64 e] w fun r w' =>
      r = .returned (.tuple #[.int .i64 0, .iface 31 (.pointer (some ⟨w.heap.size, 0, none⟩))]) ∧ w.alloc (.cells #[.string layerRef, .int .i64 0, .int .i64 0, .iface xt xv] 35) = w' := by
  obtain ⟨ao, cap, rfl⟩ := owns_shape h.re
  have c0 : w.cell? ⟨B, 0, none⟩ = some (.slice ao n cap) := by simp [World.cell?, h.box, hI.le]
  exact block_out B n cap e ao xt xv w he c0 hg

set_option maxHeartbeats 4000000 in
set_option maxRecDepth 100000 in
theorem refineAs_in (n e : Nat) (a ai : Addr) (w : World) (hL : Laid w a ai) (hn : n ≤ 1000) (he : e < n) :
    Calls Tryd.prog 3 #[.int .i64 n, .int .i64 e] w (AsDone w) := by
  have hI : Rf.Inv (Rf.ofSt (List.replicate n 0)) n := by have := Rf.of_inv (List.replicate n 0); rwa [List.length_replicate] at this
  go_enter Tryd.func3, Tryd.ntmps3
  go_upto_region 4 with (go_at_call 6; refine (new_ok n _ hn).mono ?_; rintro e w1 ⟨B, ve, vp, vi, vb, rfl, hP, hF, hb⟩)
  have HB := Lib.hid (block_at hP hI he)
  clear hP hF hI
  go_upto_region 7 with (first
    | (go_at_call 9; refine HB.out.mono ?_; rintro e w2 ⟨rfl, rfl⟩)
    | (go_at_call 10; refine (as_nil _ _).mono ?_; rintro e w' ⟨rfl, rfl⟩))
  have h2 := hb.alloc hb.size (.cells #[.pointer none] 31)
  have q4 : decide (n ≤ e) = false := by simp; omega
  have q1 : decide ((e : Int) < 0) = false := by simp
  have hs : w.heap.size ≤ (w1.alloc (.cells #[.pointer none] 31)).heap.size := h2.size
  obtain ⟨w2, hw2⟩ : ∃ w2, w1.alloc (.cells #[.pointer none] 31) = w2 := ⟨_, rfl⟩
  rw [hw2] at h2 hs ⊢
  clear hw2 HB
  refine wp_region_quiet_in (fun w' => Below w2.heap.size w2 w') (by kernel_rfl) (by kernel_rfl) (Below.refl _ _).drew ?_
  iterate 16
    refine WQ.step (fun K hK => ?_)
    go_simp
    apply Exists.intro
    refine ⟨?_, hK _ ?_⟩
    (intro w' hw'
     first
       | rfl
       | ((go_at_call 7); refine (alive_true _).mono ?_; rintro e w3 ⟨rfl, hb2⟩; exact ⟨rfl, Below.trans hw' (hb2.mono hw'.size)⟩))
    clear hK K
  iterate 17
    refine WQ.skip (by kernel_rfl) ?_
    simp only [Act.put, List.setIfInBounds_toArray, List.set_cons_zero, List.set_cons_succ]
  iterate 3
    refine WQ.step (fun K hK => ?_)
    go_simp
    apply Exists.intro
    refine ⟨?_, hK _ ?_⟩
    (intro w' hw'
     rfl)
    clear hK K
  refine WQ.nil ?_
  intro w3 hb3
  go_wp2_with fail
  go_ret
  exact ⟨rfl, h2.trans (hb3.mono hs)⟩

set_option maxHeartbeats 4000000 in
set_option maxRecDepth 100000 in
theorem refineAs_off (n : Nat) (e : Int) (a ai : Addr) (w : World) (hL : Laid w a ai) (hn : n ≤ 1000) (he : e < 0 ∨ (n : Int) ≤ e) :
    Calls Tryd.prog 3 #[.int .i64 n, .int .i64 e] w (AsDone w) := by
  have hI : Rf.Inv (Rf.ofSt (List.replicate n 0)) n := by have := Rf.of_inv (List.replicate n 0); rwa [List.length_replicate] at this
  go_enter Tryd.func3, Tryd.ntmps3
  go_upto_region 4 with (go_at_call 6; refine (new_ok n _ hn).mono ?_; rintro e w1 ⟨B, ve, vp, vi, vb, rfl, hP, hF, hb⟩)
  have hL1 := hL.below hb
  have HB := Lib.hid (block_off hP hI he hL1.idx)
  clear hP hF hI
  go_upto_region 5 with (go_at_call 9; refine HB.out.mono ?_; rintro e w2 ⟨rfl, rfl⟩)
  have hb2 := hb.alloc hb.size (.cells #[.string layerRef, .int .i64 0, .int .i64 0, .iface 126 (.pointer (some ai))] 35)
  have hf := heap_alloc_new w1 (.cells #[.string layerRef, .int .i64 0, .int .i64 0, .iface 126 (.pointer (some ai))] 35)
  obtain ⟨F, hFe⟩ : ∃ F, F = w1.heap.size := ⟨_, rfl⟩
  obtain ⟨w2, hw2⟩ : ∃ w2, w1.alloc (.cells #[.string layerRef, .int .i64 0, .int .i64 0, .iface 126 (.pointer (some ai))] 35) = w2 := ⟨_, rfl⟩
  rw [hw2, ← hFe] at hf
  rw [hw2] at hb2 ⊢
  rw [← hFe]
  have hL2 := hL.below hb2
  clear hw2 hFe HB hb hL1
  have hF : F < w2.heap.size := lt_of_block hf
  have hV := heap_alloc_new w2 (.cells #[.pointer none] 31)
  go_upto_region 6 with fail
  have hb3 := hb2.alloc hb2.size (.cells #[.pointer none] 31)
  have hL3 := hL.below hb3
  have hf3 := (Below.heap_alloc w2 (.cells #[.pointer none] 31) F hF).trans hf
  obtain ⟨V, hVe⟩ : ∃ V, V = w2.heap.size := ⟨_, rfl⟩
  rw [← hVe] at hV hF ⊢
  obtain ⟨w3, hw3⟩ : ∃ w3, w2.alloc (.cells #[.pointer none] 31) = w3 := ⟨_, rfl⟩
  rw [hw3] at hb3 hL3 hV hf3 ⊢
  have hwV : w.heap.size ≤ V := by rw [hVe]; exact hb2.size
  clear hw3 hVe hb2 hL2 hf
  have cV : w3.cell? ⟨V, 0, none⟩ = some (.pointer none) := by simp [World.cell?, hV]
  have fV : w3.frozen? ⟨V, 0, none⟩ = false := by simp [World.frozen?, hV]
  have hVl : V < w3.heap.size := lt_of_block hV
  have cF0 : w3.cell? ⟨F, 0, none⟩ = some (.string { data := #[114, 101, 102, 105, 110, 101] }) := by simp [World.cell?, hf3, layerRef]
  have cF3 : w3.cell? ⟨F, 3, none⟩ = some (.iface 126 (.pointer (some ai))) := by simp [World.cell?, hf3]
  have hFV : F ≠ V := by omega
  have HA := Lib.hid (as_hit ⟨F, 0, none⟩ ⟨V, 0, none⟩ (.pointer none) w3 hL3.typ cV fV)
  have CV := Lib.hid cV
  clear cV fV hV hf3
  go_upto_region 7 with (go_at_call 10; refine HA.out.mono ?_; rintro e w4 ⟨rfl, hw4⟩; replace hw4 := Lib.hid hw4)
  have hlI := cell_lt hL3.idx
  have hNV : ∀ b v, b ≠ V → w3.cell? ⟨b, 0, none⟩ = some v → w4.cell? ⟨b, 0, none⟩ = some v := by
    intro b v hb hc
    have hbl : b < w3.heap.size := cell_lt hc
    rw [hw4.out, World.cell?_setCell_other _ _ _ _ (by simp only [ne_eq, Addr.mk.injEq]; omega), World.cell?_alloc_lt _ _ _ (by simp; omega), World.cell?_alloc_lt _ _ _ (by simp; omega), World.cell?_alloc_lt _ _ _ (by simp; omega), World.cell?_alloc_lt _ _ _ hbl]
    exact hc
  have dF0 := hNV F _ hFV cF0
  have dF3 : w4.cell? ⟨F, 3, none⟩ = some (.iface 126 (.pointer (some ai))) := by
    have hbl : F < w3.heap.size := cell_lt cF3
    rw [hw4.out, World.cell?_setCell_other _ _ _ _ (by simp only [ne_eq, Addr.mk.injEq]; omega), World.cell?_alloc_lt _ _ _ (by simp; omega), World.cell?_alloc_lt _ _ _ (by simp; omega), World.cell?_alloc_lt _ _ _ (by simp; omega), World.cell?_alloc_lt _ _ _ hbl]
    exact cF3
  have hGV : 0 ≠ V := by
    have := cell_lt hL.idx
    simp only at this; omega
  have dG := hNV _ _ hGV hL3.idx
  have dV : w4.cell? ⟨V, 0, none⟩ = some (.pointer (some ⟨F, 0, none⟩)) := by
    rw [hw4.out, World.cell?_setCell_same (u := .pointer none)]
    rw [World.cell?_alloc_lt _ _ _ (by simp; omega), World.cell?_alloc_lt _ _ _ (by simp; omega), World.cell?_alloc_lt _ _ _ (by simp; omega), World.cell?_alloc_lt _ _ _ hVl]
    exact CV.out
  have hb4 : Below w.heap.size w w4 := by
    rw [hw4.out]
    exact ((((hb3.alloc hb3.size _).alloc (by have := hb3.size; simp; omega) _).alloc (by have := hb3.size; simp; omega) _).alloc (by have := hb3.size; simp; omega) _).setCell hwV _
  clear hNV hw4 HA hb3 hL3 CV cF0 cF3
  have heq : ∀ w, (binOp .eql 24 (.iface 126 (.pointer (some ai))) (.iface 126 (.pointer (some ai)))).run Tryd.prog w = .ok (.bool true) w := by
    intro w
    obtain ⟨i, hi, hcmp⟩ := Option.map_eq_some_iff.1 Tryd.isComp
    obtain ⟨j, hj, hjs⟩ := Option.map_eq_some_iff.1 Tryd.isSize
    exact run_eql_iface_ptr_same w ai Tryd.underlying24 Tryd.underlying126 hi hcmp hj
  have hs4 := hb4.size
  have KV : Hid (∀ w', Below w4.heap.size w4 w' → w'.cell? ⟨V, 0, none⟩ = some (.pointer (some ⟨F, 0, none⟩))) := fun w' h => Below.cellUp h (cell_lt dV) dV
  have K0 : Hid (∀ w', Below w4.heap.size w4 w' → w'.cell? ⟨F, 0, none⟩ = some (.string { data := #[114, 101, 102, 105, 110, 101] })) := fun w' h => Below.cellUp h (cell_lt dF0) dF0
  have K3 : Hid (∀ w', Below w4.heap.size w4 w' → w'.cell? ⟨F, 3, none⟩ = some (.iface 126 (.pointer (some ai)))) := fun w' h => Below.cellUp h (cell_lt dF3) dF3
  have KG : Hid (∀ w', Below w4.heap.size w4 w' → w'.cell? ⟨0, 0, none⟩ = some (.iface 126 (.pointer (some ai)))) := fun w' h => Below.cellUp h (cell_lt dG) dG
  have HE := Lib.hid heq
  clear dV dF0 dF3 dG heq hGV hFV hlI hL
  by_cases h0 : e < 0
  · have q1 : decide (e < 0) = true := by simp; omega
    refine wp_region_quiet_in (fun w' => Below w4.heap.size w4 w') (by kernel_rfl) (by kernel_rfl) (Below.refl _ _).drew ?_
    iterate 6
      refine WQ.step (fun K hK => ?_)
      go_simp
      apply Exists.intro
      refine ⟨?_, hK _ ?_⟩
      (intro w' hw'
       first
         | rfl
         | ((go_at_call 7); refine (alive_true _).mono ?_; rintro e w3 ⟨rfl, hb2⟩; exact ⟨rfl, Below.trans hw' (hb2.mono hw'.size)⟩)
         | (have xV := KV.out w' hw'
            have x0 := K0.out w' hw'
            have x3 := K3.out w' hw'
            have xG := KG.out w' hw'
            have xe := HE.out w'
            go_simp; first | done | rfl | exact ⟨rfl, rfl⟩))
      clear hK K
    iterate 3
      refine WQ.skip (by kernel_rfl) ?_
      simp only [Act.put, List.setIfInBounds_toArray, List.set_cons_zero, List.set_cons_succ]
    iterate 27
      refine WQ.step (fun K hK => ?_)
      go_simp
      apply Exists.intro
      refine ⟨?_, hK _ ?_⟩
      (intro w' hw'
       first
         | rfl
         | ((go_at_call 7); refine (alive_true _).mono ?_; rintro e w3 ⟨rfl, hb2⟩; exact ⟨rfl, Below.trans hw' (hb2.mono hw'.size)⟩)
         | (have xV := KV.out w' hw'
            have x0 := K0.out w' hw'
            have x3 := K3.out w' hw'
            have xG := KG.out w' hw'
            have xe := HE.out w'
            go_simp; first | done | rfl | exact ⟨rfl, rfl⟩))
      clear hK K
    refine WQ.nil ?_
    intro w5 hb5
    go_wp2_with fail
    go_ret
    exact ⟨rfl, hb4.trans (hb5.mono hs4)⟩
  · have q1 : decide (e < 0) = false := by simp; omega
    have q2 : decide ((n : Int) ≤ e) = true := by simp; omega
    refine wp_region_quiet_in (fun w' => Below w4.heap.size w4 w') (by kernel_rfl) (by kernel_rfl) (Below.refl _ _).drew ?_
    iterate 36
      refine WQ.step (fun K hK => ?_)
      go_simp
      apply Exists.intro
      refine ⟨?_, hK _ ?_⟩
      (intro w' hw'
       first
         | rfl
         | ((go_at_call 7); refine (alive_true _).mono ?_; rintro e w3 ⟨rfl, hb2⟩; exact ⟨rfl, Below.trans hw' (hb2.mono hw'.size)⟩)
         | (have xV := KV.out w' hw'
            have x0 := K0.out w' hw'
            have x3 := K3.out w' hw'
            have xG := KG.out w' hw'
            have xe := HE.out w'
            go_simp; first | done | rfl | exact ⟨rfl, rfl⟩))
      clear hK K
    refine WQ.nil ?_
    intro w5 hb5
    go_wp2_with fail
    go_ret
    exact ⟨rfl, hb4.trans (hb5.mono hs4)⟩

/-- RefineAs, whatever it is handed. -/
theorem refineAs_any (n e : Int) (a ai : Addr) (w : World) (hL : Laid w a ai) :
    Calls Tryd.prog 3 #[.int .i64 n, .int .i64 e] w (AsDone w) := by
  by_cases h : n < 0 ∨ 1000 < n
  · exact refineAs_bad n e a ai w hL h
  · obtain ⟨m, rfl⟩ := Int.eq_ofNat_of_zero_le (show 0 ≤ n by omega)
    by_cases he : e < 0 ∨ (m : Int) ≤ e
    · exact refineAs_off m e a ai w hL (by omega) he
    · obtain ⟨k, rfl⟩ := Int.eq_ofNat_of_zero_le (show 0 ≤ e by omega)
      exact refineAs_in m k a ai w hL (by omega) (by omega)

end Go.Proofs.YtfkhaldheclheaaDoor
