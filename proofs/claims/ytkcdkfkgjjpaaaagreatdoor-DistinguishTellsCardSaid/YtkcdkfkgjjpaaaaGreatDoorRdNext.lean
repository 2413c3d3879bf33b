/- Walks: rounds.each and its closure. -/
import Derived.Test.YtkcdkfkgjjpaaaaGreatDoorRdSign
import Derived.Test.YtkcdkfkgjjpaaaaGreatDoorRdMap
import Derived.Test.YtkcdkfkgjjpaaaaGreatDoorRdEq
import Derived.Deep.RegionHeld3
import Derived.Deep.DeepCutAuto
namespace Go.Proofs.YtkcdkfkgjjpaaaaGreatDoor
open Go.RowKit Go.Sort Go.Maps
set_option linter.unusedVariables false
set_option linter.unusedSimpArgs false

/-- The three boxes of a closure that tells rounds. -/
structure EachAt (w : World) (bb cb gb B : Nat) (s : Sy.Lts) (begun : Bool) (gc : Nat) (c : List Nat) : Prop where
  bg : w.heap[bb]? = some (.cells #[.bool begun] 4 (0, 0))
  cl : w.heap[cb]? = some (.cells #[.slice (some ⟨gc, 0, none⟩) c.length c.length] 35 (0, 0))
  row : Row w gc 3 c.length (ints c)
  gr : w.heap[gb]? = some (.cells #[.pointer (some ⟨B, 0, none⟩)] 29 (0, 0))
  sep : ∃ w0, GraphAt w0 B s ∧ Up w0 w ∧ w0.heap.size ≤ cb ∧ w0.heap.size ≤ bb

theorem EachAt.graph {w : World} {bb cb gb B gc : Nat} {s : Sy.Lts} {b : Bool} {c : List Nat} (h : EachAt w bb cb gb B s b gc c) : GraphAt w B s := by
  obtain ⟨w0, h1, h2, -⟩ := h.sep
  exact h1.up h2

theorem EachAt.up {w w1 : World} {bb cb gb B gc : Nat} {s : Sy.Lts} {b : Bool} {c : List Nat} (h : EachAt w bb cb gb B s b gc c) (hu : Up w w1) : EachAt w1 bb cb gb B s b gc c :=
  ⟨(hu.block _ (lt_of_block' h.bg)).trans h.bg, (hu.block _ (lt_of_block' h.cl)).trans h.cl, hu.row h.row, (hu.block _ (lt_of_block' h.gr)).trans h.gr, by obtain ⟨w0, h1, h2, h3⟩ := h.sep; exact ⟨w0, h1, h2.trans hu, h3⟩⟩

theorem ints_list (c : List Nat) : ints c = (c.map Int.ofNat).map (Value.int .i64) := by simp [ints]

theorem Row.lstN {w : World} {g cap m q : Nat} {c : List Nat} (h : Row w g 3 cap (ints c)) (hn : c.length = m) : Lst w (.slice (some ⟨g, 0, none⟩) m q) (c.map Int.ofNat) := by
  rw [ints_list] at h
  exact h.lst (by simpa using hn)

theorem one_cell {w : World} {b : Nat} {a : Value} {e : TypeId} (h : w.heap[b]? = some (.cells #[a] e (0, 0))) : w.cell? ⟨b, 0, none⟩ = some a ∧ w.frozen? ⟨b, 0, none⟩ = false := by
  refine ⟨?_, ?_⟩ <;> simp [World.cell?, World.frozen?, h]

/-- The first call. -/
theorem each_first {w : World} {bb cb gb B gc : Nat} {s : Sy.Lts} {c : List Nat} (h : EachAt w bb cb gb B s false gc c) :
    Calls Tryz.prog 196 #[.pointer (some ⟨bb, 0, none⟩), .pointer (some ⟨cb, 0, none⟩), .pointer (some ⟨gb, 0, none⟩)] w fun r w' =>
      r = .returned (.slice (some ⟨gc, 0, none⟩) c.length c.length) ∧ w' = w.setCell ⟨bb, 0, none⟩ (.bool true) := by
  obtain ⟨b0, b1⟩ := one_cell h.bg
  obtain ⟨c0, -⟩ := one_cell h.cl
  have hne : bb ≠ cb := fun e => by
    have h1 := h.bg
    rw [e, h.cl] at h1
    simp only [Option.some.injEq, Obj.cells.injEq] at h1
    exact absurd h1.2.1 (by decide)
  have c1 : (w.setCell ⟨bb, 0, none⟩ (.bool true)).cell? ⟨cb, 0, none⟩ = some (.slice (some ⟨gc, 0, none⟩) c.length c.length) :=
    (World.cell?_of_block (w := w) (a := ⟨cb, 0, none⟩) (Below.heap_setCell w ⟨bb, 0, none⟩ _ cb (fun e => hne e.symm))).trans c0
  generalize c.length = n at c1 ⊢
  clear h c0
  go_enter Tryz.func196, Tryz.ntmps196
  go_wp2_with fail
  go_ret
  exact ⟨rfl, rfl⟩

theorem steps_ok {s : Sy.Lts} (hR : Sy.Right s) (p : Nat) : ∀ x ∈ Sy.steps s p, 0 ≤ x.1 ∧ x.1 < 1000 ∧ 0 ≤ x.2 ∧ x.2 < (s.n.toNat : Int) := fun x hx => by
  have h1 := hR.ok _ ((Sy.mem_steps s p x).1 hx)
  have h2 := hR.m2
  simp only at h1
  omega

theorem steps_len {s : Sy.Lts} (hR : Sy.Right s) (p : Nat) : (Sy.steps s p).length ≤ 1000000 := by
  have h1 := Sy.norm_len (lt := Sy.lt3) s.es
  have h2 := hR.len
  unfold Sy.steps Sy.sorted
  rw [List.length_map]
  have := List.length_filter_le (fun e : Sy.Edge => e.1 == (p : Int)) (Sy.norm Sy.lt3 s.es)
  omega

/-- The signature's box. -/
def SigBox (wr : World) (x : Sig) (v : Value) (wc : World) : Prop :=
  ∃ xb, v = .pointer (some ⟨xb, 0, none⟩) ∧ (wc.cell? ⟨xb, 0, none⟩ = some (.int .i64 (x.1 : Nat)) ∧ wc.cell? ⟨xb, 1, none⟩ = some (.string ⟨(Rd.text x.2).toArray⟩)) ∧ Up wr wc

theorem Tryz.intZeroR (w : World) : (zeroValue 3).run Tryz.prog w = .ok (.int .i64 0) w := by kernel_rfl

/-- What a call behind the first one leaves. -/
def NextDone (w : World) (bb cb gb B : Nat) (s : Sy.Lts) (gc : Nat) (c : List Nat) (r : Ending) (w' : World) : Prop :=
  (Rd.next s c = c ∧ r = .returned (.slice none 0 0) ∧ Up w w') ∨
  (Rd.next s c ≠ c ∧ ∃ g, r = .returned (.slice (some ⟨g, 0, none⟩) c.length c.length) ∧ w.heap.size ≤ g ∧ EachAt w' bb cb gb B s true g (Rd.next s c) ∧ Turned (fun k => k = cb) w w')

theorem ownsMap_keep {H : Type} {P : Program} {k : TypeId} {R : Value → Option (DataW H × List MemPlace)} {w w' : World} {b n : Nat} {D : DataW H} (h : w.ownsMap P k R b n D) (hk : w'.heap[b]? = w.heap[b]?) : w'.ownsMap P k R b n D := by
  obtain ⟨es, clock, hb, r⟩ := h
  exact ⟨es, clock, hk.trans hb, r⟩

theorem fill_set {l : List Nat} {n i v : Nat} (h : i < n) (hl : l.length = i) : (l ++ List.replicate (n - i) 0).set i v = (l ++ [v]) ++ List.replicate (n - (i + 1)) 0 := by
  rw [List.set_append_right _ _ (by omega), hl, Nat.sub_self, show n - i = (n - (i + 1)) + 1 by omega, List.replicate_succ, List.set_cons_zero, List.append_assoc]
  rfl

theorem sig_ok {s : Sy.Lts} (hR : Sy.Right s) {c : List Nat} (hsm : Rd.Small c) (p : Nat) : SigOk (Rd.sig s c p) := by
  refine ⟨hsm p, ?_⟩
  have h1 := text_len (Rd.sig s c p).2 (fun x hx => by
    have h1 := (Sy.mem_norm x _).1 hx
    obtain ⟨y, hy, rfl⟩ := List.mem_map.1 h1
    have h2 := steps_ok hR p y hy
    have h3 := hsm y.2.toNat
    simp only
    omega)
  have h2 : (Rd.sig s c p).2.length ≤ 1000000 := by
    have := Sy.norm_len (lt := Sy.lt2) ((Sy.steps s p).map fun x => (x.1, ((c.getD x.2.toNat 0 : Nat) : Int)))
    have h3 := steps_len hR p
    rw [List.length_map] at this
    exact Nat.le_trans this h3
  unfold maxLen; omega

theorem sigs_get {s : Sy.Lts} {c : List Nat} {p : Nat} (h : p < c.length) : (Rd.sigs s c)[p]'(by rw [Rd.sigs_len]; exact h) = Rd.sig s c p := by simp [Rd.sigs]

theorem sigs_ok {s : Sy.Lts} (hR : Sy.Right s) {c : List Nat} (hsm : Rd.Small c) : ∀ x ∈ Rd.sigs s c, SigOk x := fun x hx => by
  obtain ⟨p, _, rfl⟩ := List.mem_map.1 hx
  exact sig_ok hR hsm p

theorem seen_ok {s : Sy.Lts} (hR : Sy.Right s) {c : List Nat} (hsm : Rd.Small c) (i : Nat) : ∀ x ∈ Rd.seen ((Rd.sigs s c).take i), SigOk x := fun x hx =>
  sigs_ok hR hsm x (List.mem_of_mem_take ((Rd.mem_seen _ _).1 hx))

/-- What the call that signs a state is held by. -/
theorem held_up {W x : World} {a1 a2 : Addr} {v1 v2 : Value} (h : x.cell? a1 = some v1 ∧ x.cell? a2 = some v2 ∧ Up W x) : Up W x := h.2.2

theorem held_of {W x : World} {a1 a2 : Addr} {v1 v2 : Value} (h1 : W.cell? a1 = some v1) (h2 : W.cell? a2 = some v2) (hu : Up W x) : x.cell? a1 = some v1 ∧ x.cell? a2 = some v2 ∧ Up W x :=
  ⟨hu.cell h1, hu.cell h2, hu⟩

theorem up_new {X x1 : World} {a1 a2 : Value} {e : TypeId} (hu : Up (X.alloc (.cells #[a1, a2] e (0, 0))) x1) : x1.heap[X.heap.size]? = some (.cells #[a1, a2] e (0, 0)) :=
  (hu.block _ (by show X.heap.size < (X.heap.push _).size; simp)).trans (by show (X.heap.push _)[X.heap.size]? = _; simp)

theorem up_new2 {X x1 : World} {a1 a2 : Value} {e : TypeId} (hu : Up (X.alloc (.cells #[a1, a2] e (0, 0))).drew x1) : x1.heap[X.heap.size]? = some (.cells #[a1, a2] e (0, 0)) := up_new (X := X) (((Up.refl _).drew).trans hu)

/-- A box of one cell, written. -/
theorem box_set {W : World} {b : Nat} {a : Value} {e : TypeId} (h : W.heap[b]? = some (.cells #[a] e (0, 0))) (u : Value) : (W.setCell ⟨b, 0, none⟩ u).heap[b]? = some (.cells #[u] e (0, 0)) := by
  have hrow : Row W b e 1 [a] := ⟨_, h, rfl, by simp, rfl⟩
  obtain ⟨arr, h1, h2, h3, h4⟩ := hrow.set 0 u
  have e : arr.toList.take ([a].set 0 u).length = arr.toList := List.take_of_length_le (by simp [h2])
  rw [e] at h4
  have : arr = #[u] := Array.toList_inj.1 (by simpa using h4)
  rw [h1, this]

theorem Up.turnS {S : Nat → Prop} {w w1 : World} (h : Up w w1) : Turned S w w1 := ⟨h.os, h.tape, h.output, h.size, fun k hk _ => h.block k hk⟩

theorem map_nat_inj {a b : List Nat} (h : a.map Int.ofNat = b.map Int.ofNat) : a = b :=
  List.map_inj_right (fun x y e => Int.ofNat.inj e) |>.1 h

theorem up_keep {X x1 : World} {b : Nat} {o : Obj} (h : X.heap[b]? = some o) (hu : Up X x1) : x1.heap[b]? = some o := (hu.block _ (lt_of_block' h)).trans h

theorem box_two {w : World} {b : Nat} {a1 a2 : Value} {e : TypeId} (h : w.heap[b]? = some (.cells #[a1, a2] e (0, 0))) : (w.cell? ⟨b, 0, none⟩ = some a1 ∧ w.cell? ⟨b, 1, none⟩ = some a2) ∧ w.frozen? ⟨b, 0, none⟩ = false ∧ w.frozen? ⟨b, 1, none⟩ = false := by
  refine ⟨⟨?_, ?_⟩, ?_, ?_⟩ <;> simp [World.cell?, World.frozen?, h]

theorem sig_seen {s : Sy.Lts} {c : List Nat} {i k : Nat} {x : Sig} (hx : Rd.sig s c i = x) (hk : c.getD i 0 = k) : x = (k, Sy.norm Sy.lt2 (seenBy c (Sy.steps s i))) := by
  rw [← hx, ← hk]; rfl

set_option maxHeartbeats 8000000 in
set_option maxRecDepth 100000 in
theorem each_next {w : World} {bb cb gb B gc : Nat} {s : Sy.Lts} {c : List Nat} (h : EachAt w bb cb gb B s true gc c) (hR : Sy.Right s) (hT : Tab w) (hc : c.length = s.n.toNat) (hsm : Rd.Small c) :
    Calls Tryz.prog 196 #[.pointer (some ⟨bb, 0, none⟩), .pointer (some ⟨cb, 0, none⟩), .pointer (some ⟨gb, 0, none⟩)] w (NextDone w bb cb gb B s gc c) := by
  obtain ⟨i0, hi, hz0, hz1, hz2⟩ := info_parts Tryz.intInfoR
  have hmm := @run_makeMap Tryz.prog
  obtain ⟨b0, b1⟩ := one_cell h.bg
  obtain ⟨c0, c1⟩ := one_cell h.cl
  obtain ⟨g0, g1⟩ := one_cell h.gr
  obtain ⟨n, hn⟩ : ∃ n, n = c.length := ⟨_, rfl⟩
  rw [← hn] at c0 hc
  have hn1 : n ≤ 1000 := by rw [hc]; have := hR.n1; omega
  have HN := Lib.hid hn
  have HCN := Lib.hid hc
  have HE := Lib.hid h
  have HR := Lib.hid hR
  have HT := Lib.hid hT
  have HSM := Lib.hid hsm
  have c0' : ∀ o, (w.alloc o).cell? ⟨cb, 0, none⟩ = some (.slice (some ⟨gc, 0, none⟩) n n) := fun o => ((Up.refl w).alloc o).cell c0
  clear hn hc h hR hT hsm
  go_enter Tryz.func196, Tryz.ntmps196
  go_wp2_with (at_make; refine wpList_make_full _ rfl _ _ 35 rfl 0 3 i0 (.int .i64 0) 1 Tryz.underlying35 hi hz0 hz1 _ _ _ _ n rfl rfl rfl rfl (by rw [hz2]; omega) (by unfold maxLen; omega) (Nat.zero_le _) ?_; intro w1 hown hgrow; (have e1 := (((Up.refl w).alloc (.map #[] 0)).grown hgrow (by simp)).cell c0))
  obtain ⟨hrow, -, -, -⟩ := Row.of hown
  have hsz0 : (w.alloc (.map #[] 0)).heap.size = w.heap.size + 1 := by simp
  rw [hsz0] at hrow
  have hrow0 : Row w1 (w.heap.size + 1) 3 n (ints (List.replicate n 0)) := by
    have e : (madeCells (Value.int .i64 0).cells (n * 1)).toList = ints (List.replicate n 0) := by
      rw [Nat.mul_one, ints_zero]; exact toList_madeCells_one _ _
    rw [← e]; simpa using hrow
  have hmap0 : w1.ownsMap (H := Unit) Tryz.prog 281 (plainElem Tryz.prog 3) w.heap.size 0 (.map []) := (World.ownsMap_made w _ _ _).kept hgrow (by simp)
  have hbel0 : Up w w1 := ((Up.refl w).alloc _).grown hgrow (by simp)
  clear hown hgrow hrow hsz0
  go_loopw [20] (fun sv wr => ∃ i : Nat, i ≤ n ∧ sv = .int .i64 i ∧ wr.ownsMap (H := Unit) Tryz.prog 281 (plainElem Tryz.prog 3) w.heap.size i (pmap sigKl (Rd.seen ((Rd.sigs s c).take i))) ∧
      Row wr (w.heap.size + 1) 3 n (ints ((Rd.next s c).take i ++ List.replicate (n - i) 0)) ∧ Up w wr)
    (fun sv _ => n - (intOf sv).toNat)
  case atStart => exact ⟨0, Nat.zero_le _, rfl, hmap0, hrow0, hbel0⟩
  case round =>
    clear hmap0 hrow0 hbel0 e1
    obtain ⟨i, hin, rfl, hmap, hrow, hup⟩ := hrel
    by_cases hlt : i < n
    · obtain ⟨x, hx⟩ : ∃ x, Rd.sig s c i = x := ⟨_, rfl⟩
      have hxok : SigOk x := by rw [← hx]; exact sig_ok HR.out HSM.out i
      obtain ⟨sl, hsl⟩ : ∃ sl, sl = Rd.seen ((Rd.sigs s c).take i) := ⟨_, rfl⟩
      have hil : i < (Rd.sigs s c).length := by rw [Rd.sigs_len, ← HN.out]; exact hlt
      have hgx : (Rd.sigs s c)[i] = x := by rw [sigs_get (by rw [← HN.out]; exact hlt), hx]
      have hnd : Hid sl.Nodup := Lib.hid (by rw [hsl]; exact Rd.nodup_seen _)
      have hlen : sl.length ≤ i := by rw [hsl]; have := Rd.seen_len ((Rd.sigs s c).take i); rw [List.length_take] at this; omega
      have hnext : Hid ((x ∈ sl → Rd.seen ((Rd.sigs s c).take (i + 1)) = sl) ∧ (x ∉ sl → Rd.seen ((Rd.sigs s c).take (i + 1)) = sl ++ [x])) := Lib.hid (by
        subst hsl
        subst hgx
        exact ⟨Rd.seen_old hil, Rd.seen_new hil⟩)
      have hcan : Hid ((Rd.next s c).take (i + 1) = (Rd.next s c).take i ++ [Rd.place sl x]) := Lib.hid (by
        subst hsl
        subst hgx
        exact Rd.canon_place (Rd.sigs s c) i hil)
      have hinj : Hid (KlInj sigKl sl x) := Lib.hid (fun a ha e => sigKl_inj (seen_ok HR.out HSM.out i a (by rw [← hsl]; exact ha)) hxok e)
      have hinj2 : Hid (∀ y ∈ sl, KlInj sigKl sl y) := Lib.hid (fun y hy a ha e => sigKl_inj (seen_ok HR.out HSM.out i a (by rw [← hsl]; exact ha)) (seen_ok HR.out HSM.out i y (by rw [← hsl]; exact hy)) e)
      have hkey := keyOf_sig x hxok.1 hxok.2
      rw [← hsl] at hmap
      have hfl : ((Rd.next s c).take i).length = i := by rw [List.length_take, Rd.next_len, ← HN.out]; omega
      have HFL := Lib.hid hfl
      obtain ⟨k, hk⟩ : ∃ k, c.getD i 0 = k := ⟨_, rfl⟩
      have hcl : IntsAt w gc 0 (c.map Int.ofNat) := by have := HE.out.row; rw [ints_list] at this; exact this.intsAt
      have hci : w.cell? ⟨gc, i, none⟩ = some (.int .i64 (k : Nat)) := by
        have := hcl i (by rw [List.length_map, ← HN.out]; exact hlt)
        rw [Nat.zero_add] at this
        rw [this, ← hk]
        simp [List.getD, show i < c.length by rw [← HN.out]; exact hlt]
      have d0 := hup.cell hci
      have HX := Lib.hid hx
      have HK := Lib.hid hk
      have HMAP := Lib.hid hmap
      have HROW := Lib.hid hrow
      have HUP := Lib.hid hup
      have hup0 := hup
      clear hx hxok hsl hil hgx hfl hcl hci hk hmap hrow hup
      go_upto_region 9 with fail
      go_cut [8] (SigBox wr x)
      case first =>
        have d1 := hup0.cell c0
        have d2 := hup0.cell g0
        have hl := steps_ok HR.out i
        have hl1 := steps_len HR.out i
        go_region_held3 (fun x => x.cell? ⟨gb, 0, none⟩ = some (.pointer (some ⟨B, 0, none⟩)) ∧ x.cell? ⟨cb, 0, none⟩ = some (.slice (some ⟨gc, 0, none⟩) n n) ∧ Up wr x)
          ((refine held_of d2 d1 ?_; first
            | exact (Up.refl _).drew
            | exact Up.trans (held_up (by assumption)) (by assumption)
            | exact Up.alloc (held_up (by assumption)) _
            | exact Up.alloc k2 _
            | exact Up.setCell (Up.setCell (held_up (by assumption)) (Nat.le_refl wr.heap.size) _) (Nat.le_refl wr.heap.size) _
            | exact Up.setCell (Up.setCell (held_up (by assumption)) k1.size _) k1.size _))
          (first
          | (go_at_call 44; refine (each_in (HE.out.graph.up (HUP.out.trans (held_up (by assumption)))) HR.out (by rw [← HCN.out]; exact hlt)).mono ?_; rintro r x1 ⟨v1, rfl, hu1, hl2⟩; (have k1 : Up wr x1 := Up.trans (held_up (by assumption)) hu1); (try (have q : x1.heap[wr.heap.size]? = _ := up_new2 hu1; obtain ⟨⟨q0, q1⟩, q2, q3⟩ := box_two q)))
          | (go_at_call 197; refine (sign_any (Sy.steps s i) k c v1 _ _ (HT.out.up (HUP.out.trans (held_up (by assumption)))) (hl2.up (by first | exact Up.refl _ | exact (Up.refl _).alloc _)) (Row.lstN ((HUP.out.trans (held_up (by assumption))).row HE.out.row) HN.out.symm) hl1 (by rw [← HN.out]; exact hn1) (by rw [← HN.out, HCN.out]; exact hl) HSM.out).mono ?_; rintro r x2 ⟨rfl, hu2⟩; (have k2 : Up wr x2 := Up.trans (held_up (by assumption)) hu2); (first | (have q := up_keep q hu2; obtain ⟨⟨q0, q1⟩, q2, q3⟩ := box_two q) | (have q := up_new hu2; obtain ⟨⟨q0, q1⟩, q2, q3⟩ := box_two q) | skip)))
        all_goals go_wp2_with fail
        all_goals go_meet
        all_goals
          first
            | exact ⟨_, rfl, by rw [sig_seen HX.out HK.out]; exact two_cells (e := 281) (by show (x2.heap.push _)[x2.heap.size]? = _; simp), k2.alloc _⟩
            | exact ⟨_, rfl, by rw [sig_seen HX.out HK.out]; exact ⟨(pair_set q _ _).1, (pair_set q _ _).2.1⟩, (k2.setCell (Nat.le_refl _) _).setCell (Nat.le_refl _) _⟩
            | exact ⟨_, rfl, by rw [sig_seen HX.out HK.out]; exact ⟨(pair_set q _ _).1, (pair_set q _ _).2.1⟩, (k2.setCell k1.size _).setCell k1.size _⟩
      case rest =>
        obtain ⟨xb, rfl, ⟨x0, x1⟩, hux⟩ := hcut
        have hmap := ownsMap_keep HMAP.out (hux.block _ HMAP.out.lt)
        have hrow := hux.row HROW.out
        unfold sigV at hkey
        have hfree := hrow.free i
        have hlen2 : (ints ((Rd.next s c).take i ++ List.replicate (n - i) 0)).length = n := by
          rw [ints_length, List.length_append, List.length_replicate, HFL.out]; omega
        obtain ⟨u0, hu0⟩ : ∃ u, wc.cell? ⟨w.heap.size + 1, i, none⟩ = some u := ⟨_, hrow.cell (List.getElem?_eq_getElem (by omega))⟩
        have HROW2 := Lib.hid hrow
        have HMAP2 := Lib.hid hmap
        have HUX := Lib.hid (HUP.out.trans hux)
        clear hrow hlen2 hux
        by_cases hin : x ∈ sl
        · have hhas : Maps.has (pmap sigKl sl) (sigKl x) = true := pmap_yes sigKl sigKl_key sl x hinj.out hin
          go_wp2_with (at_lookup; refine wpList_lookup_own_ok_int _ rfl _ _ 279 rfl 281 3 .i64 keyedR Tryz.underlying279 Tryz.underlying3 (Tryz.intZeroR _) w.heap.size i _ rfl hmap _ _ rfl hkey ?_; intro c' hat hwc; (obtain rfl : c' = ((Rd.place sl x : Nat) : Int) := by (rw [pmap_place sigKl sigKl_key sl hnd.out x hinj.out hin] at hat; simpa using hat.symm)); clear hat hwc)
          have hnx : Rd.seen ((Rd.sigs s c).take (i + 1)) = sl := hnext.out.1 hin
          have hrow' := HROW2.out.set i (.int .i64 ((Rd.place sl x : Nat) : Int))
          rw [← ints_set, fill_set hlt HFL.out, ← hcan.out] at hrow'
          have hmap' : wc.ownsMap (H := Unit) Tryz.prog 281 (plainElem Tryz.prog 3) w.heap.size (i + 1) (pmap sigKl (Rd.seen ((Rd.sigs s c).take (i + 1)))) := by rw [hnx]; exact hmap.mono (by omega)
          go_roundw
          case rel => exact ⟨i + 1, by omega, by go_num, hmap'.setCell (by simp) _, hrow', HUX.out.setCell (by simp) _⟩
          case measure => simp [intOf]; omega
        · have hhas : Maps.has (pmap sigKl sl) (sigKl x) = false := pmap_no sigKl sigKl_key sl x hinj.out hin
          have hsz : Maps.size (pmap sigKl sl) = sl.length := pmap_size sigKl sigKl_key sl hnd.out hinj2.out
          go_wp2_with (first
            | (at_lookup; refine wpList_lookup_own_ok_int _ rfl _ _ 279 rfl 281 3 .i64 keyedR Tryz.underlying279 Tryz.underlying3 (Tryz.intZeroR _) w.heap.size i _ rfl hmap _ _ rfl hkey ?_; intro c' hat hwc; clear hat hwc)
            | (at_len; refine wpList_len_own _ rfl _ 279 rfl 281 3 Tryz.underlying279 _ w.heap.size i _ rfl hmap ?_)
            | (at_mapUpdate; refine wpList_mapUpdate_own _ rfl _ _ _ 279 rfl 281 3 keyedR Tryz.underlying279 _ w.heap.size i _ rfl hmap (by unfold maxLen; omega) _ _ _ rfl rfl hkey _ [] (plainElem_int Tryz.underlying3 (WalkArith.wf_i64 (by omega))) ?_; intro w2 hown2 hgrow2; have hu2 := hgrow2.cell hu0 (by simp); have hf2 : w2.frozen? ⟨w.heap.size + 1, i, none⟩ = false := (World.frozen?_of_block (hgrow2.block _ HROW2.out.lt (by simp))).trans hfree))
          have hnx : Rd.seen ((Rd.sigs s c).take (i + 1)) = sl ++ [x] := hnext.out.2 hin
          have hidx : Rd.place sl x = sl.length := Rd.place_new hin
          have hrow2 := HROW2.out.keep (hgrow2.block _ HROW2.out.lt (by simp))
          have hrow' := hrow2.set i (.int .i64 ((sl.length : Nat) : Int))
          rw [← ints_set, fill_set hlt HFL.out, ← hidx, ← hcan.out] at hrow'
          have hmap' : w2.ownsMap (H := Unit) Tryz.prog 281 (plainElem Tryz.prog 3) w.heap.size (i + 1) (pmap sigKl (Rd.seen ((Rd.sigs s c).take (i + 1)))) := by rw [hnx, pmap_snoc]; exact hown2
          go_roundw
          case rel => exact ⟨i + 1, by omega, by go_num, hmap'.setCell (by simp) _, by rw [← hidx]; exact hrow', (HUX.out.grown hgrow2 (by simp)).setCell (by simp) _⟩
          case measure => simp [intOf]; omega
    · obtain rfl : i = n := by omega
      have hrow2 : Row wr (w.heap.size + 1) 3 i (ints (Rd.next s c)) := by
        have e : (Rd.next s c).take i ++ List.replicate (i - i) 0 = Rd.next s c := by
          rw [Nat.sub_self, List.replicate_zero, List.append_nil, List.take_of_length_le (by rw [Rd.next_len, HN.out]; omega)]
        rw [← e]; exact hrow
      have d0 := hup.cell c0
      have d1 := (hup.free c0).trans c1
      have HROW2 := Lib.hid hrow2
      have HUP := Lib.hid hup
      clear hrow hrow2 hmap hup
      obtain ⟨eb, heb⟩ : ∃ eb, decide ((Rd.next s c).map Int.ofNat = c.map Int.ofNat) = eb := ⟨_, rfl⟩
      have HEB := Lib.hid heb
      have heq : ∀ W, Up wr W → Calls Tryz.prog 198 #[.slice (some ⟨w.heap.size + 1, 0, none⟩) i i, .slice (some ⟨gc, 0, none⟩) i i] W (Eql W eb) := fun W hW => by
        rw [← HEB.out]
        exact equal_ints (Row.lstN (hW.row HROW2.out) (by rw [Rd.next_len, HN.out])) (Row.lstN ((HUP.out.trans hW).row HE.out.row) HN.out.symm) (by rw [List.length_map, Rd.next_len, ← HN.out]; omega) (by rw [List.length_map, ← HN.out]; omega)
      clear heb
      cases eb
      · go_wp2_with (go_at_call 198; refine (heq _ (Up.refl _)).mono ?_; rintro r w2 ⟨rfl, hu2⟩; have d2 := hu2.cell d0; have d3 := (hu2.free d0).trans d1)
        go_ret
        have hne : Rd.next s c ≠ c := fun e => by
          have h1 := HEB.out
          rw [e] at h1
          simp at h1
        have H2 := HE.out.up (HUP.out.trans hu2)
        have hgs : gb ≠ cb := fun e => by
          have h1 := H2.gr
          rw [e, H2.cl] at h1
          simp only [Option.some.injEq, Obj.cells.injEq] at h1
          exact absurd h1.2.1 (by decide)
        have hbs : bb ≠ cb := fun e => by
          have h1 := H2.bg
          rw [e, H2.cl] at h1
          simp only [Option.some.injEq, Obj.cells.injEq] at h1
          exact absurd h1.2.1 (by decide)
        have hlt2 : cb < w.heap.size := lt_of_block' HE.out.cl
        have hrow3 := hu2.row HROW2.out
        refine .inr ⟨hne, w.heap.size + 1, by rw [← HN.out]; rfl, by omega, ⟨?_, ?_, ?_, ?_, ?_⟩, ?_⟩
        · exact (Below.heap_setCell w2 ⟨cb, 0, none⟩ _ bb hbs).trans H2.bg
        · rw [Rd.next_len, ← HN.out]; exact box_set H2.cl _
        · rw [Rd.next_len, ← HN.out]; exact hrow3.keep (Below.heap_setCell w2 ⟨cb, 0, none⟩ _ _ (by simp only; omega))
        · exact (Below.heap_setCell w2 ⟨cb, 0, none⟩ _ gb hgs).trans H2.gr
        · obtain ⟨w0, h1, h2, h3, h4⟩ := H2.sep
          exact ⟨w0, h1, h2.setCell h3 _, h3, h4⟩
        · exact Turned.setCell (S := fun k => k = cb) (p := ⟨cb, 0, none⟩) ((HUP.out.trans hu2).turnS) (.inl rfl) _
      · go_wp2_with (go_at_call 198; refine (heq _ (Up.refl _)).mono ?_; rintro r w2 ⟨rfl, hu2⟩; have d2 := hu2.cell d0; have d3 := (hu2.free d0).trans d1)
        go_ret
        exact .inl ⟨map_nat_inj (of_decide_eq_true HEB.out), rfl, HUP.out.trans hu2⟩

end Go.Proofs.YtkcdkfkgjjpaaaaGreatDoor
