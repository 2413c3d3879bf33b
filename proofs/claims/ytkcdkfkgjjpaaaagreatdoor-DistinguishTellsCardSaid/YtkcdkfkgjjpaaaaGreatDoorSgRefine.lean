/- Walks: strong's begin, take. Walk: strong's newPlay. Walks: strong's Refine, Classes: the classes are the last round. -/
import Derived.Test.YtkcdkfkgjjpaaaaGreatDoorSgMin

namespace Go.Proofs.YtkcdkfkgjjpaaaaGreatDoor
open Go.RowKit Go.Sort Go.Maps
set_option linter.unusedVariables false
set_option linter.unusedSimpArgs false

/-- Of F, what there is. -/
def Cut (F : Nat → Prop) (w : World) (k : Nat) : Prop := F k ∧ k < w.heap.size

theorem Play.cut {F : Nat → Prop} {w : World} {X gB B n : Nat} {p : Rf.St} {hp : List Nat} {nh nt : Nat} (h : Play F w X gB B n p hp nh nt) : Play (Cut F w) w X gB B n p hp nh nt := by
  obtain ⟨ve, vp, vi, vb, gh, gg, vs, vt, sz, gz, ts, h⟩ := h
  exact ⟨ve, vp, vi, vb, gh, gg, vs, vt, sz, gz, ts, h.box, h.part, h.heap, h.size, h.took, h.gauge, h.hl, h.gl, ⟨h.inX, h.lt⟩, ⟨h.inH, h.heap.lt⟩, ⟨h.inG, h.gauge.lt⟩, fun k hk => ⟨h.inS k hk, owns_lt h.size hk⟩,
    fun k hk => ⟨h.inT k hk, owns_lt h.took hk⟩, fun k hk => ⟨h.inP k hk, h.part.foot_lt hk⟩, h.nHG, h.nSH, h.nSG, h.nP⟩

theorem LstOut.mono {F F' : Nat → Prop} {w : World} {v : Value} {L : List Nat} (h : LstOut F w v L) (hF : ∀ k, k < w.heap.size → F' k → F k) : LstOut F' w v L := by
  obtain ⟨ao, cap, g, off, rfl, h1, h2⟩ := h
  exact ⟨ao, cap, g, off, rfl, fun h0 => ⟨(h1 h0).1, fun e => (h1 h0).2.1 (hF g (h1 h0).2.2 e), (h1 h0).2.2⟩, h2⟩

theorem LstOut.up {F : Nat → Prop} {w w' : World} {v : Value} {L : List Nat} (h : LstOut F w v L) (hu : Up w w') : LstOut F w' v L := by
  obtain ⟨ao, cap, g, off, rfl, h1, h2⟩ := h
  exact ⟨ao, cap, g, off, rfl, fun h0 => ⟨(h1 h0).1, (h1 h0).2.1, Nat.lt_of_lt_of_le (h1 h0).2.2 hu.size⟩, fun i hi => hu.cell (h2 i hi)⟩

theorem cut_turned {F : Nat → Prop} {w w1 w2 : World} (h : Turned (Cut F w) w1 w2) : Turned F w1 w2 := h.mono (fun k _ hk => hk.1)

theorem Up.turnedF {F : Nat → Prop} {w w1 : World} (h : Up w w1) : Turned F w w1 := ⟨h.os, h.tape, h.output, h.size, fun k hk _ => h.block k hk⟩

/-- What begin leaves. -/
def BeginPlay (s : Sy.Lts) (F : Nat → Prop) (w : World) (X gB B n : Nat) (p : Rf.St) (hp : List Nat) (r : Ending) (w' : World) : Prop :=
  r = .returned (.tuple #[]) ∧ Turned F w w' ∧ ∃ p', Play (More F w) w' X gB B n p' hp 1 1 ∧ Rf.Inv p' n ∧ (∀ x, x < n → p'.marked x = false) ∧ Sg.SplitBy s (fun z => z ∈ List.range n) p.I p'.I

/-- Where the sizes are put. -/
theorem play_size {F : Nat → Prop} {w : World} {X gB B n : Nat} {p : Rf.St} {hp : List Nat} {nh nt : Nat} (h : Play F w X gB B n p hp nh nt) (o : Obj) (x : Int) :
    (∃ u, (w.alloc o).cell? ⟨X, 3, none⟩ = some u) ∧ (w.alloc o).frozen? ⟨X, 3, none⟩ = false ∧
    (o = .cells #[.int .i64 x] 3 → Play (More F w) ((w.alloc o).setCell ⟨X, 3, none⟩ (.slice (some ⟨w.heap.size, 0, none⟩) 1 1)) X gB B n p hp 1 nt ∧ Turned F w ((w.alloc o).setCell ⟨X, 3, none⟩ (.slice (some ⟨w.heap.size, 0, none⟩) 1 1))) := by
  obtain ⟨ve, vp, vi, vb, gh, gg, vs, vt, sz, gz, ts, h⟩ := h
  have hb : (w.alloc o).heap[X]? = _ := (((Up.refl w).alloc o).block X h.lt).trans h.box
  refine ⟨⟨_, ((Up.refl w).alloc o).cell h.cells.2.2.2.1⟩, by simp [World.frozen?, hb], fun e => ?_⟩
  subst e
  have hr := Row.new w 3 [Value.int .i64 x]
  have hown : (w.alloc (.cells #[.int .i64 x] 3)).ownsRow 0 3 1 (.slice (some ⟨w.heap.size, 0, none⟩) 1 1) 1 (ivs [x]) := hr.owns (n := 1) (cap := 1) (size := 1) (by decide) (by decide) rfl
  have := h.newSize (v9 := .slice (some ⟨w.heap.size, 0, none⟩) 1 1) (sz9 := [x]) hown (fun k hk => by simp only [Value.ownBlock, Option.some.injEq] at hk; right; omega) ((Turned.refl _ w).alloc _)
  exact ⟨⟨_, _, _, _, _, _, _, _, _, _, _, this.1⟩, this.2⟩

/-- What stood ahead of the play stands. -/
theorem up_after {F : Nat → Prop} {wg w w' : World} (hu : Up wg w) (ht : Turned F w w') (hF : ∀ k, F k → wg.heap.size ≤ k) : Up wg w' :=
  ⟨ht.os.trans hu.os, ht.tape.trans hu.tape, ht.output.trans hu.output, Nat.le_trans hu.size ht.size, fun k hk => (ht.block k (Nat.lt_of_lt_of_le hk hu.size) (fun e => by have := hF k e; omega)).trans (hu.block k hk)⟩

theorem more_low {F : Nat → Prop} {wg w : World} (hu : wg.heap.size ≤ w.heap.size) (hF : ∀ k, F k → wg.heap.size ≤ k) : ∀ k, More F w k → wg.heap.size ≤ k := fun k hk => by
  rcases hk with e | e
  · exact hF k e
  · omega

theorem range_lt {n : Nat} : ∀ x ∈ List.range n, x < n := fun x hx => List.mem_range.1 hx

theorem iota_succ (k : Nat) : ivs ((List.range (k + 1)).map Int.ofNat) = ivs ((List.range k).map Int.ofNat) ++ [.int .i64 ((k : Nat) : Int)] := by
  rw [List.range_succ, List.map_append]; simp [ivs]

set_option maxHeartbeats 8000000 in
set_option maxRecDepth 100000 in
theorem begin_in {F : Nat → Prop} {wg w : World} {X gB B n : Nat} {p : Rf.St} {hp : List Nat} {s : Sy.Lts} (h : Play F w X gB B n p hp 0 0) (hG : GraphAt wg gB s) (hu : Up wg w) (hF : ∀ k, F k → wg.heap.size ≤ k) (hR : Sy.Right s) (hn : s.n.toNat = n) (hI : Rf.Inv p n) (h0 : ∀ x, x < n → p.marked x = false) :
    Calls Tryz.prog 149 #[.pointer (some ⟨X, 0, none⟩)] w (BeginPlay s F w X gB B n p hp) := by
  have hn1 : n ≤ 1000 := by have := hR.n1; omega
  have hP0 := h.cut
  have hF0 : ∀ k, Cut F w k → wg.heap.size ≤ k := fun k hk => hF k hk.1
  have c2 : w.cell? ⟨X, 2, none⟩ = some (.slice (some ⟨h.choose_spec.choose_spec.choose_spec.choose_spec.choose, 0, none⟩) n n) := h.choose_spec.choose_spec.choose_spec.choose_spec.choose_spec.choose_spec.choose_spec.choose_spec.choose_spec.choose_spec.choose_spec.cells.2.2.1
  obtain ⟨gh, hgh⟩ : ∃ g, g = h.choose_spec.choose_spec.choose_spec.choose_spec.choose := ⟨_, rfl⟩
  rw [← hgh] at c2
  obtain ⟨j0, hj, gz0, gz1, gz2⟩ := info_parts Tryz.intsInfo
  have HP0 := Lib.hid hP0
  have HF0 := Lib.hid hF0
  have HG := Lib.hid hG
  have HU := Lib.hid hu
  have HR := Lib.hid hR
  have HN := Lib.hid hn
  have HI := Lib.hid hI
  have H0 := Lib.hid h0
  clear h hP0 hF0 hG hu hF hR hn hI h0 hgh
  go_enter Tryz.func149, Tryz.ntmps149
  go_wp2_with fail
  go_loopw [2, 9] (fun va i wr => ∃ k : Nat, i = .int .i64 k ∧ k ≤ n ∧ wr.ownsRow w.heap.size 3 1 va k (ivs ((List.range k).map Int.ofNat)) ∧ Up w wr) (fun _ i _ => n - (intOf i).toNat)
  case atStart => exact ⟨0, rfl, Nat.zero_le _, World.ownsRow_nil _ _ _ _, Up.refl w⟩
  case round =>
    clear c2
    obtain ⟨k, rfl, hk, hown, hup⟩ := hrel
    obtain ⟨a4, c4, hv4⟩ := owns_shape' hown
    subst hv4
    have HOW := Lib.hid hown
    have HUP := Lib.hid hup
    have hsz := hup.size
    clear hown hup
    by_cases hlt : k < n
    · go_wp2_with (at_builtin; (refine wpList_append_at rfl (.tmp 12) (.tmp 14) 35 rfl w.heap.size 3 j0 (.int .i64 0) 1 8 Tryz.underlying35 hj gz0 gz1 gz2 rfl (by decide) (.slice a4 k c4) k _ rfl (HOW.out.alloc _) ⟨wr.heap.size, 0, none⟩ 1 1 [.int .i64 (k : Nat)] rfl rfl (cell_one_new _ _ _) (fun u hu => by simp only [List.mem_singleton] at hu; subst hu; rfl) (by unfold maxLen; omega) (by omega) (by simp only [World.size_alloc]; omega) ?_); intro v9 w9 hown9 hgrow9 hat9; (have hg9 : (wr.alloc (.cells #[.int .i64 (k : Nat)] 3)).grownBy w9 (Value.slice a4 k c4).ownBlock := hgrow9); (have HU9 := Lib.hid ((HUP.out.alloc (.cells #[.int .i64 (k : Nat)] 3)).grown hg9 (fun g hg => (HOW.out.lt g hg).1)); (have HO9 := Lib.hid hown9); clear hown9 hgrow9 hat9 hg9))
      go_roundw
      case rel => exact ⟨k + 1, by go_num, by omega, by rw [iota_succ]; exact HO9.out, HU9.out⟩
      case measure => simp [intOf]; omega
    · obtain rfl : k = n := by omega
      have hl0 : LstOut (Cut F w) wr (.slice a4 k c4) (List.range k) := by
        refine LstOut.of_owns (base := w.heap.size) ?_ (fun b h1 h2 hb => by have := hb.2; omega)
        rw [List.length_range]; exact HOW.out
      have HTK : Hid (Calls Tryz.prog 187 #[.pointer (some ⟨X, 0, none⟩), .slice a4 k c4] wr (TookPlay (Cut F w) wr X gB B k p hp 0 0)) := Lib.hid (took_in (HP0.out.up HUP.out) (by omega) hn1 hl0 range_lt (by rw [List.length_range]; omega))
      have HL0 := Lib.hid hl0
      clear hl0
      go_upto_region 7 with (go_at_call 187; refine HTK.out.mono ?_; rintro r w2 ⟨rfl, ht2, hp2⟩; (have HT2 := Lib.hid ht2); (have HP2 := Lib.hid hp2); clear ht2 hp2)
      have hl2 := HL0.out.turn HT2.out
      obtain ⟨⟨u3, c3⟩, f3, hps⟩ := play_size HP2.out (.cells #[.int .i64 (k : Nat)] 3) (k : Nat)
      obtain ⟨hp3, ht3⟩ := hps rfl
      have HL3 := Lib.hid (hl2.turn ht3)
      have HP3 := Lib.hid hp3
      have HT3 := Lib.hid ht3
      clear hps hp3 ht3 hl2
      go_upto_region 8 with fail
      obtain ⟨w3, hw3⟩ : ∃ w3, w3 = (w2.alloc (.cells #[.int .i64 (k : Nat)] 3)).setCell ⟨X, 3, none⟩ (.slice (some ⟨w2.heap.size, 0, none⟩) 1 1) := ⟨_, rfl⟩
      rw [← hw3] at HL3 HP3 HT3 ⊢
      clear hw3 c3 f3
      have hF1 := more_low (HU.out.trans HUP.out).size HF0.out
      have hs2 := HT2.out.size
      have hu2 : Up wg w2 := up_after (HU.out.trans HUP.out) HT2.out HF0.out
      have hF2 := more_low hu2.size hF1
      have hu3 : Up wg w3 := up_after hu2 HT3.out hF1
      have HSP : Hid (Calls Tryz.prog 188 #[.pointer (some ⟨X, 0, none⟩), .slice a4 k c4] w3 (SplitPlay s (More (More (Cut F w) wr) w2) w3 X gB B k p hp 1 1 (List.range k))) := Lib.hid (split_in HP3.out (HG.out.up hu3) HR.out HN.out HI.out H0.out HL3.out.lst range_lt (by rw [List.length_range]; omega))
      clear hF1 hu2 hF2 hu3
      go_wp2_with (go_at_call 188; refine HSP.out.mono ?_; rintro r w4 ⟨rfl, ht4, hr4⟩; (have HT4 := Lib.hid ht4); (have HR4 := Lib.hid hr4); clear ht4 hr4)
      go_end0
      obtain ⟨p', e1, e2, e3, e4⟩ := HR4.out
      have s1 := HUP.out.size
      have s2 := HT2.out.size
      have s3 := HT3.out.size
      have tt : Turned (Cut F w) wr w4 := (HT2.out.more HT3.out).trans HT4.out (fun i hi hf => by
        rcases hf with (e | e) | e
        · exact e
        · omega
        · omega)
      refine ⟨rfl, cut_turned (HUP.out.turnedF.trans tt (fun _ _ h => h)), p', e1.mono (fun b hb => ?_), e2, e3, e4⟩
      rcases hb with ((e | e) | e) | e
      · exact .inl e.1
      · exact .inr (by omega)
      · exact .inr (by omega)
      · exact .inr (by omega)

theorem PlayAt.cut {F : Nat → Prop} {w : World} {X gB B n : Nat} {p : Rf.St} {hp : List Nat} {nh nt : Nat} {ve vp vi vb : Value} {gh gg : Nat} {vs vt : Value} {sz gz : List Int} {ts : List Value} (h : PlayAt F w X gB B n p hp nh nt ve vp vi vb gh gg vs vt sz gz ts) :
    PlayAt (Cut F w) w X gB B n p hp nh nt ve vp vi vb gh gg vs vt sz gz ts :=
  ⟨h.box, h.part, h.heap, h.size, h.took, h.gauge, h.hl, h.gl, ⟨h.inX, h.lt⟩, ⟨h.inH, h.heap.lt⟩, ⟨h.inG, h.gauge.lt⟩, fun k hk => ⟨h.inS k hk, owns_lt h.size hk⟩,
    fun k hk => ⟨h.inT k hk, owns_lt h.took hk⟩, fun k hk => ⟨h.inP k hk, h.part.foot_lt hk⟩, h.nHG, h.nSH, h.nSG, h.nP⟩

/-- A size is appended. -/
theorem PlayAt.sizePush {F : Nat → Prop} {w w9 : World} {X gB B n : Nat} {p : Rf.St} {hp : List Nat} {nh nh9 nt : Nat} {ve vp vi vb : Value} {gh gg : Nat} {vs vt v9 : Value} {sz sz9 gz : List Int} {ts : List Value} {o : Obj}
    (h : PlayAt F w X gB B n p hp nh nt ve vp vi vb gh gg vs vt sz gz ts) (hown : w9.ownsRow 0 3 1 v9 nh9 (ivs sz9)) (hg : (w.alloc o).grownBy w9 vs.ownBlock) (hat : v9.ownBlock = vs.ownBlock ∨ v9.ownBlock = some (w.alloc o).heap.size) :
    w9.cell? ⟨X, 3, none⟩ = some vs ∧ w9.frozen? ⟨X, 3, none⟩ = false ∧ Hid (PlayAt (More F w) (w9.setCell ⟨X, 3, none⟩ v9) X gB B n p hp nh9 nt ve vp vi vb gh gg v9 vt sz9 gz ts ∧ Turned F w (w9.setCell ⟨X, 3, none⟩ v9)) := by
  have ht := grown_turned hg
  have hb : w9.heap[X]? = _ := (ht.block X h.lt h.types.2.2.1).trans h.box
  refine ⟨by simp [World.cell?, hb], by simp [World.frozen?, hb], Lib.hid (h.newSize hown (fun k hk => ?_) ht)⟩
  rcases hat with e | e
  · exact .inl (e ▸ hk)
  · right
    rw [e] at hk
    simp only [Option.some.injEq, World.size_alloc] at hk
    omega

theorem setAll_take (hp L : List Nat) (v k : Nat) (h : k < L.length) : Rf.setAll hp (L.take (k + 1)) v = (Rf.setAll hp (L.take k) v).set (L.getD k 0) v := by
  unfold Rf.setAll
  rw [List.take_succ_eq_append_getElem h, List.foldl_append]
  simp [List.getD, h]

/-- The first k states that are in a heap. -/
def inHeap (hp : List Nat) (h k : Nat) : List Nat := (List.range k).filter fun x => hp.getD x 0 == h

theorem inHeap_succ (hp : List Nat) (h k : Nat) : inHeap hp h (k + 1) = if hp.getD k 0 = h then inHeap hp h k ++ [k] else inHeap hp h k := by
  unfold inHeap
  rw [List.range_succ, List.filter_append]
  by_cases e : hp.getD k 0 = h
  · rw [if_pos e]; simp only [List.filter_cons, List.filter_nil]; rw [if_pos (by simpa using e)]
  · rw [if_neg e]; simp only [List.filter_cons, List.filter_nil]; rw [if_neg (by simpa using e)]; simp

theorem inHeap_len (hp : List Nat) (h k : Nat) : (inHeap hp h k).length ≤ k := by
  unfold inHeap
  have := List.length_filter_le (fun x => hp.getD x 0 == h) (List.range k)
  rwa [List.length_range] at this

theorem mem_inHeap (hp : List Nat) (h k x : Nat) : x ∈ inHeap hp h k ↔ x < k ∧ hp.getD x 0 = h := by simp [inHeap]

/-- What take leaves. -/
def TakePlay (s : Sy.Lts) (F : Nat → Prop) (w : World) (X gB B n : Nat) (p : Rf.St) (hp : List Nat) (nh nt : Nat) (L : List Nat) (r : Ending) (w' : World) : Prop :=
  r = .returned (.tuple #[]) ∧ Turned F w w' ∧ ∃ p1 p2 : Rf.St, Play (More F w) w' X gB B n p2 (Rf.setAll hp L nh) (nh + 1) (nt + 1) ∧ Rf.Inv p2 n ∧ (∀ x, x < n → p2.marked x = false) ∧
    Sg.SplitBy s (fun z => z ∈ L) p.I p1.I ∧ Sg.SplitBy s (fun z => z ∈ inHeap (Rf.setAll hp L nh) (hp.getD (L.getD 0 0) 0) n) p1.I p2.I

set_option maxHeartbeats 16000000 in
set_option maxRecDepth 100000 in
theorem take_in {F : Nat → Prop} {wg w : World} {X gB B n : Nat} {p : Rf.St} {hp : List Nat} {nh nt : Nat} {s : Sy.Lts} (h : Play F w X gB B n p hp nh nt) (hG : GraphAt wg gB s) (hu : Up wg w) (hF : ∀ k, F k → wg.heap.size ≤ k) (hR : Sy.Right s) (hn : s.n.toNat = n) (hI : Rf.Inv p n) (h0 : ∀ x, x < n → p.marked x = false)
    {v : Value} {L : List Nat} (hv : LstOut F w v L) (hL : ∀ x ∈ L, x < n) (hL0 : 0 < L.length) (hLl : L.length ≤ 1000) (hnh : nh ≤ 1000) (hnt : nt ≤ 1000) (hh : hp.getD (L.getD 0 0) 0 < nh) :
    Calls Tryz.prog 151 #[.pointer (some ⟨X, 0, none⟩), v] w (TakePlay s F w X gB B n p hp nh nt L) := by
  have hn1 : n ≤ 1000 := by have := hR.n1; omega
  have hP0 := h.cut
  have hv0 : LstOut (Cut F w) w v L := hv.mono (fun k _ hk => hk.1)
  have hF0 : ∀ k, Cut F w k → wg.heap.size ≤ k := fun k hk => hF k hk.1
  obtain ⟨ve, vp, vi, vb, gh, gg, vs, vt, sz, gz, ts, hA⟩ := hP0
  obtain ⟨j0, hj, gz0, gz1, gz2⟩ := info_parts Tryz.intsInfo
  obtain ⟨nL, hnL⟩ : ∃ k, k = L.length := ⟨_, rfl⟩
  obtain ⟨x0, hx0⟩ : ∃ x, x = L.getD 0 0 := ⟨_, rfl⟩
  have hx0n : x0 < n := by rw [hx0, ← getD_of 0 hL0]; exact hL _ (List.getElem_mem _)
  obtain ⟨hv1, hhv⟩ : ∃ q, q = hp.getD x0 0 := ⟨_, rfl⟩
  rw [← hx0, ← hhv] at hh
  have cH : w.cell? ⟨gh, x0, none⟩ = some (.int .i64 (hv1 : Nat)) := hA.heap.cell (by rw [ints_get (by rw [hA.hl]; exact hx0n), hhv])
  have c2 := hA.cells.2.2.1
  have HVO := Lib.hid hv0
  obtain ⟨ao, cap, g, off, rfl, ha, hc⟩ := hv0
  have ha0 := (ha hL0).1
  subst ha0
  have cL : w.cell? ⟨g, off, none⟩ = some (.int .i64 (x0 : Nat)) := by have := hc 0 hL0; rw [Nat.add_zero, ← hx0] at this; exact this
  rw [← hnL] at HVO hL0 hLl ⊢
  have hgb := (ha (by omega)).2
  have HCL : Hid (∀ k, k < nL → w.cell? ⟨g, off + k, none⟩ = some (.int .i64 ((L.getD k 0 : Nat) : Int)) ∧ L.getD k 0 < n) := Lib.hid (fun k hk => ⟨hc k (by omega), by
    have hk2 : k < L.length := by omega
    rw [← getD_of 0 hk2]; exact hL _ (List.getElem_mem _)⟩)
  have HP0 : Hid (Play (Cut F w) w X gB B n p hp nh nt) := Lib.hid h.cut
  have HGB := Lib.hid hgb
  have HLM := Lib.hid hL
  have HF0 := Lib.hid hF0
  have HG := Lib.hid hG
  have HU := Lib.hid hu
  have HR := Lib.hid hR
  have HN := Lib.hid hn
  have HI := Lib.hid hI
  have H0 := Lib.hid h0
  have HNL := Lib.hid hnL
  have HX0 := Lib.hid hx0
  have HHV := Lib.hid hhv
  have q0 : (x0 : Int) < (n : Int) := by omega
  have q00 : (0 : Int) < (nL : Int) := by omega
  clear h hF0 hG hu hF hR hn hI h0 hA hv hc ha hgb hnL hL hx0 hhv
  go_enter Tryz.func151, Tryz.ntmps151
  go_upto_region 0 with fail
  refine wp_region_ord 9 [(0, true), (1, true), (2, true), (3, true), (4, true), (5, true), (6, true), (7, true), (8, true)] (fun y => y.cell? ⟨X, 2, none⟩ = some (.slice (some ⟨gh, 0, none⟩) n n) ∧ y.cell? ⟨g, off, none⟩ = some (.int .i64 (x0 : Nat)) ∧ y.cell? ⟨gh, x0, none⟩ = some (.int .i64 (hv1 : Nat))) (by kernel_rfl) (by kernel_rfl) (fun _ _ _ _ _ h => h) ⟨c2, cL, cH⟩ ?_
  iterate 9
    refine WO.still rfl rfl (fun K hK => ?_)
    apply Exists.intro
    refine ⟨?_, hK _ ?_⟩
    · intro w' hS
      have s1 : w'.cell? ⟨X, 2, none⟩ = some (.slice (some ⟨gh, 0, none⟩) n n) := hS.1
      have s2 : w'.cell? ⟨g, off, none⟩ = some (.int .i64 (x0 : Nat)) := hS.2.1
      have s3 : w'.cell? ⟨gh, x0, none⟩ = some (.int .i64 (hv1 : Nat)) := hS.2.2
      go_simp
      first | done | rfl | exact ⟨rfl, rfl⟩
    clear hK K
  refine WO.last rfl rfl (fun K hK => ?_)
  go_simp
  refine hK _ _ ?_
  clear hK K c2 cL cH
  obtain ⟨w1, hw1⟩ : ∃ w1, w1 = w.drew := ⟨_, rfl⟩
  have HU1 : Hid (Up w w1) := Lib.hid (by rw [hw1]; exact (Up.refl w).drew)
  rw [← hw1]
  clear hw1
  have HTK : Hid (Calls Tryz.prog 187 #[.pointer (some ⟨X, 0, none⟩), .slice (some ⟨g, off, none⟩) nL cap] w1 (TookPlay (Cut F w) w1 X gB B n p hp nh nt)) := Lib.hid (took_in (HP0.out.up HU1.out) hnt hn1 (HVO.out.up HU1.out) HLM.out (by rw [← HNL.out]; exact hLl))
  go_upto_region 2 with (go_at_call 187; refine HTK.out.mono ?_; rintro r w2 ⟨rfl, ht2, hp2⟩; (have HT2 := Lib.hid ht2); (have HP2 := Lib.hid hp2); clear ht2 hp2)
  obtain ⟨ve2, vp2, vi2, vb2, gh2, gg2, vs2, vt2, sz2, gz2', ts2, hB⟩ := HP2.out
  have hl2 := (HVO.out.up HU1.out).turn HT2.out
  obtain ⟨F1, hF1d⟩ : ∃ F1, F1 = More (Cut F w) w1 := ⟨_, rfl⟩
  rw [← hF1d] at hB hl2
  have HF1D := Lib.hid hF1d
  have hgF : ¬ F1 g ∧ g < w2.heap.size := by
    rw [hF1d]
    have h1 := HGB.out.2
    have h2 := HU1.out.size
    have h3 := HT2.out.size
    refine ⟨fun e => ?_, by omega⟩
    rcases e with e | e
    · exact HGB.out.1 e
    · omega
  have HGF := Lib.hid hgF
  have HCL2 : Hid (∀ W, Turned F1 w2 W → ∀ k, k < nL → W.cell? ⟨g, off + k, none⟩ = some (.int .i64 ((L.getD k 0 : Nat) : Int))) := Lib.hid (fun W ht k hk => by
    have h1 := HU1.out.cell (HCL.out k hk).1
    have h2 := HGB.out.2
    have h3 := HU1.out.size
    have e1 := HT2.out.block g (by omega) HGB.out.1
    have e2 := ht.block g HGF.out.2 HGF.out.1
    simp only [World.cell?] at h1 ⊢
    rw [e2, e1]; exact h1)
  obtain ⟨as2, cs2, hvs2⟩ := owns_shape' hB.size
  subst hvs2
  have HB := Lib.hid hB
  have HL2 := Lib.hid hl2
  clear hB hl2 hF1d hgF
  go_wp2_with fail
  go_loopw [24] (fun i wr => ∃ k : Nat, i = .int .i64 k ∧ k ≤ nL ∧ Hid (PlayAt F1 wr X gB B n p (Rf.setAll hp (L.take k) nh) nh (nt + 1) ve2 vp2 vi2 vb2 gh2 gg2 (.slice as2 nh cs2) vt2 sz2 gz2' ts2 ∧ Turned F1 w2 wr)) (fun i _ => nL - (intOf i).toNat)
  case atStart => exact ⟨0, rfl, Nat.zero_le _, Lib.hid ⟨HB.out, Turned.refl _ _⟩⟩
  case round =>
    obtain ⟨k, rfl, hk, HP⟩ := hrel
    by_cases hlt : k < nL
    · have dl := HCL2.out wr HP.out.2 k hlt
      have hxn := (HCL.out k hlt).2
      obtain ⟨x, hx⟩ : ∃ x, x = L.getD k 0 := ⟨_, rfl⟩
      rw [← hx] at dl hxn
      have HXK : Hid (Rf.setAll hp (L.take (k + 1)) nh = (Rf.setAll hp (L.take k) nh).set x nh) := Lib.hid (by rw [hx]; exact setAll_take hp L nh k (by rw [← HNL.out]; exact hlt))
      have c2 := HP.out.1.cells.2.2.1
      have c3 := HP.out.1.cells.2.2.2.1
      have f2 := HP.out.1.heap.free x
      have q1 : (x : Int) < (n : Int) := by omega
      clear hx
      go_upto_region 5 with fail
      refine wp_region_ord 11 [(0, true), (1, true), (2, true), (3, true), (4, true), (5, true), (6, true), (7, true), (8, true), (9, true), (10, true)] (fun y => y.cell? ⟨X, 2, none⟩ = some (.slice (some ⟨gh2, 0, none⟩) n n) ∧ y.cell? ⟨X, 3, none⟩ = some (.slice as2 nh cs2)) (by kernel_rfl) (by kernel_rfl) (fun _ _ _ _ _ h => h) ⟨c2, c3⟩ ?_
      iterate 11
        refine WO.still rfl rfl (fun K hK => ?_)
        apply Exists.intro
        refine ⟨?_, hK _ ?_⟩
        · intro w' hS
          have s1 : w'.cell? ⟨X, 2, none⟩ = some (.slice (some ⟨gh2, 0, none⟩) n n) := hS.1
          have s2 : w'.cell? ⟨X, 3, none⟩ = some (.slice as2 nh cs2) := hS.2
          go_simp
          first | done | rfl | exact ⟨rfl, rfl⟩
        clear hK K
      have cx : ∃ u, wr.drew.cell? ⟨gh2, x, none⟩ = some u := ⟨_, HP.out.1.heap.cell (by rw [ints_get (by rw [HP.out.1.hl]; exact hxn)])⟩
      obtain ⟨ux, cx⟩ := cx
      have fx : wr.drew.frozen? ⟨gh2, x, none⟩ = false := f2
      refine WO.last rfl rfl (fun K hK => ?_)
      go_simp
      refine hK _ _ ?_
      clear hK K
      have HP3 : Hid (PlayAt F1 (wr.drew.setCell ⟨gh2, x, none⟩ (.int .i64 (nh : Nat))) X gB B n p (Rf.setAll hp (L.take (k + 1)) nh) nh (nt + 1) ve2 vp2 vi2 vb2 gh2 gg2 (.slice as2 nh cs2) vt2 sz2 gz2' ts2 ∧ Turned F1 w2 (wr.drew.setCell ⟨gh2, x, none⟩ (.int .i64 (nh : Nat)))) := Lib.hid (by
        rw [HXK.out]
        exact ⟨(HP.out.1.up ((Up.refl wr).drew)).setHeap x nh, (HP.out.2.drew).set1 HB.out.inH _⟩)
      clear c2 c3 f2 cx fx dl
      go_wp2_with fail
      go_roundw
      case rel => exact ⟨k + 1, by go_num, by omega, HP3⟩
      case measure => simp [intOf]; omega
    · obtain rfl : k = nL := by omega
      have hp3 := HP.out
      rw [HNL.out, List.take_length] at hp3
      obtain ⟨hp', hhp'⟩ : ∃ q, q = Rf.setAll hp L nh := ⟨_, rfl⟩
      rw [← hhp'] at hp3
      have HHP := Lib.hid hhp'
      have HP3 := Lib.hid hp3
      have c3 := hp3.1.cells.2.2.2.1
      clear hp3 HP hhp'
      go_upto_region 8 with (at_builtin; (refine wpList_append_at rfl (.tmp 44) (.tmp 47) 35 rfl 0 3 j0 (.int .i64 0) 1 8 Tryz.underlying35 hj gz0 gz1 gz2 rfl (by decide) (.slice as2 nh cs2) nh _ rfl (HP3.out.1.size.alloc _) ⟨wr.heap.size, 0, none⟩ 1 1 [.int .i64 (k : Nat)] rfl rfl (cell_one_new _ _ _) (fun u hu => by simp only [List.mem_singleton] at hu; subst hu; rfl) (by unfold maxLen; omega) (by omega) (Nat.zero_le _) ?_); intro v9 w9 hown9 hgrow9 hat9; (obtain ⟨a9, c9, hv9⟩ := owns_shape' hown9); subst hv9; (have hg9 : (wr.alloc (.cells #[.int .i64 (k : Nat)] 3)).grownBy w9 (Value.slice as2 nh cs2).ownBlock := hgrow9); (have ho9 : w9.ownsRow 0 3 1 (.slice a9 (nh + 1) c9) (nh + 1) (ivs (sz2 ++ [(k : Int)])) := by have := hown9; simpa [ivs] using this); have hh := HP3.out.1.sizePush ho9 hg9; have hh2 := hh hat9; obtain ⟨c39, f39, HP9⟩ := hh2; clear hown9 hgrow9 hat9 hg9 ho9 hh)
      obtain ⟨w4, hw4⟩ : ∃ w4, w4 = w9.setCell ⟨X, 3, none⟩ (.slice a9 (nh + 1) c9) := ⟨_, rfl⟩
      rw [← hw4] at HP9 ⊢
      clear hw4 c39 f39 c3
      obtain ⟨sz4, hsz4⟩ : ∃ q, q = sz2 ++ [(k : Int)] := ⟨_, rfl⟩
      rw [← hsz4] at HP9
      clear hsz4
      have ho4 := HP9.out.1.size
      obtain ⟨g9, cc9, hv9, hr9, -⟩ := owns_pos ho4 (by omega)
      simp only [Value.slice.injEq, true_and] at hv9
      obtain ⟨rfl, -⟩ := hv9
      have c34 := HP9.out.1.cells.2.2.2.1
      have hsl := HP9.out.1.sl
      have d9 : w4.cell? ⟨g9, hv1, none⟩ = some (.int .i64 (sz4.getD hv1 0)) := hr9.cell (by simp [ivs, List.getD, show hv1 < sz4.length by omega])
      have f9 := hr9.free hv1
      obtain ⟨y, hy⟩ : ∃ y, y = sz4.getD hv1 0 := ⟨_, rfl⟩
      rw [← hy] at d9
      have HSET : Hid (∀ z : Int, PlayAt (More F1 wr) (w4.setCell ⟨g9, hv1, none⟩ (.int .i64 z)) X gB B n p hp' (nh + 1) (nt + 1) ve2 vp2 vi2 vb2 gh2 gg2 (.slice (some ⟨g9, 0, none⟩) (nh + 1) c9) vt2 (sz4.set hv1 z) gz2' ts2 ∧ Turned F1 wr (w4.setCell ⟨g9, hv1, none⟩ (.int .i64 z)))  := Lib.hid (fun z => ⟨HP9.out.1.setSize rfl hv1 z, Turned.setCell (p := ⟨g9, hv1, none⟩) HP9.out.2 (HP9.out.1.inS g9 rfl) _⟩)
      have q1 : (hv1 : Int) < ((nh + 1 : Nat) : Int) := by omega
      have q2 : (hv1 : Int) < (nh : Int) + 1 := by omega
      clear hy ho4 hr9 hsl
      go_upto_region 9 with fail
      obtain ⟨w5, hw5⟩ : ∃ w5, w5 = w4.setCell ⟨g9, hv1, none⟩ (.int .i64 (wrap64 (y - (k : Int)))) := ⟨_, rfl⟩
      have h5 := HSET.out (wrap64 (y - (k : Int)))
      rw [← hw5] at h5 ⊢
      obtain ⟨F2, hF2d⟩ : ∃ F2, F2 = More F1 wr := ⟨_, rfl⟩
      rw [← hF2d] at h5
      have HF2D := Lib.hid hF2d
      have hc5 := h5.1.cut
      have HT5 := Lib.hid h5.2
      have HC5 := Lib.hid hc5
      have c25 := hc5.cells.2.2.1
      have HCH : Hid (∀ W, Up w5 W → ∀ j, j < n → W.cell? ⟨gh2, j, none⟩ = some (.int .i64 ((hp'.getD j 0 : Nat) : Int))) := Lib.hid (fun W hu j hj => hu.cell (HC5.out.heap.cell (by rw [ints_get (by rw [HC5.out.hl]; exact hj)])))
      clear hw5 h5 hc5 HSET HP9 c34 d9 f9 hF2d q1 q2
      go_wp2_with fail
      go_loopw [7, 67] (fun va i w6 => ∃ j : Nat, i = .int .i64 j ∧ j ≤ n ∧ w6.ownsRow w5.heap.size 3 1 va (inHeap hp' hv1 j).length (ivs ((inHeap hp' hv1 j).map Int.ofNat)) ∧ Up w5 w6) (fun _ i _ => n - (intOf i).toNat)
      case atStart => exact ⟨0, rfl, Nat.zero_le _, World.ownsRow_nil _ _ _ _, Up.refl w5⟩
      case round =>
        clear c25
        obtain ⟨j, rfl, hj2, hown, hup⟩ := hrel
        rename World => w6
        obtain ⟨a4, c4, hv4⟩ := owns_shape' hown
        obtain ⟨KL, hKL⟩ : ∃ KL, KL = (inHeap hp' hv1 j).length := ⟨_, rfl⟩
        have hKLb : KL ≤ j := by rw [hKL]; exact inHeap_len _ _ _
        rw [← hKL] at hown hv4
        subst hv4
        have HKL := Lib.hid hKL
        have HOW := Lib.hid hown
        have HUP := Lib.hid hup
        have hsz := hup.size
        clear hown hup hKL
        by_cases hlt2 : j < n
        · have dc := HCH.out w6 HUP.out j hlt2
          obtain ⟨a, ha⟩ : ∃ a, a = hp'.getD j 0 := ⟨_, rfl⟩
          rw [← ha] at dc
          by_cases e : a = hv1
          · have hs := inHeap_succ hp' hv1 j
            rw [← ha, if_pos e] at hs
            have HS := Lib.hid hs
            have HSL : Hid ((inHeap hp' hv1 (j + 1)).length = KL + 1) := Lib.hid (by rw [hs, List.length_append, ← HKL.out]; rfl)
            clear hs ha
            subst e
            have qe : ((a : Int) == (a : Int)) = true := by simp
            go_wp2_with (at_builtin; (refine wpList_append_at rfl (.tmp 75) (.tmp 77) 35 rfl w5.heap.size 3 j0 (.int .i64 0) 1 8 Tryz.underlying35 hj gz0 gz1 gz2 rfl (by decide) (.slice a4 KL c4) KL _ rfl (HOW.out.alloc _) ⟨w6.heap.size, 0, none⟩ 1 1 [.int .i64 (j : Nat)] rfl rfl (cell_one_new _ _ _) (fun u hu => by simp only [List.mem_singleton] at hu; subst hu; rfl) (by unfold maxLen; omega) (by omega) (by simp only [World.size_alloc]; omega) ?_); intro v9 w9 hown9 hgrow9 hat9; (have hg9 : (w6.alloc (.cells #[.int .i64 (j : Nat)] 3)).grownBy w9 (Value.slice a4 KL c4).ownBlock := hgrow9); (have HU9 := Lib.hid ((HUP.out.alloc (.cells #[.int .i64 (j : Nat)] 3)).grown hg9 (fun g hg => (HOW.out.lt g hg).1))); (have HO9 := Lib.hid hown9); clear hown9 hgrow9 hat9 hg9)
            go_roundw
            case rel => exact ⟨j + 1, by go_num, by omega, by rw [HSL.out, HS.out]; simpa [ivs] using HO9.out, HU9.out⟩
            case measure => simp [intOf]; omega
          · have hs := inHeap_succ hp' hv1 j
            rw [← ha, if_neg e] at hs
            have HS := Lib.hid hs
            have qe : ((a : Int) == (hv1 : Int)) = false := by simp; omega
            clear hs ha e
            go_wp2_with fail
            go_roundw
            case rel => exact ⟨j + 1, by go_num, by omega, by rw [HS.out, ← HKL.out]; exact HOW.out, HUP.out⟩
            case measure => simp [intOf]; omega
        · obtain rfl : j = n := by omega
          have hrest : LstOut (Cut F2 w5) w6 (.slice a4 KL c4) (inHeap hp' hv1 j) := by
            refine LstOut.of_owns (base := w5.heap.size) ?_ (fun b h1 h2 hb => by have := hb.2; omega)
            rw [← HKL.out]; exact HOW.out
          have t26 : Turned F1 w2 w6 := (HP3.out.2.trans HT5.out (fun _ _ h => h)).trans (T := fun _ => False) ⟨HUP.out.os, HUP.out.tape, HUP.out.output, HUP.out.size, fun b hb _ => HUP.out.block b hb⟩ (fun _ _ h => h.elim)
          have hFL1 : ∀ b, F1 b → wg.heap.size ≤ b := by rw [HF1D.out]; exact more_low (HU.out.trans HU1.out).size HF0.out
          have u2 : Up wg w2 := up_after (HU.out.trans HU1.out) HT2.out HF0.out
          have ur : Up wg wr := up_after u2 HP3.out.2 hFL1
          have u6 : Up wg w6 := up_after u2 t26 hFL1
          have hFL2 : ∀ b, Cut F2 w5 b → wg.heap.size ≤ b := fun b hb => by have := hb.1; rw [HF2D.out] at this; exact more_low ur.size hFL1 b this
          have hll : Lst w6 (.slice (some ⟨g, off, none⟩) k cap) (L.map Int.ofNat) := by
            refine ⟨some ⟨g, off, none⟩, cap, g, off, by rw [List.length_map, ← HNL.out], fun _ => rfl, fun i hi => ?_⟩
            rw [List.length_map, ← HNL.out] at hi
            rw [HCL2.out w6 t26 i hi]
            have : i < L.length := by rw [← HNL.out]; exact hi
            simp [List.getD, this]
          have HSP : Hid (Calls Tryz.prog 188 #[.pointer (some ⟨X, 0, none⟩), .slice (some ⟨g, off, none⟩) k cap] w6 (SplitPlay s (Cut F2 w5) w6 X gB B j p hp' (nh + 1) (nt + 1) L)) := Lib.hid (split_in ⟨_, _, _, _, _, _, _, _, _, _, _, HC5.out.up HUP.out⟩ (HG.out.up u6) HR.out HN.out HI.out H0.out hll HLM.out (by rw [← HNL.out]; exact hLl))
          have HREST := Lib.hid hrest
          have HT26 := Lib.hid t26
          have HU6 := Lib.hid u6
          have HFL2 := Lib.hid hFL2
          clear hrest t26 hFL1 u2 ur u6 hFL2 hll
          go_upto_region 17 with (go_at_call 188; refine HSP.out.mono ?_; rintro r w7 ⟨rfl, ht7, p1, hp7, hi7, hu7, hs7⟩; (have HT7 := Lib.hid ht7); (have HP7 := Lib.hid hp7); (have HI7 := Lib.hid hi7); (have HUM7 := Lib.hid hu7); (have HS7 := Lib.hid hs7); clear ht7 hp7 hi7 hu7 hs7)
          have HSP2 : Hid (Calls Tryz.prog 188 #[.pointer (some ⟨X, 0, none⟩), .slice a4 KL c4] w7 (SplitPlay s (More (Cut F2 w5) w6) w7 X gB B j p1 hp' (nh + 1) (nt + 1) (inHeap hp' hv1 j))) := Lib.hid (split_in HP7.out (HG.out.up (up_after HU6.out HT7.out HFL2.out)) HR.out HN.out HI7.out HUM7.out (HREST.out.turn HT7.out).lst (fun x hx => ((mem_inHeap _ _ _ _).1 hx).1) (by have := inHeap_len hp' hv1 j; omega))
          go_wp2_with (go_at_call 188; refine HSP2.out.mono ?_; rintro r w8 ⟨rfl, ht8, p2, hp8, hi8, hu8, hs8⟩; (have HT8 := Lib.hid ht8); (have HP8 := Lib.hid hp8); (have HI8 := Lib.hid hi8); (have HUM8 := Lib.hid hu8); (have HS8 := Lib.hid hs8); clear ht8 hp8 hi8 hu8 hs8)
          go_end0
          have s1 := HU1.out.size
          have s2 := HT2.out.size
          have s3 := HT26.out.size
          have s4 := HT7.out.size
          have s5 := HP3.out.2.size
          have hin : ∀ b, More (More (Cut F2 w5) w6) w7 b → More F w b := fun b hb => by
            rcases hb with (e | e) | e
            · have e1 := e.1
              rw [HF2D.out] at e1
              rcases e1 with e1 | e1
              · rw [HF1D.out] at e1
                rcases e1 with e1 | e1
                · exact .inl e1.1
                · exact .inr (by omega)
              · exact .inr (by omega)
            · exact .inr (by omega)
            · exact .inr (by omega)
          have hin2 : ∀ b, b < w.heap.size → More (More (Cut F2 w5) w6) w7 b → F b := fun b hb h => by
            rcases hin b h with e | e
            · exact e
            · omega
          have hin1 : ∀ b, b < w.heap.size → F1 b → F b := fun b hb h => by
            rw [HF1D.out] at h
            rcases h with e | e
            · exact e.1
            · omega
          refine ⟨rfl, ?_, p1, p2, ?_, HI8.out, HUM8.out, HS7.out, ?_⟩
          · have t1 : Turned F w w2 := (HU1.out.turnedF (F := F)).trans HT2.out (fun b _ h => h.1)
            have t2 := t1.trans HT26.out (fun b hb h => hin1 b hb h)
            have t3 := t2.trans HT7.out (fun b hb h => hin2 b hb (.inl (.inl h)))
            exact t3.trans HT8.out (fun b hb h => hin2 b hb (.inl h))
          · rw [← HHP.out]; exact HP8.out.mono hin
          · rw [← HHP.out, ← HX0.out, ← HHV.out]; exact HS8.out

end Go.Proofs.YtkcdkfkgjjpaaaaGreatDoor

namespace Go.Proofs.YtkcdkfkgjjpaaaaGreatDoor
open Go.RowKit Go.Sort Go.Maps
set_option linter.unusedVariables false
set_option linter.unusedSimpArgs false

/-- "strong". -/
def layerStrong : ByteArray := { data := #[115, 116, 114, 111, 110, 103] }

/-- A new play. -/
def PlayNew (s : Sy.Lts) (w : World) (n : Nat) (r : Ending) (w' : World) : Prop :=
  ∃ X gB B wg, r = .returned (.tuple #[.pointer (some ⟨X, 0, none⟩), .nilIface]) ∧ Hid (Up w wg ∧ GraphAt wg gB s ∧ Up wg w' ∧ Play (fun k => wg.heap.size ≤ k) w' X gB B n (Rf.ofSt (List.replicate n 0)) (List.replicate n 0) 0 0)

/-- A system that is none. -/
def PlayBad (w : World) (x : Value) (r : Ending) (w' : World) : Prop :=
  ∃ qb pb, r = .returned (.tuple #[.pointer none, faultAt qb]) ∧ w.heap.size ≤ qb ∧ w.heap.size ≤ pb ∧ FaultE w' qb layerStrong (faultAt pb) ∧ FaultE w' pb layerSystem x ∧ Up w w'

set_option maxHeartbeats 4000000 in
set_option maxRecDepth 100000 in
theorem newPlay_bad (s : Sy.Lts) (se : Value) (xt : TypeId) (xv : Value) (w : World) (hr : Sy.right s = false) (hs : Ls3 w se s.es) (hE : w.cell? ⟨2, 0, none⟩ = some (.iface xt xv)) (hG : ErrT w) (hl : s.es.length ≤ maxLen) :
    Calls Tryz.prog 148 #[sysV s se] w (PlayBad w (.iface xt xv)) := by
  obtain ⟨ao, cap, g, off, rfl, ha, hc⟩ := hs
  have hs : Ls3 w (.slice ao s.es.length cap) s.es := ⟨ao, cap, g, off, rfl, ha, hc⟩
  have HN : Hid (∀ W, Up w W → Calls Tryz.prog 13 #[.agg #[.int .i64 s.n, .int .i64 s.m, .int .i64 s.start, .slice ao s.es.length cap]] W (Newed s W (.iface xt xv))) := Lib.hid (fun W hu => new_any s _ xt xv W (hs.up hu) (hu.cell hE) hl)
  have HR := Lib.hid hr
  have HG := Lib.hid hG
  clear hr hs hE hG hl ha hc
  unfold sysV
  go_enter Tryz.func148, Tryz.ntmps148
  go_wp2_with (first
    | (go_at_call 13; refine (HN.out _ ((Up.refl w).alloc _)).mono ?_; rintro r w1 ⟨hu1, ⟨h1, -⟩ | ⟨-, pb, rfl, hpb, hfe⟩⟩; (exact absurd (h1.symm.trans HR.out) (by decide)); (have HFE := Lib.hid hfe); (have HPB := Lib.hid hpb); (have HU1 := Lib.hid (((Up.refl w).alloc _).trans hu1)); clear hfe hpb hu1; unfold faultAt)
    | (go_at_call 111; refine (as_fault layerStrong layerSystem _ _ _ HFE.out (HU1.out.cell HG.out)).mono ?_; rintro r w2 ⟨qb, rfl, hqb, hu2, hfq⟩))
  go_ret2
  have h0 := HU1.out.size
  exact ⟨qb, _, rfl, by omega, by have := HPB.out; rw [World.size_alloc] at this; omega, hfq, HFE.out.up hu2, HU1.out.trans hu2⟩

theorem zeros_cells (n : Nat) : (madeCells (Value.int .i64 0).cells (n * 1)).toList = ints (List.replicate n 0) := by
  rw [Nat.mul_one]
  have e : (madeCells (Value.int .i64 0).cells n).toList = List.replicate n (Value.int .i64 0) := toList_madeCells_one _ _
  rw [e]
  simp [ints]

set_option maxHeartbeats 8000000 in
set_option maxRecDepth 100000 in
theorem newPlay_ok (s : Sy.Lts) (se : Value) (xt : TypeId) (xv : Value) (w : World) (hr : Sy.right s = true) (hs : Ls3 w se s.es) (hE : w.cell? ⟨2, 0, none⟩ = some (.iface xt xv)) (hl : s.es.length ≤ maxLen) :
    Calls Tryz.prog 148 #[sysV s se] w (PlayNew s w s.n.toNat) := by
  obtain ⟨ao, cap, g, off, rfl, ha, hc⟩ := hs
  have hs : Ls3 w (.slice ao s.es.length cap) s.es := ⟨ao, cap, g, off, rfl, ha, hc⟩
  have hR := (Sy.right_iff s).1 hr
  obtain ⟨n, hn⟩ : ∃ n : Nat, s.n = (n : Nat) := ⟨s.n.toNat, by have := hR.n0; omega⟩
  have hn1 : n ≤ 1000 := by have := hR.n1; omega
  have hnn : s.n.toNat = n := by rw [hn]; rfl
  rw [hnn]
  have hNW : ∀ W, Up w W → Calls Tryz.prog 13 #[.agg #[.int .i64 s.n, .int .i64 s.m, .int .i64 s.start, .slice ao s.es.length cap]] W fun r w' => ∃ gB, r = .returned (.tuple #[.pointer (some ⟨gB, 0, none⟩), .nilIface]) ∧ Hid (GraphAt w' gB s ∧ Up W w') := fun W hu => by
    refine (new_any s _ xt xv W (hs.up hu) (hu.cell hE) hl).mono ?_
    rintro r w1 ⟨hu1, ⟨-, gB, rfl, hB, hg⟩ | ⟨h1, -⟩⟩
    · exact ⟨gB, rfl, Lib.hid ⟨hg, hu1⟩⟩
    · exact absurd (hr.symm.trans h1) (by decide)
  have HNW := Lib.hid hNW
  have HSN := Lib.hid hn
  obtain ⟨j0, hj, gz0, gz1, gz2⟩ := info_parts Tryz.intsInfo
  clear hr hs hE hl ha hc hR hnn hNW hn
  unfold sysV
  go_enter Tryz.func148, Tryz.ntmps148
  go_upto_region 4 with (go_at_call 13; refine (HNW.out _ ((Up.refl w).alloc _)).mono ?_; rintro r w1 ⟨gB, rfl, HG⟩)
  have HST : Hid (∀ W, Up w1 W → Calls Tryz.prog 43 #[.pointer (some ⟨gB, 0, none⟩)] W fun r w' => r = .returned (.int .i64 (n : Nat)) ∧ Up W w') := Lib.hid (fun W hu => by have := states_in (HG.out.1.up hu); rw [HSN.out] at this; exact this)
  go_upto_region 5 with (first
    | (go_at_call 43; refine (HST.out _ (Up.refl _)).mono ?_; rintro r w2 ⟨rfl, hu2⟩; (have HU2 := Lib.hid hu2); clear hu2)
    | (at_make; refine wpList_make_full _ rfl _ _ 35 rfl w2.heap.size 3 j0 (.int .i64 0) 1 Tryz.underlying35 hj gz0 gz1 _ _ _ _ n rfl rfl rfl rfl (by rw [gz2]; omega) (by unfold maxLen; omega) (Nat.le_refl _) ?_; intro w3 hown hgrow; (have hrow := (Row.of hown).1); rw [zeros_cells, Nat.mul_one] at hrow; (have HU3 := Lib.hid (HU2.out.grown hgrow (fun k hk => by cases hk))); (have HROW := Lib.hid hrow); clear hown hgrow hrow))
  obtain ⟨w4, hw4⟩ : ∃ w4, w4 = w3.alloc (.cells #[.pointer (some ⟨gB, 0, none⟩), .pointer none, .slice (some ⟨w2.heap.size, 0, none⟩) n n, .slice none 0 0, .slice none 0 0, .slice none 0 0, .slice none 0 0] 230) := ⟨_, rfl⟩
  have hb4 := heap_alloc_new w3 (.cells #[.pointer (some ⟨gB, 0, none⟩), .pointer none, .slice (some ⟨w2.heap.size, 0, none⟩) n n, .slice none 0 0, .slice none 0 0, .slice none 0 0, .slice none 0 0] 230)
  rw [← hw4] at hb4
  have hu34 : Up w3 w4 := by rw [hw4]; exact (Up.refl w3).alloc _
  rw [← hw4]
  obtain ⟨X, hX⟩ : ∃ X, X = w3.heap.size := ⟨_, rfl⟩
  obtain ⟨gh, hgh⟩ : ∃ gh, gh = w2.heap.size := ⟨_, rfl⟩
  rw [← hX, ← hgh] at hb4
  rw [← hX]
  rw [← hgh] at HROW
  have HB4 := Lib.hid hb4
  have HU4 := Lib.hid (HU3.out.trans hu34)
  have HR4 := Lib.hid (hu34.row HROW.out)
  have HSZ : Hid (w1.heap.size ≤ gh ∧ gh < X ∧ X < w4.heap.size) := Lib.hid (by
    have h1 := HU2.out.size
    have h2 := HROW.out.lt
    have h3 := lt_of_block' hb4
    omega)
  clear hw4 hb4 hu34 hX hgh HROW HU2 HU3
  go_upto_region 6 with (first
    | (go_at_call 43; refine (HST.out _ HU4.out).mono ?_; rintro r w5 ⟨rfl, hu5⟩; (have HU5 := Lib.hid hu5); clear hu5)
    | (go_at_call 186; refine (new_ok n _ hn1).mono ?_; rintro r w6 ⟨B, ve, vp, vi, vb, rfl, hP, hF, hb⟩; (have hbx := ((HU5.out.trans hb).block X HSZ.out.2.2).trans HB4.out); (have cx : w6.cell? ⟨X, 1, none⟩ = some (.pointer none) := by simp [World.cell?, hbx]); (have fx : w6.frozen? ⟨X, 1, none⟩ = false := by simp [World.frozen?, hbx]); (have HP := Lib.hid hP); (have HF := Lib.hid hF); (have HU6 := Lib.hid (HU5.out.trans hb)); (have HU56 := Lib.hid hb); (have HBX := Lib.hid hbx); clear hP hF hb hbx))
  obtain ⟨w7, hw7⟩ : ∃ w7, w7 = w6.setCell ⟨X, 1, none⟩ (.pointer (some ⟨B, 0, none⟩)) := ⟨_, rfl⟩
  have hb7 := box_setCell HBX.out 1 (.pointer (some ⟨B, 0, none⟩))
  rw [← hw7] at hb7
  have hk7 : ∀ k, k ≠ X → w7.heap[k]? = w6.heap[k]? := fun k hk => by rw [hw7]; exact Below.heap_setCell w6 _ _ k hk
  have hs7 : w7.heap.size = w6.heap.size := by rw [hw7]; simp
  have hu67 : Up w1 w7 := by rw [hw7]; exact (HU4.out.trans HU6.out).setCell (by have := HSZ.out; simp only; omega) _
  rw [← hw7]
  have HB7 := Lib.hid hb7
  have HK7 := Lib.hid hk7
  have HS7 := Lib.hid hs7
  have HU7 := Lib.hid hu67
  clear hw7 hb7 hk7 hs7 hu67 cx fx
  go_upto_region 7 with (first
    | (go_at_call 43; refine (HST.out _ HU7.out).mono ?_; rintro r w8 ⟨rfl, hu8⟩; (have HU8 := Lib.hid hu8); clear hu8)
    | (at_make; refine wpList_make_full _ rfl _ _ 35 rfl w8.heap.size 3 j0 (.int .i64 0) 1 Tryz.underlying35 hj gz0 gz1 _ _ _ _ n rfl rfl rfl rfl (by rw [gz2]; omega) (by unfold maxLen; omega) (Nat.le_refl _) ?_; intro w9 hown hgrow; (have hrow := (Row.of hown).1); rw [zeros_cells, Nat.mul_one] at hrow; (have hu9 := HU8.out.grown hgrow (fun k hk => by cases hk)); (have hbx := (hu9.block X (lt_of_block' HB7.out)).trans HB7.out); (have cx : ∃ u, w9.cell? ⟨X, 6, none⟩ = some u := ⟨_, by simp [World.cell?, hbx]; rfl⟩); obtain ⟨ux, cx⟩ := cx; (have fx : w9.frozen? ⟨X, 6, none⟩ = false := by simp [World.frozen?, hbx]); (have HU9 := Lib.hid hu9); (have HROW := Lib.hid hrow); (have HBX9 := Lib.hid hbx); clear hown hgrow hrow hu9 hbx))
  go_wp2_with fail
  go_ret2
  have hs := HSZ.out
  have s5 := HU5.out.size
  have s6 := HU56.out.size
  have s7 := HS7.out
  have s8 := HU8.out.size
  have s9 := HROW.out.lt
  obtain ⟨gg, hgg⟩ : ∃ g, g = w8.heap.size := ⟨_, rfl⟩
  have hROW := HROW.out
  rw [← hgg] at hROW s9 ⊢
  have hfl : ∀ k, Foot B ve vp vi vb k → w5.heap.size ≤ k ∧ k < w6.heap.size := fun k hk => ⟨HF.out k hk, HP.out.foot_lt hk⟩
  have hkf : ∀ k, k ≠ X → k < w6.heap.size → (w9.setCell ⟨X, 6, none⟩ (.slice (some ⟨gg, 0, none⟩) n n)).heap[k]? = w6.heap[k]? := fun k h1 h2 => (Below.heap_setCell w9 _ _ k h1).trans ((HU9.out.block k (by omega)).trans (HK7.out k h1))
  have hu10 : Up w1 (w9.setCell ⟨X, 6, none⟩ (.slice (some ⟨gg, 0, none⟩) n n)) := (HU7.out.trans HU9.out).setCell (by simp only; omega) _
  refine ⟨X, gB, B, w1, rfl, Lib.hid ⟨((Up.refl w).alloc _).trans HG.out.2, HG.out.1, hu10, ve, vp, vi, vb, gh, gg, .slice none 0 0, .slice none 0 0, [], List.replicate n 0, [], ?_⟩⟩
  refine ⟨?_, HP.out.keep (fun k hk => hkf k (by have := hfl k hk; omega) (hfl k hk).2), HR4.out.keep ((hkf gh (by omega) (by omega)).trans (HU6.out.block gh HR4.out.lt)), World.ownsRow_nil _ _ _ _, World.ownsRow_nil _ _ _ _, ?_, List.length_replicate, List.length_replicate, by omega, by omega, by omega, fun k hk => (by cases hk), fun k hk => (by cases hk), fun k hk => by have := hfl k hk; omega, by omega, fun e => (by cases e), fun e => (by cases e), fun k hk => ?_⟩
  · have := box_setCell HBX9.out 6 (.slice (some ⟨gg, 0, none⟩) n n)
    rw [this]; rfl
  · have := hROW.other (a := ⟨X, 6, none⟩) (by simp only; omega) (.slice (some ⟨gg, 0, none⟩) n n)
    have e : ints (List.replicate n 0) = ivs (List.replicate n 0) := by simp [ints, ivs]
    rw [← e]; exact this
  · have := hfl k hk
    exact ⟨by omega, by omega, by omega, fun e => (by cases e), fun e => (by cases e)⟩

end Go.Proofs.YtkcdkfkgjjpaaaaGreatDoor

namespace Go.Proofs.YtkcdkfkgjjpaaaaGreatDoor
open Go.RowKit Go.Sort Go.Maps
set_option linter.unusedVariables false
set_option linter.unusedSimpArgs false

theorem cn_rd (l : List Int) : Cn.canon l = Rd.canon l := by
  have hs : ∀ l : List Int, Cn.seen l = Rd.seen l := fun l => rfl
  unfold Cn.canon Rd.canon
  rw [hs]

theorem new_M (l : List Int) (b : Nat) : (Rf.ofSt l).M b = 0 := by
  by_cases hb : b < (Cn.seen l).length
  · simp only [Rf.St.M, Rf.ofSt, Rf.outer_block _ _ _ _ hb]
  · simp only [Rf.St.M, Rf.ofSt]
    rw [show ((Rf.outer (Cn.canon l) l.length (Cn.seen l).length).2.getD b (0, 0, 0)) = (0, 0, 0) by
      have := Rf.outer_blocks (Cn.canon l) l.length (Cn.seen l).length
      simp [List.getD, show ¬ b < (Rf.outer (Cn.canon l) l.length (Cn.seen l).length).2.length by omega]]

theorem new_unmarked (n : Nat) (x : Nat) (hx : x < n) : (Rf.ofSt (List.replicate n 0)).marked x = false := by
  have hI := Rf.of_inv (List.replicate n 0)
  rw [List.length_replicate] at hI
  have h1 := hI.in1 x hx
  have h2 := new_M (List.replicate n 0) ((Rf.ofSt (List.replicate n 0)).I x)
  simp only [Rf.St.marked, decide_eq_false_iff_not]
  omega

theorem new_I (n : Nat) (x : Nat) : (Rf.ofSt (List.replicate n 0)).I x = 0 := by
  unfold Rf.St.I
  rw [Rf.new_inn]
  simp only [List.getD, List.getElem?_replicate]
  split <;> rfl

/-- How many sizes a play has. -/
def sizeLen (w : World) (X : Nat) : Nat := match w.cell? ⟨X, 3, none⟩ with
  | some (.slice _ n _) => n
  | _ => 0

theorem Play.sizes {F : Nat → Prop} {w : World} {X gB B n : Nat} {p : Rf.St} {hp : List Nat} {nh nt : Nat} (h : Play F w X gB B n p hp nh nt) : sizeLen w X = nh := by
  obtain ⟨ve, vp, vi, vb, gh, gg, vs, vt, sz, gz, ts, h⟩ := h
  obtain ⟨a, c, hv⟩ := owns_shape' h.size
  unfold sizeLen
  rw [h.cells.2.2.2.1, hv]

/-- What holds while blocks are taken. -/
structure Going (s : Sy.Lts) (wg : World) (X gB B n : Nat) (F : Nat → Prop) (wr : World) (p : Rf.St) (hp : List Nat) (nh : Nat) : Prop where
  play : Play F wr X gB B n p hp nh nh
  low : ∀ k, F k → wg.heap.size ≤ k
  up : Up wg wr
  inv : Rf.Inv p n
  un : ∀ x, x < n → p.marked x = false
  fit : Sg.Fit s p.I (fun x => hp.getD x 0)
  lt : ∀ x, x < n → hp.getD x 0 < nh
  has : ∀ k, k < nh → ∃ x, x < n ∧ hp.getD x 0 = k

/-- What smallest told: no block, or one. -/
def NoBlock (p : Rf.St) (hp : List Nat) : Prop := ∀ b c, b < p.blocks.length → c < p.blocks.length → hof p hp b = hof p hp c → b = c
def ABlock (F : Nat → Prop) (wr : World) (n : Nat) (p : Rf.St) (hp : List Nat) (g K cap : Nat) : Prop :=
  ∃ b L, b < p.blocks.length ∧ (∃ c, c < p.blocks.length ∧ c ≠ b ∧ hof p hp c = hof p hp b) ∧ K = L.length ∧ L.length ≤ 1000 ∧ LstOut F wr (.slice (some ⟨g, 0, none⟩) K cap) L ∧ ∀ x, x ∈ L ↔ x < n ∧ p.I x = b

/-- The state, and what smallest told there. -/
def GoOn (s : Sy.Lts) (wg : World) (X gB B n : Nat) (nh : Nat) (lv : Value) (wr : World) : Prop :=
  ∃ F p hp, Going s wg X gB B n F wr p hp nh ∧ ((lv = .slice none 0 0 ∧ NoBlock p hp) ∨ ∃ g K cap, lv = .slice (some ⟨g, 0, none⟩) K cap ∧ ABlock F wr n p hp g K cap)

theorem Going.heaps {s : Sy.Lts} {wg : World} {X gB B n : Nat} {F : Nat → Prop} {wr : World} {p : Rf.St} {hp : List Nat} {nh : Nat} (h : Going s wg X gB B n F wr p hp nh) : nh ≤ n := Sg.heaps_le h.has

theorem mem_nats {p : Rf.St} {n b : Nat} (hI : Rf.Inv p n) (hb : b < p.blocks.length) : (p.mem b) = ((p.mem b).map Int.toNat).map Int.ofNat ∧ ∀ x, x ∈ (p.mem b).map Int.toNat ↔ x < n ∧ p.I x = b := by
  refine ⟨?_, fun x => ?_⟩
  · rw [List.map_map]
    refine (List.map_id _).symm.trans (List.map_congr_left (fun y hy => ?_))
    obtain ⟨e, h1, -⟩ := (Rf.mem_mem hI hb).1 hy
    rw [h1]; rfl
  · rw [List.mem_map]
    constructor
    · rintro ⟨y, hy, rfl⟩
      obtain ⟨e, h1, h2, h3⟩ := (Rf.mem_mem hI hb).1 hy
      rw [h1]; exact ⟨h2, h3⟩
    · rintro ⟨h1, h2⟩
      exact ⟨(x : Int), (Rf.mem_mem hI hb).2 ⟨x, rfl, h1, h2⟩, rfl⟩

theorem Going.small {s : Sy.Lts} {wg : World} {X gB B n : Nat} {F : Nat → Prop} {w : World} {p : Rf.St} {hp : List Nat} {nh : Nat} (h : Going s wg X gB B n F w p hp nh) (hn : n ≤ 1000) :
    Calls Tryz.prog 150 #[.pointer (some ⟨X, 0, none⟩)] w fun r w' => ∃ lv, r = .returned lv ∧ Hid (GoOn s wg X gB B n nh lv w') ∧ Up w w' := by
  have hl := h.heaps
  refine (smallest_in h.play h.inv hn h.lt (by omega)).mono ?_
  rintro r w' ⟨hu, hc⟩
  have hG : Going s wg X gB B n (Cut F w) w' p hp nh := ⟨h.play.cut.up hu, fun k hk => h.low k hk.1, h.up.trans hu, h.inv, h.un, h.fit, h.lt, h.has⟩
  rcases hc with ⟨rfl, h1⟩ | ⟨b, g, cap, hb, hother, rfl, ho⟩
  · exact ⟨_, rfl, Lib.hid ⟨_, _, _, hG, .inl ⟨rfl, h1⟩⟩, hu⟩
  · obtain ⟨e, hm⟩ := mem_nats h.inv hb
    refine ⟨_, rfl, Lib.hid ⟨_, _, _, hG, .inr ⟨g, _, cap, rfl, b, (p.mem b).map Int.toNat, hb, hother, by rw [List.length_map], by rw [List.length_map, Rf.mem_len h.inv hb]; have := h.inv.b1 b hb; omega, ?_, hm⟩⟩, hu⟩
    have ho2 := ho
    rw [e] at ho2
    have el : (((p.mem b).map Int.toNat).map Int.ofNat).length = ((p.mem b).map Int.toNat).length := by rw [List.length_map]
    have e2 : (p.mem b).length = ((p.mem b).map Int.toNat).length := by rw [List.length_map]
    rw [el] at ho2
    rw [e2]
    exact LstOut.of_owns ho2 (fun k h1 h2 hk => by have := hk.2; omega)

theorem Going.take {s : Sy.Lts} {wg : World} {X gB B n : Nat} {F : Nat → Prop} {w : World} {p : Rf.St} {hp : List Nat} {nh g K cap : Nat} (h : Going s wg X gB B n F w p hp nh) (hG : GraphAt wg gB s) (hR : Sy.Right s) (hn : s.n.toNat = n) (hB : ABlock F w n p hp g K cap) :
    Calls Tryz.prog 151 #[.pointer (some ⟨X, 0, none⟩), .slice (some ⟨g, 0, none⟩) K cap] w fun r w' => r = .returned (.tuple #[]) ∧ Hid (∃ F' p' hp', Going s wg X gB B n F' w' p' hp' (nh + 1)) := by
  obtain ⟨b, L, hb, ⟨c, hc, hcb, hch⟩, rfl, hLl, hv, hm⟩ := hB
  have hn1 : n ≤ 1000 := by have := hR.n1; omega
  have hl := h.heaps
  have fb := fst_in h.inv hb
  have fc := fst_in h.inv hc
  have hb1 : fst p b ∈ L := (hm _).2 fb
  have hL0 : 0 < L.length := List.length_pos_of_mem hb1
  have hLn : ∀ x ∈ L, x < n := fun x hx => ((hm x).1 hx).1
  have hx0 : L.getD 0 0 ∈ L := by rw [← getD_of 0 hL0]; exact List.getElem_mem _
  have hfine : ∀ x, x < n → p.I x = b → hp.getD x 0 = hof p hp b := fun x hx e => h.fit.fine x (fst p b) (by omega) (by omega) (e.trans fb.2.symm)
  have hh0 : hp.getD (L.getD 0 0) 0 = hof p hp b := hfine _ (hLn _ hx0) ((hm _).1 hx0).2
  have hhb : hof p hp b < nh := h.lt _ fb.1
  refine (take_in h.play hG h.up h.low hR hn h.inv h.un hv hLn hL0 hLl (by omega) (by omega) (by rw [hh0]; exact hhb)).mono ?_
  rintro r w' ⟨rfl, ht, p1, p2, hp2, hi2, hu2, hs1, hs2⟩
  have hlen : hp.length = n := by obtain ⟨_, _, _, _, _, _, _, _, _, _, _, hA⟩ := h.play; exact hA.hl
  have hget : ∀ x, x < n → (Rf.setAll hp L nh).getD x 0 = if p.I x = b then nh else hp.getD x 0 := fun x hx => by
    rw [Rf.setAll_getD, hlen]
    by_cases e : p.I x = b
    · rw [if_pos ⟨(hm x).2 ⟨hx, e⟩, hx⟩, if_pos e]
    · rw [if_neg (fun hh => e ((hm x).1 hh.1).2), if_neg e]
  rw [hh0] at hs2
  have hS1 : Sg.SplitBy s (fun z => p.I z = b) p.I p1.I := hs1.congr hR (fun z hz => by rw [hm z]; exact ⟨fun hh => hh.2, fun hh => ⟨by omega, hh⟩⟩)
  have hS2 : Sg.SplitBy s (fun z => hp.getD z 0 = hof p hp b ∧ p.I z ≠ b) p1.I p2.I := hs2.congr hR (fun z hz => by
    rw [mem_inHeap, hget z (by omega)]
    by_cases e : p.I z = b
    · rw [if_pos e]; constructor
      · rintro ⟨-, h2⟩; omega
      · rintro ⟨-, h2⟩; exact absurd e h2
    · rw [if_neg e]; exact ⟨fun hh => ⟨hh.2, e⟩, fun hh => ⟨by omega, hh.1⟩⟩)
  have hfit := h.fit.take hR (b := b) (h := hof p hp b) (k := nh) (fun x hx e => hfine x (by omega) e) (fun x hx e => by have := h.lt x (by omega); omega) (by omega) hS1 hS2
  have hGo : Going s wg X gB B n (More F w) w' p2 (Rf.setAll hp L nh) (nh + 1) := by
   refine ⟨hp2, more_low h.up.size h.low, up_after h.up ht h.low, hi2, hu2, hfit.congr hR (fun z hz => (hget z (by omega)).symm), fun x hx => ?_, fun k hk => ?_⟩
   · rw [hget x hx]
     split
     · omega
     · have := h.lt x hx; omega
   · by_cases e1 : k = nh
     · exact ⟨fst p b, fb.1, by rw [hget _ fb.1, if_pos fb.2, e1]⟩
     · by_cases e2 : k = hof p hp b
       · exact ⟨fst p c, fc.1, by rw [hget _ fc.1, if_neg (by rw [fc.2]; exact hcb), e2]; exact hch⟩
       · obtain ⟨x, h1, h2⟩ := h.has k (by omega)
         exact ⟨x, h1, by rw [hget x h1, if_neg (fun e => e2 (h2.symm.trans (hfine x h1 e))), h2]⟩
  exact ⟨rfl, Lib.hid ⟨_, p2, _, hGo⟩⟩

/-- Where smallest tells no block the blocks are the last round's classes. -/
theorem Going.done {s : Sy.Lts} {wg : World} {X gB B n : Nat} {F : Nat → Prop} {w : World} {p : Rf.St} {hp : List Nat} {nh : Nat} (h : Going s wg X gB B n F w p hp nh) (hR : Sy.Right s) (hn : s.n.toNat = n) (hN : NoBlock p hp) : Cn.canon (p.inn.map Int.ofNat) = Rd.R s (Rd.last s) := by
  rw [cn_rd]
  have hli := h.inv.li
  refine Sg.canon_last (by rw [List.length_map, hli, hn]) (fun x y hx hy => ?_)
  rw [hn] at hx hy
  have hg : ∀ z, z < n → (p.inn.map Int.ofNat).getD z 0 = (p.I z : Int) := fun z hz => by
    simp [Rf.St.I, List.getD, show z < p.inn.length by omega]
  rw [hg x hx, hg y hy, Int.natCast_inj]
  refine h.fit.last hR (fun a c ha hc he => ?_) (by omega) (by omega)
  rw [hn] at ha hc
  have ia := (h.inv.in1 a ha).1
  have ic := (h.inv.in1 c hc).1
  refine hN _ _ ia ic ?_
  have e1 := h.fit.fine (fst p (p.I a)) a (by have := (fst_in h.inv ia).1; omega) (by omega) (fst_in h.inv ia).2
  have e2 := h.fit.fine (fst p (p.I c)) c (by have := (fst_in h.inv ic).1; omega) (by omega) (fst_in h.inv ic).2
  exact e1.trans (he.trans e2.symm)

/-- What Refine leaves, of a system that is one. -/
def RefineDone (s : Sy.Lts) (w : World) (n : Nat) (r : Ending) (w' : World) : Prop :=
  ∃ a1 c1 a2 n2 c2 a3 n3 c3, r = .returned (.tuple #[.agg #[.slice a1 n c1, .slice a2 n2 c2, .slice a3 n3 c3], .nilIface]) ∧ Hid (w'.ownsRow w.heap.size 3 1 (.slice a1 n c1) n (ints (Rd.R s (Rd.last s)))) ∧ Up w w'

theorem begin_going {s : Sy.Lts} {wg w w' : World} {X gB B n : Nat} {F : Nat → Prop} {p' : Rf.St} (hR : Sy.Right s) (hn : s.n.toNat = n) (h0 : 0 < n) (hF : ∀ k, F k → wg.heap.size ≤ k) (hu : Up wg w) (ht : Turned F w w')
    (hp : Play (More F w) w' X gB B n p' (List.replicate n 0) 1 1) (hI : Rf.Inv p' n) (hun : ∀ x, x < n → p'.marked x = false) (hs : Sg.SplitBy s (fun z => z ∈ List.range n) (Rf.ofSt (List.replicate n 0)).I p'.I) :
    Going s wg X gB B n (More F w) w' p' (List.replicate n 0) 1 := by
  have hz : ∀ z, (List.replicate n 0).getD z 0 = 0 := fun z => by
    simp only [List.getD, List.getElem?_replicate]
    split <;> rfl
  have h1 : Sg.SplitBy s (fun _ => True) (fun _ => 0) p'.I := fun x y hx hy => by
    have := (hs.congr hR (D := fun _ => True) (fun z hz => by rw [List.mem_range]; exact ⟨fun _ => trivial, fun _ => by omega⟩)) x y hx hy
    rw [new_I, new_I] at this
    exact this
  refine ⟨hp, more_low hu.size hF, up_after hu ht hF, hI, hun, (Sg.Fit.begin hR h1).congr hR (fun z _ => (hz z).symm), fun x _ => by rw [hz]; omega, fun k hk => ⟨0, h0, by rw [hz]; omega⟩⟩

theorem three_setG {w : World} {b : Nat} {a1 a2 a3 : Value} {e : TypeId} (h : w.heap[b]? = some (.cells #[a1, a2, a3] e (0, 0))) (v1 v2 v3 : Value) :
    ((((w.setCell ⟨b, 0, none⟩ v1).setCell ⟨b, 1, none⟩ v2).setCell ⟨b, 2, none⟩ v3).cell? ⟨b, 0, none⟩ = some v1 ∧ (((w.setCell ⟨b, 0, none⟩ v1).setCell ⟨b, 1, none⟩ v2).setCell ⟨b, 2, none⟩ v3).cell? ⟨b, 1, none⟩ = some v2 ∧
      (((w.setCell ⟨b, 0, none⟩ v1).setCell ⟨b, 1, none⟩ v2).setCell ⟨b, 2, none⟩ v3).cell? ⟨b, 2, none⟩ = some v3) ∧
    Turned (fun k => k = b) w (((w.setCell ⟨b, 0, none⟩ v1).setCell ⟨b, 1, none⟩ v2).setCell ⟨b, 2, none⟩ v3) := by
  have h1 := box_setCell h 0 v1
  have h2 := box_setCell h1 1 v2
  have h3 := box_setCell h2 2 v3
  refine ⟨⟨?_, ?_, ?_⟩, Turned.set1 (F := fun k => k = b) (Turned.set1 (F := fun k => k = b) (Turned.set1 (F := fun k => k = b) (Turned.refl _ w) rfl v1) rfl v2) rfl v3⟩ <;> simp [World.cell?, h3]

theorem three_cellsG {w : World} {b : Nat} {a1 a2 a3 : Value} {e : TypeId} (h : w.heap[b]? = some (.cells #[a1, a2, a3] e (0, 0))) :
    (w.cell? ⟨b, 0, none⟩ = some a1 ∧ w.cell? ⟨b, 1, none⟩ = some a2 ∧ w.cell? ⟨b, 2, none⟩ = some a3) ∧ w.frozen? ⟨b, 0, none⟩ = false ∧ w.frozen? ⟨b, 1, none⟩ = false ∧ w.frozen? ⟨b, 2, none⟩ = false := by
  refine ⟨⟨?_, ?_, ?_⟩, ?_, ?_, ?_⟩ <;> simp [World.cell?, World.frozen?, h]

set_option maxHeartbeats 8000000 in
set_option maxRecDepth 100000 in
theorem refine_ok (s : Sy.Lts) (se : Value) (xt : TypeId) (xv : Value) (w : World) (hr : Sy.right s = true) (hs : Ls3 w se s.es) (hE : w.cell? ⟨2, 0, none⟩ = some (.iface xt xv)) (hl : s.es.length ≤ maxLen) :
    Calls Tryz.prog 101 #[sysV s se] w (RefineDone s w s.n.toNat) := by
  have hR := (Sy.right_iff s).1 hr
  have hNP : ∀ W, Up w W → Calls Tryz.prog 148 #[sysV s se] W (PlayNew s W s.n.toNat) := fun W hu => newPlay_ok s se xt xv W hr (hs.up hu) (hu.cell hE) hl
  obtain ⟨ao, cap, rfl⟩ := ls3_shape hs
  obtain ⟨n, hn⟩ : ∃ n : Nat, s.n = (n : Nat) := ⟨s.n.toNat, by have := hR.n0; omega⟩
  have hn1 : n ≤ 1000 := by have := hR.n1; omega
  have hnn : s.n.toNat = n := by rw [hn]; rfl
  rw [hnn] at hNP ⊢
  obtain ⟨L, hL⟩ : ∃ L, L = s.es.length := ⟨_, rfl⟩
  unfold sysV at hNP ⊢
  rw [← hL] at hNP ⊢
  have HNP := Lib.hid hNP
  have HR := Lib.hid hR
  have HSN := Lib.hid hn
  have HNN := Lib.hid hnn
  clear hr hs hE hl hR hNP hn hnn hL
  have HU0 : Hid (Up w ((w.alloc (.cells #[.int .i64 s.n, .int .i64 s.m, .int .i64 s.start, .slice ao L cap] 27)).alloc (.cells #[.slice none 0 0, .slice none 0 0, .slice none 0 0] 144))) := Lib.hid (((Up.refl w).alloc _).alloc _)
  go_enter Tryz.func101, Tryz.ntmps101
  go_upto_region 4 with (go_at_call 148; refine (HNP.out _ HU0.out).mono ?_; rintro r w2 ⟨X, gB, B, wg, rfl, HP⟩)
  obtain ⟨RB, hRB⟩ : ∃ b, b = w.heap.size + 1 := ⟨_, rfl⟩
  have hb0 := heap_alloc_new (w.alloc (.cells #[.int .i64 s.n, .int .i64 s.m, .int .i64 s.start, .slice ao L cap] 27)) (.cells #[.slice none 0 0, .slice none 0 0, .slice none 0 0] 144)
  rw [World.size_alloc, ← hRB] at hb0
  have hRBl : RB < wg.heap.size := Nat.lt_of_lt_of_le (lt_of_block' hb0) HP.out.1.size
  have HB2 : Hid (∀ W, Up wg W → W.heap[RB]? = some (.cells #[.slice none 0 0, .slice none 0 0, .slice none 0 0] 144 (0, 0))) := Lib.hid (fun W hu => (hu.block RB hRBl).trans ((HP.out.1.block RB (lt_of_block' hb0)).trans hb0))
  have HWG := Lib.hid (HU0.out.trans HP.out.1)
  have HG := Lib.hid HP.out.2.1
  have HU2 := Lib.hid HP.out.2.2.1
  have HPL := Lib.hid HP.out.2.2.2
  have hRBw : w.heap.size ≤ RB := by omega
  rw [← hRB]
  have c0 : w2.cell? ⟨X, 0, none⟩ = some (.pointer (some ⟨gB, 0, none⟩)) := by obtain ⟨_, _, _, _, _, _, _, _, _, _, _, hA⟩ := HPL.out; exact hA.cells.1
  have HST : Hid (Calls Tryz.prog 43 #[.pointer (some ⟨gB, 0, none⟩)] w2 fun r w' => r = .returned (.int .i64 (n : Nat)) ∧ Up w2 w') := Lib.hid (by have := states_in (HG.out.up HU2.out); rw [HSN.out] at this; exact this)
  clear hb0 hRB HP
  by_cases hn0 : n = 0
  · subst hn0
    go_wp2_with (go_at_call 43; refine HST.out.mono ?_; rintro r w3 ⟨rfl, hu3⟩; (obtain ⟨⟨k0, k1, k2⟩, f0, f1, f2⟩ := three_cellsG (HB2.out w3 (HU2.out.trans hu3))); (have HU3 := Lib.hid (HU2.out.trans hu3)); clear hu3 c0)
    obtain ⟨⟨y0, y1, y2⟩, hT⟩ := three_setG (HB2.out w3 HU3.out) (.slice none 0 0) (.slice none 0 0) (.slice none 0 0)
    refine bodyPost_ret (v := .tuple #[.agg #[.slice none 0 0, .slice none 0 0, .slice none 0 0], .nilIface]) (by simp [results, Tryz.results101, go_sem, y0, y1, y2]) rfl ⟨_, _, _, _, _, _, _, _, rfl, Lib.hid ?_, up_turned (HWG.out.trans HU3.out) hRBw hT⟩
    have e : Rd.R s (Rd.last s) = [] := List.eq_nil_of_length_eq_zero (by rw [Rd.R_len]; exact HNN.out)
    rw [e]; exact World.ownsRow_nil _ _ _ _
  · have qn : ((n : Int) == 0) = false := by simp; omega
    have h0n : 0 < n := by omega
    clear hn0
    go_upto_region 6 with (go_at_call 43; refine HST.out.mono ?_; rintro r w3 ⟨rfl, hu3⟩; (have HU23 := Lib.hid hu3); (have HU3 := Lib.hid (HU2.out.trans hu3)); clear hu3 c0)
    have HBG : Hid (Calls Tryz.prog 149 #[.pointer (some ⟨X, 0, none⟩)] w3 fun r w' => r = .returned (.tuple #[]) ∧ Hid (∃ F p, Going s wg X gB B n F w' p (List.replicate n 0) 1)) := Lib.hid (by
      have hI := Rf.of_inv (List.replicate n 0)
      rw [List.length_replicate] at hI
      refine (begin_in (HPL.out.up HU23.out) HG.out HU3.out (fun k hk => hk) HR.out HNN.out hI (fun x hx => new_unmarked n x hx)).mono ?_
      rintro r w' ⟨rfl, ht, p', hp', hi', hu', hs'⟩
      exact ⟨rfl, Lib.hid ⟨_, p', begin_going HR.out HNN.out h0n (fun k hk => hk) HU3.out ht hp' hi' hu' hs'⟩⟩)
    go_upto_region 8 with (first
      | (go_at_call 149; refine HBG.out.mono ?_; rintro r w4 ⟨rfl, HG4⟩)
      | (go_at_call 150; refine (HG4.out.choose_spec.choose_spec.small hn1).mono ?_; rintro r w5 ⟨lv, rfl, HG5, -⟩))
    have HW5 := HG5
    clear HG4 HBG HST
    have hsz := fun (lv : Value) (wr : World) (nh : Nat) (h : GoOn s wg X gB B n nh lv wr) => (show sizeLen wr X = nh from by obtain ⟨F, p, hp, hg, -⟩ := h; exact hg.play.sizes)
    have HSZ := Lib.hid hsz
    clear hsz
    go_loopw [6] (fun v wr => ∃ nh : Nat, Hid (GoOn s wg X gB B n nh v wr)) (fun _ wr => 1001 - sizeLen wr X)
    case atStart => exact ⟨1, HG5⟩
    case round =>
      clear HG5 HW5
      obtain ⟨nh, HGO⟩ := hrel
      have hsl := HSZ.out _ _ _ HGO.out
      obtain ⟨F, p, hp, hg, hcase⟩ := HGO.out
      have hheaps := hg.heaps
      have HGI := Lib.hid hg
      rcases hcase with ⟨hlv, hno⟩ | ⟨g, K, cap6, hlv, hblk⟩
      · subst hlv
        have HNO := Lib.hid hno
        have HDN := Lib.hid (hg.done HR.out HNN.out hno)
        obtain ⟨ve, vp, vi, vb, gh, gg, vs, vt, sz, gz, ts, hA⟩ := hg.play
        obtain ⟨at1, ct1, hvt⟩ := owns_shape' hA.took
        subst hvt
        have c1 := hA.cells.2.1
        have HCL : Hid (Calls Tryz.prog 152 #[.pointer (some ⟨B, 0, none⟩)] wr (ClassesAt wr (Rd.R s (Rd.last s)) n)) := Lib.hid (by rw [← HDN.out]; exact classes_all hA.part hg.inv hn1)
        have HA := Lib.hid hA
        have HUW := Lib.hid hg.up
        have hXg : wg.heap.size ≤ X := hg.low X hA.inX
        clear hg hno hA hsl HGO hheaps
        go_upto_region 12 with (go_at_call 152; refine HCL.out.mono ?_; rintro r w6 ⟨g6, rfl, hrow6, hg6, hu6⟩; (have hb6 := (hu6.block X HA.out.lt).trans HA.out.box); (have d4 : w6.cell? ⟨X, 4, none⟩ = some (.slice none 0 0) := by simp [World.cell?, hb6]); (have f4 : w6.frozen? ⟨X, 4, none⟩ = false := by simp [World.frozen?, hb6]); (have HROW6 := Lib.hid hrow6); (have HU6 := Lib.hid hu6); (have HB6 := Lib.hid hb6); clear hrow6 hu6 hb6)
        obtain ⟨w7, hw7⟩ : ∃ w7, w7 = w6.setCell ⟨X, 4, none⟩ (.slice (some ⟨g6, 0, none⟩) n n) := ⟨_, rfl⟩
        have hb7 := box_setCell HB6.out 4 (.slice (some ⟨g6, 0, none⟩) n n)
        rw [← hw7] at hb7
        have e4 : w7.cell? ⟨X, 4, none⟩ = some (.slice (some ⟨g6, 0, none⟩) n n) := by simp [World.cell?, hb7]
        have e5 : w7.cell? ⟨X, 5, none⟩ = some (.slice at1 nh ct1) := by simp [World.cell?, hb7]
        have e6 : w7.cell? ⟨X, 6, none⟩ = some (.slice (some ⟨gg, 0, none⟩) n n) := by simp [World.cell?, hb7]
        have hu7 : Up wg w7 := by rw [hw7]; exact (HUW.out.trans HU6.out).setCell hXg _
        have hX6 : X < wr.heap.size := HA.out.lt
        have hrow7 : Row w7 g6 3 n (ints (Rd.R s (Rd.last s))) := by rw [hw7]; exact HROW6.out.other (by simp only; omega) _
        obtain ⟨⟨k0, k1, k2⟩, x0, x1, x2⟩ := three_cellsG (HB2.out w7 hu7)
        have HU7 := Lib.hid hu7
        have HROW7 := Lib.hid hrow7
        rw [← hw7]
        clear hw7 hb7 hu7 hrow7 d4 f4 c1
        go_wp2_with fail
        obtain ⟨⟨y0, y1, y2⟩, hT⟩ := three_setG (HB2.out w7 HU7.out) (.slice (some ⟨g6, 0, none⟩) n n) (.slice at1 nh ct1) (.slice (some ⟨gg, 0, none⟩) n n)
        have hwgr := HUW.out.size
        have hw0 := HWG.out.size
        refine bodyPost_ret (v := .tuple #[.agg #[.slice (some ⟨g6, 0, none⟩) n n, .slice at1 nh ct1, .slice (some ⟨gg, 0, none⟩) n n], .nilIface]) (by simp [results, Tryz.results101, go_sem, y0, y1, y2]) rfl ⟨_, _, _, _, _, _, _, _, rfl, Lib.hid ?_, up_turned (HWG.out.trans HU7.out) hRBw hT⟩
        have hr := HROW7.out.keep (hT.block g6 HROW7.out.lt (by omega))
        refine Row.ownsAt (by rw [Nat.mul_one]; exact hr) (by omega) (Nat.le_refl _) (by unfold maxLen; omega) ?_
        rw [Nat.mul_one, ints_length, Rd.R_len]; exact HNN.out
      · subst hlv
        have hq1 := fun w => Go.run_neq_slice_nil_any (P := Tryz.prog) w 35 3 (some ⟨g, 0, none⟩) K cap6 0 0 Tryz.underlying35
        have HTK := Lib.hid (hg.take HG.out HR.out HNN.out hblk)
        have HHE := Lib.hid hheaps
        have HSL := Lib.hid hsl
        clear hg hblk HGO hheaps hsl
        go_wp2_with (first
          | (go_at_call 151; refine HTK.out.mono ?_; rintro r w6 ⟨rfl, HG6⟩)
          | (go_at_call 150; refine (HG6.out.choose_spec.choose_spec.choose_spec.small hn1).mono ?_; rintro r w7 ⟨lv7, rfl, HG7, -⟩))
        go_roundw
        case rel => exact ⟨nh + 1, HG7⟩
        case measure =>
          have e1 := HSZ.out _ _ _ HG7.out
          have e2 := HSL.out
          have e3 := HHE.out
          simp only [e1, e2]
          omega

/-- A system that is none: Refine. -/
def RefineBad (w : World) (x : Value) (r : Ending) (w' : World) : Prop :=
  ∃ qb pb, r = .returned (.tuple #[.agg #[.slice none 0 0, .slice none 0 0, .slice none 0 0], faultAt qb]) ∧ Hid (FaultE w' qb layerStrong (faultAt pb) ∧ FaultE w' pb layerSystem x) ∧ Up w w'

set_option maxHeartbeats 4000000 in
set_option maxRecDepth 100000 in
theorem refine_bad (s : Sy.Lts) (se : Value) (xt : TypeId) (xv : Value) (w : World) (hr : Sy.right s = false) (hs : Ls3 w se s.es) (hE : w.cell? ⟨2, 0, none⟩ = some (.iface xt xv)) (hG : ErrT w) (hl : s.es.length ≤ maxLen) :
    Calls Tryz.prog 101 #[sysV s se] w (RefineBad w (.iface xt xv)) := by
  have hNP : ∀ W, Up w W → Calls Tryz.prog 148 #[sysV s se] W fun r w' => ∃ qb, r = .returned (.tuple #[.pointer none, faultAt qb]) ∧ Hid (∃ pb, W.heap.size ≤ qb ∧ W.heap.size ≤ pb ∧ FaultE w' qb layerStrong (faultAt pb) ∧ FaultE w' pb layerSystem (.iface xt xv)) ∧ Up W w' := fun W hu => by
    refine (newPlay_bad s se xt xv W hr (hs.up hu) (hu.cell hE) (hu.cell hG) hl).mono ?_
    rintro r w' ⟨qb, pb, rfl, h1, h2, h3, h4, h5⟩
    exact ⟨qb, rfl, Lib.hid ⟨pb, h1, h2, h3, h4⟩, h5⟩
  obtain ⟨ao, cap, rfl⟩ := ls3_shape hs
  obtain ⟨L, hL⟩ : ∃ L, L = s.es.length := ⟨_, rfl⟩
  unfold sysV at hNP ⊢
  rw [← hL] at hNP ⊢
  have HNP := Lib.hid hNP
  clear hr hs hE hG hl hNP hL
  have HU0 : Hid (Up w ((w.alloc (.cells #[.int .i64 s.n, .int .i64 s.m, .int .i64 s.start, .slice ao L cap] 27)).alloc (.cells #[.slice none 0 0, .slice none 0 0, .slice none 0 0] 144))) := Lib.hid (((Up.refl w).alloc _).alloc _)
  have hb0 := heap_alloc_new (w.alloc (.cells #[.int .i64 s.n, .int .i64 s.m, .int .i64 s.start, .slice ao L cap] 27)) (.cells #[.slice none 0 0, .slice none 0 0, .slice none 0 0] 144)
  rw [World.size_alloc] at hb0
  have HB0 := Lib.hid hb0
  clear hb0
  unfold faultAt at HNP
  go_enter Tryz.func101, Tryz.ntmps101
  go_wp2_with (go_at_call 148; refine (HNP.out _ HU0.out).mono ?_; rintro r w2 ⟨qb, rfl, HF, hu2⟩; (have hb2 := (hu2.block _ (lt_of_block' HB0.out)).trans HB0.out); (obtain ⟨⟨k0, k1, k2⟩, f0, f1, f2⟩ := three_cellsG hb2); (have HB2 := Lib.hid hb2); (have HU2 := Lib.hid hu2); clear hu2 hb2)
  obtain ⟨⟨y0, y1, y2⟩, hT⟩ := three_setG HB2.out (.slice none 0 0) (.slice none 0 0) (.slice none 0 0)
  refine bodyPost_ret (v := .tuple #[.agg #[.slice none 0 0, .slice none 0 0, .slice none 0 0], .iface 103 (.pointer (some ⟨qb, 0, none⟩))]) (by simp [results, Tryz.results101, go_sem, y0, y1, y2]) rfl ?_
  obtain ⟨pb, h1, h2, h3, h4⟩ := HF.out
  rw [World.size_alloc, World.size_alloc] at h1 h2
  have hk : ∀ k, w.heap.size + 1 + 1 ≤ k → k < w2.heap.size → ((((w2.setCell ⟨w.heap.size + 1, 0, none⟩ (.slice none 0 0)).setCell ⟨w.heap.size + 1, 1, none⟩ (.slice none 0 0)).setCell ⟨w.heap.size + 1, 2, none⟩ (.slice none 0 0))).heap[k]? = w2.heap[k]? := fun k h5 h6 => hT.block k h6 (by omega)
  exact ⟨qb, pb, rfl, Lib.hid ⟨(hk qb h1 (lt_of_block' h3)).trans h3, (hk pb h2 (lt_of_block' h4)).trans h4⟩, up_turned (HU0.out.trans HU2.out) (by omega) hT⟩

/-- What Classes leaves. -/
def ClassesOk (s : Sy.Lts) (w : World) (n : Nat) (r : Ending) (w' : World) : Prop :=
  ∃ a1 c1, r = .returned (.tuple #[.slice a1 n c1, .nilIface]) ∧ Hid (w'.ownsRow w.heap.size 3 1 (.slice a1 n c1) n (ints (Rd.R s (Rd.last s)))) ∧ Up w w'
def ClassesBad (w : World) (x : Value) (r : Ending) (w' : World) : Prop :=
  ∃ qb, r = .returned (.tuple #[.slice none 0 0, faultAt qb]) ∧ Hid (∃ pb, FaultE w' qb layerStrong (faultAt pb) ∧ FaultE w' pb layerSystem x) ∧ Up w w'

set_option maxHeartbeats 4000000 in
set_option maxRecDepth 100000 in
theorem classes_ok (s : Sy.Lts) (se : Value) (xt : TypeId) (xv : Value) (w : World) (hr : Sy.right s = true) (hs : Ls3 w se s.es) (hE : w.cell? ⟨2, 0, none⟩ = some (.iface xt xv)) (hl : s.es.length ≤ maxLen) :
    Calls Tryz.prog 28 #[sysV s se] w (ClassesOk s w s.n.toNat) := by
  have hRF : ∀ W, Up w W → Calls Tryz.prog 101 #[sysV s se] W (RefineDone s W s.n.toNat) := fun W hu => refine_ok s se xt xv W hr (hs.up hu) (hu.cell hE) hl
  obtain ⟨ao, cap, rfl⟩ := ls3_shape hs
  obtain ⟨n, hn⟩ : ∃ n, n = s.n.toNat := ⟨_, rfl⟩
  rw [← hn] at hRF ⊢
  obtain ⟨L, hL⟩ : ∃ L, L = s.es.length := ⟨_, rfl⟩
  unfold sysV at hRF ⊢
  rw [← hL] at hRF ⊢
  have HRF := Lib.hid hRF
  clear hr hs hE hl hRF hL hn
  have HU0 : Hid (Up w (w.alloc (.cells #[.int .i64 s.n, .int .i64 s.m, .int .i64 s.start, .slice ao L cap] 27))) := Lib.hid ((Up.refl w).alloc _)
  go_enter Tryz.func28, Tryz.ntmps28
  go_wp2_with (go_at_call 101; refine (HRF.out _ HU0.out).mono ?_; rintro r w2 ⟨a1, c1, a2, n2, c2, a3, n3, c3, rfl, HO, hu2⟩; (have HU2 := Lib.hid hu2); clear hu2)
  go_ret2
  have h0 := HU0.out.size
  exact ⟨a1, c1, rfl, Lib.hid (owns_base (((Up.refl w2).alloc _).owns HO.out) h0), (HU0.out.trans HU2.out).alloc _⟩

set_option maxHeartbeats 4000000 in
set_option maxRecDepth 100000 in
theorem classes_bad (s : Sy.Lts) (se : Value) (xt : TypeId) (xv : Value) (w : World) (hr : Sy.right s = false) (hs : Ls3 w se s.es) (hE : w.cell? ⟨2, 0, none⟩ = some (.iface xt xv)) (hG : ErrT w) (hl : s.es.length ≤ maxLen) :
    Calls Tryz.prog 28 #[sysV s se] w (ClassesBad w (.iface xt xv)) := by
  have hRF : ∀ W, Up w W → Calls Tryz.prog 101 #[sysV s se] W (RefineBad W (.iface xt xv)) := fun W hu => refine_bad s se xt xv W hr (hs.up hu) (hu.cell hE) (hu.cell hG) hl
  obtain ⟨ao, cap, rfl⟩ := ls3_shape hs
  obtain ⟨L, hL⟩ : ∃ L, L = s.es.length := ⟨_, rfl⟩
  unfold sysV at hRF ⊢
  rw [← hL] at hRF ⊢
  have HRF := Lib.hid hRF
  clear hr hs hE hG hl hRF hL
  have HU0 : Hid (Up w (w.alloc (.cells #[.int .i64 s.n, .int .i64 s.m, .int .i64 s.start, .slice ao L cap] 27))) := Lib.hid ((Up.refl w).alloc _)
  unfold RefineBad faultAt at HRF
  go_enter Tryz.func28, Tryz.ntmps28
  go_wp2_with (go_at_call 101; refine (HRF.out _ HU0.out).mono ?_; rintro r w2 ⟨qb, pb, rfl, HF, hu2⟩; (have HU2 := Lib.hid hu2); clear hu2)
  go_ret2
  exact ⟨qb, rfl, Lib.hid ⟨pb, HF.out.1.up ((Up.refl w2).alloc _), HF.out.2.up ((Up.refl w2).alloc _)⟩, (HU0.out.trans HU2.out).alloc _⟩

end Go.Proofs.YtkcdkfkgjjpaaaaGreatDoor
