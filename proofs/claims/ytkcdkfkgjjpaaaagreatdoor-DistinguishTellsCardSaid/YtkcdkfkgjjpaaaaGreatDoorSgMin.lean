/- What a call may do to a play: notes, heaps, sizes. Walk: took. Walks: strong's blocks of each heap; slices.MinFunc at strong's comparison, by what it answers: one of the list; smallest. Walks: strong's comparison of two blocks; slices.MinFunc at it, by what it answers: one of the list; smallest. -/
import Derived.Test.YtkcdkfkgjjpaaaaGreatDoorSgSplit

namespace Go.Proofs.YtkcdkfkgjjpaaaaGreatDoor
open Go.RowKit Go.Sort Go.Maps
set_option linter.unusedVariables false
set_option linter.unusedSimpArgs false

section
variable {P : Program}
/-- append onto a slice that the call owns: where the new one lies. -/
theorem wpList_append_at {w : World} {ops : Array Oper} {rest : List Oper} {o : Oper} {a : Act} {Q : Exit → Act → World → Prop} (hgd : o.guard = none) (s x : Operand) (t : TypeId)
    (ho : o.op = .call { callee := .builtin .append, args := #[s, x], argTypes := #[t, t] })
    (base : Nat) (e : TypeId) (i : TypeInfo) (z : Value) (size bytes : Nat) (ht : P.underlying t = some (.slice e)) (hi : P.info? e = some i) (hz : i.zero = some z)
    (hsize : i.size = size) (hby : i.bytes = bytes) (hzs : z.cells.size = size) (hsz : 0 < size)
    (v : Value) (n : Nat) (xs : List Value) (hs : a.eval s = v) (hown : w.ownsRow base e size v n xs)
    (ad : Addr) (m c : Nat) (news : List Value) (hx : a.eval x = .slice (some ad) m c) (hl : news.length = m * size) (hnews : ∀ j u, news[j]? = some u → w.cell? (ad.add j) = some u) (h1 : ∀ u ∈ news, u.oneCell' = true)
    (h63 : n + m ≤ maxLen) (hbytes : (n + m) * bytes ≤ 140737488355328) (hbase : base ≤ w.heap.size)
    (h : ∀ v' w', w'.ownsRow base e size v' (n + m) (xs ++ news) → w.grownBy w' v.ownBlock → (v'.ownBlock = v.ownBlock ∨ v'.ownBlock = some w.heap.size) → wpList P ops Q rest (a.put o.dst v') w') :
    wpList P ops Q (o :: rest) a w := by
  refine wpList_plain hgd fun K hK => ?_
  obtain ⟨v', w', hr, h2, h3, _, h5⟩ := run_append_own_at (P := P) w base t o.type e i z size bytes ht hi hz hsize hby hzs hsz v n xs hown ad m c news hl hnews h1 h63 hbytes hbase
  unfold Oper.wp execOp
  simp only [ho, resolve, invoke, builtin, Sem.run_bind, Sem.run_pure, Result.andThen_ok, List.map_toArray, List.map_cons, List.map_nil, hs, hx, hr]
  exact hK _ _ (h v' w' h2 h3 h5)
end

/-- F, and what is new. -/
def More (F : Nat → Prop) (w : World) (k : Nat) : Prop := F k ∨ w.heap.size ≤ k

/-- A slice reads as a list of states; it does not lie among the blocks of F. -/
def LstOut (F : Nat → Prop) (w : World) (v : Value) (L : List Nat) : Prop :=
  ∃ ao cap g off, v = .slice ao L.length cap ∧ (0 < L.length → ao = some ⟨g, off, none⟩ ∧ ¬ F g ∧ g < w.heap.size) ∧ ∀ i, i < L.length → w.cell? ⟨g, off + i, none⟩ = some (.int .i64 ((L.getD i 0 : Nat) : Int))

theorem LstOut.turn {F : Nat → Prop} {w w' : World} {v : Value} {L : List Nat} (h : LstOut F w v L) (ht : Turned F w w') : LstOut (More F w) w' v L := by
  obtain ⟨ao, cap, g, off, rfl, h1, h2⟩ := h
  refine ⟨ao, cap, g, off, rfl, fun h0 => ?_, fun i hi => ?_⟩
  · obtain ⟨a, b, c⟩ := h1 h0
    exact ⟨a, fun e => by rcases e with e | e; exact b e; omega, Nat.lt_of_lt_of_le c ht.size⟩
  · obtain ⟨a, b, c⟩ := h1 (by omega)
    have := h2 i hi
    simp only [World.cell?] at this ⊢
    rw [ht.block g c b]; exact this

theorem LstOut.lst {F : Nat → Prop} {w : World} {v : Value} {L : List Nat} (h : LstOut F w v L) : Lst w v (L.map Int.ofNat) := by
  obtain ⟨ao, cap, g, off, rfl, h1, h2⟩ := h
  refine ⟨ao, cap, g, off, by rw [List.length_map], fun h0 => (h1 (by simpa using h0)).1, fun i hi => ?_⟩
  rw [List.length_map] at hi
  rw [h2 i hi]
  simp [List.getD, hi]

theorem LstOut.of_owns {F : Nat → Prop} {w : World} {base : Nat} {v : Value} {L : List Nat} (h : w.ownsRow base 3 1 v L.length (ivs (L.map Int.ofNat))) (hF : ∀ k, base ≤ k → k < w.heap.size → ¬ F k) : LstOut F w v L := by
  rcases owns_cases h with ⟨rfl, h0, _⟩ | ⟨g, cap, rfl, hr, _⟩
  · exact ⟨none, 0, 0, 0, by rw [h0], fun h => by omega, fun i hi => by omega⟩
  · refine ⟨_, cap, g, 0, rfl, fun _ => ⟨rfl, hF g (h.lt g rfl).1 hr.lt, hr.lt⟩, fun i hi => ?_⟩
    rw [Nat.zero_add]
    exact hr.cell (by simp [ivs, List.getD, hi])

theorem Turned.more {F : Nat → Prop} {w w1 w2 : World} (h : Turned F w w1) (h2 : Turned (More F w) w1 w2) : Turned F w w2 :=
  h.trans h2 (fun i hi hf => by rcases hf with e | e; exact e; omega)

theorem more_more {F : Nat → Prop} {w w1 : World} (h : w.heap.size ≤ w1.heap.size) {k : Nat} (hk : More (More F w) w1 k) : More F w k := by
  rcases hk with e | e
  · exact e
  · exact .inr (by omega)

section
variable {F : Nat → Prop} {w w' : World} {X gB B n : Nat} {p p' : Rf.St} {hp : List Nat} {nh nt : Nat} {ve vp vi vb vb' : Value} {gh gg : Nat} {vs vt : Value} {sz gz : List Int} {ts : List Value}

theorem box_setCell {w : World} {X : Nat} {cs : Array Value} {e : TypeId} (h : w.heap[X]? = some (.cells cs e (0, 0))) (i : Nat) (v : Value) : (w.setCell ⟨X, i, none⟩ v).heap[X]? = some (.cells (cs.setIfInBounds i v) e (0, 0)) := by
  simp [World.setCell, Array.getElem?_modify, h]

theorem Turned.set1 {F : Nat → Prop} {w w' : World} (h : Turned F w w') {b i : Nat} (hb : F b) (v : Value) : Turned F w (w'.setCell ⟨b, i, none⟩ v) := h.setCell (.inl hb) v

/-- A heap's number is written. -/
theorem PlayAt.setHeap (h : PlayAt F w X gB B n p hp nh nt ve vp vi vb gh gg vs vt sz gz ts) (i v : Nat) : PlayAt F (w.setCell ⟨gh, i, none⟩ (.int .i64 (v : Nat))) X gB B n p (hp.set i v) nh nt ve vp vi vb gh gg vs vt sz gz ts := by
  obtain ⟨t1, t2, t3, t4, t5, t6, t7⟩ := h.types
  have hk : ∀ k, k ≠ gh → (w.setCell ⟨gh, i, none⟩ (.int .i64 (v : Nat))).heap[k]? = w.heap[k]? := fun k hk => Below.heap_setCell w _ _ k hk
  refine ⟨(hk X t1).trans h.box, h.part.keep (fun k hf => hk k (h.nP k hf).2.1), by rw [ints_set]; exact h.heap.set i _, owns_keep h.size (fun g hg => hk g (fun e => h.nSH (e ▸ hg))), owns_keep h.took (fun g hg => hk g (fun e => t5 (e ▸ hg))),
    h.gauge.keep (hk gg (fun e => h.nHG e.symm)), by rw [List.length_set]; exact h.hl, h.gl, h.inX, h.inH, h.inG, h.inS, h.inT, h.inP, h.nHG, h.nSH, h.nSG, h.nP⟩

/-- A state's gauge is written. -/
theorem PlayAt.setGauge (h : PlayAt F w X gB B n p hp nh nt ve vp vi vb gh gg vs vt sz gz ts) (i : Nat) (v : Int) : PlayAt F (w.setCell ⟨gg, i, none⟩ (.int .i64 v)) X gB B n p hp nh nt ve vp vi vb gh gg vs vt sz (gz.set i v) ts := by
  obtain ⟨t1, t2, t3, t4, t5, t6, t7⟩ := h.types
  have hk : ∀ k, k ≠ gg → (w.setCell ⟨gg, i, none⟩ (.int .i64 v)).heap[k]? = w.heap[k]? := fun k hk => Below.heap_setCell w _ _ k hk
  refine ⟨(hk X t2).trans h.box, h.part.keep (fun k hf => hk k (h.nP k hf).2.2.1), h.heap.keep (hk gh h.nHG), owns_keep h.size (fun g hg => hk g (fun e => h.nSG (e ▸ hg))), owns_keep h.took (fun g hg => hk g (fun e => t6 (e ▸ hg))),
    by have := h.gauge.set i (.int .i64 v); simpa [ivs, List.map_set] using this, h.hl, by rw [List.length_set]; exact h.gl, h.inX, h.inH, h.inG, h.inS, h.inT, h.inP, h.nHG, h.nSH, h.nSG, h.nP⟩

/-- A heap's size is written. -/
theorem PlayAt.setSize (h : PlayAt F w X gB B n p hp nh nt ve vp vi vb gh gg vs vt sz gz ts) {g : Nat} (hg : vs.ownBlock = some g) (i : Nat) (v : Int) : PlayAt F (w.setCell ⟨g, i, none⟩ (.int .i64 v)) X gB B n p hp nh nt ve vp vi vb gh gg vs vt (sz.set i v) gz ts := by
  obtain ⟨t1, t2, t3, t4, t5, t6, t7⟩ := h.types
  have hk : ∀ k, k ≠ g → (w.setCell ⟨g, i, none⟩ (.int .i64 v)).heap[k]? = w.heap[k]? := fun k hk => Below.heap_setCell w _ _ k hk
  refine ⟨(hk X (fun e => t3 (e ▸ hg))).trans h.box, h.part.keep (fun k hf => hk k (fun e => (h.nP k hf).2.2.2.1 (e ▸ hg))), h.heap.keep (hk gh (fun e => h.nSH (e ▸ hg))), ?_, owns_keep h.took (fun k hk2 => hk k (fun e => t7 g hg (e ▸ hk2))),
    h.gauge.keep (hk gg (fun e => h.nSG (e ▸ hg))), h.hl, h.gl, h.inX, h.inH, h.inG, h.inS, h.inT, h.inP, h.nHG, h.nSH, h.nSG, h.nP⟩
  rcases owns_cases h.size with ⟨rfl, -⟩ | ⟨g', cap, rfl, hr, h1, h2, h3⟩
  · cases hg
  · simp only [Value.ownBlock, Option.some.injEq] at hg
    subst hg
    have hr2 := hr.set i (.int .i64 v)
    have : (ivs sz).set i (.int .i64 v) = ivs (sz.set i v) := by simp [ivs, List.map_set]
    rw [this] at hr2
    exact hr2.owns h1 h2 (by rw [ivs_len, List.length_set, ← ivs_len]; exact h3)

theorem box7 {F : Nat → Prop} {w : World} (h : PlayAt F w X gB B n p hp nh nt ve vp vi vb gh gg vs vt sz gz ts) (k : Nat) : w.frozen? ⟨X, k, none⟩ = false := by
  simp [World.frozen?, h.box]

/-- A slice was put into the place of the sizes. -/
theorem PlayAt.newSize {w9 : World} {v9 : Value} {sz9 : List Int} {nh9 : Nat} (h : PlayAt F w X gB B n p hp nh nt ve vp vi vb gh gg vs vt sz gz ts) (hown : w9.ownsRow 0 3 1 v9 nh9 (ivs sz9)) (hat : ∀ k, v9.ownBlock = some k → vs.ownBlock = some k ∨ w.heap.size ≤ k)
    (ht : Turned (fun k => vs.ownBlock = some k) w w9) : PlayAt (More F w) (w9.setCell ⟨X, 3, none⟩ v9) X gB B n p hp nh9 nt ve vp vi vb gh gg v9 vt sz9 gz ts ∧ Turned F w (w9.setCell ⟨X, 3, none⟩ v9) := by
  obtain ⟨t1, t2, t3, t4, t5, t6, t7⟩ := h.types
  have hX : w9.heap[X]? = w.heap[X]? := ht.block X h.lt t3
  have hk : ∀ k, k < w.heap.size → k ≠ X → vs.ownBlock ≠ some k → (w9.setCell ⟨X, 3, none⟩ v9).heap[k]? = w.heap[k]? := fun k hk h1 h2 => (Below.heap_setCell w9 _ _ k h1).trans (ht.block k hk h2)
  have hlt : ∀ k, v9.ownBlock = some k → k ≠ X := fun k hkb e => by
    subst e
    rcases hat k hkb with e | e
    · exact t3 e
    · have := h.lt; omega
  refine ⟨⟨?_, h.part.keep (fun k hf => hk k (h.part.foot_lt hf) (h.nP k hf).1 (h.nP k hf).2.2.2.1), h.heap.keep (hk gh h.heap.lt (fun e => t1 e.symm) h.nSH), owns_keep hown (fun g hg => Below.heap_setCell w9 _ _ g (hlt g hg)),
    owns_keep h.took (fun g hg => hk g (owns_lt h.took hg) (fun e => t4 (e ▸ hg)) (fun e => t7 g e hg)), h.gauge.keep (hk gg h.gauge.lt (fun e => t2 e.symm) h.nSG), h.hl, h.gl, .inl h.inX, .inl h.inH, .inl h.inG, fun k hk2 => ?_, fun k hk2 => .inl (h.inT k hk2), fun k hk2 => .inl (h.inP k hk2), h.nHG, fun e => ?_, fun e => ?_, fun k hk2 => ?_⟩, ?_⟩
  · have := box_setCell (hX.trans h.box) 3 v9
    rw [this]; rfl
  · rcases hat k hk2 with e | e
    · exact .inl (h.inS k e)
    · exact .inr e
  · rcases hat gh e with e | e
    · exact h.nSH e
    · have := h.heap.lt; omega
  · rcases hat gg e with e | e
    · exact h.nSG e
    · have := h.gauge.lt; omega
  · obtain ⟨a, b, c, d, e⟩ := h.nP k hk2
    refine ⟨a, b, c, fun e2 => ?_, e⟩
    rcases hat k e2 with e3 | e3
    · exact d e3
    · have := h.part.foot_lt hk2; omega
  · exact (ht.mono (fun k _ hk2 => h.inS k hk2)).set1 h.inX v9

/-- A slice was put into the place of the takings. -/
theorem PlayAt.newTook {w9 : World} {v9 : Value} {ts9 : List Value} {nt9 : Nat} (h : PlayAt F w X gB B n p hp nh nt ve vp vi vb gh gg vs vt sz gz ts) (hown : w9.ownsRow 0 35 1 v9 nt9 ts9) (hat : ∀ k, v9.ownBlock = some k → vt.ownBlock = some k ∨ w.heap.size ≤ k)
    (ht : Turned (fun k => vt.ownBlock = some k) w w9) : PlayAt (More F w) (w9.setCell ⟨X, 5, none⟩ v9) X gB B n p hp nh nt9 ve vp vi vb gh gg vs v9 sz gz ts9 ∧ Turned F w (w9.setCell ⟨X, 5, none⟩ v9) := by
  obtain ⟨t1, t2, t3, t4, t5, t6, t7⟩ := h.types
  have hX : w9.heap[X]? = w.heap[X]? := ht.block X h.lt t4
  have hk : ∀ k, k < w.heap.size → k ≠ X → vt.ownBlock ≠ some k → (w9.setCell ⟨X, 5, none⟩ v9).heap[k]? = w.heap[k]? := fun k hk h1 h2 => (Below.heap_setCell w9 _ _ k h1).trans (ht.block k hk h2)
  have hlt : ∀ k, v9.ownBlock = some k → k ≠ X := fun k hkb e => by
    subst e
    rcases hat k hkb with e | e
    · exact t4 e
    · have := h.lt; omega
  refine ⟨⟨?_, h.part.keep (fun k hf => hk k (h.part.foot_lt hf) (h.nP k hf).1 (h.nP k hf).2.2.2.2), h.heap.keep (hk gh h.heap.lt (fun e => t1 e.symm) t5), owns_keep h.size (fun g hg => hk g (owns_lt h.size hg) (fun e => t3 (e ▸ hg)) (fun e => t7 g hg e)),
    owns_keep hown (fun g hg => Below.heap_setCell w9 _ _ g (hlt g hg)), h.gauge.keep (hk gg h.gauge.lt (fun e => t2 e.symm) t6), h.hl, h.gl, .inl h.inX, .inl h.inH, .inl h.inG, fun k hk2 => .inl (h.inS k hk2), fun k hk2 => ?_, fun k hk2 => .inl (h.inP k hk2), h.nHG, h.nSH, h.nSG, fun k hk2 => ?_⟩, ?_⟩
  · have := box_setCell (hX.trans h.box) 5 v9
    rw [this]; rfl
  · rcases hat k hk2 with e | e
    · exact .inl (h.inT k e)
    · exact .inr e
  · obtain ⟨a, b, c, d, e⟩ := h.nP k hk2
    refine ⟨a, b, c, d, fun e2 => ?_⟩
    rcases hat k e2 with e3 | e3
    · exact e e3
    · have := h.part.foot_lt hk2; omega
  · exact (ht.mono (fun k _ hk2 => h.inT k hk2)).set1 h.inX v9
end

/-- What took leaves. -/
def TookPlay (F : Nat → Prop) (w : World) (X gB B n : Nat) (p : Rf.St) (hp : List Nat) (nh nt : Nat) (r : Ending) (w' : World) : Prop :=
  r = .returned (.tuple #[]) ∧ Turned F w w' ∧ Play (More F w) w' X gB B n p hp nh (nt + 1)

theorem grown_turned {w w9 : World} {o : Obj} {v : Value} (hg : (w.alloc o).grownBy w9 v.ownBlock) : Turned (fun k => v.ownBlock = some k) w w9 :=
  ((Turned.refl _ w).alloc o).grown hg (fun k hk => .inl hk)

/-- A taking is appended. -/
theorem PlayAt.tookPush {F : Nat → Prop} {w w9 : World} {X gB B n : Nat} {p : Rf.St} {hp : List Nat} {nh nt : Nat} {ve vp vi vb : Value} {gh gg : Nat} {vs vt v9 : Value} {sz gz : List Int} {ts ts9 : List Value} {o : Obj}
    (h : PlayAt F w X gB B n p hp nh nt ve vp vi vb gh gg vs vt sz gz ts) (hown : w9.ownsRow 0 35 1 v9 (nt + 1) ts9) (hg : (w.alloc o).grownBy w9 vt.ownBlock) (hat : v9.ownBlock = vt.ownBlock ∨ v9.ownBlock = some (w.alloc o).heap.size) :
    w9.cell? ⟨X, 5, none⟩ = some vt ∧ w9.frozen? ⟨X, 5, none⟩ = false ∧ Hid (PlayAt (More F w) (w9.setCell ⟨X, 5, none⟩ v9) X gB B n p hp nh (nt + 1) ve vp vi vb gh gg vs v9 sz gz ts9 ∧ Turned F w (w9.setCell ⟨X, 5, none⟩ v9)) := by
  have ht := grown_turned hg
  have hb : w9.heap[X]? = _ := (ht.block X h.lt h.types.2.2.2.1).trans h.box
  refine ⟨by simp [World.cell?, hb], by simp [World.frozen?, hb], Lib.hid (h.newTook hown (fun k hk => ?_) ht)⟩
  rcases hat with e | e
  · exact .inl (e ▸ hk)
  · right
    rw [e] at hk
    simp only [Option.some.injEq, World.size_alloc] at hk
    omega

set_option maxHeartbeats 4000000 in
set_option maxRecDepth 100000 in
theorem took_in {F : Nat → Prop} {w : World} {X gB B n : Nat} {p : Rf.St} {hp : List Nat} {nh nt : Nat} (h : Play F w X gB B n p hp nh nt) (hnt : nt ≤ 1000) (hn : n ≤ 1000)
    {v : Value} {L : List Nat} (hv : LstOut F w v L) (hL : ∀ x ∈ L, x < n) (hLl : L.length ≤ 1000) :
    Calls Tryz.prog 187 #[.pointer (some ⟨X, 0, none⟩), v] w (TookPlay F w X gB B n p hp nh nt) := by
  obtain ⟨ve, vp, vi, vb, gh, gg, vs, vt, sz, gz, ts, hA⟩ := h
  obtain ⟨i0, hi, hz0, hz1, hz2⟩ := info_parts Tryz.sliceInfoD
  obtain ⟨ao, cap, g, off, rfl, ha, hc⟩ := hv
  obtain ⟨nL, hnL⟩ : ∃ k, k = L.length := ⟨_, rfl⟩
  rw [← hnL] at ha hc hLl ⊢
  have HV : Hid (∀ k, k < nL → ao = some ⟨g, off, none⟩ ∧ ¬ F g ∧ g < w.heap.size ∧ w.cell? ⟨g, off + k, none⟩ = some (.int .i64 ((L.getD k 0 : Nat) : Int)) ∧ L.getD k 0 < n) := Lib.hid (fun k hk => by
    obtain ⟨a, b, c⟩ := ha (by omega)
    refine ⟨a, b, c, hc k hk, hL _ ?_⟩
    have hk2 : k < L.length := by omega
    have e : L.getD k 0 = L[k] := by simp [List.getD, hk2]
    rw [e]; exact List.getElem_mem _)
  have c5 := hA.cells.2.2.2.2.2.1
  have htk := hA.took
  obtain ⟨at1, ct1, hvt⟩ := owns_shape' htk
  subst hvt
  have HA := Lib.hid hA
  have HTK := Lib.hid htk
  have f5 := box7 hA 5
  clear hA ha hc hnL htk
  go_enter Tryz.func187, Tryz.ntmps187
  go_wp2_with (at_builtin; (refine wpList_append_at rfl (.tmp 11) (.tmp 13) 48 rfl 0 35 i0 (.slice none 0 0) 1 24 Tryz.underlying48 hi hz0 hz1 hz2 rfl (by decide) _ nt ts rfl (HTK.out.alloc _) ⟨w.heap.size, 0, none⟩ 1 1 [.slice ao nL cap] rfl rfl (cell_one_new _ _ _) (one_cell_sl _ _ _) (by unfold maxLen; omega) (by omega) (Nat.zero_le _) ?_); intro v9 w9 hown9 hgrow9 hat9; (obtain ⟨a9, c9, hv9⟩ := owns_shape' hown9); subst hv9; (have hg9 : (w.alloc (.cells #[.slice ao nL cap] 35)).grownBy w9 (Value.slice at1 nt ct1).ownBlock := hgrow9); have hh := HA.out.tookPush hown9 hg9; have hh2 := hh hat9; obtain ⟨c59, f59, HP9⟩ := hh2; clear hown9 hgrow9 hat9 hg9 hh)
  obtain ⟨w1, hw1⟩ : ∃ w1, w1 = w9.setCell ⟨X, 5, none⟩ (.slice a9 (nt + 1) c9) := ⟨_, rfl⟩
  rw [← hw1] at HP9 ⊢
  clear hw1 c59 f59 c5 f5
  go_loopw [20] (fun i wr => ∃ (k : Nat) (gz2 : List Int), i = .int .i64 k ∧ k ≤ nL ∧ Hid (PlayAt (More F w) wr X gB B n p hp nh (nt + 1) ve vp vi vb gh gg vs (.slice a9 (nt + 1) c9) sz gz2 (ts ++ [.slice ao nL cap]) ∧ Turned F w wr)) (fun i _ => nL - (intOf i).toNat)
  case atStart => exact ⟨0, gz, rfl, Nat.zero_le _, HP9⟩
  case round =>
    clear HP9
    obtain ⟨k, gz2, rfl, hk, HP⟩ := hrel
    by_cases hlt : k < nL
    · obtain ⟨rfl, hF, hgl, d1, hxn⟩ := HV.out k hlt
      have d2 : wr.cell? ⟨g, off + k, none⟩ = some (.int .i64 ((L.getD k 0 : Nat) : Int)) := by
        simp only [World.cell?] at d1 ⊢
        rw [HP.out.2.block g hgl hF]; exact d1
      obtain ⟨x, hx⟩ : ∃ x, x = L.getD k 0 := ⟨_, rfl⟩
      rw [← hx] at d2 hxn
      have c6 := HP.out.1.cells.2.2.2.2.2.2
      have hgg := HP.out.1.gauge
      have hgc : wr.cell? ⟨gg, x, none⟩ = some (.int .i64 (gz2.getD x 0)) := hgg.cell (by simp [ivs, List.getD, show x < gz2.length by rw [HP.out.1.gl]; exact hxn])
      have hgf := hgg.free x
      obtain ⟨y, hy⟩ : ∃ y, y = gz2.getD x 0 := ⟨_, rfl⟩
      rw [← hy] at hgc
      clear hx hy d1 hF hgl hgg
      go_wp2_with fail
      go_roundw
      case rel => exact ⟨k + 1, _, by go_num, by omega, Lib.hid ⟨HP.out.1.setGauge x _, HP.out.2.setCell (.inl HA.out.inG) _⟩⟩
      case measure => simp [intOf]; omega
    · obtain rfl : k = nL := by omega
      go_wp2_with fail
      go_end0
      exact ⟨rfl, HP.out.2, _, _, _, _, _, _, _, _, _, _, _, HP.out.1⟩

end Go.Proofs.YtkcdkfkgjjpaaaaGreatDoor

namespace Go.Proofs.YtkcdkfkgjjpaaaaGreatDoor
open Go.RowKit Go.Sort Go.Maps
set_option linter.unusedVariables false
set_option linter.unusedSimpArgs false

/-- One of a block's states, and the heap of it. -/
def fst (p : Rf.St) (b : Nat) : Nat := (p.row b).getD 0 0
def hof (p : Rf.St) (hp : List Nat) (b : Nat) : Nat := hp.getD (fst p b) 0

/-- Blocks by their heaps. -/
def blkL (p : Rf.St) (hp : List Nat) (k : Nat) : List (Int × Int) := (List.range k).map fun b => (((hof p hp b : Nat) : Int), (b : Int))

theorem blkL_succ (p : Rf.St) (hp : List Nat) (k : Nat) : blkL p hp (k + 1) = blkL p hp k ++ [(((hof p hp k : Nat) : Int), (k : Int))] := by simp [blkL, List.range_succ]
theorem blkL_len (p : Rf.St) (hp : List Nat) (k : Nat) : (blkL p hp k).length = k := by simp [blkL]

theorem fst_in {p : Rf.St} {n b : Nat} (hI : Rf.Inv p n) (hb : b < p.blocks.length) : fst p b < n ∧ p.I (fst p b) = b := by
  have bb := hI.b1 b hb
  have hl := Rf.row_len hI hb
  have h0 : 0 < (p.row b).length := by omega
  have e : fst p b = (p.row b)[0] := by simp [fst, List.getD, h0]
  rw [e]
  exact (Rf.mem_row hI hb).1 (List.getElem_mem h0)

theorem mem_blk {p : Rf.St} {hp : List Nat} {nh l : Nat} (hl : l < nh) (k : Nat) (y : Int) : y ∈ (Sg.bucket nh (blkL p hp k)).getD l [] ↔ ∃ b : Nat, y = (b : Int) ∧ b < k ∧ hof p hp b = l := by
  rw [Sg.mem_bucket hl]
  simp only [blkL, List.mem_map, List.mem_range, Prod.mk.injEq]
  constructor
  · rintro ⟨b, h1, h2, h3⟩; exact ⟨b, h3.symm, h1, by omega⟩
  · rintro ⟨b, h1, h2, h3⟩; exact ⟨b, h2, by rw [h3], h1.symm⟩

theorem blk_nodup (p : Rf.St) (hp : List Nat) (nh k : Nat) {l : Nat} (hl : l < nh) : ((Sg.bucket nh (blkL p hp k)).getD l []).Nodup := by
  rw [Sg.bucket_get _ hl]
  have h1 : ((blkL p hp k).map Prod.snd).Nodup := by
    have e : (blkL p hp k).map Prod.snd = (List.range k).map Int.ofNat := by simp [blkL]
    rw [e]
    exact (List.nodup_range (n := k)).map (f := Int.ofNat) (fun a b h => fun e => h (Int.ofNat.inj e))
  exact List.Nodup.sublist ((List.filter_sublist).map _) h1

/-- What blocks leaves. -/
def BlocksGot (w : World) (p : Rf.St) (hp : List Nat) (nh : Nat) (r : Ending) (w' : World) : Prop :=
  ∃ O vs, r = .returned (.slice (some ⟨O, 0, none⟩) nh nh) ∧ Hid (FromAt w w' O nh (blkL p hp p.blocks.length) vs)

set_option maxHeartbeats 8000000 in
set_option maxRecDepth 100000 in
theorem blocks_in {F : Nat → Prop} {w : World} {X gB B n : Nat} {p : Rf.St} {hp : List Nat} {nh nt : Nat} (h : Play F w X gB B n p hp nh nt) (hI : Rf.Inv p n) (hn : n ≤ 1000) (hH : ∀ x, x < n → hp.getD x 0 < nh) (hnh : nh ≤ 1000) :
    Calls Tryz.prog 189 #[.pointer (some ⟨X, 0, none⟩)] w (BlocksGot w p hp nh) := by
  obtain ⟨ve, vp, vi, vb, gh, gg, vs0, vt, sz, gz, ts, hA⟩ := h
  obtain ⟨i0, hi, hz0, hz1, hz2⟩ := info_parts Tryz.sliceInfoD
  obtain ⟨j0, hj, gz0, gz1, gz2⟩ := info_parts Tryz.intsInfo
  obtain ⟨as1, cs1, hvs⟩ := owns_shape' hA.size
  subst hvs
  have HC : Hid (∀ W, Up w W → W.cell? ⟨X, 1, none⟩ = some (.pointer (some ⟨B, 0, none⟩)) ∧ W.cell? ⟨X, 2, none⟩ = some (.slice (some ⟨gh, 0, none⟩) n n)) := Lib.hid (fun W hu => ⟨hu.cell hA.cells.2.1, hu.cell hA.cells.2.2.1⟩)
  have c1 := hA.cells.2.1
  have c3 := hA.cells.2.2.2.1
  obtain ⟨nb, hnb⟩ : ∃ nb, nb = p.blocks.length := ⟨_, rfl⟩
  have HB : Hid (Calls Tryz.prog 225 #[.pointer (some ⟨B, 0, none⟩)] w fun e w' => e = .returned (.int .i64 (nb : Nat)) ∧ w = w') := Lib.hid (by rw [hnb]; exact blocks_any hA.part)
  have HBB : Hid (∀ W, Up w W → Calls Tryz.prog 225 #[.pointer (some ⟨B, 0, none⟩)] W fun e w' => e = .returned (.int .i64 (nb : Nat)) ∧ W = w') := Lib.hid (fun W hu => by rw [hnb]; exact blocks_any (hA.part.below hu))
  have hnb1 : nb ≤ 1000 := by rw [hnb]; have := Rf.blocks_le hI; omega
  have HFI : Hid (∀ W k, Up w W → k < nb → Calls Tryz.prog 226 #[.pointer (some ⟨B, 0, none⟩), .int .i64 (k : Nat)] W fun r w' => r = .returned (.int .i64 (fst p k : Nat)) ∧ Up W w') := Lib.hid (fun W k hu hk => first_in (hA.part.below hu) hI hn (by omega))
  have HX : Hid (∀ k, k < nb → fst p k < n ∧ w.cell? ⟨gh, fst p k, none⟩ = some (.int .i64 (hof p hp k : Nat)) ∧ hof p hp k < nh) := Lib.hid (fun k hk => by
    have h1 := (fst_in hI (by omega : k < p.blocks.length)).1
    refine ⟨h1, hA.heap.cell ?_, hH _ h1⟩
    rw [ints_get (by rw [hA.hl]; exact h1)]; rfl)
  have HNB := Lib.hid hnb
  clear hA hI hH hnb
  go_enter Tryz.func189, Tryz.ntmps189
  go_wp2_with (first
    | (go_at_call 225; refine (HBB.out _ HU2.out).mono ?_; rintro e w' ⟨rfl, rfl⟩)
    | (at_make; refine wpList_make_full _ rfl _ _ 48 rfl w.heap.size 35 i0 (.slice none 0 0) 1 Tryz.underlying48 hi hz0 hz1 _ _ _ _ nh rfl rfl rfl rfl (by rw [hz2]; omega) (by unfold maxLen; omega) (Nat.le_refl _) ?_; intro w2 hown hgrow; (obtain ⟨hrow, -, -, -⟩ := Row.of hown); (have e : (madeCells (Value.slice none 0 0).cells (nh * 1)).toList = List.replicate nh (Value.slice none 0 0) := by rw [Nat.mul_one]; exact toList_madeCells_one _ _); rw [e, Nat.mul_one] at hrow; (have hu12 : Up w w2 := (Up.refl w).grown hgrow (fun k hk => by cases hk)); (have HF0 := Lib.hid (FromAt.start (Up.refl w) hrow hu12)); (have cx1 := (HC.out w2 hu12).1); (have HU2 := Lib.hid hu12); clear e hrow hgrow hu12 hown))
  obtain ⟨O, hO⟩ : ∃ O, O = w.heap.size := ⟨_, rfl⟩
  rw [← hO] at HF0 ⊢
  clear hO cx1 c1 c3
  go_loopw [17] (fun i wr => ∃ (k : Nat) (vs : List Value), i = .int .i64 k ∧ k ≤ nb ∧ Hid (FromAt w wr O nh (blkL p hp k) vs)) (fun i _ => nb - (intOf i).toNat)
  case atStart => exact ⟨0, _, rfl, Nat.zero_le _, HF0⟩
  case round =>
    clear HF0
    obtain ⟨k, vs, rfl, hk, HF⟩ := hrel
    by_cases hlt : k < nb
    · obtain ⟨hfn, hcg, hlm⟩ := HX.out k hlt
      obtain ⟨hx1, hx2⟩ := HC.out wr HF.out.up
      have hcg2 := HF.out.up.cell hcg
      obtain ⟨x, hx⟩ : ∃ x, x = fst p k := ⟨_, rfl⟩
      obtain ⟨l, hl⟩ : ∃ l, l = hof p hp k := ⟨_, rfl⟩
      have HFK : Hid (∀ W, Up wr W → Calls Tryz.prog 226 #[.pointer (some ⟨B, 0, none⟩), .int .i64 (k : Nat)] W fun r w' => r = .returned (.int .i64 (x : Nat)) ∧ Up W w') := Lib.hid (fun W hu => by rw [hx]; exact HFI.out W k (HF.out.up.trans hu) hlt)
      rw [← hx, ← hl] at hcg2
      rw [← hx] at hfn
      rw [← hl] at hlm
      have hol := HF.out.own hlm
      have hcl := HF.out.cell hlm
      have hOl := HF.out.row.lt
      have hOf := HF.out.row.free l
      obtain ⟨KL, hKL⟩ : ∃ KL, KL = ((Sg.bucket nh (blkL p hp k)).getD l []).length := ⟨_, rfl⟩
      have hKLb : KL ≤ 1000 := by
        rw [hKL]
        have h1 := Sg.bucket_le (blkL p hp k) hlm
        rw [blkL_len] at h1
        omega
      obtain ⟨a4, c4, hv4⟩ := owns_shape' hol
      rw [← hKL] at hv4 hol
      obtain ⟨va, hva⟩ : ∃ va, va = vs.getD l undef := ⟨_, rfl⟩
      rw [← hva] at hv4 hol hcl
      subst hv4
      have HVA := Lib.hid hva
      have HOL := Lib.hid hol
      have HKL := Lib.hid hKL
      have HL := Lib.hid hl
      have HLM2 := Lib.hid hlm
      clear hva hol hKL hcg hx hl
      have q1 : (x : Int) < (n : Int) := by omega
      have q2 : (l : Int) < (nh : Int) := by omega
      go_upto_region 5 with fail
      refine wp_region_ord 12 [(0, true), (1, true), (2, true), (3, true), (4, true), (5, true), (6, true), (7, true), (8, true), (9, false), (10, true), (11, true)] (fun y => y.cell? ⟨X, 1, none⟩ = some (.pointer (some ⟨B, 0, none⟩)) ∧ y.cell? ⟨X, 2, none⟩ = some (.slice (some ⟨gh, 0, none⟩) n n) ∧ y.cell? ⟨gh, x, none⟩ = some (.int .i64 (l : Nat))) (by kernel_rfl) (by kernel_rfl) (fun _ _ _ _ _ h => h) ⟨hx1, hx2, hcg2⟩ ?_
      iterate 9
        refine WO.still rfl rfl (fun K hK => ?_)
        apply Exists.intro
        refine ⟨?_, hK _ ?_⟩
        · intro w' hS
          have s1 : w'.cell? ⟨X, 1, none⟩ = some (.pointer (some ⟨B, 0, none⟩)) := hS.1
          have s2 : w'.cell? ⟨X, 2, none⟩ = some (.slice (some ⟨gh, 0, none⟩) n n) := hS.2.1
          go_simp
          first | done | rfl | exact ⟨rfl, rfl⟩
        clear hK K
      refine WO.act rfl rfl (fun K hK => ?_)
      go_simp
      go_at_call 226
      refine (HFK.out _ (Up.refl _).drew).mono ?_
      rintro r w3 ⟨rfl, hu3'⟩
      have hu3 : Up wr w3 := ((Up.refl wr).drew).trans hu3'
      clear hu3'
      refine hK _ _ ⟨hu3.cell hx1, hu3.cell hx2, hu3.cell hcg2⟩ ?_
      clear hK K
      iterate 2
        refine WO.still rfl rfl (fun K hK => ?_)
        apply Exists.intro
        refine ⟨?_, hK _ ?_⟩
        · intro w' hS
          have s3 : w'.cell? ⟨gh, x, none⟩ = some (.int .i64 (l : Nat)) := hS.2.2
          go_simp
          first | done | rfl | exact ⟨rfl, rfl⟩
        clear hK K
      refine WO.last rfl rfl (fun K hK => ?_)
      go_simp
      refine hK _ _ ?_
      clear hK K
      have HU3 := Lib.hid hu3
      have hcl3 := hu3.cell hcl
      clear hu3 hx1 hx2 hcg2 hcl
      go_wp2_with (at_builtin; (refine wpList_append_at rfl (.tmp 37) (.tmp 39) 35 rfl (O + 1) 3 j0 (.int .i64 0) 1 8 Tryz.underlying35 hj gz0 gz1 gz2 rfl (by decide) (.slice a4 KL c4) KL _ rfl (Up.owns (HU3.out.alloc _) HOL.out) ⟨w3.heap.size, 0, none⟩ 1 1 [.int .i64 (k : Nat)] rfl rfl (cell_one_new _ _ _) (fun u hu => by simp only [List.mem_singleton] at hu; subst hu; rfl) (by unfold maxLen; omega) (by omega) (by have h1 := HU3.out.size; simp only [World.size_alloc]; omega) ?_); intro v9 w4 hown4 hgrow4 hat4; (obtain ⟨a5, c5, hv5⟩ := owns_shape' hown4); subst hv5; (have hg4 : (w3.alloc (.cells #[.int .i64 (k : Nat)] 3)).grownBy w4 (Value.slice a4 KL c4).ownBlock := hgrow4); (have hne : (Value.slice a4 KL c4).ownBlock ≠ some O := fun e => by have := (HOL.out.lt O e).1; omega); (have hS4 := grown_cell hg4 (((Up.refl w3).alloc _).cell hcl3) hne); (have hf4 : w4.frozen? ⟨O, l, none⟩ = false := (HF.out.row.keep ((hg4.block O (Nat.lt_of_lt_of_le hOl ((HU3.out.alloc _).size)) (fun e => hne e.symm)).trans ((HU3.out.alloc _).block O hOl))).free l); (have HP : Hid (FromAt w (w4.setCell ⟨O, l, none⟩ (.slice a5 (KL + 1) c5)) O nh (blkL p hp k ++ [((l : Int), (k : Int))]) (vs.set l (.slice a5 (KL + 1) c5))) := Lib.hid (HF.out.push HLM2.out (HU3.out.alloc _) (by rw [← HKL.out]; exact hown4) (by rw [← HVA.out]; exact hg4) (by rw [← HVA.out]; exact hat4))); clear hown4 hgrow4 hat4 hg4 hne)
      go_roundw
      case rel => exact ⟨k + 1, _, by go_num, by omega, Lib.hid (by rw [blkL_succ, ← HL.out]; exact HP.out)⟩
      case measure => simp [intOf]; omega
    · obtain rfl : k = nb := by omega
      go_wp2_with fail
      go_ret
      exact ⟨O, vs, rfl, by rw [← HNB.out]; exact HF⟩

end Go.Proofs.YtkcdkfkgjjpaaaaGreatDoor

namespace Go.Proofs.YtkcdkfkgjjpaaaaGreatDoor
open Go.RowKit Go.Sort Go.Maps
set_option linter.unusedVariables false
set_option linter.unusedSimpArgs false

/-- An integer is answered. -/
def SomeInt (w : World) (r : Ending) (w' : World) : Prop := ∃ z : Int, r = .returned (.int .i64 z) ∧ Up w w'

set_option maxHeartbeats 4000000 in
set_option maxRecDepth 100000 in
theorem small1_any {w : World} {bx X B n a b : Nat} {p : Rf.St} {ve vp vi vb : Value} (hb : w.cell? ⟨bx, 0, none⟩ = some (.pointer (some ⟨X, 0, none⟩))) (hx : w.cell? ⟨X, 1, none⟩ = some (.pointer (some ⟨B, 0, none⟩)))
    (hp : PartAt w B ve vp vi vb p) (hI : Rf.Inv p n) (hn : n ≤ 1000) (ha : a < p.blocks.length) (hbb : b < p.blocks.length) :
    Calls Tryz.prog 191 #[.int .i64 (a : Nat), .int .i64 (b : Nat), .pointer (some ⟨bx, 0, none⟩)] w (SomeInt w) := by
  have hLN : ∀ W (c : Nat), Up w W → c < p.blocks.length → Calls Tryz.prog 192 #[.pointer (some ⟨B, 0, none⟩), .int .i64 (c : Nat)] W fun r w' => ∃ k : Nat, r = .returned (.int .i64 (k : Nat)) ∧ Up W w' := fun W c hu hc =>
    (len_in (hp.below hu) hI hn hc).mono (fun r w' h => ⟨_, h.1, h.2⟩)
  have HLA : Hid (∀ W, Up w W → Calls Tryz.prog 192 #[.pointer (some ⟨B, 0, none⟩), .int .i64 (a : Nat)] W fun r w' => ∃ k : Nat, r = .returned (.int .i64 (k : Nat)) ∧ Up W w') := Lib.hid (fun W hu => hLN W a hu ha)
  have HLB : Hid (∀ W, Up w W → Calls Tryz.prog 192 #[.pointer (some ⟨B, 0, none⟩), .int .i64 (b : Nat)] W fun r w' => ∃ k : Nat, r = .returned (.int .i64 (k : Nat)) ∧ Up W w') := Lib.hid (fun W hu => hLN W b hu hbb)
  clear hp hI hn ha hbb hLN
  go_enter Tryz.func191, Tryz.ntmps191
  go_upto_region 1 with fail
  refine wp_region_ord 13 [(0, true), (1, true), (2, true), (3, true), (4, true), (6, true), (7, true), (8, true), (9, true), (10, true), (5, false), (11, false), (12, true)] (fun y => y.cell? ⟨bx, 0, none⟩ = some (.pointer (some ⟨X, 0, none⟩)) ∧ y.cell? ⟨X, 1, none⟩ = some (.pointer (some ⟨B, 0, none⟩))) (by kernel_rfl) (by kernel_rfl) (fun _ _ _ _ _ h => h) ⟨hb, hx⟩ ?_
  iterate 10
    refine WO.still rfl rfl (fun K hK => ?_)
    apply Exists.intro
    refine ⟨?_, hK _ ?_⟩
    · intro w' hS
      have s1 : w'.cell? ⟨bx, 0, none⟩ = some (.pointer (some ⟨X, 0, none⟩)) := hS.1
      have s2 : w'.cell? ⟨X, 1, none⟩ = some (.pointer (some ⟨B, 0, none⟩)) := hS.2
      go_simp
      first | done | rfl | exact ⟨rfl, rfl⟩
    clear hK K
  refine WO.act rfl rfl (fun K hK => ?_)
  go_simp
  go_at_call 192
  refine (HLA.out _ (Up.refl _).drew).mono ?_
  rintro r w3 ⟨ka, rfl, hu3'⟩
  have hu3 : Up w w3 := ((Up.refl w).drew).trans hu3'
  clear hu3'
  refine hK _ _ ⟨hu3.cell hb, hu3.cell hx⟩ ?_
  clear hK K
  refine WO.act rfl rfl (fun K hK => ?_)
  go_simp
  go_at_call 192
  refine (HLB.out _ hu3).mono ?_
  rintro r w4 ⟨kb, rfl, hu4⟩
  have hu5 : Up w w4 := hu3.trans hu4
  clear hu4
  refine hK _ _ ⟨hu5.cell hb, hu5.cell hx⟩ ?_
  clear hK K
  refine WO.still rfl rfl (fun K hK => ?_)
  apply Exists.intro
  refine ⟨?_, hK _ ?_⟩
  · intro w' hS
    go_simp
    first | done | rfl | exact ⟨rfl, rfl⟩
  clear hK K
  refine WO.last rfl rfl (fun K hK => ?_)
  go_simp
  refine hK _ _ ?_
  clear hK K
  have HU5 := Lib.hid hu5
  clear hu3 hu5 hb hx
  go_wp2_with fail
  go_ret
  exact ⟨_, rfl, HU5.out⟩

/-- One of a list is answered. -/
def OneOf (w : World) (L : List Int) (nb : Nat) (r : Ending) (w' : World) : Prop := ∃ b : Nat, r = .returned (.int .i64 (b : Nat)) ∧ (b : Int) ∈ L ∧ b < nb ∧ Up w w'

set_option maxHeartbeats 4000000 in
set_option maxRecDepth 100000 in
theorem min_any {w : World} {bx X B n nb : Nat} {p : Rf.St} {ve vp vi vb v : Value} {L : List Int} (hb : w.cell? ⟨bx, 0, none⟩ = some (.pointer (some ⟨X, 0, none⟩))) (hx : w.cell? ⟨X, 1, none⟩ = some (.pointer (some ⟨B, 0, none⟩)))
    (hp : PartAt w B ve vp vi vb p) (hI : Rf.Inv p n) (hn : n ≤ 1000) (hnb : p.blocks.length = nb) (hv : Lst w v L) (hL : ∀ y ∈ L, ∃ b : Nat, y = (b : Int) ∧ b < nb) (h0 : 0 < L.length) (hl : L.length ≤ 1000) :
    Calls Tryz.prog 190 #[v, .func (.func 191) #[] #[.pointer (some ⟨bx, 0, none⟩)]] w (OneOf w L nb) := by
  have HC : Hid (∀ W (a b : Nat), Up w W → a < nb → b < nb → Calls Tryz.prog 191 #[.int .i64 (a : Nat), .int .i64 (b : Nat), .pointer (some ⟨bx, 0, none⟩)] W (SomeInt W)) := Lib.hid (fun W a b hu ha hbb =>
    small1_any (hu.cell hb) (hu.cell hx) (hp.below hu) hI hn (by omega) (by omega))
  obtain ⟨ao, cap, g, off, rfl, ha, hc⟩ := hv
  obtain ⟨nL, hnL⟩ : ∃ k, k = L.length := ⟨_, rfl⟩
  rw [← hnL] at h0 hl ha ⊢
  have ha' := ha h0
  subst ha'
  have HV : Hid (∀ k, k < nL → ∃ b : Nat, w.cell? ⟨g, off + k, none⟩ = some (.int .i64 (b : Nat)) ∧ (b : Int) ∈ L ∧ b < nb) := Lib.hid (fun k hk => by
    have hk2 : k < L.length := by omega
    have hm : L.getD k 0 ∈ L := by rw [← getD_of 0 hk2]; exact List.getElem_mem _
    obtain ⟨b, h1, h2⟩ := hL _ hm
    exact ⟨b, by rw [hc k hk2, h1], by rw [← h1]; exact hm, h2⟩)
  clear hb hx hp hI hn hnb hL ha hc hnL
  obtain ⟨b0, d0, m0, n0⟩ := HV.out 0 h0
  rw [Nat.add_zero] at d0
  have q0 : decide ((nL : Int) < 1) = false := by simp; omega
  have q1 : (0 : Int) < (nL : Int) := by omega
  have HM0 := Lib.hid (And.intro m0 n0)
  clear m0 n0
  go_enter Tryz.func190, Tryz.ntmps190
  go_wp2_with fail
  go_loopw [5, 6] (fun m i wr => ∃ k b : Nat, i = .int .i64 k ∧ k ≤ nL ∧ m = .int .i64 (b : Nat) ∧ Hid ((b : Int) ∈ L ∧ b < nb) ∧ Up w wr) (fun _ i _ => nL - (intOf i).toNat)
  case atStart => exact ⟨1, b0, rfl, by omega, rfl, HM0, Up.refl w⟩
  case round =>
    clear HM0 d0
    obtain ⟨k, b, rfl, hk, rfl, HB, hU⟩ := hrel
    have HU := Lib.hid hU
    by_cases hlt : k < nL
    · obtain ⟨c, dc, mc, nc⟩ := HV.out k hlt
      have dc2 := hU.cell dc
      have HMC := Lib.hid (And.intro mc nc)
      clear dc mc nc hU
      have q2 : (k : Int) < (nL : Int) := by omega
      go_wp2_with (go_at_call 191; refine (HC.out _ _ _ HU.out HMC.out.2 HB.out.2).mono ?_; rintro r w1 ⟨z, rfl, hu1⟩; (have dc3 := hu1.cell dc2); (have HU1 := Lib.hid (HU.out.trans hu1)); clear hu1 dc2)
      · go_roundw
        case rel => exact ⟨k + 1, c, by go_num, by omega, rfl, HMC, HU1.out⟩
        case measure => simp [intOf]; omega
      · go_roundw
        case rel => exact ⟨k + 1, b, by go_num, by omega, rfl, HB, HU1.out⟩
        case measure => simp [intOf]; omega
    · obtain rfl : k = nL := by omega
      clear hU
      go_wp2_with fail
      go_ret
      exact ⟨b, rfl, HB.out.1, HB.out.2, HU.out⟩

theorem other_of {l : List Int} (h : l.Nodup) (h2 : 2 ≤ l.length) (b : Int) : ∃ y ∈ l, y ≠ b := by
  match l, h, h2 with
  | x :: y :: t, h, _ =>
    by_cases e : x = b
    · refine ⟨y, by simp, fun e2 => ?_⟩
      have := (List.nodup_cons.1 h).1
      rw [e, ← e2] at this
      simp at this
    · exact ⟨x, by simp, e⟩

/-- What smallest leaves. -/
def SmallGot (w : World) (p : Rf.St) (hp : List Nat) (nh : Nat) (r : Ending) (w' : World) : Prop :=
  Up w w' ∧ ((r = .returned (.slice none 0 0) ∧ ∀ b c, b < p.blocks.length → c < p.blocks.length → hof p hp b = hof p hp c → b = c) ∨
    ∃ b g cap, b < p.blocks.length ∧ (∃ c, c < p.blocks.length ∧ c ≠ b ∧ hof p hp c = hof p hp b) ∧ r = .returned (.slice (some ⟨g, 0, none⟩) (p.mem b).length cap) ∧ w'.ownsRow w.heap.size 3 1 (.slice (some ⟨g, 0, none⟩) (p.mem b).length cap) (p.mem b).length (ivs (p.mem b)))

set_option maxHeartbeats 8000000 in
set_option maxRecDepth 100000 in
theorem smallest_in {F : Nat → Prop} {w : World} {X gB B n : Nat} {p : Rf.St} {hp : List Nat} {nh nt : Nat} (h : Play F w X gB B n p hp nh nt) (hI : Rf.Inv p n) (hn : n ≤ 1000) (hH : ∀ x, x < n → hp.getD x 0 < nh) (hnh : nh ≤ 1000) :
    Calls Tryz.prog 150 #[.pointer (some ⟨X, 0, none⟩)] w (SmallGot w p hp nh) := by
  have hBL : ∀ W, Up w W → Calls Tryz.prog 189 #[.pointer (some ⟨X, 0, none⟩)] W (BlocksGot W p hp nh) := fun W hu => blocks_in (h.up hu) hI hn hH hnh
  obtain ⟨ve, vp, vi, vb, gh, gg, vs0, vt, sz, gz, ts, hA⟩ := h
  obtain ⟨nb, hnb⟩ : ∃ nb, nb = p.blocks.length := ⟨_, rfl⟩
  have hnb1 : nb ≤ 1000 := by rw [hnb]; have := Rf.blocks_le hI; omega
  have HBL := Lib.hid hBL
  have HA := Lib.hid hA
  have HI := Lib.hid hI
  have HH := Lib.hid hH
  have HNB := Lib.hid hnb
  clear hA hI hH hBL hnb
  have hb0 := heap_alloc_new w (.cells #[.pointer (some ⟨X, 0, none⟩)] 225)
  have HB0 := Lib.hid hb0
  have HU0 : Hid (Up w (w.alloc (.cells #[.pointer (some ⟨X, 0, none⟩)] 225))) := Lib.hid ((Up.refl w).alloc _)
  clear hb0
  go_enter Tryz.func150, Tryz.ntmps150
  go_wp2_with (go_at_call 189; refine (HBL.out _ HU0.out).mono ?_; rintro r w2 ⟨O, vs, rfl, HF⟩)
  obtain ⟨bx, hbx⟩ : ∃ b, b = w.heap.size := ⟨_, rfl⟩
  have HBX : Hid (w2.heap[bx]? = some (.cells #[.pointer (some ⟨X, 0, none⟩)] 225 (0, 0))) := Lib.hid (by rw [hbx]; exact (HF.out.up.block _ (lt_of_block' HB0.out)).trans HB0.out)
  have HU2 := Lib.hid (HU0.out.trans HF.out.up)
  have HWS : Hid (w.heap.size ≤ w2.heap.size) := Lib.hid HU2.out.size
  rw [← hbx]
  clear hbx
  go_loopw [11] (fun i wr => ∃ k : Nat, i = .int .i64 k ∧ k ≤ nh ∧ Hid (Up w2 wr ∧ ∀ l, l < k → ((Sg.bucket nh (blkL p hp p.blocks.length)).getD l []).length < 2)) (fun i _ => nh - (intOf i).toNat)
  case atStart => exact ⟨0, rfl, Nat.zero_le _, Lib.hid ⟨Up.refl _, fun l hl => by omega⟩⟩
  case round =>
    obtain ⟨k, rfl, hk, HR⟩ := hrel
    by_cases hlt : k < nh
    · have hcl := HR.out.1.cell (HF.out.cell hlt)
      have hol := HR.out.1.owns (HF.out.own hlt)
      obtain ⟨row, hrow⟩ : ∃ row, row = (Sg.bucket nh (blkL p hp p.blocks.length)).getD k [] := ⟨_, rfl⟩
      rw [← hrow] at hol
      obtain ⟨KL, hKL⟩ : ∃ KL, KL = row.length := ⟨_, rfl⟩
      obtain ⟨va, hva⟩ : ∃ va, va = vs.getD k undef := ⟨_, rfl⟩
      rw [← hva] at hol hcl
      have hKLb : KL ≤ 1000 := by
        rw [hKL, hrow]
        have h1 := Sg.bucket_le (blkL p hp p.blocks.length) hlt
        rw [blkL_len] at h1
        have := HNB.out
        omega
      rw [← hKL] at hol
      obtain ⟨a4, c4, hv4⟩ := owns_shape' hol
      subst hv4
      have HROW := Lib.hid hrow
      have HKL := Lib.hid hKL
      have HOL := Lib.hid hol
      clear hol hva hrow hKL
      by_cases h2 : KL < 2
      · have q1 : decide ((KL : Int) < 2) = true := by simp; omega
        have HR2 : Hid (Up w2 wr ∧ ∀ l, l < k + 1 → ((Sg.bucket nh (blkL p hp p.blocks.length)).getD l []).length < 2) := Lib.hid ⟨HR.out.1, fun l hl => by
          by_cases e : l = k
          · subst e; rw [← HROW.out, ← HKL.out]; exact h2
          · exact HR.out.2 l (by omega)⟩
        go_wp2_with fail
        go_roundw
        case rel => exact ⟨k + 1, by go_num, by omega, HR2⟩
        case measure => simp [intOf]; omega
      · have q1 : decide ((KL : Int) < 2) = false := by simp; omega
        have hbx0 : wr.cell? ⟨bx, 0, none⟩ = some (.pointer (some ⟨X, 0, none⟩)) := HR.out.1.cell (by simp [World.cell?, HBX.out])
        have hx1 : wr.cell? ⟨X, 1, none⟩ = some (.pointer (some ⟨B, 0, none⟩)) := (HU2.out.trans HR.out.1).cell HA.out.cells.2.1
        have HMI : Hid (Calls Tryz.prog 190 #[.slice a4 KL c4, .func (.func 191) #[] #[.pointer (some ⟨bx, 0, none⟩)]] wr (OneOf wr row nb)) := Lib.hid (by
          refine min_any hbx0 hx1 (HA.out.part.below (HU2.out.trans HR.out.1)) HI.out hn HNB.out.symm ?_ (fun y hy => ?_) (by rw [← HKL.out]; omega) (by rw [← HKL.out]; omega)
          · have := HOL.out
            have e := HKL.out
            subst e
            exact owns_lst this
          · rw [HROW.out] at hy
            obtain ⟨b, h3, h4, -⟩ := (mem_blk hlt _ _).1 hy
            exact ⟨b, h3, by rw [HNB.out]; exact h4⟩)
        have HME : Hid (∀ W (b : Nat), Up wr W → b < nb → Calls Tryz.prog 193 #[.pointer (some ⟨B, 0, none⟩), .int .i64 (b : Nat)] W (MembersDone W p b)) := Lib.hid (fun W b hu hb => members_any (HA.out.part.below ((HU2.out.trans HR.out.1).trans hu)) HI.out hn (by rw [← HNB.out]; exact hb))
        go_wp2_with (first
          | (go_at_call 190; refine HMI.out.mono ?_; rintro r w5 ⟨b, rfl, hbr, hbn, hu5⟩; (have hbx5 := hu5.cell hbx0); (have hx5 := hu5.cell hx1); (have HU5 := Lib.hid hu5); (have HBN := Lib.hid hbn); (have HBR := Lib.hid hbr); clear hu5 hbr hbx0 hx1 hbn)
          | (go_at_call 193; refine (HME.out _ _ HU5.out HBN.out).mono ?_; rintro r w6 ⟨g6, c6, rfl, ho6, hu6⟩; (have HO6 := Lib.hid ho6); (have HU6 := Lib.hid hu6); clear ho6 hu6))
        go_ret
        have hs1 := HR.out.1.size
        have hs2 := HU5.out.size
        have hs3 := HWS.out
        exact ⟨((HU2.out.trans HR.out.1).trans HU5.out).trans HU6.out, .inr ⟨b, g6, c6, by rw [← HNB.out]; exact HBN.out, (by
          have hbr := HBR.out
          have h2' : 2 ≤ row.length := by rw [← HKL.out]; omega
          rw [HROW.out] at hbr h2'
          obtain ⟨y, hy, hne⟩ := other_of (blk_nodup p hp nh p.blocks.length hlt) h2' (b : Int)
          obtain ⟨b', e1, -, e3⟩ := (mem_blk hlt _ _).1 hbr
          obtain ⟨c', f1, f2, f3⟩ := (mem_blk hlt _ _).1 hy
          have eb : b' = b := by omega
          subst eb
          exact ⟨c', f2, fun e => hne (by rw [f1, e]), by rw [f3, e3]⟩), rfl, owns_base HO6.out (by omega)⟩⟩
    · obtain rfl : k = nh := by omega
      go_wp2_with fail
      go_ret
      refine ⟨HU2.out.trans HR.out.1, .inl ⟨rfl, fun b c hb hc he => ?_⟩⟩
      have hl : hof p hp b < k := HH.out _ (fst_in HI.out hb).1
      have h2 := HR.out.2 _ hl
      have mb := (mem_blk (p := p) (hp := hp) hl p.blocks.length (b : Int)).2 ⟨b, rfl, hb, rfl⟩
      have mc := (mem_blk (p := p) (hp := hp) hl p.blocks.length (c : Int)).2 ⟨c, rfl, hc, he.symm⟩
      obtain ⟨rw1, hr1⟩ : ∃ r, r = (Sg.bucket k (blkL p hp p.blocks.length)).getD (hof p hp b) [] := ⟨_, rfl⟩
      rw [← hr1] at h2 mb mc
      match rw1, h2, mb, mc with
      | [], _, mb, _ => cases mb
      | [y], _, mb, mc =>
        have e1 := List.mem_singleton.1 mb
        have e2 := List.mem_singleton.1 mc
        omega
      | _ :: _ :: _, h2, _, _ => simp only [List.length_cons] at h2; omega

end Go.Proofs.YtkcdkfkgjjpaaaaGreatDoor
