/- Walks: system.Normal, system.New. -/
import Derived.Test.YtkcdkfkgjjpaaaaGreatDoorSyRows
namespace Go.Proofs.YtkcdkfkgjjpaaaaGreatDoor
open Go.RowKit Go.Sort
set_option linter.unusedVariables false
set_option linter.unusedSimpArgs false

/-- Four cells of a block. -/
theorem four_cells {w : World} {b : Nat} {a1 a2 a3 a4 : Value} {e : TypeId} (h : w.heap[b]? = some (.cells #[a1, a2, a3, a4] e (0, 0))) :
    (w.cell? ⟨b, 0, none⟩ = some a1 ∧ w.cell? ⟨b, 1, none⟩ = some a2 ∧ w.cell? ⟨b, 2, none⟩ = some a3 ∧ w.cell? ⟨b, 3, none⟩ = some a4) ∧
    (w.frozen? ⟨b, 0, none⟩ = false ∧ w.frozen? ⟨b, 1, none⟩ = false ∧ w.frozen? ⟨b, 2, none⟩ = false ∧ w.frozen? ⟨b, 3, none⟩ = false) := by
  refine ⟨⟨?_, ?_, ?_, ?_⟩, ?_, ?_, ?_, ?_⟩ <;> simp [World.cell?, World.frozen?, h]

theorem four_set {W : World} {b : Nat} {a1 a2 a3 a4 : Value} {e : TypeId} (h : W.heap[b]? = some (.cells #[a1, a2, a3, a4] e (0, 0))) (u1 u2 u3 u4 : Value) :
    ((((((W.setCell ⟨b, 0, none⟩ u1).setCell ⟨b, 1, none⟩ u2).setCell ⟨b, 2, none⟩ u3).setCell ⟨b, 3, none⟩ u4).cell? ⟨b, 0, none⟩ = some u1 ∧
      ((((W.setCell ⟨b, 0, none⟩ u1).setCell ⟨b, 1, none⟩ u2).setCell ⟨b, 2, none⟩ u3).setCell ⟨b, 3, none⟩ u4).cell? ⟨b, 1, none⟩ = some u2 ∧
      ((((W.setCell ⟨b, 0, none⟩ u1).setCell ⟨b, 1, none⟩ u2).setCell ⟨b, 2, none⟩ u3).setCell ⟨b, 3, none⟩ u4).cell? ⟨b, 2, none⟩ = some u3 ∧
      ((((W.setCell ⟨b, 0, none⟩ u1).setCell ⟨b, 1, none⟩ u2).setCell ⟨b, 2, none⟩ u3).setCell ⟨b, 3, none⟩ u4).cell? ⟨b, 3, none⟩ = some u4)) ∧
    Turned (fun k => k = b) W ((((W.setCell ⟨b, 0, none⟩ u1).setCell ⟨b, 1, none⟩ u2).setCell ⟨b, 2, none⟩ u3).setCell ⟨b, 3, none⟩ u4) ∧
    ((((W.setCell ⟨b, 0, none⟩ u1).setCell ⟨b, 1, none⟩ u2).setCell ⟨b, 2, none⟩ u3).setCell ⟨b, 3, none⟩ u4).heap[b]? = some (.cells #[u1, u2, u3, u4] e (0, 0)) := by
  have hrow : Row W b e 4 [a1, a2, a3, a4] := ⟨_, h, rfl, by simp, rfl⟩
  have h1 := (((hrow.set 0 u1).set 1 u2).set 2 u3).set 3 u4
  exact ⟨⟨h1.cell rfl, h1.cell rfl, h1.cell rfl, h1.cell rfl⟩, ((((Turned.refl (fun k => k = b) W).setCell (p := ⟨b, 0, none⟩) (.inl rfl) u1).setCell (p := ⟨b, 1, none⟩) (.inl rfl) u2).setCell (p := ⟨b, 2, none⟩) (.inl rfl) u3).setCell (p := ⟨b, 3, none⟩) (.inl rfl) u4, by simp [World.setCell, Array.getElem?_modify, h]⟩

theorem two_blocks (w : World) (A B : Obj) : Up w ((w.alloc A).alloc B) ∧ ((w.alloc A).alloc B).heap[w.heap.size]? = some A ∧ ((w.alloc A).alloc B).heap[w.heap.size + 1]? = some B ∧ ((w.alloc A).alloc B).heap.size = w.heap.size + 2 := by
  refine ⟨((Up.refl w).alloc A).alloc B, (((Up.refl (w.alloc A)).alloc B).block _ (by simp)).trans (heap_alloc_new w A), ?_, by simp⟩
  have := heap_alloc_new (w.alloc A) B
  rwa [World.size_alloc] at this

/-- What Normal leaves. -/
def Normed (s : Sy.Lts) (w : World) (x : Value) (r : Ending) (w' : World) : Prop :=
  Up w w' ∧ ((Sy.right s = true ∧ ∃ v', r = .returned (.tuple #[sysV s v', .nilIface]) ∧ w'.ownsRow w.heap.size 67 3 v' (Sy.sorted s).length (cells3 (Sy.sorted s))) ∨
    (Sy.right s = false ∧ ∃ pb, r = .returned (.tuple #[.agg #[.int .i64 0, .int .i64 0, .int .i64 0, .slice none 0 0], faultAt pb]) ∧ w.heap.size ≤ pb ∧ FaultE w' pb layerSystem x))

set_option maxHeartbeats 4000000 in
set_option maxRecDepth 100000 in
theorem normal_any (s : Sy.Lts) (se : Value) (xt : TypeId) (xv : Value) (w : World) (hs : Ls3 w se s.es) (hE : w.cell? ⟨2, 0, none⟩ = some (.iface xt xv)) (hl : s.es.length ≤ maxLen) :
    Calls Tryz.prog 32 #[sysV s se] w (Normed s w (.iface xt xv)) := by
  obtain ⟨ao, cap, g, off, rfl, ha, hc⟩ := hs
  have hs : Ls3 w (.slice ao s.es.length cap) s.es := ⟨ao, cap, g, off, rfl, ha, hc⟩
  have HC : Hid (∀ W, Up w W → Calls Tryz.prog 27 #[.agg #[.int .i64 s.n, .int .i64 s.m, .int .i64 s.start, .slice ao s.es.length cap]] W (Checked' s W (.iface xt xv))) := Lib.hid (fun W hu => check_any s _ xt xv W (hs.up hu) (hu.cell hE) hl)
  have HS := Lib.hid hs
  obtain ⟨n, m, st, es⟩ := s
  obtain ⟨k, hk⟩ : ∃ k, k = es.length := ⟨_, rfl⟩
  simp only at HC HS hl ⊢
  unfold sysV
  simp only
  rw [← hk] at HC HS hl ⊢
  have HK := Lib.hid hk
  clear hk ha hc hs hE
  obtain ⟨hu2, hbA, hbB, hz2⟩ := two_blocks w (.cells #[.int .i64 n, .int .i64 m, .int .i64 st, .slice ao k cap] 27) (.cells #[.int .i64 0, .int .i64 0, .int .i64 0, .slice none 0 0] 27)
  have HU2 := Lib.hid hu2
  have HBA := Lib.hid hbA
  have HBB := Lib.hid hbB
  clear hu2 hbA hbB hz2
  go_enter Tryz.func32, Tryz.ntmps32
  go_wp2_with fail
  (with_reducible refine (HC.out _ HU2.out).mono ?_)
  revert HU2 HBA HBB
  generalize (w.alloc (.cells #[.int .i64 n, .int .i64 m, .int .i64 st, .slice ao k cap] 27)).alloc (.cells #[.int .i64 0, .int .i64 0, .int .i64 0, .slice none 0 0] 27) = w2
  intro HU2 HBA HBB
  rintro e w3 ⟨hu3, h⟩
  obtain ⟨⟨c0, c1, c2, c3⟩, f0, f1, f2, f3⟩ := four_cells ((hu3.block _ (lt_of_block' HBA.out)).trans HBA.out)
  obtain ⟨⟨d0, d1, d2, d3⟩, g0, g1, g2, g3⟩ := four_cells ((hu3.block _ (lt_of_block' HBB.out)).trans HBB.out)
  rcases h with ⟨hr, rfl⟩ | ⟨hr, rfl, hf⟩
  · have HR := Lib.hid hr
    have hkk : Hid (k ≤ 1000000) := Lib.hid (by have := ((Sy.right_iff _).1 hr).len; simp only at this; rw [HK.out]; omega)
    have HSO := Lib.hid (sorted_any es (.slice ao k cap) w3 (HS.out.up (HU2.out.trans hu3)) (by rw [← HK.out]; exact hkk.out))
    have HU3 := Lib.hid hu3
    clear hr hu3
    go_wp2_with fail
    (with_reducible refine HSO.out.mono ?_)
    rintro e w4 ⟨v4, rfl, hown, hu4⟩
    obtain ⟨a4, c4, rfl⟩ := owns_shape' hown
    clear c0 c1 c2 c3 f0 f1 f2 f3 d0 d1 d2 d3 g0 g1 g2 g3
    obtain ⟨⟨c0, c1, c2, c3⟩, f0, f1, f2, f3⟩ := four_cells ((hu4.block _ (lt_of_block' ((HU3.out.block _ (lt_of_block' HBA.out)).trans HBA.out))).trans ((HU3.out.block _ (lt_of_block' HBA.out)).trans HBA.out))
    obtain ⟨⟨d0, d1, d2, d3⟩, g0, g1, g2, g3⟩ := four_cells ((hu4.block _ (lt_of_block' ((HU3.out.block _ (lt_of_block' HBB.out)).trans HBB.out))).trans ((HU3.out.block _ (lt_of_block' HBB.out)).trans HBB.out))
    have HOWN := Lib.hid hown
    have hu4' := Lib.hid hu4
    clear hown hu4
    go_wp2_with fail
    have hB4 := (hu4'.out.block _ (lt_of_block' ((HU3.out.block _ (lt_of_block' HBB.out)).trans HBB.out))).trans ((HU3.out.block _ (lt_of_block' HBB.out)).trans HBB.out)
    have hB5 : (w4.setCell ⟨w.heap.size, 3, none⟩ (.slice a4 (Sy.norm Sy.lt3 es).length c4)).heap[w.heap.size + 1]? = _ := (Below.heap_setCell w4 ⟨w.heap.size, 3, none⟩ _ (w.heap.size + 1) (by simp)).trans hB4
    obtain ⟨⟨z0, z1, z2, z3⟩, hT, -⟩ := four_set hB5 (.int .i64 n) (.int .i64 m) (.int .i64 st) (.slice a4 (Sy.norm Sy.lt3 es).length c4)
    refine bodyPost_ret (v := .tuple #[.agg #[.int .i64 n, .int .i64 m, .int .i64 st, .slice a4 (Sy.norm Sy.lt3 es).length c4], .nilIface]) (by simp [results, Tryz.results32, go_sem, z0, z1, z2, z3]) rfl ?_
    have hw4 : Up w w4 := (HU2.out.trans HU3.out).trans hu4'.out
    have hw5 := hw4.setCell (p := ⟨w.heap.size, 3, none⟩) (Nat.le_refl _) (.slice a4 (Sy.norm Sy.lt3 es).length c4)
    have hsz : w.heap.size + 1 < w3.heap.size := lt_of_block' ((HU3.out.block _ (lt_of_block' HBB.out)).trans HBB.out)
    refine ⟨up_turned hw5 (by omega) hT, .inl ⟨HR.out, _, rfl, ?_⟩⟩
    refine owns_base (owns_keep HOWN.out (fun gg hg => ?_)) (by omega : w.heap.size ≤ w3.heap.size)
    have hgl := HOWN.out.lt gg hg
    exact (hT.block gg (by simp; omega) (by omega)).trans (Below.heap_setCell w4 ⟨w.heap.size, 3, none⟩ _ gg (by simp; omega))
  · have HR := Lib.hid hr
    have HU3 := Lib.hid hu3
    have HF := Lib.hid hf
    clear hr hu3 hf
    unfold faultAt
    go_wp2_with fail
    have hB3 := (HU3.out.block _ (lt_of_block' HBB.out)).trans HBB.out
    obtain ⟨⟨z0, z1, z2, z3⟩, hT, -⟩ := four_set hB3 (.int .i64 0) (.int .i64 0) (.int .i64 0) (.slice none 0 0)
    refine bodyPost_ret (v := .tuple #[.agg #[.int .i64 0, .int .i64 0, .int .i64 0, .slice none 0 0], .iface 103 (.pointer (some ⟨w2.heap.size + 1, 0, none⟩))]) (by simp [results, Tryz.results32, go_sem, z0, z1, z2, z3]) rfl ?_
    have hsz : w.heap.size + 1 < w2.heap.size := lt_of_block' HBB.out
    refine ⟨up_turned (HU2.out.trans HU3.out) (by omega) hT, .inr ⟨HR.out, w2.heap.size + 1, rfl, by omega, ?_⟩⟩
    exact (hT.block _ (lt_of_block' HF.out) (by omega)).trans HF.out

/-- All steps of rows: no slice at all, or one that begins at the head of a block. -/
def AllAt (w : World) (vo : Value) (xs : List (Int × Int)) : Prop :=
  (vo = .slice none 0 0 ∧ xs = []) ∨ ∃ g c, vo = .slice (some ⟨g, 0, none⟩) xs.length c ∧ xs.length ≤ c ∧ c ≤ maxLen ∧ Twos w g 0 xs

theorem AllAt.up {w w1 : World} {vo : Value} {xs : List (Int × Int)} (h : AllAt w vo xs) (hu : Up w w1) : AllAt w1 vo xs := by
  rcases h with h | ⟨g, c, h1, h2, h3, h4⟩
  · exact .inl h
  · exact .inr ⟨g, c, h1, h2, h3, fun i hi => ⟨hu.cell (h4 i hi).1, hu.cell (h4 i hi).2⟩⟩

theorem owns_all {w : World} {base : Nat} {e : TypeId} {v : Value} {l : List (Int × Int)} (h : w.ownsRow base e 2 v l.length (cells2 l)) : AllAt w v l := by
  rcases owns_cases h with ⟨rfl, h0, _⟩ | ⟨g, cap, rfl, hr, hn, hc, _⟩
  · exact .inl ⟨rfl, List.eq_nil_of_length_eq_zero h0⟩
  · exact .inr ⟨g, cap, rfl, hn, hc, hr.twos⟩

/-- Rows of steps stand in memory, one behind the other. -/
structure RowsIn (w : World) (vo fo : Value) (n : Nat) (xs : List (Int × Int)) (cs : List Nat) : Prop where
  all : AllAt w vo xs
  frm : ∃ g, fo = .slice (some ⟨g, 0, none⟩) (n + 1) (n + 1) ∧ Row w g 3 (n + 1) (ints cs)

theorem RowsIn.up {w w1 : World} {vo fo : Value} {n : Nat} {xs : List (Int × Int)} {cs : List Nat} (h : RowsIn w vo fo n xs cs) (hu : Up w w1) : RowsIn w1 vo fo n xs cs := by
  obtain ⟨g, hg, hr⟩ := h.frm
  exact ⟨h.all.up hu, g, hg, hu.row hr⟩

/-- Where a state's row begins, of rows by a key. -/
def offs (key : Sy.Edge → Nat) (l : List Sy.Edge) (n : Nat) : List Nat := (List.range (n + 1)).map fun i => Sy.below (fun e => (key e : Int)) l i

def kOut (e : Sy.Edge) : Nat := e.1.toNat
def kIn (e : Sy.Edge) : Nat := e.2.2.toNat
def sOut (e : Sy.Edge) : Int × Int := e.2
def sIn (e : Sy.Edge) : Int × Int := (e.2.1, e.1)

/-- A system's graph stands in memory. -/
structure GraphAt (w : World) (B : Nat) (s : Sy.Lts) : Prop where
  box : ∃ se vo fo vi fi, w.heap[B]? = some (.cells #[.int .i64 s.n, .int .i64 s.m, .int .i64 s.start, se, vo, fo, vi, fi] 88 (0, 0)) ∧ Ls3 w se (Sy.sorted s) ∧
    RowsIn w vo fo s.n.toNat ((Sy.sorted s).map sOut) (offs kOut (Sy.sorted s) s.n.toNat) ∧ RowsIn w vi fi s.n.toNat ((Sy.turned s).map sIn) (offs kIn (Sy.turned s) s.n.toNat)

theorem GraphAt.up {w w1 : World} {B : Nat} {s : Sy.Lts} (h : GraphAt w B s) (hu : Up w w1) : GraphAt w1 B s := by
  obtain ⟨se, vo, fo, vi, fi, hb, h1, h2, h3⟩ := h.box
  exact ⟨se, vo, fo, vi, fi, (hu.block B (lt_of_block' hb)).trans hb, h1.up hu, h2.up hu, h3.up hu⟩

/-- What New leaves. -/
def Newed (s : Sy.Lts) (w : World) (x : Value) (r : Ending) (w' : World) : Prop :=
  Up w w' ∧ ((Sy.right s = true ∧ ∃ B, r = .returned (.tuple #[.pointer (some ⟨B, 0, none⟩), .nilIface]) ∧ w.heap.size ≤ B ∧ GraphAt w' B s) ∨
    (Sy.right s = false ∧ ∃ pb, r = .returned (.tuple #[.pointer none, faultAt pb]) ∧ w.heap.size ≤ pb ∧ FaultE w' pb layerSystem x))

theorem eight_cells {w : World} {b : Nat} {a1 a2 a3 a4 a5 a6 a7 a8 : Value} {e : TypeId} (h : w.heap[b]? = some (.cells #[a1, a2, a3, a4, a5, a6, a7, a8] e (0, 0))) (i : Nat) (u : Value) (hu : [a1, a2, a3, a4, a5, a6, a7, a8][i]? = some u) :
    w.cell? ⟨b, i, none⟩ = some u ∧ w.frozen? ⟨b, i, none⟩ = false := by
  refine ⟨?_, by simp [World.frozen?, h]⟩
  simp only [World.cell?, h]
  simpa using hu

/-- A graph under way. -/
structure NewAt (w W : World) (B : Nat) (s : Sy.Lts) (ve a b c d : Value) : Prop where
  up : Up w W
  box : W.heap[w.heap.size]? = some (.cells #[.int .i64 s.n, .int .i64 s.m, .int .i64 s.start, ve] 27 (0, 0))
  gr : W.heap[B]? = some (.cells #[.int .i64 s.n, .int .i64 s.m, .int .i64 s.start, ve, a, b, c, d] 88 (0, 0))
  own : W.ownsRow (w.heap.size + 1) 67 3 ve (Sy.sorted s).length (cells3 (Sy.sorted s))
  lt : w.heap.size < B

theorem NewAt.mono {w W W' : World} {B : Nat} {s : Sy.Lts} {ve a b c d : Value} (h : NewAt w W B s ve a b c d) (hu : Up W W') : NewAt w W' B s ve a b c d :=
  ⟨h.up.trans hu, (hu.block _ (lt_of_block' h.box)).trans h.box, (hu.block _ (lt_of_block' h.gr)).trans h.gr, hu.owns h.own, h.lt⟩

theorem NewAt.start {w w1 w2 : World} {s : Sy.Lts} {ao av : Option Addr} {k cap cv : Nat} (h1 : Up w w1) (h2 : Up w1 w2) (hb1 : w1.heap[w.heap.size]? = some (.cells #[.int .i64 s.n, .int .i64 s.m, .int .i64 s.start, .slice ao k cap] 27 (0, 0)))
    (hb2 : w2.heap[w.heap.size]? = some (.cells #[.int .i64 s.n, .int .i64 s.m, .int .i64 s.start, .slice ao k cap] 27 (0, 0)))
    (ho : w2.ownsRow w1.heap.size 67 3 (.slice av (Sy.sorted s).length cv) (Sy.sorted s).length (cells3 (Sy.sorted s))) :
    NewAt w (((((w2.setCell ⟨w.heap.size, 0, none⟩ (.int .i64 s.n)).setCell ⟨w.heap.size, 1, none⟩ (.int .i64 s.m)).setCell ⟨w.heap.size, 2, none⟩ (.int .i64 s.start)).setCell ⟨w.heap.size, 3, none⟩ (.slice av (Sy.sorted s).length cv)).alloc (.cells #[.int .i64 s.n, .int .i64 s.m, .int .i64 s.start, .slice av (Sy.sorted s).length cv, .slice none 0 0, .slice none 0 0, .slice none 0 0, .slice none 0 0] 88)) w2.heap.size s (.slice av (Sy.sorted s).length cv) (.slice none 0 0) (.slice none 0 0) (.slice none 0 0) (.slice none 0 0) := by
  obtain ⟨-, hT, hb⟩ := four_set hb2 (.int .i64 s.n) (.int .i64 s.m) (.int .i64 s.start) (.slice av (Sy.sorted s).length cv)
  have hl := lt_of_block' hb1
  have hl2 := lt_of_block' hb2
  have hu := up_turned (h1.trans h2) (Nat.le_refl _) hT
  refine ⟨hu.alloc _, ?_, ?_, ?_, hl2⟩
  · exact (Below.heap_alloc _ _ _ (lt_of_block' hb)).trans hb
  · have := heap_alloc_new (((((w2.setCell ⟨w.heap.size, 0, none⟩ (.int .i64 s.n)).setCell ⟨w.heap.size, 1, none⟩ (.int .i64 s.m)).setCell ⟨w.heap.size, 2, none⟩ (.int .i64 s.start)).setCell ⟨w.heap.size, 3, none⟩ (.slice av (Sy.sorted s).length cv))) (.cells #[.int .i64 s.n, .int .i64 s.m, .int .i64 s.start, .slice av (Sy.sorted s).length cv, .slice none 0 0, .slice none 0 0, .slice none 0 0, .slice none 0 0] 88)
    simpa only [World.size_setCell] using this
  · refine (owns_base (owns_keep ho (fun g hg => ?_)) (by omega)).alloc _
    have := ho.lt g hg
    exact hT.block g this.2 (by omega)

/-- Rows that were made behind a block. -/
structure RowsPast (W : World) (B : Nat) (vo fo : Value) (n : Nat) (xs : List (Int × Int)) (cs : List Nat) : Prop where
  all : W.ownsRow (B + 1) 92 2 vo xs.length (cells2 xs)
  frm : ∃ g, B < g ∧ fo = .slice (some ⟨g, 0, none⟩) (n + 1) (n + 1) ∧ Row W g 3 (n + 1) (ints cs)

theorem RowsPast.mono {W W' : World} {B : Nat} {vo fo : Value} {n : Nat} {xs : List (Int × Int)} {cs : List Nat} (h : RowsPast W B vo fo n xs cs) (hu : Up W W') : RowsPast W' B vo fo n xs cs := by
  obtain ⟨g, h1, h2, h3⟩ := h.frm
  exact ⟨hu.owns h.all, g, h1, h2, hu.row h3⟩

theorem RowsPast.set {W : World} {B : Nat} {vo fo : Value} {n : Nat} {xs : List (Int × Int)} {cs : List Nat} (h : RowsPast W B vo fo n xs cs) (i : Nat) (u : Value) : RowsPast (W.setCell ⟨B, i, none⟩ u) B vo fo n xs cs := by
  obtain ⟨g, h1, h2, h3⟩ := h.frm
  have hset : ∀ k, k ≠ B → (W.setCell ⟨B, i, none⟩ u).heap[k]? = W.heap[k]? := fun k hk => Below.heap_setCell W ⟨B, i, none⟩ u k hk
  exact ⟨owns_keep h.all (fun g hg => hset g (by have := (h.all.lt g hg).1; omega)), g, h1, h2, h3.keep (hset g (by omega))⟩

theorem RowsPast.into {W : World} {B : Nat} {vo fo : Value} {n : Nat} {xs : List (Int × Int)} {cs : List Nat} (h : RowsPast W B vo fo n xs cs) : RowsIn W vo fo n xs cs := by
  obtain ⟨g, h1, h2, h3⟩ := h.frm
  exact ⟨owns_all h.all, g, h2, h3⟩

theorem NewAt.set {w W : World} {B : Nat} {s : Sy.Lts} {ve a b c d : Value} (h : NewAt w W B s ve a b c d) (hve : ve.ownBlock ≠ some B) (u v : Value) :
    NewAt w ((W.setCell ⟨B, 4, none⟩ u).setCell ⟨B, 5, none⟩ v) B s ve u v c d ∧ NewAt w ((W.setCell ⟨B, 6, none⟩ u).setCell ⟨B, 7, none⟩ v) B s ve a b u v := by
  have hlt := h.lt
  have hset : ∀ i j k, k ≠ B → ((W.setCell ⟨B, i, none⟩ u).setCell ⟨B, j, none⟩ v).heap[k]? = W.heap[k]? := fun i j k hk =>
    (Below.heap_setCell _ ⟨B, j, none⟩ v k hk).trans (Below.heap_setCell W ⟨B, i, none⟩ u k hk)
  have hown : ∀ i j, ((W.setCell ⟨B, i, none⟩ u).setCell ⟨B, j, none⟩ v).ownsRow (w.heap.size + 1) 67 3 ve (Sy.sorted s).length (cells3 (Sy.sorted s)) := fun i j =>
    owns_keep h.own (fun g hg => hset i j g (fun e => hve (by rw [← e]; exact hg)))
  refine ⟨⟨(h.up.setCell (by simp; omega) _).setCell (by simp; omega) _, (hset 4 5 _ (by omega)).trans h.box, ?_, hown 4 5, hlt⟩, ⟨(h.up.setCell (by simp; omega) _).setCell (by simp; omega) _, (hset 6 7 _ (by omega)).trans h.box, ?_, hown 6 7, hlt⟩⟩
  · simp [World.setCell, Array.getElem?_modify, h.gr]
  · simp [World.setCell, Array.getElem?_modify, h.gr]

theorem rowsPast_of {w w' : World} {B n : Nat} {va : Value} {xs : List (Int × Int)} {cs : List Nat} (hB : B < w.heap.size) (hr : Row w' (w.heap.size + 1) 3 (n + 1) (ints cs)) (ho : w'.ownsRow w.heap.size 92 2 va xs.length (cells2 xs)) :
    RowsPast w' B va (.slice (some ⟨w.heap.size + 1, 0, none⟩) (n + 1) (n + 1)) n xs cs :=
  ⟨owns_base ho (by omega), w.heap.size + 1, by omega, rfl, hr⟩

theorem rows_out {s : Sy.Lts} (hR : Sy.Right s) {v : Value} {W : World} (hv : Ls3 W v (Sy.sorted s)) :
    Calls Tryz.prog 33 #[.int .i64 s.n, v, .func (.func 34) #[] #[], .func (.func 35) #[] #[]] W (RowsDone W s.n.toNat ((Sy.sorted s).map sOut) (offs kOut (Sy.sorted s) s.n.toNat)) := by
  have hn : s.n = (s.n.toNat : Int) := by have := hR.n0; omega
  rw [hn]
  have hl := Sy.norm_len (lt := Sy.lt3) s.es
  have hok : ∀ e ∈ Sy.sorted s, 0 ≤ e.1 ∧ e.1 < s.n := fun e he => by have := hR.ok e ((Sy.mem_sorted s e).1 he); exact ⟨this.1, this.2.2.2.1⟩
  refine rows_any _ _ kOut sOut _ _ v W (enters_of Tryz.func34 (by kernel_rfl) rfl) (enters_of Tryz.func35 (by kernel_rfl) rfl) (fun e he W' => ?_) (fun e he W' => step2_any e.1 e.2.1 e.2.2 W') hv (by have := hR.n1; omega) (by have := hR.len; unfold Sy.sorted; omega) (fun e he => by have := hok e he; unfold kOut; omega)
  have := hok e he
  have h := key1_any e.1 e.2.1 e.2.2 W'
  rw [show ((kOut e : Nat) : Int) = e.1 by unfold kOut; omega]
  exact h

theorem rows_in {s : Sy.Lts} (hR : Sy.Right s) {v : Value} {W : World} (hv : Ls3 W v (Sy.turned s)) :
    Calls Tryz.prog 33 #[.int .i64 s.n, v, .func (.func 41) #[] #[], .func (.func 42) #[] #[]] W (RowsDone W s.n.toNat ((Sy.turned s).map sIn) (offs kIn (Sy.turned s) s.n.toNat)) := by
  have hn : s.n = (s.n.toNat : Int) := by have := hR.n0; omega
  rw [hn]
  have hl := Sy.norm_len (lt := Sy.lt3r) s.es
  have hok : ∀ e ∈ Sy.turned s, 0 ≤ e.2.2 ∧ e.2.2 < s.n := fun e he => by have := hR.ok e ((Sy.mem_turned s e).1 he); exact ⟨this.2.1, this.2.2.2.2.1⟩
  refine rows_any _ _ kIn sIn _ _ v W (enters_of Tryz.func41 (by kernel_rfl) rfl) (enters_of Tryz.func42 (by kernel_rfl) rfl) (fun e he W' => ?_) (fun e he W' => step5_any e.1 e.2.1 e.2.2 W') hv (by have := hR.n1; omega) (by have := hR.len; unfold Sy.turned; omega) (fun e he => by have := hok e he; unfold kIn; omega)
  have := hok e he
  have h := key4_any e.1 e.2.1 e.2.2 W'
  rw [show ((kIn e : Nat) : Int) = e.2.2 by unfold kIn; omega]
  exact h

theorem turned_of {s : Sy.Lts} {l : List Sy.Edge} (hp : l.Perm (Sy.sorted s)) (hw : l.Pairwise (fun a b => Sy.lt3r b a = false)) : l = Sy.turned s := by
  have hn : l.Nodup := hp.nodup_iff.2 (Sy.nodup_of_pairwise Sy.tot3 (Sy.pairwise_norm Sy.tot3 s.es))
  have hs : l.Pairwise (fun a b => Sy.lt3r a b = true) := by
    refine (hw.and hn).imp (fun {a b} ⟨h1, h2⟩ => ?_)
    rcases Sy.tot3r.total a b with h | h | h
    · exact h
    · exact absurd h h2
    · rw [h1] at h; cases h
  exact Sy.eq_of_strict Sy.tot3r l _ hs (Sy.pairwise_norm Sy.tot3r s.es) (fun x => by rw [hp.mem_iff, Sy.mem_sorted, Sy.mem_turned])

/-- The copy of the edges, turned. -/
theorem sort_turned_any {s : Sy.Lts} {base : Nat} {v : Value} {W : World} (ho : W.ownsRow base 67 3 v (Sy.sorted s).length (cells3 (Sy.sorted s))) (hm : (Sy.sorted s).length ≤ 1000000) :
    Calls Tryz.prog 37 #[v, .func (.func 38) #[] #[]] W fun r W' =>
      r = .returned (.tuple #[]) ∧ Ls3 W' v (Sy.turned s) ∧ Turned (fun k => v.ownBlock = some k) W W' := by
  rcases owns_cases ho with ⟨rfl, h0, -⟩ | ⟨g, cap, rfl, hr, hn, hc, -⟩
  · refine (sort_nil _ W).mono fun r W' ⟨h1, h2⟩ => ⟨h1, ?_, by rw [h2]; exact Turned.refl _ _⟩
    have e1 : Sy.sorted s = [] := List.eq_nil_of_length_eq_zero h0
    have e : Sy.turned s = [] := (turned_of (s := s) (l := []) (by rw [e1]) List.Pairwise.nil).symm
    rw [e]
    exact ⟨none, 0, 0, 0, rfl, fun h => by simp at h, fun i hi => by simp at hi⟩
  · refine (sort_turn g cap _ W hr hm).mono fun r W' ⟨h1, l', h2, h3, h4, h5⟩ => ?_
    obtain rfl := turned_of h2 h3
    refine ⟨h1, ⟨_, cap, g, 0, by rw [h2.length_eq], fun _ => rfl, Row.tris h4⟩, h5.mono (fun i _ (e : i = g) => by rw [e]; rfl)⟩

set_option maxHeartbeats 8000000 in
set_option maxRecDepth 100000 in
theorem new_any (s : Sy.Lts) (se : Value) (xt : TypeId) (xv : Value) (w : World) (hs : Ls3 w se s.es) (hE : w.cell? ⟨2, 0, none⟩ = some (.iface xt xv)) (hl : s.es.length ≤ maxLen) :
    Calls Tryz.prog 13 #[sysV s se] w (Newed s w (.iface xt xv)) := by
  obtain ⟨ao, cap, g, off, rfl, ha, hc⟩ := hs
  have hs : Ls3 w (.slice ao s.es.length cap) s.es := ⟨ao, cap, g, off, rfl, ha, hc⟩
  have HC : Hid (∀ W, Up w W → Calls Tryz.prog 32 #[.agg #[.int .i64 s.n, .int .i64 s.m, .int .i64 s.start, .slice ao s.es.length cap]] W (Normed s W (.iface xt xv))) := Lib.hid (fun W hu => normal_any s _ xt xv W (hs.up hu) (hu.cell hE) hl)
  have HS0 : Hid (s = s) := Lib.hid rfl
  obtain ⟨k, hk⟩ : ∃ k, k = s.es.length := ⟨_, rfl⟩
  rw [← hk] at HC hl ⊢
  clear hk ha hc hs hE
  unfold sysV
  have hu1 := (Up.refl w).alloc (.cells #[.int .i64 s.n, .int .i64 s.m, .int .i64 s.start, .slice ao k cap] 27)
  have hb1 := heap_alloc_new w (.cells #[.int .i64 s.n, .int .i64 s.m, .int .i64 s.start, .slice ao k cap] 27)
  have HU1 := Lib.hid hu1
  have HB1 := Lib.hid hb1
  clear hu1 hb1
  go_enter Tryz.func13, Tryz.ntmps13
  go_wp2_with fail
  (with_reducible refine (HC.out _ HU1.out).mono ?_)
  revert HU1 HB1
  generalize w.alloc (.cells #[.int .i64 s.n, .int .i64 s.m, .int .i64 s.start, .slice ao k cap] 27) = w1
  intro HU1 HB1
  rintro e w2 ⟨hu2, h⟩
  have hb2 := (hu2.block _ (lt_of_block' HB1.out)).trans HB1.out
  obtain ⟨⟨c0, c1, c2, c3⟩, f0, f1, f2, f3⟩ := four_cells hb2
  have HB2 := Lib.hid hb2
  clear hb2
  rcases h with ⟨hr, v', rfl, hown⟩ | ⟨hr, pb, rfl, hpb, hf⟩
  · obtain ⟨av, cv, rfl⟩ := owns_shape' hown
    unfold sysV
    have HOWN := Lib.hid hown
    have HR := Lib.hid ((Sy.right_iff _).1 hr)
    have HU2 := Lib.hid hu2
    clear hr hu2 hown
    have hN := NewAt.start HU1.out HU2.out HB1.out HB2.out HOWN.out
    have hw12 : Hid (w.heap.size < w2.heap.size) := Lib.hid (lt_of_block' HB2.out)
    have hvb : Hid ((Value.slice av (Sy.sorted s).length cv).ownBlock ≠ some w2.heap.size) := Lib.hid (fun e => by have := (HOWN.out.lt _ e).2; omega)
    have HN := Lib.hid hN
    clear hN HC
    go_upto_region 5 with fail
    clear c0 c1 c2 c3 f0 f1 f2 f3
    revert HN
    generalize ((((w2.setCell ⟨w.heap.size, 0, none⟩ (.int .i64 s.n)).setCell ⟨w.heap.size, 1, none⟩ (.int .i64 s.m)).setCell ⟨w.heap.size, 2, none⟩ (.int .i64 s.start)).setCell ⟨w.heap.size, 3, none⟩ (.slice av (Sy.sorted s).length cv)).alloc (.cells #[.int .i64 s.n, .int .i64 s.m, .int .i64 s.start, .slice av (Sy.sorted s).length cv, .slice none 0 0, .slice none 0 0, .slice none 0 0, .slice none 0 0] 88) = W5
    intro HN
    generalize w2.heap.size = B at HN hw12 hvb ⊢
    have hN := HN.out
    obtain ⟨⟨c0, c1, c2, c3⟩, f0, f1, f2, f3⟩ := four_cells hN.box
    have HRO := Lib.hid (rows_out HR.out (owns_ls3 hN.own))
    clear hN
    go_wp2_with fail
    (with_reducible refine HRO.out.mono ?_)
    rintro e W6 ⟨vo, rfl, hu6, hrow6, hown6⟩
    have hN6 := HN.out.mono hu6
    have hRP6 := rowsPast_of (lt_of_block' HN.out.gr) hrow6 hown6
    obtain ⟨ao6, co6, rfl⟩ := owns_shape' hown6
    have g4 := eight_cells hN6.gr 4 _ rfl
    have g5 := eight_cells hN6.gr 5 _ rfl
    obtain ⟨g40, g41⟩ := g4
    obtain ⟨g50, g51⟩ := g5
    obtain ⟨⟨d0, d1, d2, d3⟩, e0, e1, e2, e3⟩ := four_cells hN6.box
    have HN6 := Lib.hid hN6
    have HRP6 := Lib.hid hRP6
    clear hu6 hrow6 hown6 hN6 hRP6 HRO c0 c1 c2 c3 f0 f1 f2 f3
    go_upto_region 6 with fail
    rw [List.length_map] at HRP6
    have HN7 := Lib.hid (HN6.out.set hvb.out (.slice ao6 (Sy.sorted s).length co6) (.slice (some ⟨W5.heap.size + 1, 0, none⟩) (s.n.toNat + 1) (s.n.toNat + 1))).1
    have HRP7 := Lib.hid ((HRP6.out.set 4 (.slice ao6 (Sy.sorted s).length co6)).set 5 (.slice (some ⟨W5.heap.size + 1, 0, none⟩) (s.n.toNat + 1) (s.n.toNat + 1)))
    clear HN6 g40 g41 g50 g51 d0 d1 d2 d3 e0 e1 e2 e3
    revert HN7 HRP7
    generalize (W6.setCell ⟨B, 4, none⟩ (.slice ao6 (Sy.sorted s).length co6)).setCell ⟨B, 5, none⟩ (.slice (some ⟨W5.heap.size + 1, 0, none⟩) (s.n.toNat + 1) (s.n.toNat + 1)) = W7
    intro HN7 HRP7
    have hln : Hid ((Sy.sorted s).length ≤ 1000000) := Lib.hid (by have := Sy.norm_len (lt := Sy.lt3) s.es; have := HR.out.len; unfold Sy.sorted; omega)
    have HCL := Lib.hid (clone_edges (owns_ls3 HN7.out.own) hln.out)
    obtain ⟨⟨d0, d1, d2, d3⟩, e0, e1, e2, e3⟩ := four_cells HN7.out.box
    go_wp2_with fail
    (with_reducible refine HCL.out.mono ?_)
    rintro e W8 ⟨v8, rfl, hown8, hu8⟩
    have hN8 := HN7.out.mono hu8
    have hRP8 := HRP7.out.mono hu8
    have hSO := sort_turned_any hown8 hln.out
    have hnew : Hid (∀ k, v8.ownBlock = some k → W7.heap.size ≤ k) := Lib.hid (fun k hk => (hown8.lt k hk).1)
    obtain ⟨a8, c8, rfl⟩ := owns_shape' hown8
    have HSO := Lib.hid hSO
    have HN8 := Lib.hid hN8
    have HRP8 := Lib.hid hRP8
    have HU8 := Lib.hid hu8
    clear hN8 hRP8 hSO hown8 hu8 d0 d1 d2 d3 e0 e1 e2 e3
    go_wp2_with fail
    (with_reducible refine HSO.out.mono ?_)
    rintro e W9 ⟨rfl, hl9, hT9⟩
    have hu9 : Up W7 W9 := by
      have h1 : Turned (fun k => W7.heap.size ≤ k) W7 W9 := (Turned.below HU8.out).trans hT9 (fun i hi hk => hnew.out i hk)
      exact ⟨h1.os, h1.tape, h1.output, h1.size, fun i hi => h1.block i hi (by omega)⟩
    have hN9 := HN7.out.mono hu9
    have HRP9 := Lib.hid (HRP7.out.mono hu9)
    have HRI := Lib.hid (rows_in HR.out hl9)
    obtain ⟨⟨d0, d1, d2, d3⟩, e0, e1, e2, e3⟩ := four_cells hN9.box
    have HN9 := Lib.hid hN9
    clear hN9 hl9 hT9 hu9 HN8 HRP8 HU8 HSO HCL
    go_wp2_with fail
    (with_reducible refine HRI.out.mono ?_)
    rintro e W10 ⟨vi, rfl, hu10, hrow10, hown10⟩
    have hN10 := HN9.out.mono hu10
    have hRI := rowsPast_of (B := B) (lt_of_block' HN9.out.gr) hrow10 hown10
    rw [List.length_map] at hown10
    obtain ⟨ai, ci, rfl⟩ := owns_shape' hown10
    obtain ⟨g60, g61⟩ := eight_cells hN10.gr 6 _ rfl
    obtain ⟨g70, g71⟩ := eight_cells hN10.gr 7 _ rfl
    have HN10 := Lib.hid hN10
    have HRI10 := Lib.hid hRI
    have HRP10 := Lib.hid (HRP9.out.mono hu10)
    clear hu10 hrow10 hown10 hN10 hRI HRI d0 d1 d2 d3 e0 e1 e2 e3
    go_wp2_with fail
    have HN11 := (HN10.out.set hvb.out (.slice ai (Sy.turned s).length ci) (.slice (some ⟨W9.heap.size + 1, 0, none⟩) (s.n.toNat + 1) (s.n.toNat + 1))).2
    have h1 := ((HRP10.out.set 6 (.slice ai (Sy.turned s).length ci)).set 7 (.slice (some ⟨W9.heap.size + 1, 0, none⟩) (s.n.toNat + 1) (s.n.toNat + 1))).into
    have h2 := ((HRI10.out.set 6 (.slice ai (Sy.turned s).length ci)).set 7 (.slice (some ⟨W9.heap.size + 1, 0, none⟩) (s.n.toNat + 1) (s.n.toNat + 1))).into
    go_ret2
    exact ⟨HN11.up, .inl ⟨(Sy.right_iff s).2 HR.out, B, rfl, Nat.le_of_lt HN11.lt, ⟨_, _, _, _, _, HN11.gr, owns_ls3 HN11.own, h1, h2⟩⟩⟩
  · have HR := Lib.hid hr
    have HU2 := Lib.hid hu2
    have HF := Lib.hid hf
    have HPB := Lib.hid hpb
    clear hr hu2 hf hpb
    unfold faultAt
    go_wp2_with fail
    go_ret2
    have hsz := lt_of_block' HB1.out
    obtain ⟨-, hT, -⟩ := four_set HB2.out (.int .i64 0) (.int .i64 0) (.int .i64 0) (.slice none 0 0)
    exact ⟨up_turned (HU1.out.trans HU2.out) (Nat.le_refl _) hT, .inr ⟨HR.out, pb, rfl, by have := HPB.out; omega, (hT.block _ (lt_of_block' HF.out) (by have := HPB.out; omega)).trans HF.out⟩⟩

end Go.Proofs.YtkcdkfkgjjpaaaaGreatDoor
