/- Walks: strong's Refine, Classes: the classes are the last round. -/
import Derived.Test.YtkcdkfkgjjpaaaaGreatDoorSgNew
namespace Go.Proofs.YtkcdkfkgjjpaaaaGreatDoor
open Go.RowKit Go.Sort Go.Maps
set_option linter.unusedVariables false
set_option linter.unusedSimpArgs false

theorem cn_rd (l : List Int) : Cn.canon l = Rd.canon l := by
  have hs : ∀ l : List Int, Cn.seen l = Rd.seen l := fun l => rfl
  unfold Cn.canon Rd.canon
  rw [hs]

theorem new_M (l : List Int) (b : Nat) : (Rf.ofSt l).M b = 0 := by
  by_cases hb : b < (Cn.seen l).length
  · simp only [Rf.St.M, Rf.ofSt, Rf.outer_block _ _ _ _ hb]
  · simp only [Rf.St.M, Rf.ofSt]
    rw [show ((Rf.outer (Cn.canon l) l.length (Cn.seen l).length).2.getD b (0, 0, 0)) = (0, 0, 0) by
      have := Rf.outer_blocks (Cn.canon l) l.length (Cn.seen l).length
      simp [List.getD, show ¬ b < (Rf.outer (Cn.canon l) l.length (Cn.seen l).length).2.length by omega]]

theorem new_unmarked (n : Nat) (x : Nat) (hx : x < n) : (Rf.ofSt (List.replicate n 0)).marked x = false := by
  have hI := Rf.of_inv (List.replicate n 0)
  rw [List.length_replicate] at hI
  have h1 := hI.in1 x hx
  have h2 := new_M (List.replicate n 0) ((Rf.ofSt (List.replicate n 0)).I x)
  simp only [Rf.St.marked, decide_eq_false_iff_not]
  omega

theorem new_I (n : Nat) (x : Nat) : (Rf.ofSt (List.replicate n 0)).I x = 0 := by
  unfold Rf.St.I
  rw [Rf.new_inn]
  simp only [List.getD, List.getElem?_replicate]
  split <;> rfl

/-- How many sizes a play has. -/
def sizeLen (w : World) (X : Nat) : Nat := match w.cell? ⟨X, 3, none⟩ with
  | some (.slice _ n _) => n
  | _ => 0

theorem Play.sizes {F : Nat → Prop} {w : World} {X gB B n : Nat} {p : Rf.St} {hp : List Nat} {nh nt : Nat} (h : Play F w X gB B n p hp nh nt) : sizeLen w X = nh := by
  obtain ⟨ve, vp, vi, vb, gh, gg, vs, vt, sz, gz, ts, h⟩ := h
  obtain ⟨a, c, hv⟩ := owns_shape' h.size
  unfold sizeLen
  rw [h.cells.2.2.2.1, hv]

/-- What holds while blocks are taken. -/
structure Going (s : Sy.Lts) (wg : World) (X gB B n : Nat) (F : Nat → Prop) (wr : World) (p : Rf.St) (hp : List Nat) (nh : Nat) : Prop where
  play : Play F wr X gB B n p hp nh nh
  low : ∀ k, F k → wg.heap.size ≤ k
  up : Up wg wr
  inv : Rf.Inv p n
  un : ∀ x, x < n → p.marked x = false
  fit : Sg.Fit s p.I (fun x => hp.getD x 0)
  lt : ∀ x, x < n → hp.getD x 0 < nh
  has : ∀ k, k < nh → ∃ x, x < n ∧ hp.getD x 0 = k

/-- What smallest told: no block, or one. -/
def NoBlock (p : Rf.St) (hp : List Nat) : Prop := ∀ b c, b < p.blocks.length → c < p.blocks.length → hof p hp b = hof p hp c → b = c
def ABlock (F : Nat → Prop) (wr : World) (n : Nat) (p : Rf.St) (hp : List Nat) (g K cap : Nat) : Prop :=
  ∃ b L, b < p.blocks.length ∧ (∃ c, c < p.blocks.length ∧ c ≠ b ∧ hof p hp c = hof p hp b) ∧ K = L.length ∧ L.length ≤ 1000 ∧ LstOut F wr (.slice (some ⟨g, 0, none⟩) K cap) L ∧ ∀ x, x ∈ L ↔ x < n ∧ p.I x = b

/-- The state, and what smallest told there. -/
def GoOn (s : Sy.Lts) (wg : World) (X gB B n : Nat) (nh : Nat) (lv : Value) (wr : World) : Prop :=
  ∃ F p hp, Going s wg X gB B n F wr p hp nh ∧ ((lv = .slice none 0 0 ∧ NoBlock p hp) ∨ ∃ g K cap, lv = .slice (some ⟨g, 0, none⟩) K cap ∧ ABlock F wr n p hp g K cap)

theorem Going.heaps {s : Sy.Lts} {wg : World} {X gB B n : Nat} {F : Nat → Prop} {wr : World} {p : Rf.St} {hp : List Nat} {nh : Nat} (h : Going s wg X gB B n F wr p hp nh) : nh ≤ n := Sg.heaps_le h.has

theorem mem_nats {p : Rf.St} {n b : Nat} (hI : Rf.Inv p n) (hb : b < p.blocks.length) : (p.mem b) = ((p.mem b).map Int.toNat).map Int.ofNat ∧ ∀ x, x ∈ (p.mem b).map Int.toNat ↔ x < n ∧ p.I x = b := by
  refine ⟨?_, fun x => ?_⟩
  · rw [List.map_map]
    refine (List.map_id _).symm.trans (List.map_congr_left (fun y hy => ?_))
    obtain ⟨e, h1, -⟩ := (Rf.mem_mem hI hb).1 hy
    rw [h1]; rfl
  · rw [List.mem_map]
    constructor
    · rintro ⟨y, hy, rfl⟩
      obtain ⟨e, h1, h2, h3⟩ := (Rf.mem_mem hI hb).1 hy
      rw [h1]; exact ⟨h2, h3⟩
    · rintro ⟨h1, h2⟩
      exact ⟨(x : Int), (Rf.mem_mem hI hb).2 ⟨x, rfl, h1, h2⟩, rfl⟩

theorem Going.small {s : Sy.Lts} {wg : World} {X gB B n : Nat} {F : Nat → Prop} {w : World} {p : Rf.St} {hp : List Nat} {nh : Nat} (h : Going s wg X gB B n F w p hp nh) (hn : n ≤ 1000) :
    Calls Tryz.prog 150 #[.pointer (some ⟨X, 0, none⟩)] w fun r w' => ∃ lv, r = .returned lv ∧ Hid (GoOn s wg X gB B n nh lv w') ∧ Up w w' := by
  have hl := h.heaps
  refine (smallest_in h.play h.inv hn h.lt (by omega)).mono ?_
  rintro r w' ⟨hu, hc⟩
  have hG : Going s wg X gB B n (Cut F w) w' p hp nh := ⟨h.play.cut.up hu, fun k hk => h.low k hk.1, h.up.trans hu, h.inv, h.un, h.fit, h.lt, h.has⟩
  rcases hc with ⟨rfl, h1⟩ | ⟨b, g, cap, hb, hother, rfl, ho⟩
  · exact ⟨_, rfl, Lib.hid ⟨_, _, _, hG, .inl ⟨rfl, h1⟩⟩, hu⟩
  · obtain ⟨e, hm⟩ := mem_nats h.inv hb
    refine ⟨_, rfl, Lib.hid ⟨_, _, _, hG, .inr ⟨g, _, cap, rfl, b, (p.mem b).map Int.toNat, hb, hother, by rw [List.length_map], by rw [List.length_map, Rf.mem_len h.inv hb]; have := h.inv.b1 b hb; omega, ?_, hm⟩⟩, hu⟩
    have ho2 := ho
    rw [e] at ho2
    have el : (((p.mem b).map Int.toNat).map Int.ofNat).length = ((p.mem b).map Int.toNat).length := by rw [List.length_map]
    have e2 : (p.mem b).length = ((p.mem b).map Int.toNat).length := by rw [List.length_map]
    rw [el] at ho2
    rw [e2]
    exact LstOut.of_owns ho2 (fun k h1 h2 hk => by have := hk.2; omega)

theorem Going.take {s : Sy.Lts} {wg : World} {X gB B n : Nat} {F : Nat → Prop} {w : World} {p : Rf.St} {hp : List Nat} {nh g K cap : Nat} (h : Going s wg X gB B n F w p hp nh) (hG : GraphAt wg gB s) (hR : Sy.Right s) (hn : s.n.toNat = n) (hB : ABlock F w n p hp g K cap) :
    Calls Tryz.prog 151 #[.pointer (some ⟨X, 0, none⟩), .slice (some ⟨g, 0, none⟩) K cap] w fun r w' => r = .returned (.tuple #[]) ∧ Hid (∃ F' p' hp', Going s wg X gB B n F' w' p' hp' (nh + 1)) := by
  obtain ⟨b, L, hb, ⟨c, hc, hcb, hch⟩, rfl, hLl, hv, hm⟩ := hB
  have hn1 : n ≤ 1000 := by have := hR.n1; omega
  have hl := h.heaps
  have fb := fst_in h.inv hb
  have fc := fst_in h.inv hc
  have hb1 : fst p b ∈ L := (hm _).2 fb
  have hL0 : 0 < L.length := List.length_pos_of_mem hb1
  have hLn : ∀ x ∈ L, x < n := fun x hx => ((hm x).1 hx).1
  have hx0 : L.getD 0 0 ∈ L := by rw [← getD_of 0 hL0]; exact List.getElem_mem _
  have hfine : ∀ x, x < n → p.I x = b → hp.getD x 0 = hof p hp b := fun x hx e => h.fit.fine x (fst p b) (by omega) (by omega) (e.trans fb.2.symm)
  have hh0 : hp.getD (L.getD 0 0) 0 = hof p hp b := hfine _ (hLn _ hx0) ((hm _).1 hx0).2
  have hhb : hof p hp b < nh := h.lt _ fb.1
  refine (take_in h.play hG h.up h.low hR hn h.inv h.un hv hLn hL0 hLl (by omega) (by omega) (by rw [hh0]; exact hhb)).mono ?_
  rintro r w' ⟨rfl, ht, p1, p2, hp2, hi2, hu2, hs1, hs2⟩
  have hlen : hp.length = n := by obtain ⟨_, _, _, _, _, _, _, _, _, _, _, hA⟩ := h.play; exact hA.hl
  have hget : ∀ x, x < n → (Rf.setAll hp L nh).getD x 0 = if p.I x = b then nh else hp.getD x 0 := fun x hx => by
    rw [Rf.setAll_getD, hlen]
    by_cases e : p.I x = b
    · rw [if_pos ⟨(hm x).2 ⟨hx, e⟩, hx⟩, if_pos e]
    · rw [if_neg (fun hh => e ((hm x).1 hh.1).2), if_neg e]
  rw [hh0] at hs2
  have hS1 : Sg.SplitBy s (fun z => p.I z = b) p.I p1.I := hs1.congr hR (fun z hz => by rw [hm z]; exact ⟨fun hh => hh.2, fun hh => ⟨by omega, hh⟩⟩)
  have hS2 : Sg.SplitBy s (fun z => hp.getD z 0 = hof p hp b ∧ p.I z ≠ b) p1.I p2.I := hs2.congr hR (fun z hz => by
    rw [mem_inHeap, hget z (by omega)]
    by_cases e : p.I z = b
    · rw [if_pos e]; constructor
      · rintro ⟨-, h2⟩; omega
      · rintro ⟨-, h2⟩; exact absurd e h2
    · rw [if_neg e]; exact ⟨fun hh => ⟨hh.2, e⟩, fun hh => ⟨by omega, hh.1⟩⟩)
  have hfit := h.fit.take hR (b := b) (h := hof p hp b) (k := nh) (fun x hx e => hfine x (by omega) e) (fun x hx e => by have := h.lt x (by omega); omega) (by omega) hS1 hS2
  have hGo : Going s wg X gB B n (More F w) w' p2 (Rf.setAll hp L nh) (nh + 1) := by
   refine ⟨hp2, more_low h.up.size h.low, up_after h.up ht h.low, hi2, hu2, hfit.congr hR (fun z hz => (hget z (by omega)).symm), fun x hx => ?_, fun k hk => ?_⟩
   · rw [hget x hx]
     split
     · omega
     · have := h.lt x hx; omega
   · by_cases e1 : k = nh
     · exact ⟨fst p b, fb.1, by rw [hget _ fb.1, if_pos fb.2, e1]⟩
     · by_cases e2 : k = hof p hp b
       · exact ⟨fst p c, fc.1, by rw [hget _ fc.1, if_neg (by rw [fc.2]; exact hcb), e2]; exact hch⟩
       · obtain ⟨x, h1, h2⟩ := h.has k (by omega)
         exact ⟨x, h1, by rw [hget x h1, if_neg (fun e => e2 (h2.symm.trans (hfine x h1 e))), h2]⟩
  exact ⟨rfl, Lib.hid ⟨_, p2, _, hGo⟩⟩

/-- Where smallest tells no block the blocks are the last round's classes. -/
theorem Going.done {s : Sy.Lts} {wg : World} {X gB B n : Nat} {F : Nat → Prop} {w : World} {p : Rf.St} {hp : List Nat} {nh : Nat} (h : Going s wg X gB B n F w p hp nh) (hR : Sy.Right s) (hn : s.n.toNat = n) (hN : NoBlock p hp) : Cn.canon (p.inn.map Int.ofNat) = Rd.R s (Rd.last s) := by
  rw [cn_rd]
  have hli := h.inv.li
  refine Sg.canon_last (by rw [List.length_map, hli, hn]) (fun x y hx hy => ?_)
  rw [hn] at hx hy
  have hg : ∀ z, z < n → (p.inn.map Int.ofNat).getD z 0 = (p.I z : Int) := fun z hz => by
    simp [Rf.St.I, List.getD, show z < p.inn.length by omega]
  rw [hg x hx, hg y hy, Int.natCast_inj]
  refine h.fit.last hR (fun a c ha hc he => ?_) (by omega) (by omega)
  rw [hn] at ha hc
  have ia := (h.inv.in1 a ha).1
  have ic := (h.inv.in1 c hc).1
  refine hN _ _ ia ic ?_
  have e1 := h.fit.fine (fst p (p.I a)) a (by have := (fst_in h.inv ia).1; omega) (by omega) (fst_in h.inv ia).2
  have e2 := h.fit.fine (fst p (p.I c)) c (by have := (fst_in h.inv ic).1; omega) (by omega) (fst_in h.inv ic).2
  exact e1.trans (he.trans e2.symm)

/-- What Refine leaves, of a system that is one. -/
def RefineDone (s : Sy.Lts) (w : World) (n : Nat) (r : Ending) (w' : World) : Prop :=
  ∃ a1 c1 a2 n2 c2 a3 n3 c3, r = .returned (.tuple #[.agg #[.slice a1 n c1, .slice a2 n2 c2, .slice a3 n3 c3], .nilIface]) ∧ Hid (w'.ownsRow w.heap.size 3 1 (.slice a1 n c1) n (ints (Rd.R s (Rd.last s)))) ∧ Up w w'

theorem begin_going {s : Sy.Lts} {wg w w' : World} {X gB B n : Nat} {F : Nat → Prop} {p' : Rf.St} (hR : Sy.Right s) (hn : s.n.toNat = n) (h0 : 0 < n) (hF : ∀ k, F k → wg.heap.size ≤ k) (hu : Up wg w) (ht : Turned F w w')
    (hp : Play (More F w) w' X gB B n p' (List.replicate n 0) 1 1) (hI : Rf.Inv p' n) (hun : ∀ x, x < n → p'.marked x = false) (hs : Sg.SplitBy s (fun z => z ∈ List.range n) (Rf.ofSt (List.replicate n 0)).I p'.I) :
    Going s wg X gB B n (More F w) w' p' (List.replicate n 0) 1 := by
  have hz : ∀ z, (List.replicate n 0).getD z 0 = 0 := fun z => by
    simp only [List.getD, List.getElem?_replicate]
    split <;> rfl
  have h1 : Sg.SplitBy s (fun _ => True) (fun _ => 0) p'.I := fun x y hx hy => by
    have := (hs.congr hR (D := fun _ => True) (fun z hz => by rw [List.mem_range]; exact ⟨fun _ => trivial, fun _ => by omega⟩)) x y hx hy
    rw [new_I, new_I] at this
    exact this
  refine ⟨hp, more_low hu.size hF, up_after hu ht hF, hI, hun, (Sg.Fit.begin hR h1).congr hR (fun z _ => (hz z).symm), fun x _ => by rw [hz]; omega, fun k hk => ⟨0, h0, by rw [hz]; omega⟩⟩

theorem three_setG {w : World} {b : Nat} {a1 a2 a3 : Value} {e : TypeId} (h : w.heap[b]? = some (.cells #[a1, a2, a3] e (0, 0))) (v1 v2 v3 : Value) :
    ((((w.setCell ⟨b, 0, none⟩ v1).setCell ⟨b, 1, none⟩ v2).setCell ⟨b, 2, none⟩ v3).cell? ⟨b, 0, none⟩ = some v1 ∧ (((w.setCell ⟨b, 0, none⟩ v1).setCell ⟨b, 1, none⟩ v2).setCell ⟨b, 2, none⟩ v3).cell? ⟨b, 1, none⟩ = some v2 ∧
      (((w.setCell ⟨b, 0, none⟩ v1).setCell ⟨b, 1, none⟩ v2).setCell ⟨b, 2, none⟩ v3).cell? ⟨b, 2, none⟩ = some v3) ∧
    Turned (fun k => k = b) w (((w.setCell ⟨b, 0, none⟩ v1).setCell ⟨b, 1, none⟩ v2).setCell ⟨b, 2, none⟩ v3) := by
  have h1 := box_setCell h 0 v1
  have h2 := box_setCell h1 1 v2
  have h3 := box_setCell h2 2 v3
  refine ⟨⟨?_, ?_, ?_⟩, Turned.set1 (F := fun k => k = b) (Turned.set1 (F := fun k => k = b) (Turned.set1 (F := fun k => k = b) (Turned.refl _ w) rfl v1) rfl v2) rfl v3⟩ <;> simp [World.cell?, h3]

theorem three_cellsG {w : World} {b : Nat} {a1 a2 a3 : Value} {e : TypeId} (h : w.heap[b]? = some (.cells #[a1, a2, a3] e (0, 0))) :
    (w.cell? ⟨b, 0, none⟩ = some a1 ∧ w.cell? ⟨b, 1, none⟩ = some a2 ∧ w.cell? ⟨b, 2, none⟩ = some a3) ∧ w.frozen? ⟨b, 0, none⟩ = false ∧ w.frozen? ⟨b, 1, none⟩ = false ∧ w.frozen? ⟨b, 2, none⟩ = false := by
  refine ⟨⟨?_, ?_, ?_⟩, ?_, ?_, ?_⟩ <;> simp [World.cell?, World.frozen?, h]

set_option maxHeartbeats 8000000 in
set_option maxRecDepth 100000 in
theorem refine_ok (s : Sy.Lts) (se : Value) (xt : TypeId) (xv : Value) (w : World) (hr : Sy.right s = true) (hs : Ls3 w se s.es) (hE : w.cell? ⟨2, 0, none⟩ = some (.iface xt xv)) (hl : s.es.length ≤ maxLen) :
    Calls Tryz.prog 101 #[sysV s se] w (RefineDone s w s.n.toNat) := by
  have hR := (Sy.right_iff s).1 hr
  have hNP : ∀ W, Up w W → Calls Tryz.prog 148 #[sysV s se] W (PlayNew s W s.n.toNat) := fun W hu => newPlay_ok s se xt xv W hr (hs.up hu) (hu.cell hE) hl
  obtain ⟨ao, cap, rfl⟩ := ls3_shape hs
  obtain ⟨n, hn⟩ : ∃ n : Nat, s.n = (n : Nat) := ⟨s.n.toNat, by have := hR.n0; omega⟩
  have hn1 : n ≤ 1000 := by have := hR.n1; omega
  have hnn : s.n.toNat = n := by rw [hn]; rfl
  rw [hnn] at hNP ⊢
  obtain ⟨L, hL⟩ : ∃ L, L = s.es.length := ⟨_, rfl⟩
  unfold sysV at hNP ⊢
  rw [← hL] at hNP ⊢
  have HNP := Lib.hid hNP
  have HR := Lib.hid hR
  have HSN := Lib.hid hn
  have HNN := Lib.hid hnn
  clear hr hs hE hl hR hNP hn hnn hL
  have HU0 : Hid (Up w ((w.alloc (.cells #[.int .i64 s.n, .int .i64 s.m, .int .i64 s.start, .slice ao L cap] 27)).alloc (.cells #[.slice none 0 0, .slice none 0 0, .slice none 0 0] 144))) := Lib.hid (((Up.refl w).alloc _).alloc _)
  go_enter Tryz.func101, Tryz.ntmps101
  go_upto_region 4 with (go_at_call 148; refine (HNP.out _ HU0.out).mono ?_; rintro r w2 ⟨X, gB, B, wg, rfl, HP⟩)
  obtain ⟨RB, hRB⟩ : ∃ b, b = w.heap.size + 1 := ⟨_, rfl⟩
  have hb0 := heap_alloc_new (w.alloc (.cells #[.int .i64 s.n, .int .i64 s.m, .int .i64 s.start, .slice ao L cap] 27)) (.cells #[.slice none 0 0, .slice none 0 0, .slice none 0 0] 144)
  rw [World.size_alloc, ← hRB] at hb0
  have hRBl : RB < wg.heap.size := Nat.lt_of_lt_of_le (lt_of_block' hb0) HP.out.1.size
  have HB2 : Hid (∀ W, Up wg W → W.heap[RB]? = some (.cells #[.slice none 0 0, .slice none 0 0, .slice none 0 0] 144 (0, 0))) := Lib.hid (fun W hu => (hu.block RB hRBl).trans ((HP.out.1.block RB (lt_of_block' hb0)).trans hb0))
  have HWG := Lib.hid (HU0.out.trans HP.out.1)
  have HG := Lib.hid HP.out.2.1
  have HU2 := Lib.hid HP.out.2.2.1
  have HPL := Lib.hid HP.out.2.2.2
  have hRBw : w.heap.size ≤ RB := by omega
  rw [← hRB]
  have c0 : w2.cell? ⟨X, 0, none⟩ = some (.pointer (some ⟨gB, 0, none⟩)) := by obtain ⟨_, _, _, _, _, _, _, _, _, _, _, hA⟩ := HPL.out; exact hA.cells.1
  have HST : Hid (Calls Tryz.prog 43 #[.pointer (some ⟨gB, 0, none⟩)] w2 fun r w' => r = .returned (.int .i64 (n : Nat)) ∧ Up w2 w') := Lib.hid (by have := states_in (HG.out.up HU2.out); rw [HSN.out] at this; exact this)
  clear hb0 hRB HP
  by_cases hn0 : n = 0
  · subst hn0
    go_wp2_with (go_at_call 43; refine HST.out.mono ?_; rintro r w3 ⟨rfl, hu3⟩; (obtain ⟨⟨k0, k1, k2⟩, f0, f1, f2⟩ := three_cellsG (HB2.out w3 (HU2.out.trans hu3))); (have HU3 := Lib.hid (HU2.out.trans hu3)); clear hu3 c0)
    obtain ⟨⟨y0, y1, y2⟩, hT⟩ := three_setG (HB2.out w3 HU3.out) (.slice none 0 0) (.slice none 0 0) (.slice none 0 0)
    refine bodyPost_ret (v := .tuple #[.agg #[.slice none 0 0, .slice none 0 0, .slice none 0 0], .nilIface]) (by simp [results, Tryz.results101, go_sem, y0, y1, y2]) rfl ⟨_, _, _, _, _, _, _, _, rfl, Lib.hid ?_, up_turned (HWG.out.trans HU3.out) hRBw hT⟩
    have e : Rd.R s (Rd.last s) = [] := List.eq_nil_of_length_eq_zero (by rw [Rd.R_len]; exact HNN.out)
    rw [e]; exact World.ownsRow_nil _ _ _ _
  · have qn : ((n : Int) == 0) = false := by simp; omega
    have h0n : 0 < n := by omega
    clear hn0
    go_upto_region 6 with (go_at_call 43; refine HST.out.mono ?_; rintro r w3 ⟨rfl, hu3⟩; (have HU23 := Lib.hid hu3); (have HU3 := Lib.hid (HU2.out.trans hu3)); clear hu3 c0)
    have HBG : Hid (Calls Tryz.prog 149 #[.pointer (some ⟨X, 0, none⟩)] w3 fun r w' => r = .returned (.tuple #[]) ∧ Hid (∃ F p, Going s wg X gB B n F w' p (List.replicate n 0) 1)) := Lib.hid (by
      have hI := Rf.of_inv (List.replicate n 0)
      rw [List.length_replicate] at hI
      refine (begin_in (HPL.out.up HU23.out) HG.out HU3.out (fun k hk => hk) HR.out HNN.out hI (fun x hx => new_unmarked n x hx)).mono ?_
      rintro r w' ⟨rfl, ht, p', hp', hi', hu', hs'⟩
      exact ⟨rfl, Lib.hid ⟨_, p', begin_going HR.out HNN.out h0n (fun k hk => hk) HU3.out ht hp' hi' hu' hs'⟩⟩)
    go_upto_region 8 with (first
      | (go_at_call 149; refine HBG.out.mono ?_; rintro r w4 ⟨rfl, HG4⟩)
      | (go_at_call 150; refine (HG4.out.choose_spec.choose_spec.small hn1).mono ?_; rintro r w5 ⟨lv, rfl, HG5, -⟩))
    have HW5 := HG5
    clear HG4 HBG HST
    have hsz := fun (lv : Value) (wr : World) (nh : Nat) (h : GoOn s wg X gB B n nh lv wr) => (show sizeLen wr X = nh from by obtain ⟨F, p, hp, hg, -⟩ := h; exact hg.play.sizes)
    have HSZ := Lib.hid hsz
    clear hsz
    go_loopw [6] (fun v wr => ∃ nh : Nat, Hid (GoOn s wg X gB B n nh v wr)) (fun _ wr => 1001 - sizeLen wr X)
    case atStart => exact ⟨1, HG5⟩
    case round =>
      clear HG5 HW5
      obtain ⟨nh, HGO⟩ := hrel
      have hsl := HSZ.out _ _ _ HGO.out
      obtain ⟨F, p, hp, hg, hcase⟩ := HGO.out
      have hheaps := hg.heaps
      have HGI := Lib.hid hg
      rcases hcase with ⟨hlv, hno⟩ | ⟨g, K, cap6, hlv, hblk⟩
      · subst hlv
        have HNO := Lib.hid hno
        have HDN := Lib.hid (hg.done HR.out HNN.out hno)
        obtain ⟨ve, vp, vi, vb, gh, gg, vs, vt, sz, gz, ts, hA⟩ := hg.play
        obtain ⟨at1, ct1, hvt⟩ := owns_shape' hA.took
        subst hvt
        have c1 := hA.cells.2.1
        have HCL : Hid (Calls Tryz.prog 152 #[.pointer (some ⟨B, 0, none⟩)] wr (ClassesAt wr (Rd.R s (Rd.last s)) n)) := Lib.hid (by rw [← HDN.out]; exact classes_all hA.part hg.inv hn1)
        have HA := Lib.hid hA
        have HUW := Lib.hid hg.up
        have hXg : wg.heap.size ≤ X := hg.low X hA.inX
        clear hg hno hA hsl HGO hheaps
        go_upto_region 12 with (go_at_call 152; refine HCL.out.mono ?_; rintro r w6 ⟨g6, rfl, hrow6, hg6, hu6⟩; (have hb6 := (hu6.block X HA.out.lt).trans HA.out.box); (have d4 : w6.cell? ⟨X, 4, none⟩ = some (.slice none 0 0) := by simp [World.cell?, hb6]); (have f4 : w6.frozen? ⟨X, 4, none⟩ = false := by simp [World.frozen?, hb6]); (have HROW6 := Lib.hid hrow6); (have HU6 := Lib.hid hu6); (have HB6 := Lib.hid hb6); clear hrow6 hu6 hb6)
        obtain ⟨w7, hw7⟩ : ∃ w7, w7 = w6.setCell ⟨X, 4, none⟩ (.slice (some ⟨g6, 0, none⟩) n n) := ⟨_, rfl⟩
        have hb7 := box_setCell HB6.out 4 (.slice (some ⟨g6, 0, none⟩) n n)
        rw [← hw7] at hb7
        have e4 : w7.cell? ⟨X, 4, none⟩ = some (.slice (some ⟨g6, 0, none⟩) n n) := by simp [World.cell?, hb7]
        have e5 : w7.cell? ⟨X, 5, none⟩ = some (.slice at1 nh ct1) := by simp [World.cell?, hb7]
        have e6 : w7.cell? ⟨X, 6, none⟩ = some (.slice (some ⟨gg, 0, none⟩) n n) := by simp [World.cell?, hb7]
        have hu7 : Up wg w7 := by rw [hw7]; exact (HUW.out.trans HU6.out).setCell hXg _
        have hX6 : X < wr.heap.size := HA.out.lt
        have hrow7 : Row w7 g6 3 n (ints (Rd.R s (Rd.last s))) := by rw [hw7]; exact HROW6.out.other (by simp only; omega) _
        obtain ⟨⟨k0, k1, k2⟩, x0, x1, x2⟩ := three_cellsG (HB2.out w7 hu7)
        have HU7 := Lib.hid hu7
        have HROW7 := Lib.hid hrow7
        rw [← hw7]
        clear hw7 hb7 hu7 hrow7 d4 f4 c1
        go_wp2_with fail
        obtain ⟨⟨y0, y1, y2⟩, hT⟩ := three_setG (HB2.out w7 HU7.out) (.slice (some ⟨g6, 0, none⟩) n n) (.slice at1 nh ct1) (.slice (some ⟨gg, 0, none⟩) n n)
        have hwgr := HUW.out.size
        have hw0 := HWG.out.size
        refine bodyPost_ret (v := .tuple #[.agg #[.slice (some ⟨g6, 0, none⟩) n n, .slice at1 nh ct1, .slice (some ⟨gg, 0, none⟩) n n], .nilIface]) (by simp [results, Tryz.results101, go_sem, y0, y1, y2]) rfl ⟨_, _, _, _, _, _, _, _, rfl, Lib.hid ?_, up_turned (HWG.out.trans HU7.out) hRBw hT⟩
        have hr := HROW7.out.keep (hT.block g6 HROW7.out.lt (by omega))
        refine Row.ownsAt (by rw [Nat.mul_one]; exact hr) (by omega) (Nat.le_refl _) (by unfold maxLen; omega) ?_
        rw [Nat.mul_one, ints_length, Rd.R_len]; exact HNN.out
      · subst hlv
        have hq1 := fun w => Go.run_neq_slice_nil_any (P := Tryz.prog) w 35 3 (some ⟨g, 0, none⟩) K cap6 0 0 Tryz.underlying35
        have HTK := Lib.hid (hg.take HG.out HR.out HNN.out hblk)
        have HHE := Lib.hid hheaps
        have HSL := Lib.hid hsl
        clear hg hblk HGO hheaps hsl
        go_wp2_with (first
          | (go_at_call 151; refine HTK.out.mono ?_; rintro r w6 ⟨rfl, HG6⟩)
          | (go_at_call 150; refine (HG6.out.choose_spec.choose_spec.choose_spec.small hn1).mono ?_; rintro r w7 ⟨lv7, rfl, HG7, -⟩))
        go_roundw
        case rel => exact ⟨nh + 1, HG7⟩
        case measure =>
          have e1 := HSZ.out _ _ _ HG7.out
          have e2 := HSL.out
          have e3 := HHE.out
          simp only [e1, e2]
          omega

/-- A system that is none: Refine. -/
def RefineBad (w : World) (x : Value) (r : Ending) (w' : World) : Prop :=
  ∃ qb pb, r = .returned (.tuple #[.agg #[.slice none 0 0, .slice none 0 0, .slice none 0 0], faultAt qb]) ∧ Hid (FaultE w' qb layerStrong (faultAt pb) ∧ FaultE w' pb layerSystem x) ∧ Up w w'

set_option maxHeartbeats 4000000 in
set_option maxRecDepth 100000 in
theorem refine_bad (s : Sy.Lts) (se : Value) (xt : TypeId) (xv : Value) (w : World) (hr : Sy.right s = false) (hs : Ls3 w se s.es) (hE : w.cell? ⟨2, 0, none⟩ = some (.iface xt xv)) (hG : ErrT w) (hl : s.es.length ≤ maxLen) :
    Calls Tryz.prog 101 #[sysV s se] w (RefineBad w (.iface xt xv)) := by
  have hNP : ∀ W, Up w W → Calls Tryz.prog 148 #[sysV s se] W fun r w' => ∃ qb, r = .returned (.tuple #[.pointer none, faultAt qb]) ∧ Hid (∃ pb, W.heap.size ≤ qb ∧ W.heap.size ≤ pb ∧ FaultE w' qb layerStrong (faultAt pb) ∧ FaultE w' pb layerSystem (.iface xt xv)) ∧ Up W w' := fun W hu => by
    refine (newPlay_bad s se xt xv W hr (hs.up hu) (hu.cell hE) (hu.cell hG) hl).mono ?_
    rintro r w' ⟨qb, pb, rfl, h1, h2, h3, h4, h5⟩
    exact ⟨qb, rfl, Lib.hid ⟨pb, h1, h2, h3, h4⟩, h5⟩
  obtain ⟨ao, cap, rfl⟩ := ls3_shape hs
  obtain ⟨L, hL⟩ : ∃ L, L = s.es.length := ⟨_, rfl⟩
  unfold sysV at hNP ⊢
  rw [← hL] at hNP ⊢
  have HNP := Lib.hid hNP
  clear hr hs hE hG hl hNP hL
  have HU0 : Hid (Up w ((w.alloc (.cells #[.int .i64 s.n, .int .i64 s.m, .int .i64 s.start, .slice ao L cap] 27)).alloc (.cells #[.slice none 0 0, .slice none 0 0, .slice none 0 0] 144))) := Lib.hid (((Up.refl w).alloc _).alloc _)
  have hb0 := heap_alloc_new (w.alloc (.cells #[.int .i64 s.n, .int .i64 s.m, .int .i64 s.start, .slice ao L cap] 27)) (.cells #[.slice none 0 0, .slice none 0 0, .slice none 0 0] 144)
  rw [World.size_alloc] at hb0
  have HB0 := Lib.hid hb0
  clear hb0
  unfold faultAt at HNP
  go_enter Tryz.func101, Tryz.ntmps101
  go_wp2_with (go_at_call 148; refine (HNP.out _ HU0.out).mono ?_; rintro r w2 ⟨qb, rfl, HF, hu2⟩; (have hb2 := (hu2.block _ (lt_of_block' HB0.out)).trans HB0.out); (obtain ⟨⟨k0, k1, k2⟩, f0, f1, f2⟩ := three_cellsG hb2); (have HB2 := Lib.hid hb2); (have HU2 := Lib.hid hu2); clear hu2 hb2)
  obtain ⟨⟨y0, y1, y2⟩, hT⟩ := three_setG HB2.out (.slice none 0 0) (.slice none 0 0) (.slice none 0 0)
  refine bodyPost_ret (v := .tuple #[.agg #[.slice none 0 0, .slice none 0 0, .slice none 0 0], .iface 103 (.pointer (some ⟨qb, 0, none⟩))]) (by simp [results, Tryz.results101, go_sem, y0, y1, y2]) rfl ?_
  obtain ⟨pb, h1, h2, h3, h4⟩ := HF.out
  rw [World.size_alloc, World.size_alloc] at h1 h2
  have hk : ∀ k, w.heap.size + 1 + 1 ≤ k → k < w2.heap.size → ((((w2.setCell ⟨w.heap.size + 1, 0, none⟩ (.slice none 0 0)).setCell ⟨w.heap.size + 1, 1, none⟩ (.slice none 0 0)).setCell ⟨w.heap.size + 1, 2, none⟩ (.slice none 0 0))).heap[k]? = w2.heap[k]? := fun k h5 h6 => hT.block k h6 (by omega)
  exact ⟨qb, pb, rfl, Lib.hid ⟨(hk qb h1 (lt_of_block' h3)).trans h3, (hk pb h2 (lt_of_block' h4)).trans h4⟩, up_turned (HU0.out.trans HU2.out) (by omega) hT⟩

/-- What Classes leaves. -/
def ClassesOk (s : Sy.Lts) (w : World) (n : Nat) (r : Ending) (w' : World) : Prop :=
  ∃ a1 c1, r = .returned (.tuple #[.slice a1 n c1, .nilIface]) ∧ Hid (w'.ownsRow w.heap.size 3 1 (.slice a1 n c1) n (ints (Rd.R s (Rd.last s)))) ∧ Up w w'
def ClassesBad (w : World) (x : Value) (r : Ending) (w' : World) : Prop :=
  ∃ qb, r = .returned (.tuple #[.slice none 0 0, faultAt qb]) ∧ Hid (∃ pb, FaultE w' qb layerStrong (faultAt pb) ∧ FaultE w' pb layerSystem x) ∧ Up w w'

set_option maxHeartbeats 4000000 in
set_option maxRecDepth 100000 in
theorem classes_ok (s : Sy.Lts) (se : Value) (xt : TypeId) (xv : Value) (w : World) (hr : Sy.right s = true) (hs : Ls3 w se s.es) (hE : w.cell? ⟨2, 0, none⟩ = some (.iface xt xv)) (hl : s.es.length ≤ maxLen) :
    Calls Tryz.prog 28 #[sysV s se] w (ClassesOk s w s.n.toNat) := by
  have hRF : ∀ W, Up w W → Calls Tryz.prog 101 #[sysV s se] W (RefineDone s W s.n.toNat) := fun W hu => refine_ok s se xt xv W hr (hs.up hu) (hu.cell hE) hl
  obtain ⟨ao, cap, rfl⟩ := ls3_shape hs
  obtain ⟨n, hn⟩ : ∃ n, n = s.n.toNat := ⟨_, rfl⟩
  rw [← hn] at hRF ⊢
  obtain ⟨L, hL⟩ : ∃ L, L = s.es.length := ⟨_, rfl⟩
  unfold sysV at hRF ⊢
  rw [← hL] at hRF ⊢
  have HRF := Lib.hid hRF
  clear hr hs hE hl hRF hL hn
  have HU0 : Hid (Up w (w.alloc (.cells #[.int .i64 s.n, .int .i64 s.m, .int .i64 s.start, .slice ao L cap] 27))) := Lib.hid ((Up.refl w).alloc _)
  go_enter Tryz.func28, Tryz.ntmps28
  go_wp2_with (go_at_call 101; refine (HRF.out _ HU0.out).mono ?_; rintro r w2 ⟨a1, c1, a2, n2, c2, a3, n3, c3, rfl, HO, hu2⟩; (have HU2 := Lib.hid hu2); clear hu2)
  go_ret2
  have h0 := HU0.out.size
  exact ⟨a1, c1, rfl, Lib.hid (owns_base (((Up.refl w2).alloc _).owns HO.out) h0), (HU0.out.trans HU2.out).alloc _⟩

set_option maxHeartbeats 4000000 in
set_option maxRecDepth 100000 in
theorem classes_bad (s : Sy.Lts) (se : Value) (xt : TypeId) (xv : Value) (w : World) (hr : Sy.right s = false) (hs : Ls3 w se s.es) (hE : w.cell? ⟨2, 0, none⟩ = some (.iface xt xv)) (hG : ErrT w) (hl : s.es.length ≤ maxLen) :
    Calls Tryz.prog 28 #[sysV s se] w (ClassesBad w (.iface xt xv)) := by
  have hRF : ∀ W, Up w W → Calls Tryz.prog 101 #[sysV s se] W (RefineBad W (.iface xt xv)) := fun W hu => refine_bad s se xt xv W hr (hs.up hu) (hu.cell hE) (hu.cell hG) hl
  obtain ⟨ao, cap, rfl⟩ := ls3_shape hs
  obtain ⟨L, hL⟩ : ∃ L, L = s.es.length := ⟨_, rfl⟩
  unfold sysV at hRF ⊢
  rw [← hL] at hRF ⊢
  have HRF := Lib.hid hRF
  clear hr hs hE hG hl hRF hL
  have HU0 : Hid (Up w (w.alloc (.cells #[.int .i64 s.n, .int .i64 s.m, .int .i64 s.start, .slice ao L cap] 27))) := Lib.hid ((Up.refl w).alloc _)
  unfold RefineBad faultAt at HRF
  go_enter Tryz.func28, Tryz.ntmps28
  go_wp2_with (go_at_call 101; refine (HRF.out _ HU0.out).mono ?_; rintro r w2 ⟨qb, pb, rfl, HF, hu2⟩; (have HU2 := Lib.hid hu2); clear hu2)
  go_ret2
  exact ⟨qb, rfl, Lib.hid ⟨pb, HF.out.1.up ((Up.refl w2).alloc _), HF.out.2.up ((Up.refl w2).alloc _)⟩, (HU0.out.trans HU2.out).alloc _⟩

end Go.Proofs.YtkcdkfkgjjpaaaaGreatDoor
