/- Walk over the document's own store: Same. -/
import Derived.Test.YtiiieailimphnaaDoorTmR7
import Derived.Test.YtiiieailimphnaaDoorTmW12
import Derived.Test.YtiiieailimphnaaDoorTmPlain2
import Derived.Deep.DeepCutAuto
import Derived.Deep.CutBlock
namespace Go.Proofs.YtiiieailimphnaaDoor
open Go.RowKit Go.Maps
set_option linter.unusedVariables false
set_option linter.unusedSimpArgs false

theorem Tm.part_a {t : Tm.T} (h : t.kind = 2 ∨ t.kind = 5 ∨ t.kind = 6 ∨ t.kind = 3 ∨ t.kind = 4) : t.a ∈ t.parts := by
  unfold Tm.T.parts
  by_cases h34 : t.kind = 3 ∨ t.kind = 4
  · rw [if_pos h34]; simp
  · rw [if_neg h34, if_pos (by omega)]; simp
theorem Tm.part_b {t : Tm.T} (h : t.kind = 3 ∨ t.kind = 4) : t.b ∈ t.parts := by
  unfold Tm.T.parts
  rw [if_pos h]; simp

/-- Ahead of a round: the list of numbers. -/
def AsAt (w : World) (gi n : Nat) (xs : List Int) (wr : World) : Prop := Row wr gi 3 n (vals xs) ∧ Up w wr

/-- Behind the switch: the term with its parts numbered anew. -/
def RenAt (w : World) (K gi : Nat) (u : Tm.T) (nv pv : Value) (n : Nat) (xs : List Int) (wc : World) : Prop :=
  wc.heap[K]? = some (.cells #[.int .i64 u.kind, .int .i64 u.label, .int .i64 u.a, .int .i64 u.b, nv, pv] 33 (0, 0)) ∧ Row wc gi 3 n (vals xs) ∧ Up w wc

theorem ren_17 {w w6 : World} {K gi n : Nat} {t u : Tm.T} {nv pv : Value} {aL xs : List Int} (hu : u = t.renum aL) (hk : t.kind = 1 ∨ t.kind = 7)
    (h : w6.heap[K]? = some (.cells #[.int .i64 t.kind, .int .i64 t.label, .int .i64 t.a, .int .i64 t.b, nv, pv] 33 (0, 0))) (hr : Row w6 gi 3 n (vals xs)) (hU : Up w w6) : RenAt w K gi u nv pv n xs w6 := by
  rw [hu, Tm.renum_17 _ hk]; exact ⟨h, hr, hU⟩

theorem ren_256 {w w6 : World} {K gi n pa : Nat} {t u : Tm.T} {nv pv : Value} {aL xs : List Int} {x : Int} (hu : u = t.renum aL) (hk : t.kind = 2 ∨ t.kind = 5 ∨ t.kind = 6) (hpa : t.a = (pa : Int)) (hx : x = aL.getD pa (-1))
    (h : w6.heap[K]? = some (.cells #[.int .i64 t.kind, .int .i64 t.label, .int .i64 t.a, .int .i64 t.b, nv, pv] 33 (0, 0))) (hr : Row w6 gi 3 n (vals xs)) (hU : Up w w6) (hK : w.heap.size ≤ K) (hne : gi ≠ K) : RenAt w K gi u nv pv n xs (w6.setCell ⟨K, 2, none⟩ (.int .i64 x)) := by
  have ha : t.a.toNat = pa := by omega
  rw [hu, Tm.renum_256 _ hk, ha, ← hx]
  exact ⟨by simp [World.setCell, Array.getElem?_modify, h], hr.other hne _, hU.setCell hK _⟩

theorem ren_34 {w w6 : World} {K gi n pa pb : Nat} {t u : Tm.T} {nv pv : Value} {aL xs : List Int} {x y : Int} (hu : u = t.renum aL) (hk : t.kind = 3 ∨ t.kind = 4) (hpa : t.a = (pa : Int)) (hpb : t.b = (pb : Int)) (hx : x = aL.getD pa (-1)) (hy : y = aL.getD pb (-1))
    (h : w6.heap[K]? = some (.cells #[.int .i64 t.kind, .int .i64 t.label, .int .i64 t.a, .int .i64 t.b, nv, pv] 33 (0, 0))) (hr : Row w6 gi 3 n (vals xs)) (hU : Up w w6) (hK : w.heap.size ≤ K) (hne : gi ≠ K) :
    RenAt w K gi u nv pv n xs ((w6.setCell ⟨K, 2, none⟩ (.int .i64 x)).setCell ⟨K, 3, none⟩ (.int .i64 y)) := by
  have ha : t.a.toNat = pa := by omega
  have hb : t.b.toNat = pb := by omega
  rw [hu, Tm.renum_34 _ hk, ha, hb, ← hx, ← hy]
  exact ⟨by simp [World.setCell, Array.getElem?_modify, h], (hr.other hne _).other hne _, (hU.setCell hK _).setCell hK _⟩

theorem RenAt.drew {w w6 : World} {K gi n : Nat} {u : Tm.T} {nv pv : Value} {xs : List Int} (h : RenAt w K gi u nv pv n xs w6) : RenAt w K gi u nv pv n xs w6.drew := ⟨h.1, h.2.1, h.2.2.drew⟩

theorem asF_cell (s o : List Tm.T) {n i j : Nat} {y : Int} (hi : i ≤ n) (h : j < i) : (vals ((Tm.asF s o n i).set i y))[j]? = some (.int .i64 ((Tm.asL s o i).getD j (-1))) := by
  rw [← Tm.asF_get2 s o (n := n) (y := y) h]
  exact vals_get (by rw [List.length_set, Tm.asF_len s o hi]; omega)

/-- What Same of the document leaves. -/
def RefSameDone (s o : List Tm.T) (a : Nat) (b : Int) (w : World) (r : Ending) (w' : World) : Prop := r = .returned (.bool ((Tm.asL s o (a + 1)).getD a (-1) == b)) ∧ Up w w'

set_option maxHeartbeats 8000000 in
set_option maxRecDepth 100000 in
theorem refsameof_any {F G : Nat → Prop} {w : World} {R Q : Nat} {s o : List Tm.T} {a : Nat} {b : Int} (hs : Rs F w R s) (ho : Rs G w Q o) (ha : a < s.length) (hls : s.length ≤ 1000) (hlo : o.length ≤ 1000) :
    Calls Tryd.prog 17 #[.pointer (some ⟨R, 0, none⟩), .int .i64 (a : Nat), .pointer (some ⟨Q, 0, none⟩), .int .i64 b] w (RefSameDone s o a b w) := by
  obtain ⟨i0, hif, hz0, hz1, hz2⟩ := info_parts Tryd.intInfo'
  obtain ⟨ao, cap, c0, -, ct⟩ := hs.at
  obtain ⟨aq, capq, d0, -, -⟩ := ho.at
  have hsi := hs.inv
  have hoi := ho.inv
  have HT : Hid (∀ i (hi : i < s.length), ∃ g p1 k1 p2 k2, ao = some ⟨g, 0, none⟩ ∧ ∀ W, Up w W → (W.cell? ⟨R, 0, none⟩ = some (.slice (some ⟨g, 0, none⟩) s.length cap) ∧ W.cell? ⟨g, i * 6, none⟩ = some (.int .i64 s[i].kind) ∧ W.cell? ⟨g, i * 6 + 1, none⟩ = some (.int .i64 s[i].label) ∧ W.cell? ⟨g, i * 6 + 2, none⟩ = some (.int .i64 s[i].a) ∧
      W.cell? ⟨g, i * 6 + 3, none⟩ = some (.int .i64 s[i].b) ∧ W.cell? ⟨g, i * 6 + 4, none⟩ = some (.slice p1 s[i].names.length k1) ∧ W.cell? ⟨g, i * 6 + 5, none⟩ = some (.slice p2 s[i].pairs.length k2)) ∧ TRead W s[i] (.slice p1 s[i].names.length k1) (.slice p2 s[i].pairs.length k2)) := Lib.hid (fun i hi => by
    obtain ⟨g, nv, pv, e, hc, hown⟩ := ct i hi
    have e1 : s.getD i Tm.nilT = s[i] := by simp [List.getD, hi]
    rw [e1] at hc hown
    obtain ⟨p1, k1, rfl⟩ := owns_shape' hown.n
    obtain ⟨p2, k2, rfl⟩ := owns_shape' hown.p
    refine ⟨g, p1, k1, p2, k2, e, fun W hW => ⟨⟨hW.cell (by rw [← e]; exact c0), hW.cell (hc 0 _ (by omega) rfl), hW.cell (hc 1 _ (by omega) rfl), hW.cell (hc 2 _ (by omega) rfl), hW.cell (hc 3 _ (by omega) rfl), hW.cell (hc 4 _ (by omega) rfl), hW.cell (hc 5 _ (by omega) rfl)⟩, (hown.up hW).read⟩⟩)
  have HMAY : Hid (∀ W u nv pv, Up w W → TRead W u nv pv → u.names.length ≤ 9223372036854775807 → u.pairs.length ≤ 9223372036854775807 → Calls Tryd.prog 37 #[.pointer (some ⟨Q, 0, none⟩), .agg #[.int .i64 u.kind, .int .i64 u.label, .int .i64 u.a, .int .i64 u.b, nv, pv]] W (Eql W (u.may o.length))) :=
    Lib.hid (fun W u nv pv hW hr h1 h2 => refmay_any hr (hW.cell d0) h1 h2)
  have HFIND : Hid (∀ W u nv pv, Up w W → TRead W u nv pv → u.may o.length = true → Calls Tryd.prog 38 #[.pointer (some ⟨Q, 0, none⟩), .agg #[.int .i64 u.kind, .int .i64 u.label, .int .i64 u.a, .int .i64 u.b, nv, pv]] W (FindDone o u W)) :=
    Lib.hid (fun W u nv pv hW hr hm => find_any (ho.up hW) hr hm hlo)
  obtain ⟨n, hn⟩ : ∃ n, n = a + 1 := ⟨_, rfl⟩
  have hwrap : IntKind.i64.wrap ((a : Int) + 1) = (n : Int) := (IntWalk.i64_in _ (by omega)).trans (by omega)
  have han : a < n := by omega
  have hn1 : n ≤ 1000 := by omega
  obtain ⟨z, hz⟩ : ∃ z, z = s.length := ⟨_, rfl⟩
  rw [← hz] at ha hls
  have HZ := Lib.hid hz
  have HN := Lib.hid hn
  have HI := Lib.hid (⟨hsi, hoi⟩ : Tm.Inv s ∧ Tm.Inv o)
  have HEND : Hid (∀ x, x = (Tm.asF s o n n).getD a 0 → (x == b) = ((Tm.asL s o (a + 1)).getD a (-1) == b)) := Lib.hid (fun x hx => by rw [hx, hn, Tm.asF_last])
  clear hs ho c0 ct d0 hsi hoi hlo hz
  go_enter Tryd.func17, Tryd.ntmps17
  go_wp2_with (at_make; refine wpList_make_full _ rfl _ _ 30 rfl 0 3 i0 (.int .i64 0) 1 Tryd.underlying30 hif hz0 hz1 _ _ _ _ (a + 1) rfl rfl rfl rfl (by rw [hz2]; omega) (by unfold maxLen; omega) (Nat.zero_le _) ?_; intro w2 hown hgrow; (replace hown := Lib.hid hown); (replace hgrow := Lib.hid hgrow))
  have hB0 : AsAt w w.heap.size n (Tm.asF s o n 0) w2 := by
    have hU2 : Up w w2 := (Up.refl w).grown hgrow.out (fun k hk => by cases hk)
    have hown := hown.out
    rw [made_zeros, ← HN.out] at hown
    obtain ⟨hrow, -, -, -⟩ := Row.of hown
    rw [Nat.mul_one] at hrow
    exact ⟨by rw [Tm.asF_zero]; exact hrow, hU2⟩
  obtain ⟨gi, hgi⟩ : ∃ gi, gi = w.heap.size := ⟨_, rfl⟩
  rw [← hgi] at hB0 ⊢
  have HGI := Lib.hid hgi
  clear hown hgrow hgi
  go_loopw [10] (fun i wr => ∃ k : Nat, k ≤ n ∧ i = .int .i64 k ∧ AsAt w gi n (Tm.asF s o n k) wr) (fun i _ => n - (intOf i).toNat)
  case atStart => exact ⟨0, Nat.zero_le _, rfl, hB0⟩
  case round =>
    clear hB0
    obtain ⟨k, hk, rfl, hrow, hU⟩ := hrel
    by_cases hlt : k < n
    · have hks : k < s.length := by rw [← HZ.out]; omega
      obtain ⟨g, p1, k1, p2, k2, rfl, ht⟩ := HT.out k hks
      obtain ⟨⟨r0, y0, y1, y2, y3, y4, y5⟩, hr⟩ := ht wr hU
      have HTR := Lib.hid (fun W hW => (ht W hW).2)
      have hmt := HI.out.1.may k hks
      have hsm := Tm.may_small hmt (by omega)
      have hpl := Tm.parts_lt hmt
      have h17 := (Tm.may_zero hmt).2.2
      have HSET : Hid (∀ x, x = (if (s[k].renum (Tm.asL s o k)).may o.length = true then Tm.find o (s[k].renum (Tm.asL s o k)) else -1) → ((Tm.asF s o n k).set k (-1)).set k x = Tm.asF s o n (k + 1)) := Lib.hid (fun x hx => Tm.asF_set2 s o HI.out.2 hks hlt hx)
      have HS1 : Hid (∀ x, x = (if (s[k].renum (Tm.asL s o k)).may o.length = true then Tm.find o (s[k].renum (Tm.asL s o k)) else -1) → (Tm.asF s o n k).set k x = Tm.asF s o n (k + 1)) := Lib.hid (fun x hx => Tm.asF_set s o HI.out.2 hks hlt hx)
      obtain ⟨t, htt⟩ : ∃ t, t = s[k] := ⟨_, rfl⟩
      rw [← htt] at y0 y1 y2 y3 y4 y5 HTR hr hsm hpl h17 HSET HS1
      have HC : Hid (∀ j, j < k → (vals ((Tm.asF s o n k).set k (-1)))[j]? = some (.int .i64 ((Tm.asL s o k).getD j (-1)))) := Lib.hid (fun j hj => asF_cell s o hk hj)
      obtain ⟨aL, has⟩ : ∃ x, x = Tm.asL s o k := ⟨_, rfl⟩
      obtain ⟨u, hu⟩ : ∃ u, u = t.renum aL := ⟨_, rfl⟩
      rw [← has] at HC
      rw [← has, ← hu] at HSET HS1
      have HUU := Lib.hid hu
      have hul := Tm.renum_lists t aL
      rw [← hu] at hul
      have hcg := hrow.cell (vals_get (l := Tm.asF s o n k) (i := k) (by rw [Tm.asF_len s o hk]; exact hlt))
      obtain ⟨x0, hx0⟩ : ∃ x, x = (Tm.asF s o n k).getD k 0 := ⟨_, rfl⟩
      rw [← hx0] at hcg
      have hfg := hrow.free k
      have hgl := hrow.lt
      have HROW : Hid (Row wr gi 3 n (vals (Tm.asF s o n k))) := Lib.hid hrow
      have HU := Lib.hid hU
      have hkz : k < z := by rw [HZ.out]; exact hks
      obtain ⟨l1, hl1⟩ : ∃ l, l = t.names.length := ⟨_, rfl⟩
      obtain ⟨l2, hl2⟩ : ∃ l, l = t.pairs.length := ⟨_, rfl⟩
      rw [← hl1] at y4 HTR hsm
      rw [← hl2] at y5 HTR hsm
      rw [← HZ.out] at r0
      have HUL : Hid (u.names = t.names ∧ u.pairs = t.pairs ∧ u.names.length ≤ 9223372036854775807 ∧ u.pairs.length ≤ 9223372036854775807) := Lib.hid ⟨hul.1, hul.2.1, by rw [hul.1, ← hl1]; omega, by rw [hul.2.1, ← hl2]; omega⟩
      have HPL := Lib.hid hpl
      have H17 := Lib.hid h17
      clear ht hr hmt hsm hpl h17 htt has hu hul hx0 hrow hU hl1 hl2 hks
      obtain ⟨kd, hkd⟩ : ∃ x, x = t.kind := ⟨_, rfl⟩
      obtain ⟨xa, hxa⟩ : ∃ x, x = t.a := ⟨_, rfl⟩
      obtain ⟨xb, hxb⟩ : ∃ x, x = t.b := ⟨_, rfl⟩
      rw [← hkd] at y0
      rw [← hxa] at y2
      rw [← hxb] at y3
      have HKD := Lib.hid hkd
      have HXA := Lib.hid hxa
      have HXB := Lib.hid hxb
      have hkn : (k : Int) < (a : Int) + 1 := by omega
      have hki : k < a + 1 := by omega
      have hK0 := heap_alloc_new (wr.setCell ⟨gi, k, none⟩ (.int .i64 (-1))) (.cells #[.int .i64 kd, .int .i64 t.label, .int .i64 xa, .int .i64 xb, .slice p1 l1 k1, .slice p2 l2 k2] 33 (0, 0))
      rw [World.size_setCell] at hK0
      have HK6 : Hid (((wr.setCell ⟨gi, k, none⟩ (.int .i64 (-1))).alloc (.cells #[.int .i64 kd, .int .i64 t.label, .int .i64 xa, .int .i64 xb, .slice p1 l1 k1, .slice p2 l2 k2] 33 (0, 0))).heap[wr.heap.size]? = some (.cells #[.int .i64 kd, .int .i64 t.label, .int .i64 xa, .int .i64 xb, .slice p1 l1 k1, .slice p2 l2 k2] 33 (0, 0))) :=
        Lib.hid hK0
      have HR6 : Hid (Row ((wr.setCell ⟨gi, k, none⟩ (.int .i64 (-1))).alloc (.cells #[.int .i64 kd, .int .i64 t.label, .int .i64 xa, .int .i64 xb, .slice p1 l1 k1, .slice p2 l2 k2] 33 (0, 0))) gi 3 n (vals ((Tm.asF s o n k).set k (-1)))) := Lib.hid (by
        have := (HROW.out.set k (.int .i64 (-1))).alloc (.cells #[.int .i64 kd, .int .i64 t.label, .int .i64 xa, .int .i64 xb, .slice p1 l1 k1, .slice p2 l2 k2] 33 (0, 0))
        rwa [← vals_set] at this)
      have HU6 : Hid (Up w ((wr.setCell ⟨gi, k, none⟩ (.int .i64 (-1))).alloc (.cells #[.int .i64 kd, .int .i64 t.label, .int .i64 xa, .int .i64 xb, .slice p1 l1 k1, .slice p2 l2 k2] 33 (0, 0)))) := Lib.hid ((HU.out.setCell (by rw [HGI.out]; exact Nat.le_refl _) _).alloc _)
      obtain ⟨K, hKe⟩ : ∃ K, K = wr.heap.size := ⟨_, rfl⟩
      have hKg : gi ≠ K := by omega
      have HKW : Hid (w.heap.size ≤ K) := Lib.hid (by rw [hKe]; exact HU.out.size)
      clear hkd hxa hxb hK0
      go_upto_block 2 with fail
      obtain ⟨w6, hw6⟩ : ∃ x, ((wr.setCell ⟨gi, k, none⟩ (.int .i64 (-1))).alloc (.cells #[.int .i64 kd, .int .i64 t.label, .int .i64 xa, .int .i64 xb, .slice p1 l1 k1, .slice p2 l2 k2] 33 (0, 0))) = x := ⟨_, rfl⟩
      rw [hw6] at HK6 HR6 HU6 ⊢
      rw [← hKe] at HK6 ⊢
      obtain ⟨d0, d1, d2, d3, d4, d5, df⟩ := six_cells HK6.out
      clear y0 y1 y2 y3 y4 y5 hcg hfg hgl hw6 hKe HROW r0
      go_cut [] (RenAt w K gi u (.slice p1 l1 k1) (.slice p2 l2 k2) n ((Tm.asF s o n k).set k (-1)))
      case first =>
        have hkk : kd = 1 ∨ kd = 2 ∨ kd = 3 ∨ kd = 4 ∨ kd = 5 ∨ kd = 6 ∨ kd = 7 := by have := H17.out; have := HKD.out; omega
        have HPA : Hid ((kd = 2 ∨ kd = 5 ∨ kd = 6 ∨ kd = 3 ∨ kd = 4) → ∃ pa : Nat, xa = (pa : Int) ∧ pa < k) := Lib.hid (fun h => by
          have h1 := HPL.out xa (by rw [HXA.out]; exact Tm.part_a (by have := HKD.out; omega))
          exact ⟨xa.toNat, by omega, by omega⟩)
        have HPB : Hid ((kd = 3 ∨ kd = 4) → ∃ pb : Nat, xb = (pb : Int) ∧ pb < k) := Lib.hid (fun h => by
          have h1 := HPL.out xb (by rw [HXB.out]; exact Tm.part_b (by have := HKD.out; omega))
          exact ⟨xb.toNat, by omega, by omega⟩)
        have HDONE : Hid (w6.heap[K]? = some (.cells #[.int .i64 t.kind, .int .i64 t.label, .int .i64 t.a, .int .i64 t.b, .slice p1 l1 k1, .slice p2 l2 k2] 33 (0, 0))) := Lib.hid (by rw [← HKD.out, ← HXA.out, ← HXB.out]; exact HK6.out)
        rcases hkk with rfl | rfl | rfl | rfl | rfl | rfl | rfl
        · go_wp2_with fail
          go_meet
          exact ren_17 HUU.out (by have := HKD.out; omega) HDONE.out HR6.out HU6.out
        · obtain ⟨pa, rfl, hpk⟩ := HPA.out (by omega)
          have cpa := HR6.out.cell (HC.out pa hpk)
          obtain ⟨va, hva⟩ : ∃ x, x = aL.getD pa (-1) := ⟨_, rfl⟩
          rw [← hva] at cpa
          replace hva := Lib.hid hva
          have hpi : (pa : Int) < (a : Int) + 1 := by omega
          have hpi2 : pa < a + 1 := by omega
          go_wp2_with fail
          go_meet
          exact ren_256 HUU.out (by have := HKD.out; omega) HXA.out.symm hva.out HDONE.out HR6.out HU6.out HKW.out hKg
        · obtain ⟨pa, rfl, hpk⟩ := HPA.out (by omega)
          obtain ⟨pb, rfl, hpk2⟩ := HPB.out (by omega)
          have cpa := HR6.out.cell (HC.out pa hpk)
          have cpb := HR6.out.cell (HC.out pb hpk2)
          obtain ⟨va, hva⟩ : ∃ x, x = aL.getD pa (-1) := ⟨_, rfl⟩
          obtain ⟨vb, hvb⟩ : ∃ x, x = aL.getD pb (-1) := ⟨_, rfl⟩
          rw [← hva] at cpa
          replace hva := Lib.hid hva
          rw [← hvb] at cpb
          replace hvb := Lib.hid hvb
          have hpi : (pa : Int) < (a : Int) + 1 := by omega
          have hpi2 : pa < a + 1 := by omega
          have hpj : (pb : Int) < (a : Int) + 1 := by omega
          have hpj2 : pb < a + 1 := by omega
          go_wp2_with fail
          go_region
          all_goals go_wp2_with fail
          all_goals go_meet
          all_goals exact (ren_34 HUU.out (by have := HKD.out; omega) HXA.out.symm HXB.out.symm hva.out hvb.out HDONE.out HR6.out HU6.out HKW.out hKg).drew
        · obtain ⟨pa, rfl, hpk⟩ := HPA.out (by omega)
          obtain ⟨pb, rfl, hpk2⟩ := HPB.out (by omega)
          have cpa := HR6.out.cell (HC.out pa hpk)
          have cpb := HR6.out.cell (HC.out pb hpk2)
          obtain ⟨va, hva⟩ : ∃ x, x = aL.getD pa (-1) := ⟨_, rfl⟩
          obtain ⟨vb, hvb⟩ : ∃ x, x = aL.getD pb (-1) := ⟨_, rfl⟩
          rw [← hva] at cpa
          replace hva := Lib.hid hva
          rw [← hvb] at cpb
          replace hvb := Lib.hid hvb
          have hpi : (pa : Int) < (a : Int) + 1 := by omega
          have hpi2 : pa < a + 1 := by omega
          have hpj : (pb : Int) < (a : Int) + 1 := by omega
          have hpj2 : pb < a + 1 := by omega
          go_wp2_with fail
          go_region
          all_goals go_wp2_with fail
          all_goals go_meet
          all_goals exact (ren_34 HUU.out (by have := HKD.out; omega) HXA.out.symm HXB.out.symm hva.out hvb.out HDONE.out HR6.out HU6.out HKW.out hKg).drew
        · obtain ⟨pa, rfl, hpk⟩ := HPA.out (by omega)
          have cpa := HR6.out.cell (HC.out pa hpk)
          obtain ⟨va, hva⟩ : ∃ x, x = aL.getD pa (-1) := ⟨_, rfl⟩
          rw [← hva] at cpa
          replace hva := Lib.hid hva
          have hpi : (pa : Int) < (a : Int) + 1 := by omega
          have hpi2 : pa < a + 1 := by omega
          go_wp2_with fail
          go_meet
          exact ren_256 HUU.out (by have := HKD.out; omega) HXA.out.symm hva.out HDONE.out HR6.out HU6.out HKW.out hKg
        · obtain ⟨pa, rfl, hpk⟩ := HPA.out (by omega)
          have cpa := HR6.out.cell (HC.out pa hpk)
          obtain ⟨va, hva⟩ : ∃ x, x = aL.getD pa (-1) := ⟨_, rfl⟩
          rw [← hva] at cpa
          replace hva := Lib.hid hva
          have hpi : (pa : Int) < (a : Int) + 1 := by omega
          have hpi2 : pa < a + 1 := by omega
          go_wp2_with fail
          go_meet
          exact ren_256 HUU.out (by have := HKD.out; omega) HXA.out.symm hva.out HDONE.out HR6.out HU6.out HKW.out hKg
        · go_wp2_with fail
          go_meet
          exact ren_17 HUU.out (by have := HKD.out; omega) HDONE.out HR6.out HU6.out
      case rest =>
      obtain ⟨w7, rfl⟩ : ∃ x, x = wc := ⟨_, rfl⟩
      obtain ⟨hk7, hrow7, hU7⟩ := hcut
      clear d0 d1 d2 d3 d4 d5 df
      obtain ⟨d0, d1, d2, d3, d4, d5, -⟩ := six_cells hk7
      have hTR7 : TRead w7 u (.slice p1 l1 k1) (.slice p2 l2 k2) := by
        have := HTR.out w7 hU7
        exact ⟨by rw [HUL.out.1]; exact this.n, by rw [HUL.out.2.1]; exact this.p⟩
      have HM7 := Lib.hid (HMAY.out w7 u _ _ hU7 hTR7 HUL.out.2.2.1 HUL.out.2.2.2)
      have HTR7 := Lib.hid hTR7
      have HK7 := Lib.hid hk7
      have HR7 := Lib.hid hrow7
      have HU7 := Lib.hid hU7
      clear hk7 hrow7 hU7 hTR7
      cases hm : u.may o.length
      · have HX : Hid ((Tm.asF s o n k).set k (-1) = Tm.asF s o n (k + 1)) := Lib.hid (HS1.out (-1) (by rw [if_neg (by rw [hm]; simp)]))
        rw [hm] at HM7
        clear hm
        go_wp2_with fail
        (with_reducible refine HM7.out.mono ?_)
        rintro e w8 ⟨rfl, hU8⟩
        have HB8 : Hid (AsAt w gi n (Tm.asF s o n (k + 1)) w8) := Lib.hid ⟨by rw [← HX.out]; exact hU8.row HR7.out, HU7.out.trans hU8⟩
        clear hU8
        go_wp2_with fail
        go_roundw
        case rel => exact ⟨k + 1, by omega, by go_num, HB8.out⟩
        case measure => simp [intOf]; omega
      · have HX : Hid (((Tm.asF s o n k).set k (-1)).set k (Tm.find o u) = Tm.asF s o n (k + 1)) := Lib.hid (HSET.out _ (by rw [if_pos hm]))
        have HFI : Hid (∀ W, Up w7 W → Calls Tryd.prog 38 #[.pointer (some ⟨Q, 0, none⟩), .agg #[.int .i64 u.kind, .int .i64 u.label, .int .i64 u.a, .int .i64 u.b, .slice p1 l1 k1, .slice p2 l2 k2]] W (FindDone o u W)) := Lib.hid (fun W hW => HFIND.out W u _ _ (HU7.out.trans hW) (HTR7.out.up hW) hm)
        rw [hm] at HM7
        clear hm
        go_wp2_with fail
        (with_reducible refine HM7.out.mono ?_)
        rintro e w8 ⟨rfl, hU8⟩
        clear d0 d1 d2 d3 d4 d5
        obtain ⟨d0, d1, d2, d3, d4, d5, -⟩ := six_cells ((hU8.block _ (lt_of_block' HK7.out)).trans HK7.out)
        have HU8 := Lib.hid hU8
        clear hU8
        go_wp2_with fail
        (with_reducible refine (HFI.out _ HU8.out).mono ?_)
        rintro e w9 ⟨rfl, hU9⟩
        have hrow9 := (HU8.out.trans hU9).row HR7.out
        have hcg := hrow9.cell (vals_get (l := (Tm.asF s o n k).set k (-1)) (i := k) (by rw [List.length_set, Tm.asF_len s o hk]; exact hlt))
        obtain ⟨x1, hx1⟩ : ∃ x, x = ((Tm.asF s o n k).set k (-1)).getD k 0 := ⟨_, rfl⟩
        rw [← hx1] at hcg
        have hfg := hrow9.free k
        have HB9 : Hid (AsAt w gi n (Tm.asF s o n (k + 1)) (w9.setCell ⟨gi, k, none⟩ (.int .i64 (Tm.find o u)))) := Lib.hid ⟨by
          have := hrow9.set k (.int .i64 (Tm.find o u))
          rw [← vals_set, HX.out] at this; exact this, (HU7.out.trans (HU8.out.trans hU9)).setCell (by rw [HGI.out]; exact Nat.le_refl _) _⟩
        clear hrow9 hU9 hx1 d0 d1 d2 d3 d4 d5
        go_wp2_with fail
        go_roundw
        case rel => exact ⟨k + 1, by omega, by go_num, HB9.out⟩
        case measure => simp [intOf]; omega
    · obtain rfl : k = n := by omega
      have hcg := hrow.cell (vals_get (l := Tm.asF s o k k) (i := a) (by rw [Tm.asF_len s o (Nat.le_refl _)]; exact han))
      have HE := Lib.hid (HEND.out _ rfl)
      obtain ⟨x1, hx1⟩ : ∃ x, x = (Tm.asF s o k k).getD a 0 := ⟨_, rfl⟩
      rw [← hx1] at hcg HE
      have HU := Lib.hid hU
      have hai : (a : Int) < (a : Int) + 1 := by omega
      clear hrow hU hx1
      go_wp2_with fail
      go_ret
      exact ⟨ret_bool HE.out, HU.out⟩

end Go.Proofs.YtiiieailimphnaaDoor
