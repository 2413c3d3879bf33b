/- The document's own answer: edges in order, each once: two halves, sorted, and merged. -/
import Derived.Test.YtpmdjicaefmbnaaGreatDoorRfRight
import Derived.Test.YtpmdjicaefmbnaaGreatDoorAppFresh
import Derived.Test.YtpmdjicaefmbnaaGreatDoorSyCompact
import Derived.Test.YtpmdjicaefmbnaaGreatDoorRdRefM
import Derived.Test.YtpmdjicaefmbnaaGreatDoorQOrd
import Derived.Test.YtpmdjicaefmbnaaGreatDoorQuiet
import Derived.Deep.Cut
import Derived.BigCall
import Derived.OwnWalk
namespace Go.Proofs.YtpmdjicaefmbnaaGreatDoor
open Go.RowKit Go.Maps
set_option linter.unusedVariables false
set_option linter.unusedSimpArgs false

/-- Edges that were answered, in new memory. -/
def GotEdges (w : World) (l : List Sy.Edge) (r : Ending) (w' : World) : Prop :=
  ∃ ao cap, r = .returned (.slice ao l.length cap) ∧ w'.ownsRow w.heap.size 72 3 (.slice ao l.length cap) l.length (cells3 l) ∧ Up w w'

/-- A slice's length is within its room. -/
def CapOk : Value → Prop
  | .slice _ n c => n ≤ c ∧ c ≤ maxLen
  | _ => True

/-- A part of triples. -/
theorem Tris.part {w : World} {g off : Nat} {l : List Sy.Edge} (h : Tris w g off l) (a n : Nat) (hn : a + n ≤ l.length) : Tris w g (off + a * 3) ((l.drop a).take n) := by
  intro i hi
  rw [List.length_take, List.length_drop] at hi
  have hh := h (a + i) (by omega)
  have e : ((l.drop a).take n).getD i (0, 0, 0) = l.getD (a + i) (0, 0, 0) := by
    simp only [List.getD, List.getElem?_take, List.getElem?_drop]
    rw [if_pos (by omega)]
  rw [e]
  have e2 : off + a * 3 + i * 3 = off + (a + i) * 3 := by omega
  rw [e2]; exact hh

theorem cells3_at2 {w : World} {ao : Option Addr} {g off : Nat} {l : List Sy.Edge} (ha : 0 < l.length → ao = some ⟨g, off, none⟩) (hc : Tris w g off l) : ∀ ad, ao = some ad → ∀ j u, (cells3 l)[j]? = some u → w.cell? (ad.add j) = some u := by
  intro ad had j u hj
  have hl : 0 < l.length := by
    have := (List.getElem?_eq_some_iff.1 hj).1
    rw [cells3_len] at this; omega
  have h := ha hl
  rw [had, Option.some.injEq] at h
  subst h
  exact cells3_at hc j u hj

set_option maxHeartbeats 2000000 in
set_option maxRecDepth 100000 in
theorem sorted_short {w : World} {v : Value} {l : List Sy.Edge} (hv : Ls3 w v l) (h2 : l.length < 2) :
    Calls Tryz.prog 126 #[v] w (GotEdges w (Sy.norm Sy.lt3 l)) := by
  obtain ⟨i0, hi, hz0, hz1, hz2⟩ := info_parts Tryz.edgesInfo
  rw [Rd.norm_short l h2]
  obtain ⟨ao, cap, g, off, rfl, ha, hc⟩ := hv
  have hat := cells3_at2 ha hc
  have hnone : ao = none → l.length = 0 := fun e => by
    rcases Nat.eq_zero_or_pos l.length with h | h
    · exact h
    · have := ha h; rw [e] at this; cases this
  have HL := Lib.hid (cells3_len l)
  obtain ⟨n, hn⟩ : ∃ n, n = l.length := ⟨_, rfl⟩
  have HN := Lib.hid hn
  unfold GotEdges
  rw [← hn] at h2 hnone ⊢
  have HAT := Lib.hid hat
  have HNO := Lib.hid hnone
  clear ha hc hat hnone hn
  go_enter Tryz.func126, Tryz.ntmps126
  go_wp2_with (at_builtin; (refine wpList_append_fresh _ rfl _ _ 22 rfl 72 i0 (.agg #[.int .i64 0, .int .i64 0, .int .i64 0]) 3 24 Tryz.underlying22 hi hz0 hz1 hz2 rfl (by decide) rfl ao n cap rfl (cells3 l) HNO.out (by rw [HL.out, HN.out]) HAT.out (cells3_one l) (by unfold maxLen; omega) (by omega) ?_); intro v1 w1 hown1 hu1)
  obtain ⟨a1, c1, rfl⟩ := owns_shape' hown1
  go_ret
  exact ⟨a1, c1, rfl, hown1, hu1⟩

theorem Ls3.first {w : World} {g off cap : Nat} {l : List Sy.Edge} (h : Tris w g off l) (k : Nat) (hk : k ≤ l.length) : Ls3 w (.slice (some ⟨g, off, none⟩) k cap) (l.take k) := by
  have e : (l.take k).length = k := by rw [List.length_take]; omega
  refine ⟨_, cap, g, off, by rw [e], fun _ => rfl, ?_⟩
  have := h.part 0 k (by omega)
  simpa using this

theorem Ls3.rest {w : World} {g off cap : Nat} {l : List Sy.Edge} (h : Tris w g off l) (k : Nat) (hk : k ≤ l.length) : Ls3 w (.slice (some ⟨g, off + k * 3, none⟩) (l.length - k) cap) (l.drop k) := by
  have e : (l.drop k).length = l.length - k := List.length_drop
  refine ⟨_, cap, g, off + k * 3, by rw [e], fun _ => rfl, ?_⟩
  have := h.part k (l.length - k) (by omega)
  rwa [List.take_of_length_le (by rw [List.length_drop]; omega)] at this

theorem three_cells {w : World} {b : Nat} {a1 a2 a3 : Value} {e : TypeId} (h : w.heap[b]? = some (.cells #[a1, a2, a3] e (0, 0))) :
    (w.cell? ⟨b, 0, none⟩ = some a1 ∧ w.cell? ⟨b, 1, none⟩ = some a2 ∧ w.cell? ⟨b, 2, none⟩ = some a3) ∧ (w.frozen? ⟨b, 0, none⟩ = false ∧ w.frozen? ⟨b, 1, none⟩ = false ∧ w.frozen? ⟨b, 2, none⟩ = false) := by
  refine ⟨⟨?_, ?_, ?_⟩, ?_, ?_, ?_⟩ <;> simp [World.cell?, World.frozen?, h]

theorem three_set {W : World} {b : Nat} {a1 a2 a3 : Value} {e : TypeId} (h : W.heap[b]? = some (.cells #[a1, a2, a3] e (0, 0))) (u1 u2 u3 : Value) :
    (((W.setCell ⟨b, 0, none⟩ u1).setCell ⟨b, 1, none⟩ u2).setCell ⟨b, 2, none⟩ u3).heap[b]? = some (.cells #[u1, u2, u3] e (0, 0)) := by
  simp [World.setCell, Array.getElem?_modify, h]

theorem cells_new3 (w : World) (a b c : Value) (e : TypeId) : ∀ j u, [a, b, c][j]? = some u → (w.alloc (.cells #[a, b, c] e)).cell? ((⟨w.heap.size, 0, none⟩ : Addr).add j) = some u := by
  intro j u hj
  have h := heap_alloc_new w (.cells #[a, b, c] e)
  obtain ⟨⟨h1, h2, h3⟩, -⟩ := three_cells h
  rw [Addr_add_plain, Nat.zero_add]
  match j, hj with
  | 0, hj => simp only [List.getElem?_cons_zero, Option.some.injEq] at hj; subst hj; exact h1
  | 1, hj => simp only [List.getElem?_cons_succ, List.getElem?_cons_zero, Option.some.injEq] at hj; subst hj; exact h2
  | 2, hj => simp only [List.getElem?_cons_succ, List.getElem?_cons_zero, Option.some.injEq] at hj; subst hj; exact h3

theorem addNew_last {out : List Sy.Edge} {x : Sy.Edge} (h : 0 < out.length) (hx : out.getD (out.length - 1) (0, 0, 0) = x) : Sy.addNew out x = out := by
  unfold Sy.addNew
  rw [if_pos]
  rw [List.getLast?_eq_getElem?, ← hx]
  simp [List.getD, show out.length - 1 < out.length by omega]

theorem addNew_more {out : List Sy.Edge} {x : Sy.Edge} (h : out.length = 0 ∨ out.getD (out.length - 1) (0, 0, 0) ≠ x) : Sy.addNew out x = out ++ [x] := by
  unfold Sy.addNew
  rw [if_neg]
  intro e
  rw [List.getLast?_eq_getElem?] at e
  rcases h with h | h
  · rw [List.eq_nil_of_length_eq_zero h] at e; cases e
  · exact h (by simp [List.getD, e])

set_option maxHeartbeats 16000000 in
set_option maxRecDepth 100000 in
theorem sorted_long {w : World} {v : Value} {l : List Sy.Edge} (hv : Ls3 w v l) (hcp : CapOk v) (h2 : 2 ≤ l.length) (hm : l.length ≤ 1000000)
    (ih : ∀ l' : List Sy.Edge, l'.length < l.length → ∀ v' w', Ls3 w' v' l' → CapOk v' → Calls Tryz.prog 126 #[v'] w' (GotEdges w' (Sy.norm Sy.lt3 l'))) :
    Calls Tryz.prog 126 #[v] w (GotEdges w (Sy.norm Sy.lt3 l)) := by
  obtain ⟨i0, hi, hz0, hz1, hz2⟩ := info_parts Tryz.edgesInfo
  obtain ⟨ao, cap, g, off, rfl, ha, hc⟩ := hv
  obtain rfl := ha (by omega)
  obtain ⟨hcp1, hcp2⟩ := hcp
  obtain ⟨n, hn⟩ : ∃ n, n = l.length := ⟨_, rfl⟩
  obtain ⟨h, hh⟩ : ∃ h, h = n / 2 := ⟨_, rfl⟩
  have hh1 : 0 < h := by omega
  have hh2 : h < n := by omega
  obtain ⟨A, hAe⟩ : ∃ A, A = Sy.norm Sy.lt3 (l.take h) := ⟨_, rfl⟩
  obtain ⟨B, hBe⟩ : ∃ B, B = Sy.norm Sy.lt3 (l.drop h) := ⟨_, rfl⟩
  have HA : Hid (∀ W, Up w W → Calls Tryz.prog 126 #[.slice (some ⟨g, off, none⟩) h cap] W (GotEdges W A)) :=
    Lib.hid (fun W hu => by rw [hAe]; exact ih _ (by rw [List.length_take]; omega) _ _ ((Ls3.first hc h (by omega)).up hu) ⟨by omega, hcp2⟩)
  have HB : Hid (∀ W, Up w W → Calls Tryz.prog 126 #[.slice (some ⟨g, off + h * 3, none⟩) (n - h) (cap - h)] W (GotEdges W B)) :=
    Lib.hid (fun W hu => by rw [hBe]; exact ih _ (by rw [List.length_drop]; omega) _ _ (by rw [hn]; exact (Ls3.rest hc h (by omega)).up hu) ⟨by omega, by omega⟩)
  rw [← hn] at h2 hm hcp1 ⊢
  have HN := Lib.hid hn
  unfold maxLen at hcp2
  have qd : Int.tdiv (n : Int) 2 = (h : Int) := by rw [hh, Int.tdiv_eq_ediv_of_nonneg (by omega)]; omega
  have qw : IntKind.i64.wrap (h : Int) = (h : Int) := by simp [IntKind.wrap, IntKind.bits, IntKind.signed]; omega
  have q0 : (0 : Int) ≤ (h : Int) := by omega
  have qc : (h : Int) ≤ (cap : Int) := by omega
  have qn : (h : Int) ≤ (n : Int) := by omega
  have qne : ¬ (cap = h) := by omega
  have HPA : Hid (A.Pairwise (fun a b => Sy.lt3 a b = true)) := Lib.hid (by rw [hAe]; exact Sy.pairwise_norm Sy.tot3 _)
  have HPB : Hid (B.Pairwise (fun a b => Sy.lt3 a b = true)) := Lib.hid (by rw [hBe]; exact Sy.pairwise_norm Sy.tot3 _)
  have HNH : Hid (Sy.norm Sy.lt3 (A ++ B) = Sy.norm Sy.lt3 l) := Lib.hid (by rw [hAe, hBe]; exact Rd.norm_halves Sy.tot3 l h)
  have hla1 : A.length ≤ 1000000 := by have := Sy.norm_len (lt := Sy.lt3) (l.take h); rw [← hAe, List.length_take] at this; omega
  have hlb1 : B.length ≤ 1000000 := by have := Sy.norm_len (lt := Sy.lt3) (l.drop h); have hN := HN.out; rw [← hBe, List.length_drop] at this; omega
  obtain ⟨la, hla⟩ : ∃ la, la = A.length := ⟨_, rfl⟩
  obtain ⟨lb, hlb⟩ : ∃ lb, lb = B.length := ⟨_, rfl⟩
  have HLA := Lib.hid hla
  have HLB := Lib.hid hlb
  rw [← hla] at hla1
  rw [← hlb] at hlb1
  clear ih ha hc hn hh hAe hBe hla hlb
  go_enter Tryz.func126, Tryz.ntmps126
  go_upto_region 3 with fail
  refine wp_region_ord 13 [(0, true), (1, true), (2, true), (3, true), (4, true), (6, true), (7, true), (8, true), (9, true), (10, true), (5, false), (11, false), (12, true)] (fun x => Up w x) (by kernel_rfl) (by kernel_rfl) (fun _ _ _ _ _ h => h) (Up.refl w).drew ?_
  iterate 10
    refine WO.still rfl rfl (fun K hK => ?_)
    apply Exists.intro
    refine ⟨?_, hK _ ?_⟩
    · intro w' hS
      go_simp
      first | done | rfl | exact ⟨rfl, rfl⟩
    clear hK K
  refine WO.act rfl rfl (fun K hK => ?_)
  go_simp
  go_at_call 126
  refine (HA.out _ (Up.refl _).drew).mono ?_
  rintro r w1 ⟨a1, c1, rfl, ho1, hu1'⟩
  have hu1 : Up w w1 := ((Up.refl w).drew).trans hu1'
  refine hK _ _ hu1 ?_
  clear hK K
  refine WO.act rfl rfl (fun K hK => ?_)
  go_simp
  go_at_call 126
  refine (HB.out _ hu1).mono ?_
  rintro r w2 ⟨a2, c2, rfl, ho2, hu2⟩
  refine hK _ _ (hu1.trans hu2) ?_
  clear hK K
  refine WO.still rfl rfl (fun K hK => ?_)
  apply Exists.intro
  refine ⟨?_, hK _ ?_⟩
  · intro w' hS
    go_simp
    first | done | rfl | exact ⟨rfl, rfl⟩
  clear hK K
  refine WO.last rfl rfl (fun K hK => ?_)
  go_simp
  refine hK _ _ ?_
  clear hK K
  have HU2 := Lib.hid (hu1.trans hu2)
  have hra := owns_ls3 (hu2.owns ho1)
  have hrb := owns_ls3 ho2
  clear HA HB hu1 hu2 ho1 ho2 hu1' qd qw q0 qc qn
  obtain ⟨a1', c1', ga, fa, he, ha, hxa⟩ := hra
  simp only [Value.slice.injEq, true_and] at he
  obtain ⟨rfl, rfl⟩ := he
  obtain ⟨a2', c2', gb, fb, he, hb, hxb⟩ := hrb
  simp only [Value.slice.injEq, true_and] at he
  obtain ⟨rfl, rfl⟩ := he
  rw [← HLA.out] at ha ⊢
  rw [← HLB.out] at hb ⊢
  have HA := Lib.hid ha
  have HB := Lib.hid hb
  have HXA := Lib.hid hxa
  have HXB := Lib.hid hxb
  clear ha hb hxa hxb
  go_wp2_with fail
  go_loopw [5, 6, 7] (fun o i k wr => ∃ (ii kk m : Nat) (out : List Sy.Edge), i = .int .i64 ii ∧ k = .int .i64 kk ∧ ii ≤ la ∧ kk ≤ lb ∧ Up w2 wr ∧ wr.ownsRow w2.heap.size 72 3 o m (cells3 out) ∧ Hid (m = out.length ∧ m ≤ ii + kk ∧ Rd.Merged Sy.lt3 A B ii kk out)) (fun _ i k _ => la + lb - ((intOf i).toNat + (intOf k).toNat))
  case atStart => exact ⟨0, 0, 0, [], rfl, rfl, Nat.zero_le _, Nat.zero_le _, Up.refl _, World.ownsRow_nil _ _ _ _, Lib.hid ⟨rfl, Nat.le_refl _, Rd.Merged.start _ _⟩⟩
  case round =>
    obtain ⟨ii, kk, m, out, rfl, rfl, hii, hkk, hu, hown, HM⟩ := hrel
    by_cases hend : la ≤ ii ∧ lb ≤ kk
    · have hi' : ii = la := by omega
      have hk' : kk = lb := by omega
      subst hi' hk'
      have HOUT := Lib.hid (HM.out.2.2.done Sy.tot3 (by rw [← HLA.out]; exact Nat.le_refl _) (by rw [← HLB.out]; exact Nat.le_refl _))
      obtain ⟨ao', co', rfl⟩ := owns_shape' hown
      go_wp2_with fail
      go_ret
      have hml := HM.out.1
      subst hml
      rw [← HNH.out, ← HOUT.out]
      exact ⟨ao', co', rfl, owns_base hown HU2.out.size, HU2.out.trans hu⟩
    · have HML : Hid (m = out.length) := Lib.hid HM.out.1
      have hmb := HM.out.2.1
      obtain ⟨ao', co', hsh⟩ := owns_shape' hown
      subst hsh
      have HO := Lib.hid hown
      have HU := Lib.hid hu
      clear hown hu
      have hb0 := heap_alloc_new wr (.cells #[.int .i64 0, .int .i64 0, .int .i64 0] 72)
      have hu0 : Up wr (wr.alloc (.cells #[.int .i64 0, .int .i64 0, .int .i64 0] 72)) := (Up.refl wr).alloc _
      obtain ⟨w4, hw4⟩ : ∃ w4, w4 = wr.alloc (.cells #[.int .i64 0, .int .i64 0, .int .i64 0] 72) := ⟨_, rfl⟩
      rw [← hw4] at hb0 hu0
      have HB4 := Lib.hid hb0
      have HU4 := Lib.hid hu0
      obtain ⟨a, hae⟩ : ∃ a, A.getD ii (0, 0, 0) = a := ⟨_, rfl⟩
      obtain ⟨b, hbe⟩ : ∃ b, B.getD kk (0, 0, 0) = b := ⟨_, rfl⟩
      have HAE := Lib.hid hae
      have HBE := Lib.hid hbe
      have HLT := Lib.hid (fun W => refLess_any b a W)
      obtain ⟨y1, y2, y3⟩ := b
      obtain ⟨x1, x2, x3⟩ := a
      have hca : ii < la → a1 = some ⟨ga, fa, none⟩ ∧ w4.cell? ⟨ga, fa + ii * 3, none⟩ = some (.int .i64 x1) ∧ w4.cell? ⟨ga, fa + ii * 3 + 1, none⟩ = some (.int .i64 x2) ∧ w4.cell? ⟨ga, fa + ii * 3 + 2, none⟩ = some (.int .i64 x3) := fun h => by
        have h1 := HXA.out ii (by rw [← HLA.out]; exact h)
        rw [hae] at h1
        have hu := HU.out.trans hu0
        exact ⟨HA.out (by omega), hu.cell h1.1, hu.cell h1.2.1, hu.cell h1.2.2⟩
      have hcb : kk < lb → a2 = some ⟨gb, fb, none⟩ ∧ w4.cell? ⟨gb, fb + kk * 3, none⟩ = some (.int .i64 y1) ∧ w4.cell? ⟨gb, fb + kk * 3 + 1, none⟩ = some (.int .i64 y2) ∧ w4.cell? ⟨gb, fb + kk * 3 + 2, none⟩ = some (.int .i64 y3) := fun h => by
        have h1 := HXB.out kk (by rw [← HLB.out]; exact h)
        rw [hbe] at h1
        have hu := HU.out.trans hu0
        exact ⟨HB.out (by omega), hu.cell h1.1, hu.cell h1.2.1, hu.cell h1.2.2⟩
      have HCA := Lib.hid hca
      have HCB := Lib.hid hcb
      have HTA : Hid (ii < la → (lb ≤ kk ∨ (kk < lb ∧ Sy.lt3 (y1, y2, y3) (x1, x2, x3) = false)) → Rd.Merged Sy.lt3 A B (ii + 1) kk (Sy.addNew out (x1, x2, x3))) := Lib.hid (fun h1 h2 => by
        have hi' : ii < A.length := by rw [← HLA.out]; exact h1
        have e : A[ii] = (x1, x2, x3) := by rw [getD_of (0, 0, 0) hi', hae]
        rw [← e]
        refine HM.out.2.2.left Sy.tot3 HPA.out HPB.out hi' ?_
        rcases h2 with h2 | ⟨h2, h3⟩
        · exact .inl (by rw [← HLB.out]; exact h2)
        · have hk' : kk < B.length := by rw [← HLB.out]; exact h2
          exact .inr ⟨hk', by rw [getD_of (0, 0, 0) hk', hbe, e]; exact h3⟩)
      have HTB : Hid (kk < lb → (la ≤ ii ∨ (ii < la ∧ Sy.lt3 (y1, y2, y3) (x1, x2, x3) = true)) → Rd.Merged Sy.lt3 A B ii (kk + 1) (Sy.addNew out (y1, y2, y3))) := Lib.hid (fun h1 h2 => by
        have hk' : kk < B.length := by rw [← HLB.out]; exact h1
        have e : B[kk] = (y1, y2, y3) := by rw [getD_of (0, 0, 0) hk', hbe]
        rw [← e]
        refine HM.out.2.2.right Sy.tot3 HPA.out HPB.out hk' ?_
        rcases h2 with h2 | ⟨h2, h3⟩
        · exact .inl (by rw [← HLA.out]; exact h2)
        · have hi' : ii < A.length := by rw [← HLA.out]; exact h2
          exact .inr ⟨hi', by rw [getD_of (0, 0, 0) hi', hae, e]; exact h3⟩)
      obtain ⟨t, ht⟩ : ∃ t, Sy.lt3 (y1, y2, y3) (x1, x2, x3) = t := ⟨_, rfl⟩
      rw [ht] at HLT HTA HTB
      simp only at HLT
      clear hca hcb hae hbe ht hb0 hu0
      have hcs : (lb ≤ kk ∧ ii < la) ∨ (kk < lb ∧ la ≤ ii) ∨ (kk < lb ∧ ii < la) := by omega
      rcases hcs with ⟨h1, h2⟩ | ⟨h1, h2⟩ | ⟨h1, h2⟩
      · obtain ⟨e1, d1, d2, d3⟩ := HCA.out h2
        subst e1
        have HMG := Lib.hid (HTA.out h2 (.inl h1))
        have qa : decide ((ii : Int) < (la : Int)) = true := by simp; omega
        have qb : decide ((lb : Int) ≤ (kk : Int)) = true := by simp; omega
        go_upto_region 8 with fail
        rw [← hw4]
        clear hw4
        refine wp_region_quiet_in (fun w' => Up w4 w') (by kernel_rfl) (by kernel_rfl) (Up.refl _).drew ?_
        iterate 22
          refine WQ.step (fun K hK => ?_)
          go_simp
          first
            | (refine hK _ ?_
               clear hK K)
            | (apply Exists.intro
               refine ⟨?_, hK _ ?_⟩
               · intro w' hw'
                 first
                   | (go_at_call 177; (with_reducible refine (HLT.out _).mono ?_); rintro r w9 ⟨rfl, hu9⟩; exact ⟨rfl, hw'.trans hu9⟩)
                   | (go_simp
                      first | done | rfl | exact ⟨rfl, rfl⟩)
               clear hK K)
        refine WQ.nil ?_
        intro w5 hu5
        have f1 := hu5.cell d1
        have f2 := hu5.cell d2
        have f3 := hu5.cell d3
        have hb5 := (hu5.block _ (lt_of_block' HB4.out)).trans HB4.out
        obtain ⟨⟨g1, g2, g3⟩, z1, z2, z3⟩ := three_cells hb5
        have HB5 := Lib.hid hb5
        have HU5 := Lib.hid hu5
        clear hb5 hu5
        go_upto_region 13 with fail
        have hb6 := three_set HB5.out (.int .i64 x1) (.int .i64 x2) (.int .i64 x3)
        have hu6 : Up wr (((w5.setCell ⟨wr.heap.size, 0, none⟩ (.int .i64 x1)).setCell ⟨wr.heap.size, 1, none⟩ (.int .i64 x2)).setCell ⟨wr.heap.size, 2, none⟩ (.int .i64 x3)) := (((HU4.out.trans HU5.out).setCell (Nat.le_refl _) _).setCell (Nat.le_refl _) _).setCell (Nat.le_refl _) _
        obtain ⟨w6, hw6⟩ : ∃ w6, w6 = (((w5.setCell ⟨wr.heap.size, 0, none⟩ (.int .i64 x1)).setCell ⟨wr.heap.size, 1, none⟩ (.int .i64 x2)).setCell ⟨wr.heap.size, 2, none⟩ (.int .i64 x3)) := ⟨_, rfl⟩
        rw [← hw6] at hb6 hu6 ⊢
        clear hw6 f1 f2 f3 g1 g2 g3 z1 z2 z3 d1 d2 d3
        obtain ⟨⟨p1, p2, p3⟩, -⟩ := three_cells hb6
        have HU6 := Lib.hid hu6
        have HO6 := Lib.hid (hu6.owns HO.out)
        clear hb6 hu6
        by_cases hm0 : m = 0
        · have q0 : ((m : Int) == 0) = true := by simp [hm0]
          have HAN : Hid (Sy.addNew out (x1, x2, x3) = out ++ [(x1, x2, x3)]) := Lib.hid (addNew_more (.inl (by rw [← HML.out]; exact hm0)))
          clear hm0
          go_wp2_with fail
          go_quiet (fail)
          go_wp2_with (at_builtin; (refine wpList_append_own _ rfl _ _ 22 rfl w2.heap.size 72 i0 (.agg #[.int .i64 0, .int .i64 0, .int .i64 0]) 3 24 Tryz.underlying22 hi hz0 hz1 hz2 rfl (by decide) _ m _ rfl (Up.owns (w := w6) (((Up.refl w6).drewN _).alloc _) HO6.out) ⟨w6.heap.size, 0, none⟩ 1 1 [.int .i64 x1, .int .i64 x2, .int .i64 x3] rfl rfl (cells_new3 _ _ _ _ _) (tri_one (x1, x2, x3)) (by unfold maxLen; omega) (by omega) (by have := HU6.out.size; have := HU.out.size; simp; omega) ?_); intro v' w8 hown8 hgrow8 hnil8; clear hnil8)
          have HU8 : Hid (Up w2 w8) := Lib.hid ((((HU.out.trans HU6.out).drewN _).alloc _).grown hgrow8 (fun g hg => (HO6.out.lt g hg).1))
          have HO8 : Hid (w8.ownsRow w2.heap.size 72 3 v' (m + 1) (cells3 (out ++ [(x1, x2, x3)]))) := Lib.hid (by
            have h := hown8
            rw [cells3_append]; exact h)
          clear hown8 hgrow8
          go_roundw
          case rel => exact ⟨ii + 1, kk, m + 1, out ++ [(x1, x2, x3)], by go_num, by go_num, by omega, by omega, HU8.out, HO8.out, Lib.hid ⟨by rw [List.length_append, ← HML.out]; rfl, by omega, by rw [← HAN.out]; exact HMG.out⟩⟩
          case measure => simp [intOf]; omega
        · rcases owns_cases HO6.out with ⟨-, h0, -⟩ | ⟨go, co2, he, hrow, -⟩
          · exact absurd h0 hm0
          · simp only [Value.slice.injEq, true_and] at he
            obtain ⟨rfl, rfl⟩ := he
            have hmp : m - 1 < out.length := by rw [← HML.out]; omega
            obtain ⟨u, hue⟩ : ∃ u, out.getD (out.length - 1) (0, 0, 0) = u := ⟨_, rfl⟩
            obtain ⟨u1, u2, u3⟩ := u
            obtain ⟨r1, r2, r3⟩ := tri_at hrow (m - 1) ((m - 1) * 3) rfl hmp u1 u2 u3 (by rw [HML.out]; exact hue)
            have HUE := Lib.hid hue
            have he := edge_eq u1 u2 u3 x1 x2 x3
            have q0 : ((m : Int) == 0) = false := by simp; omega
            have q1 : IntKind.i64.wrap ((m : Int) - 1) = (m : Int) - 1 := by simp [IntKind.wrap, IntKind.bits, IntKind.signed]; omega
            have q2 : ((m : Int) - 1).toNat = m - 1 := by omega
            have q3 : (0 : Int) ≤ (m : Int) - 1 := by omega
            have q4 : (m : Int) - 1 < (m : Int) := by omega
            clear hue hrow
            by_cases hdup : (u1, u2, u3) = (x1, x2, x3)
            · have HAN : Hid (Sy.addNew out (x1, x2, x3) = out) := Lib.hid (addNew_last (by rw [← HML.out]; omega) (by rw [HUE.out, hdup]))
              simp only [Prod.mk.injEq] at hdup
              obtain ⟨rfl, rfl, rfl⟩ := hdup
              simp only [beq_self_eq_true, Bool.and_self] at he
              go_wp2_with fail
              go_quiet (fail)
              go_wp2_with fail
              go_roundw
              case rel => exact ⟨ii + 1, kk, m, out, by go_num, by go_num, by omega, by omega, (HU.out.trans HU6.out).drewN _, Up.owns (w := w6) ((Up.refl w6).drewN _) HO6.out, Lib.hid ⟨HML.out, by omega, by have h := HMG.out; rw [HAN.out] at h; exact h⟩⟩
              case measure => simp [intOf]; omega
            · have HAN : Hid (Sy.addNew out (x1, x2, x3) = out ++ [(x1, x2, x3)]) := Lib.hid (addNew_more (.inr (by rw [HUE.out]; exact hdup)))
              have hbq : (u1 == x1 && (u2 == x2 && u3 == x3)) = false := by
                rw [Bool.eq_false_iff]
                intro h
                simp only [Bool.and_eq_true, beq_iff_eq] at h
                exact hdup (by rw [h.1, h.2.1, h.2.2])
              rw [hbq] at he
              clear hbq hdup
              go_wp2_with fail
              go_quiet (fail)
              go_wp2_with (at_builtin; (refine wpList_append_own _ rfl _ _ 22 rfl w2.heap.size 72 i0 (.agg #[.int .i64 0, .int .i64 0, .int .i64 0]) 3 24 Tryz.underlying22 hi hz0 hz1 hz2 rfl (by decide) _ m _ rfl (Up.owns (w := w6) (((Up.refl w6).drewN _).alloc _) HO6.out) ⟨w6.heap.size, 0, none⟩ 1 1 [.int .i64 x1, .int .i64 x2, .int .i64 x3] rfl rfl (cells_new3 _ _ _ _ _) (tri_one (x1, x2, x3)) (by unfold maxLen; omega) (by omega) (by have := HU6.out.size; have := HU.out.size; simp; omega) ?_); intro v' w8 hown8 hgrow8 hnil8; clear hnil8)
              have HU8 : Hid (Up w2 w8) := Lib.hid ((((HU.out.trans HU6.out).drewN _).alloc _).grown hgrow8 (fun g hg => (HO6.out.lt g hg).1))
              have HO8 : Hid (w8.ownsRow w2.heap.size 72 3 v' (m + 1) (cells3 (out ++ [(x1, x2, x3)]))) := Lib.hid (by
                have h := hown8
                rw [cells3_append]; exact h)
              clear hown8 hgrow8
              go_roundw
              case rel => exact ⟨ii + 1, kk, m + 1, out ++ [(x1, x2, x3)], by go_num, by go_num, by omega, by omega, HU8.out, HO8.out, Lib.hid ⟨by rw [List.length_append, ← HML.out]; rfl, by omega, by rw [← HAN.out]; exact HMG.out⟩⟩
              case measure => simp [intOf]; omega
      · obtain ⟨e1, d1, d2, d3⟩ := HCB.out h1
        subst e1
        have HMG := Lib.hid (HTB.out h1 (.inl h2))
        have qa : decide ((ii : Int) < (la : Int)) = false := by simp; omega
        have qa2 : ¬ (ii < la) := by omega
        have qb : decide ((lb : Int) ≤ (kk : Int)) = false := by simp; omega
        have qb2 : ¬ (lb ≤ kk) := by omega
        go_upto_region 8 with fail
        rw [← hw4]
        clear hw4
        refine wp_region_quiet_in (fun w' => Up w4 w') (by kernel_rfl) (by kernel_rfl) (Up.refl _).drew ?_
        iterate 22
          refine WQ.step (fun K hK => ?_)
          go_simp
          first
            | (refine hK _ ?_
               clear hK K)
            | (apply Exists.intro
               refine ⟨?_, hK _ ?_⟩
               · intro w' hw'
                 first
                   | (go_at_call 177; (with_reducible refine (HLT.out _).mono ?_); rintro r w9 ⟨rfl, hu9⟩; exact ⟨rfl, hw'.trans hu9⟩)
                   | (go_simp
                      first | done | rfl | exact ⟨rfl, rfl⟩)
               clear hK K)
        refine WQ.nil ?_
        intro w5 hu5
        have f1 := hu5.cell d1
        have f2 := hu5.cell d2
        have f3 := hu5.cell d3
        have hb5 := (hu5.block _ (lt_of_block' HB4.out)).trans HB4.out
        obtain ⟨⟨g1, g2, g3⟩, z1, z2, z3⟩ := three_cells hb5
        have HB5 := Lib.hid hb5
        have HU5 := Lib.hid hu5
        clear hb5 hu5
        go_upto_region 13 with fail
        have hb6 := three_set HB5.out (.int .i64 y1) (.int .i64 y2) (.int .i64 y3)
        have hu6 : Up wr (((w5.setCell ⟨wr.heap.size, 0, none⟩ (.int .i64 y1)).setCell ⟨wr.heap.size, 1, none⟩ (.int .i64 y2)).setCell ⟨wr.heap.size, 2, none⟩ (.int .i64 y3)) := (((HU4.out.trans HU5.out).setCell (Nat.le_refl _) _).setCell (Nat.le_refl _) _).setCell (Nat.le_refl _) _
        obtain ⟨w6, hw6⟩ : ∃ w6, w6 = (((w5.setCell ⟨wr.heap.size, 0, none⟩ (.int .i64 y1)).setCell ⟨wr.heap.size, 1, none⟩ (.int .i64 y2)).setCell ⟨wr.heap.size, 2, none⟩ (.int .i64 y3)) := ⟨_, rfl⟩
        rw [← hw6] at hb6 hu6 ⊢
        clear hw6 f1 f2 f3 g1 g2 g3 z1 z2 z3 d1 d2 d3
        obtain ⟨⟨p1, p2, p3⟩, -⟩ := three_cells hb6
        have HU6 := Lib.hid hu6
        have HO6 := Lib.hid (hu6.owns HO.out)
        clear hb6 hu6
        by_cases hm0 : m = 0
        · have q0 : ((m : Int) == 0) = true := by simp [hm0]
          have HAN : Hid (Sy.addNew out (y1, y2, y3) = out ++ [(y1, y2, y3)]) := Lib.hid (addNew_more (.inl (by rw [← HML.out]; exact hm0)))
          clear hm0
          go_wp2_with fail
          go_quiet (fail)
          go_wp2_with (at_builtin; (refine wpList_append_own _ rfl _ _ 22 rfl w2.heap.size 72 i0 (.agg #[.int .i64 0, .int .i64 0, .int .i64 0]) 3 24 Tryz.underlying22 hi hz0 hz1 hz2 rfl (by decide) _ m _ rfl (Up.owns (w := w6) (((Up.refl w6).drewN _).alloc _) HO6.out) ⟨w6.heap.size, 0, none⟩ 1 1 [.int .i64 y1, .int .i64 y2, .int .i64 y3] rfl rfl (cells_new3 _ _ _ _ _) (tri_one (y1, y2, y3)) (by unfold maxLen; omega) (by omega) (by have := HU6.out.size; have := HU.out.size; simp; omega) ?_); intro v' w8 hown8 hgrow8 hnil8; clear hnil8)
          have HU8 : Hid (Up w2 w8) := Lib.hid ((((HU.out.trans HU6.out).drewN _).alloc _).grown hgrow8 (fun g hg => (HO6.out.lt g hg).1))
          have HO8 : Hid (w8.ownsRow w2.heap.size 72 3 v' (m + 1) (cells3 (out ++ [(y1, y2, y3)]))) := Lib.hid (by
            have h := hown8
            rw [cells3_append]; exact h)
          clear hown8 hgrow8
          go_roundw
          case rel => exact ⟨ii, kk + 1, m + 1, out ++ [(y1, y2, y3)], by go_num, by go_num, by omega, by omega, HU8.out, HO8.out, Lib.hid ⟨by rw [List.length_append, ← HML.out]; rfl, by omega, by rw [← HAN.out]; exact HMG.out⟩⟩
          case measure => simp [intOf]; omega
        · rcases owns_cases HO6.out with ⟨-, h0, -⟩ | ⟨go, co2, he, hrow, -⟩
          · exact absurd h0 hm0
          · simp only [Value.slice.injEq, true_and] at he
            obtain ⟨rfl, rfl⟩ := he
            have hmp : m - 1 < out.length := by rw [← HML.out]; omega
            obtain ⟨u, hue⟩ : ∃ u, out.getD (out.length - 1) (0, 0, 0) = u := ⟨_, rfl⟩
            obtain ⟨u1, u2, u3⟩ := u
            obtain ⟨r1, r2, r3⟩ := tri_at hrow (m - 1) ((m - 1) * 3) rfl hmp u1 u2 u3 (by rw [HML.out]; exact hue)
            have HUE := Lib.hid hue
            have he := edge_eq u1 u2 u3 y1 y2 y3
            have q0 : ((m : Int) == 0) = false := by simp; omega
            have q1 : IntKind.i64.wrap ((m : Int) - 1) = (m : Int) - 1 := by simp [IntKind.wrap, IntKind.bits, IntKind.signed]; omega
            have q2 : ((m : Int) - 1).toNat = m - 1 := by omega
            have q3 : (0 : Int) ≤ (m : Int) - 1 := by omega
            have q4 : (m : Int) - 1 < (m : Int) := by omega
            clear hue hrow
            by_cases hdup : (u1, u2, u3) = (y1, y2, y3)
            · have HAN : Hid (Sy.addNew out (y1, y2, y3) = out) := Lib.hid (addNew_last (by rw [← HML.out]; omega) (by rw [HUE.out, hdup]))
              simp only [Prod.mk.injEq] at hdup
              obtain ⟨rfl, rfl, rfl⟩ := hdup
              simp only [beq_self_eq_true, Bool.and_self] at he
              go_wp2_with fail
              go_quiet (fail)
              go_wp2_with fail
              go_roundw
              case rel => exact ⟨ii, kk + 1, m, out, by go_num, by go_num, by omega, by omega, (HU.out.trans HU6.out).drewN _, Up.owns (w := w6) ((Up.refl w6).drewN _) HO6.out, Lib.hid ⟨HML.out, by omega, by have h := HMG.out; rw [HAN.out] at h; exact h⟩⟩
              case measure => simp [intOf]; omega
            · have HAN : Hid (Sy.addNew out (y1, y2, y3) = out ++ [(y1, y2, y3)]) := Lib.hid (addNew_more (.inr (by rw [HUE.out]; exact hdup)))
              have hbq : (u1 == y1 && (u2 == y2 && u3 == y3)) = false := by
                rw [Bool.eq_false_iff]
                intro h
                simp only [Bool.and_eq_true, beq_iff_eq] at h
                exact hdup (by rw [h.1, h.2.1, h.2.2])
              rw [hbq] at he
              clear hbq hdup
              go_wp2_with fail
              go_quiet (fail)
              go_wp2_with (at_builtin; (refine wpList_append_own _ rfl _ _ 22 rfl w2.heap.size 72 i0 (.agg #[.int .i64 0, .int .i64 0, .int .i64 0]) 3 24 Tryz.underlying22 hi hz0 hz1 hz2 rfl (by decide) _ m _ rfl (Up.owns (w := w6) (((Up.refl w6).drewN _).alloc _) HO6.out) ⟨w6.heap.size, 0, none⟩ 1 1 [.int .i64 y1, .int .i64 y2, .int .i64 y3] rfl rfl (cells_new3 _ _ _ _ _) (tri_one (y1, y2, y3)) (by unfold maxLen; omega) (by omega) (by have := HU6.out.size; have := HU.out.size; simp; omega) ?_); intro v' w8 hown8 hgrow8 hnil8; clear hnil8)
              have HU8 : Hid (Up w2 w8) := Lib.hid ((((HU.out.trans HU6.out).drewN _).alloc _).grown hgrow8 (fun g hg => (HO6.out.lt g hg).1))
              have HO8 : Hid (w8.ownsRow w2.heap.size 72 3 v' (m + 1) (cells3 (out ++ [(y1, y2, y3)]))) := Lib.hid (by
                have h := hown8
                rw [cells3_append]; exact h)
              clear hown8 hgrow8
              go_roundw
              case rel => exact ⟨ii, kk + 1, m + 1, out ++ [(y1, y2, y3)], by go_num, by go_num, by omega, by omega, HU8.out, HO8.out, Lib.hid ⟨by rw [List.length_append, ← HML.out]; rfl, by omega, by rw [← HAN.out]; exact HMG.out⟩⟩
              case measure => simp [intOf]; omega
      · cases t
        · obtain ⟨e1, d1, d2, d3⟩ := HCA.out h2
          obtain ⟨e2, k1, k2, k3⟩ := HCB.out h1
          subst e1
          subst e2
          have HMG := Lib.hid (HTA.out h2 (.inr ⟨h1, rfl⟩))
          have qa : decide ((ii : Int) < (la : Int)) = true := by simp; omega
          have qb : decide ((lb : Int) ≤ (kk : Int)) = false := by simp; omega
          have qb2 : ¬ (lb ≤ kk) := by omega
          go_upto_region 8 with fail
          rw [← hw4]
          clear hw4
          refine wp_region_quiet_in (fun w' => Up w4 w') (by kernel_rfl) (by kernel_rfl) (Up.refl _).drew ?_
          iterate 22
            refine WQ.step (fun K hK => ?_)
            go_simp
            first
              | (refine hK _ ?_
                 clear hK K)
              | (apply Exists.intro
                 refine ⟨?_, hK _ ?_⟩
                 · intro w' hw'
                   have s1 := hw'.cell d1
                   have s2 := hw'.cell d2
                   have s3 := hw'.cell d3
                   have s4 := hw'.cell k1
                   have s5 := hw'.cell k2
                   have s6 := hw'.cell k3
                   first
                     | (go_at_call 177; (with_reducible refine (HLT.out _).mono ?_); rintro r w9 ⟨rfl, hu9⟩; exact ⟨rfl, hw'.trans hu9⟩)
                     | (go_simp
                        first | done | rfl | exact ⟨rfl, rfl⟩)
                 clear hK K)
          refine WQ.nil ?_
          intro w5 hu5
          clear k1 k2 k3
          have f1 := hu5.cell d1
          have f2 := hu5.cell d2
          have f3 := hu5.cell d3
          have hb5 := (hu5.block _ (lt_of_block' HB4.out)).trans HB4.out
          obtain ⟨⟨g1, g2, g3⟩, z1, z2, z3⟩ := three_cells hb5
          have HB5 := Lib.hid hb5
          have HU5 := Lib.hid hu5
          clear hb5 hu5
          go_upto_region 13 with fail
          have hb6 := three_set HB5.out (.int .i64 x1) (.int .i64 x2) (.int .i64 x3)
          have hu6 : Up wr (((w5.setCell ⟨wr.heap.size, 0, none⟩ (.int .i64 x1)).setCell ⟨wr.heap.size, 1, none⟩ (.int .i64 x2)).setCell ⟨wr.heap.size, 2, none⟩ (.int .i64 x3)) := (((HU4.out.trans HU5.out).setCell (Nat.le_refl _) _).setCell (Nat.le_refl _) _).setCell (Nat.le_refl _) _
          obtain ⟨w6, hw6⟩ : ∃ w6, w6 = (((w5.setCell ⟨wr.heap.size, 0, none⟩ (.int .i64 x1)).setCell ⟨wr.heap.size, 1, none⟩ (.int .i64 x2)).setCell ⟨wr.heap.size, 2, none⟩ (.int .i64 x3)) := ⟨_, rfl⟩
          rw [← hw6] at hb6 hu6 ⊢
          clear hw6 f1 f2 f3 g1 g2 g3 z1 z2 z3 d1 d2 d3
          obtain ⟨⟨p1, p2, p3⟩, -⟩ := three_cells hb6
          have HU6 := Lib.hid hu6
          have HO6 := Lib.hid (hu6.owns HO.out)
          clear hb6 hu6
          by_cases hm0 : m = 0
          · have q0 : ((m : Int) == 0) = true := by simp [hm0]
            have HAN : Hid (Sy.addNew out (x1, x2, x3) = out ++ [(x1, x2, x3)]) := Lib.hid (addNew_more (.inl (by rw [← HML.out]; exact hm0)))
            clear hm0
            go_wp2_with fail
            go_quiet (fail)
            go_wp2_with (at_builtin; (refine wpList_append_own _ rfl _ _ 22 rfl w2.heap.size 72 i0 (.agg #[.int .i64 0, .int .i64 0, .int .i64 0]) 3 24 Tryz.underlying22 hi hz0 hz1 hz2 rfl (by decide) _ m _ rfl (Up.owns (w := w6) (((Up.refl w6).drewN _).alloc _) HO6.out) ⟨w6.heap.size, 0, none⟩ 1 1 [.int .i64 x1, .int .i64 x2, .int .i64 x3] rfl rfl (cells_new3 _ _ _ _ _) (tri_one (x1, x2, x3)) (by unfold maxLen; omega) (by omega) (by have := HU6.out.size; have := HU.out.size; simp; omega) ?_); intro v' w8 hown8 hgrow8 hnil8; clear hnil8)
            have HU8 : Hid (Up w2 w8) := Lib.hid ((((HU.out.trans HU6.out).drewN _).alloc _).grown hgrow8 (fun g hg => (HO6.out.lt g hg).1))
            have HO8 : Hid (w8.ownsRow w2.heap.size 72 3 v' (m + 1) (cells3 (out ++ [(x1, x2, x3)]))) := Lib.hid (by
              have h := hown8
              rw [cells3_append]; exact h)
            clear hown8 hgrow8
            go_roundw
            case rel => exact ⟨ii + 1, kk, m + 1, out ++ [(x1, x2, x3)], by go_num, by go_num, by omega, by omega, HU8.out, HO8.out, Lib.hid ⟨by rw [List.length_append, ← HML.out]; rfl, by omega, by rw [← HAN.out]; exact HMG.out⟩⟩
            case measure => simp [intOf]; omega
          · rcases owns_cases HO6.out with ⟨-, h0, -⟩ | ⟨go, co2, he, hrow, -⟩
            · exact absurd h0 hm0
            · simp only [Value.slice.injEq, true_and] at he
              obtain ⟨rfl, rfl⟩ := he
              have hmp : m - 1 < out.length := by rw [← HML.out]; omega
              obtain ⟨u, hue⟩ : ∃ u, out.getD (out.length - 1) (0, 0, 0) = u := ⟨_, rfl⟩
              obtain ⟨u1, u2, u3⟩ := u
              obtain ⟨r1, r2, r3⟩ := tri_at hrow (m - 1) ((m - 1) * 3) rfl hmp u1 u2 u3 (by rw [HML.out]; exact hue)
              have HUE := Lib.hid hue
              have he := edge_eq u1 u2 u3 x1 x2 x3
              have q0 : ((m : Int) == 0) = false := by simp; omega
              have q1 : IntKind.i64.wrap ((m : Int) - 1) = (m : Int) - 1 := by simp [IntKind.wrap, IntKind.bits, IntKind.signed]; omega
              have q2 : ((m : Int) - 1).toNat = m - 1 := by omega
              have q3 : (0 : Int) ≤ (m : Int) - 1 := by omega
              have q4 : (m : Int) - 1 < (m : Int) := by omega
              clear hue hrow
              by_cases hdup : (u1, u2, u3) = (x1, x2, x3)
              · have HAN : Hid (Sy.addNew out (x1, x2, x3) = out) := Lib.hid (addNew_last (by rw [← HML.out]; omega) (by rw [HUE.out, hdup]))
                simp only [Prod.mk.injEq] at hdup
                obtain ⟨rfl, rfl, rfl⟩ := hdup
                simp only [beq_self_eq_true, Bool.and_self] at he
                go_wp2_with fail
                go_quiet (fail)
                go_wp2_with fail
                go_roundw
                case rel => exact ⟨ii + 1, kk, m, out, by go_num, by go_num, by omega, by omega, (HU.out.trans HU6.out).drewN _, Up.owns (w := w6) ((Up.refl w6).drewN _) HO6.out, Lib.hid ⟨HML.out, by omega, by have h := HMG.out; rw [HAN.out] at h; exact h⟩⟩
                case measure => simp [intOf]; omega
              · have HAN : Hid (Sy.addNew out (x1, x2, x3) = out ++ [(x1, x2, x3)]) := Lib.hid (addNew_more (.inr (by rw [HUE.out]; exact hdup)))
                have hbq : (u1 == x1 && (u2 == x2 && u3 == x3)) = false := by
                  rw [Bool.eq_false_iff]
                  intro h
                  simp only [Bool.and_eq_true, beq_iff_eq] at h
                  exact hdup (by rw [h.1, h.2.1, h.2.2])
                rw [hbq] at he
                clear hbq hdup
                go_wp2_with fail
                go_quiet (fail)
                go_wp2_with (at_builtin; (refine wpList_append_own _ rfl _ _ 22 rfl w2.heap.size 72 i0 (.agg #[.int .i64 0, .int .i64 0, .int .i64 0]) 3 24 Tryz.underlying22 hi hz0 hz1 hz2 rfl (by decide) _ m _ rfl (Up.owns (w := w6) (((Up.refl w6).drewN _).alloc _) HO6.out) ⟨w6.heap.size, 0, none⟩ 1 1 [.int .i64 x1, .int .i64 x2, .int .i64 x3] rfl rfl (cells_new3 _ _ _ _ _) (tri_one (x1, x2, x3)) (by unfold maxLen; omega) (by omega) (by have := HU6.out.size; have := HU.out.size; simp; omega) ?_); intro v' w8 hown8 hgrow8 hnil8; clear hnil8)
                have HU8 : Hid (Up w2 w8) := Lib.hid ((((HU.out.trans HU6.out).drewN _).alloc _).grown hgrow8 (fun g hg => (HO6.out.lt g hg).1))
                have HO8 : Hid (w8.ownsRow w2.heap.size 72 3 v' (m + 1) (cells3 (out ++ [(x1, x2, x3)]))) := Lib.hid (by
                  have h := hown8
                  rw [cells3_append]; exact h)
                clear hown8 hgrow8
                go_roundw
                case rel => exact ⟨ii + 1, kk, m + 1, out ++ [(x1, x2, x3)], by go_num, by go_num, by omega, by omega, HU8.out, HO8.out, Lib.hid ⟨by rw [List.length_append, ← HML.out]; rfl, by omega, by rw [← HAN.out]; exact HMG.out⟩⟩
                case measure => simp [intOf]; omega
        · obtain ⟨e1, k1, k2, k3⟩ := HCA.out h2
          obtain ⟨e2, d1, d2, d3⟩ := HCB.out h1
          subst e1
          subst e2
          have HMG := Lib.hid (HTB.out h1 (.inr ⟨h2, rfl⟩))
          have qa : decide ((ii : Int) < (la : Int)) = true := by simp; omega
          have qb : decide ((lb : Int) ≤ (kk : Int)) = false := by simp; omega
          have qb2 : ¬ (lb ≤ kk) := by omega
          go_upto_region 8 with fail
          rw [← hw4]
          clear hw4
          refine wp_region_quiet_in (fun w' => Up w4 w') (by kernel_rfl) (by kernel_rfl) (Up.refl _).drew ?_
          iterate 22
            refine WQ.step (fun K hK => ?_)
            go_simp
            first
              | (refine hK _ ?_
                 clear hK K)
              | (apply Exists.intro
                 refine ⟨?_, hK _ ?_⟩
                 · intro w' hw'
                   have s1 := hw'.cell d1
                   have s2 := hw'.cell d2
                   have s3 := hw'.cell d3
                   have s4 := hw'.cell k1
                   have s5 := hw'.cell k2
                   have s6 := hw'.cell k3
                   first
                     | (go_at_call 177; (with_reducible refine (HLT.out _).mono ?_); rintro r w9 ⟨rfl, hu9⟩; exact ⟨rfl, hw'.trans hu9⟩)
                     | (go_simp
                        first | done | rfl | exact ⟨rfl, rfl⟩)
                 clear hK K)
          refine WQ.nil ?_
          intro w5 hu5
          clear k1 k2 k3
          have f1 := hu5.cell d1
          have f2 := hu5.cell d2
          have f3 := hu5.cell d3
          have hb5 := (hu5.block _ (lt_of_block' HB4.out)).trans HB4.out
          obtain ⟨⟨g1, g2, g3⟩, z1, z2, z3⟩ := three_cells hb5
          have HB5 := Lib.hid hb5
          have HU5 := Lib.hid hu5
          clear hb5 hu5
          go_upto_region 13 with fail
          have hb6 := three_set HB5.out (.int .i64 y1) (.int .i64 y2) (.int .i64 y3)
          have hu6 : Up wr (((w5.setCell ⟨wr.heap.size, 0, none⟩ (.int .i64 y1)).setCell ⟨wr.heap.size, 1, none⟩ (.int .i64 y2)).setCell ⟨wr.heap.size, 2, none⟩ (.int .i64 y3)) := (((HU4.out.trans HU5.out).setCell (Nat.le_refl _) _).setCell (Nat.le_refl _) _).setCell (Nat.le_refl _) _
          obtain ⟨w6, hw6⟩ : ∃ w6, w6 = (((w5.setCell ⟨wr.heap.size, 0, none⟩ (.int .i64 y1)).setCell ⟨wr.heap.size, 1, none⟩ (.int .i64 y2)).setCell ⟨wr.heap.size, 2, none⟩ (.int .i64 y3)) := ⟨_, rfl⟩
          rw [← hw6] at hb6 hu6 ⊢
          clear hw6 f1 f2 f3 g1 g2 g3 z1 z2 z3 d1 d2 d3
          obtain ⟨⟨p1, p2, p3⟩, -⟩ := three_cells hb6
          have HU6 := Lib.hid hu6
          have HO6 := Lib.hid (hu6.owns HO.out)
          clear hb6 hu6
          by_cases hm0 : m = 0
          · have q0 : ((m : Int) == 0) = true := by simp [hm0]
            have HAN : Hid (Sy.addNew out (y1, y2, y3) = out ++ [(y1, y2, y3)]) := Lib.hid (addNew_more (.inl (by rw [← HML.out]; exact hm0)))
            clear hm0
            go_wp2_with fail
            go_quiet (fail)
            go_wp2_with (at_builtin; (refine wpList_append_own _ rfl _ _ 22 rfl w2.heap.size 72 i0 (.agg #[.int .i64 0, .int .i64 0, .int .i64 0]) 3 24 Tryz.underlying22 hi hz0 hz1 hz2 rfl (by decide) _ m _ rfl (Up.owns (w := w6) (((Up.refl w6).drewN _).alloc _) HO6.out) ⟨w6.heap.size, 0, none⟩ 1 1 [.int .i64 y1, .int .i64 y2, .int .i64 y3] rfl rfl (cells_new3 _ _ _ _ _) (tri_one (y1, y2, y3)) (by unfold maxLen; omega) (by omega) (by have := HU6.out.size; have := HU.out.size; simp; omega) ?_); intro v' w8 hown8 hgrow8 hnil8; clear hnil8)
            have HU8 : Hid (Up w2 w8) := Lib.hid ((((HU.out.trans HU6.out).drewN _).alloc _).grown hgrow8 (fun g hg => (HO6.out.lt g hg).1))
            have HO8 : Hid (w8.ownsRow w2.heap.size 72 3 v' (m + 1) (cells3 (out ++ [(y1, y2, y3)]))) := Lib.hid (by
              have h := hown8
              rw [cells3_append]; exact h)
            clear hown8 hgrow8
            go_roundw
            case rel => exact ⟨ii, kk + 1, m + 1, out ++ [(y1, y2, y3)], by go_num, by go_num, by omega, by omega, HU8.out, HO8.out, Lib.hid ⟨by rw [List.length_append, ← HML.out]; rfl, by omega, by rw [← HAN.out]; exact HMG.out⟩⟩
            case measure => simp [intOf]; omega
          · rcases owns_cases HO6.out with ⟨-, h0, -⟩ | ⟨go, co2, he, hrow, -⟩
            · exact absurd h0 hm0
            · simp only [Value.slice.injEq, true_and] at he
              obtain ⟨rfl, rfl⟩ := he
              have hmp : m - 1 < out.length := by rw [← HML.out]; omega
              obtain ⟨u, hue⟩ : ∃ u, out.getD (out.length - 1) (0, 0, 0) = u := ⟨_, rfl⟩
              obtain ⟨u1, u2, u3⟩ := u
              obtain ⟨r1, r2, r3⟩ := tri_at hrow (m - 1) ((m - 1) * 3) rfl hmp u1 u2 u3 (by rw [HML.out]; exact hue)
              have HUE := Lib.hid hue
              have he := edge_eq u1 u2 u3 y1 y2 y3
              have q0 : ((m : Int) == 0) = false := by simp; omega
              have q1 : IntKind.i64.wrap ((m : Int) - 1) = (m : Int) - 1 := by simp [IntKind.wrap, IntKind.bits, IntKind.signed]; omega
              have q2 : ((m : Int) - 1).toNat = m - 1 := by omega
              have q3 : (0 : Int) ≤ (m : Int) - 1 := by omega
              have q4 : (m : Int) - 1 < (m : Int) := by omega
              clear hue hrow
              by_cases hdup : (u1, u2, u3) = (y1, y2, y3)
              · have HAN : Hid (Sy.addNew out (y1, y2, y3) = out) := Lib.hid (addNew_last (by rw [← HML.out]; omega) (by rw [HUE.out, hdup]))
                simp only [Prod.mk.injEq] at hdup
                obtain ⟨rfl, rfl, rfl⟩ := hdup
                simp only [beq_self_eq_true, Bool.and_self] at he
                go_wp2_with fail
                go_quiet (fail)
                go_wp2_with fail
                go_roundw
                case rel => exact ⟨ii, kk + 1, m, out, by go_num, by go_num, by omega, by omega, (HU.out.trans HU6.out).drewN _, Up.owns (w := w6) ((Up.refl w6).drewN _) HO6.out, Lib.hid ⟨HML.out, by omega, by have h := HMG.out; rw [HAN.out] at h; exact h⟩⟩
                case measure => simp [intOf]; omega
              · have HAN : Hid (Sy.addNew out (y1, y2, y3) = out ++ [(y1, y2, y3)]) := Lib.hid (addNew_more (.inr (by rw [HUE.out]; exact hdup)))
                have hbq : (u1 == y1 && (u2 == y2 && u3 == y3)) = false := by
                  rw [Bool.eq_false_iff]
                  intro h
                  simp only [Bool.and_eq_true, beq_iff_eq] at h
                  exact hdup (by rw [h.1, h.2.1, h.2.2])
                rw [hbq] at he
                clear hbq hdup
                go_wp2_with fail
                go_quiet (fail)
                go_wp2_with (at_builtin; (refine wpList_append_own _ rfl _ _ 22 rfl w2.heap.size 72 i0 (.agg #[.int .i64 0, .int .i64 0, .int .i64 0]) 3 24 Tryz.underlying22 hi hz0 hz1 hz2 rfl (by decide) _ m _ rfl (Up.owns (w := w6) (((Up.refl w6).drewN _).alloc _) HO6.out) ⟨w6.heap.size, 0, none⟩ 1 1 [.int .i64 y1, .int .i64 y2, .int .i64 y3] rfl rfl (cells_new3 _ _ _ _ _) (tri_one (y1, y2, y3)) (by unfold maxLen; omega) (by omega) (by have := HU6.out.size; have := HU.out.size; simp; omega) ?_); intro v' w8 hown8 hgrow8 hnil8; clear hnil8)
                have HU8 : Hid (Up w2 w8) := Lib.hid ((((HU.out.trans HU6.out).drewN _).alloc _).grown hgrow8 (fun g hg => (HO6.out.lt g hg).1))
                have HO8 : Hid (w8.ownsRow w2.heap.size 72 3 v' (m + 1) (cells3 (out ++ [(y1, y2, y3)]))) := Lib.hid (by
                  have h := hown8
                  rw [cells3_append]; exact h)
                clear hown8 hgrow8
                go_roundw
                case rel => exact ⟨ii, kk + 1, m + 1, out ++ [(y1, y2, y3)], by go_num, by go_num, by omega, by omega, HU8.out, HO8.out, Lib.hid ⟨by rw [List.length_append, ← HML.out]; rfl, by omega, by rw [← HAN.out]; exact HMG.out⟩⟩
                case measure => simp [intOf]; omega

theorem refSorted_any (l : List Sy.Edge) {v : Value} {w : World} (hv : Ls3 w v l) (hcp : CapOk v) (hm : l.length ≤ 1000000) : Calls Tryz.prog 126 #[v] w (GotEdges w (Sy.norm Sy.lt3 l)) := by
  suffices h : ∀ (N : Nat) (l : List Sy.Edge), l.length ≤ N → l.length ≤ 1000000 → ∀ v w, Ls3 w v l → CapOk v → Calls Tryz.prog 126 #[v] w (GotEdges w (Sy.norm Sy.lt3 l)) from h l.length l (Nat.le_refl _) hm v w hv hcp
  intro N
  induction N with
  | zero => exact fun l hl _ v w hv _ => sorted_short hv (by omega)
  | succ N ih =>
    intro l hl hm v w hv hcp
    by_cases h2 : l.length < 2
    · exact sorted_short hv h2
    · exact sorted_long hv hcp (by omega) hm (fun l' hl' v' w' hv' hcp' => ih l' (by omega) (by omega) v' w' hv' hcp')

end Go.Proofs.YtpmdjicaefmbnaaGreatDoor
