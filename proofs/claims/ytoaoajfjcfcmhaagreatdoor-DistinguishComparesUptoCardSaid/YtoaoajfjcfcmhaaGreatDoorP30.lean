/- Walk: the document's New: a desk on which no formula is made yet. Walks: the document's Formula and Compare. -/
import Derived.Test.YtoaoajfjcfcmhaaGreatDoorP28
import Derived.Test.YtoaoajfjcfcmhaaGreatDoorP29
import Derived.Test.YtoaoajfjcfcmhaaGreatDoorP01
set_option linter.unusedVariables false
set_option linter.unusedSimpArgs false
set_option maxHeartbeats 16000000
set_option maxRecDepth 100000
open Go.Proofs.Tryz
namespace Go.Proofs.YtoaoajfjcfcmhaaGreatDoor
open Go.RowKit Go.Maps
theorem znh (n : Nat) : (madeCells (Value.agg #[Value.slice none 0 0, Value.bool false, Value.bool false]).cells (n * 3)).toList = zcj (List.replicate n noAns) := by
 apply List.ext_getElem?
 intro j
 by_cases hj : j < n * 3
 ·have h3 : j % 3 < 3 := Nat.mod_lt _ (by omega)
  have hq : j / 3 < n := by omega
  have hr : (List.replicate n noAns).getD (j / 3) noAns = noAns := by simp [List.getD, hq]
  obtain ⟨c0, c1, c2⟩ := zj5 (List.replicate n noAns) (j / 3) (by simpa using hq)
  rw [hr] at c0 c1 c2
  have hL : (madeCells (Value.agg #[Value.slice none 0 0, Value.bool false, Value.bool false]).cells (n * 3)).toList[j]? = some ((#[Value.slice none 0 0, Value.bool false, Value.bool false] : Array Value)[j % 3]!) := by
   simp [madeCells, hj, Value.cells]
  rw [hL]
  have aa : j = j / 3 * 3 + j % 3 := by omega
  match hm : j % 3, h3 with
  | 0, _ => rw [show j = j / 3 * 3 by omega, c0]; rfl
  | 1, _ => rw [show j = j / 3 * 3 + 1 by omega, c1]; rfl
  | 2, _ => rw [show j = j / 3 * 3 + 2 by omega, c2]; rfl
 ·have h1 : (zcj (List.replicate n noAns)).length <= j := by rw [zqu]; simp; omega
  rw [List.getElem?_eq_none h1]
  simp [madeCells, hj]
theorem Tryz.zHs : (prog.info? 182).map (fun i => (i.zero, i.size, i.bytes)) = some (some (.agg #[.slice none 0 0, .bool false, .bool false]), 3, 32) := by kernel_rfl
theorem Tryz.zGo : (prog.info? 180).map (fun i => (i.zero, i.size, i.bytes)) = some (some (.slice none 0 0), 1, 24) := by kernel_rfl
structure zGt (w0 wr : World) (O n j : Nat) (rv v : Value) (bs : List Nat) : Prop where
 up : Up w0 wr
 box : wr.heap[w0.heap.size]? = some (.cells #[.slice (some ⟨O, 0, none⟩) n n, rv, v] 109 (0, 0))
 len : bs.length = j
 own : wr.ownsRow w0.heap.size 180 1 v j (bs.map fun b => .slice (some ⟨b, 0, none⟩) n n)
 rows : ∀ b ∈ bs, Row wr b 182 (n * 3) (zcj (List.replicate n noAns))
 nd : bs.Nodup
 lo : ∀ b ∈ bs, w0.heap.size <= b
theorem zGt.push {w0 wr w1 w3 : World} {O n j : Nat} {rv v v' : Value} {bs : List Nat} {o : Obj} (h : zGt w0 wr O n j rv v bs) (hm : w1.ownsRow wr.heap.size 182 3 (.slice (some ⟨wr.heap.size, 0, none⟩) n n) n (madeCells (Value.agg #[Value.slice none 0 0, Value.bool false, Value.bool false]).cells (n * 3)).toList) (aj : wr.grownBy w1 none)
  (ho : w3.ownsRow w0.heap.size 180 1 v' (j + 1) ((bs.map fun b => .slice (some ⟨b, 0, none⟩) n n) ++ [.slice (some ⟨wr.heap.size, 0, none⟩) n n])) (hg : (w1.alloc o).grownBy w3 v.ownBlock) :
  zGt w0 (w3.setCell ⟨w0.heap.size, 2, none⟩ v') O n (j + 1) rv v' (bs ++ [wr.heap.size]) := by
 have ac : Up wr w1 := (Up.refl wr).grown aj (fun k hk => by cases hk)
 have ae := ac.alloc o
 have ag := za0 h.box
 have ak : ∀ b ∈ bs, ∃ c, wr.heap[b]? = some (.cells c 182 (0, 0)) := fun b hb => by
  obtain ⟨c, hc, -⟩ := h.rows b hb
  exact ⟨c, hc⟩
 have al : v.ownBlock ≠ some w0.heap.size := fun e => by
  obtain ⟨c, hc⟩ := za5 h.own e
  exact zaq hc h.box (by decide) rfl
 have ad : w3.heap[w0.heap.size]? = some (.cells #[.slice (some ⟨O, 0, none⟩) n n, rv, v] 109 (0, 0)) := ((hg.block _ (Nat.lt_of_lt_of_le ag ae.size) (fun e => al e.symm)).trans (ae.block _ ag)).trans h.box
 have hT : Turned (fun k => k = w0.heap.size) w3 (w3.setCell ⟨w0.heap.size, 2, none⟩ v') := (Turned.refl (fun k => k = w0.heap.size) w3).setCell (p := ⟨w0.heap.size, 2, none⟩) (.inl rfl) v'
 obtain ⟨w4, am⟩ := nm (w3.setCell ⟨w0.heap.size, 2, none⟩ v')
 have ah := zat ad 2 v'
 rw [<- am] at hT ah ⊢
 have an : Up w0 w3 := (h.up.trans ae).grown hg (fun k hk => (h.own.lt k hk).1)
 have ao : w1.heap.size + 1 <= w3.heap.size := by have h := hg.size; rwa [World.size_alloc] at h
 have aa : ∀ b, b < w1.heap.size -> (∃ c, w1.heap[b]? = some (.cells c 182 (0, 0))) -> w4.heap[b]? = w1.heap[b]? := fun b hb ⟨c, hc⟩ => by
  have h1 : (w1.alloc o).heap[b]? = w1.heap[b]? := ((Up.refl w1).alloc o).block b hb
  have h2 : w3.heap[b]? = w1.heap[b]? := (hg.block b (Nat.lt_of_lt_of_le hb ((Up.refl w1).alloc o).size) (fun e => by
   have aq : w1.ownsRow w0.heap.size 180 1 v j (bs.map fun b => .slice (some ⟨b, 0, none⟩) n n) := ac.owns h.own
   obtain ⟨c2, au⟩ := za5 aq e.symm
   exact zaq hc au (by decide) rfl)).trans h1
  exact (hT.block b (by omega) (fun e => by
   subst e
   rw [h2] at ad
   exact zaq hc ad (by decide) rfl)).trans h2
 have ab : Row w1 wr.heap.size 182 (n * 3) (zcj (List.replicate n noAns)) := by
  have h5 := (Row.of hm).1
  rwa [znh] at h5
 refine ⟨zaj an (Nat.le_refl _) hT, ah, by simp [h.len], ?_, fun b hb => ?_, ?_, fun b hb => ?_⟩
 ·rw [List.map_append]
  refine za2 ho (fun g ai => hT.block g (za3 ho ai) (fun e => ?_))
  subst e
  obtain ⟨c, hc⟩ := za5 ho ai
  exact zaq hc ad (by decide) rfl
 ·rcases List.mem_append.1 hb with hb | hb
  ·have af : b < wr.heap.size := (h.rows b hb).lt
   obtain ⟨c, hc⟩ := ak b hb
   have av := (ac.block b af).trans hc
   exact ((h.rows b hb).keep (ac.block b af)).keep (aa b (Nat.lt_of_lt_of_le af ac.size) ⟨c, av⟩)
  ·rw [List.mem_singleton] at hb
   subst hb
   have h7 := ab
   obtain ⟨c, hc, -⟩ := h7
   exact ab.keep (aa _ ab.lt ⟨c, hc⟩)
 ·refine List.nodup_append.2 ⟨h.nd, by simp, fun x hx y hy e => ?_⟩
  rw [List.mem_singleton] at hy
  have := (h.rows x hx).lt
  omega
 ·rcases List.mem_append.1 hb with hb | hb
  ·exact h.lo b hb
  ·rw [List.mem_singleton] at hb
   subst hb
   exact h.up.size
theorem zGt.zL3 {s : Sy.Lts} {w0 wr : World} {O n : Nat} {rv v : Value} {bs : List Nat} (hR : Sy.Right s) (ac : s.n.toNat = n) (h0 : 0 < n) (ab : zd9 s w0 O n) (ad : zda w0 rv s) (h : zGt w0 wr O n n rv v bs) :
  ∃ R : zE2, R.n = n /\ R.w0 = w0 /\ R.D = w0.heap.size /\ R.rv = rv /\ Dsk s R wr (List.replicate n (List.replicate n noAns)) := by
 rcases za4 h.own with ⟨_, h1, _⟩ | ⟨g, cap, rfl, hr, _, _, _⟩
 ·omega
 ·rw [Nat.mul_one] at hr
  have aa : ∀ p, p < n -> (List.replicate n (List.replicate n noAns)).getD p [] = List.replicate n noAns := fun p hp => by simp [List.getD, hp]
  refine ⟨⟨n, w0, w0.heap.size, O, g, cap, rv, bs⟩, rfl, rfl, rfl, rfl, ⟨hR, ac, h.up, h.box, ab, ad, hr, h.len, by simp, fun p hp => ?_, h.nd, h.lo, fun p q hp hq => ?_⟩⟩
  ·rw [aa p hp]
   have ae : p < bs.length := by rw [h.len]; exact hp
   exact ⟨by simp, h.rows _ (by rw [<- zaa 0 ae]; exact List.getElem_mem _)⟩
  ·rw [aa p hp]
   have : (List.replicate n noAns).getD q noAns = noAns := by
    simp only at hq
    simp [List.getD, hq]
   rw [this]
   exact ⟨fun _ => rfl, fun e => by cases e⟩
def zy9 (s : Sy.Lts) (n : Nat) (w : World) (r : Ending) (w' : World) : Prop :=
 ∃ R : zE2, r = .returned (.pointer (some ⟨R.D, 0, none⟩)) /\ R.n = n /\ Up w R.w0 /\ Up w w' /\ Dsk s R w' (List.replicate n (List.replicate n noAns))
theorem zlc {W x : World} {b : Nat} {v0 v1 v2 v3 : Value} (h : W.cell? ⟨b, 0, none⟩ = some v0 /\ W.cell? ⟨b, 1, none⟩ = some v1 /\ W.cell? ⟨b, 2, none⟩ = some v2 /\ W.cell? ⟨b, 3, none⟩ = some v3) (hu : Up W x) :
  x.cell? ⟨b, 0, none⟩ = some v0 /\ x.cell? ⟨b, 1, none⟩ = some v1 /\ x.cell? ⟨b, 2, none⟩ = some v2 /\ x.cell? ⟨b, 3, none⟩ = some v3 := ⟨hu.cell h.1, hu.cell h.2.1, hu.cell h.2.2.1, hu.cell h.2.2.2⟩
theorem zrw {s : Sy.Lts} {se : Value} {w : World} (hr : Sy.right s = true) (h3 : s.n <= 300) (hs : Ls3 w se s.es) (au : zfg se) (n : Nat) (hn : s.n = (n : Int)) (h0 : 0 < n) :
  Calls prog 69 #[zCb s se] w (zy9 s n w) := by
 obtain ⟨j0, hj, gz0, gz1, gz2⟩ := info_parts Tryz.zHs
 obtain ⟨i0, hi, aQ, aR, aS⟩ := info_parts Tryz.zGo
 obtain ⟨ao, cap, rfl⟩ := zaf hs
 have hR := (Sy.zCj s).1 hr
 have av : s.n.toNat = n := by omega
 have hO : ∀ W, Up w W -> Calls prog 109 #[zCb s (.slice ao s.es.length cap)] W (zpm s n W) := fun W hu => zjf hR (hs.up hu) au n hn
 have hK : ∀ W, Up w W -> Calls prog 110 #[zCb s (.slice ao s.es.length cap)] W fun r w' => ∃ ro rc, r = .returned (.slice ro n rc) /\ Hid (zda w' (.slice ro n rc) s) /\ Up W w' := fun W hu => by
  refine (zml s _ W hr h3 (hs.up hu) au).mono ?_
  rintro r w' ⟨ro, rc, vs, rfl, ho, aT, af⟩
  have aE := zlv ho aT
  rw [av] at aE ⊢
  exact ⟨ro, rc, rfl, zh aE, af⟩
 obtain ⟨L, hL⟩ := nm (s.es.length)
 unfold zCb at hO hK ⊢
 rw [<- hL] at hO hK ⊢
 rw [hn] at hO hK h3 ⊢
 have HO := zh hO
 have HK := zh hK
 have HR := zh hR
 have aU := zh av
 have H0 := zh h0
 have a4 : n <= 300 := by omega
 have aw := heap_alloc_new w (.cells #[.int .i64 (n : Nat), .int .i64 s.m, .int .i64 s.start, .slice ao L cap] 24)
 obtain ⟨wA, al⟩ := nm (w.alloc (.cells #[.int .i64 (n : Nat), .int .i64 s.m, .int .i64 s.start, .slice ao L cap] 24))
 rw [<- al] at aw
 have ax : Hid (Up w wA) := zh (by rw [al]; exact (Up.refl w).alloc _)
 have aV := zh al
 obtain ⟨⟨k0, k1, k2, k3⟩, -⟩ := za6 aw
 have ae := And.intro k0 (And.intro k1 (And.intro k2 k3))
 clear hr hs au hn av hO hK hL hR al aw h0 h3 k0 k1 k2 k3
 go_enter func69, ntmps69
 go_upto_region 1 with fail
 rw [<- aV.out]
 refine za9 6 [(0, true), (2, true), (1, false), (3, false), (4, true), (5, false)] (fun x => x.cell? ⟨w.heap.size, 0, none⟩ = some (.int .i64 (n : Nat)) /\ x.cell? ⟨w.heap.size, 1, none⟩ = some (.int .i64 s.m) /\ x.cell? ⟨w.heap.size, 2, none⟩ = some (.int .i64 s.start) /\ x.cell? ⟨w.heap.size, 3, none⟩ = some (.slice ao L cap)) (by kernel_rfl) (by kernel_rfl) (fun _ _ _ _ _ h => h) ae ?_
 iterate 2
  refine WO.still rfl rfl (fun KK hK => ?_)
  apply Exists.intro
  refine ⟨?_, hK _ ?_⟩
  ·rintro w' ⟨s0, s1, s2, s3⟩
   go_simp
   first | done | rfl | exact ⟨rfl, rfl⟩
  clear hK KK
 refine WO.act rfl rfl (fun K hK => ?_)
 go_simp
 go_at_call 109
 refine (HO.out _ ax.out.drew).mono ?_
 rintro r w1 ⟨ag, O, ovs, rfl, -, ah, aF, ai⟩
 have af : Up wA w1 := ((Up.refl wA).drew).trans ag
 have aG := zh af
 have aH : Hid (zd9 s w1 O n) := zh (fun p hp => ⟨ovs.getD p undef, ah.cell (by simp [List.getD, show p < ovs.length by rw [aF]; exact hp]), ai p hp⟩)
 refine hK _ _ (zlc ae af) ?_
 clear hK K ag ah aF ai af
 refine WO.act rfl rfl (fun K hK => ?_)
 go_simp
 go_at_call 110
 refine (HK.out _ (ax.out.trans aG.out)).mono ?_
 rintro r w2 ⟨ro, rc, rfl, aW, ay⟩
 have am := zh (aG.out.trans ay)
 have aA := zh (aH.out.up ay)
 refine hK _ _ (zlc ae am.out) ?_
 clear hK K ay aH
 refine WO.still rfl rfl (fun KK hK => ?_)
 apply Exists.intro
 refine ⟨?_, hK _ ?_⟩
 ·rintro w' ⟨s0, s1, s2, s3⟩
  go_simp
  first | done | rfl | exact ⟨rfl, rfl⟩
 clear hK KK
 refine WO.act rfl rfl (fun K hK => ?_)
 go_simp
 refine hK _ _ (zlc ae (am.out.alloc _)) ?_
 clear hK K
 refine WO.last rfl rfl (fun K hK => ?_)
 go_simp
 refine hK _ _ ?_
 clear hK K
 have aI : zGt w2 (w2.alloc (.cells #[.slice (some ⟨O, 0, none⟩) n n, .slice ro n rc, .slice none 0 0] 109)) O n 0 (.slice ro n rc) (.slice none 0 0) [] :=
  ⟨(Up.refl w2).alloc _, heap_alloc_new w2 _, rfl, World.ownsRow_nil _ _ _ _, fun b hb => by simp at hb, by simp, fun b hb => by simp at hb⟩
 have aJ := zh aI
 have aK := zh (ax.out.trans am.out)
 have aL := ae.1
 have K0 := zh (am.out.cell aL)
 clear aI ae aL
 go_wp2_with fail
 go_loopw [4] (fun i wr => ∃ (j : Nat) (v : Value) (bs : List Nat), i = .int .i64 j /\ j <= n /\ Hid (zGt w2 wr O n j (.slice ro n rc) v bs)) (fun i _ => n - (intOf i).toNat)
 case atStart => exact ⟨0, _, [], rfl, Nat.zero_le _, aJ⟩
 case round =>
  clear aJ
  obtain ⟨j, v, bs, rfl, a5, HN⟩ := hrel
  rename World => wr
  have q0 := HN.out.up.cell K0.out
  by_cases hlt : j < n
  ·obtain ⟨va, vc, hv⟩ := za1 HN.out.own
   subst hv
   have d2 : wr.cell? ⟨w2.heap.size, 2, none⟩ = some (.slice va j vc) := by simp [World.cell?, HN.out.box]
   have hS := And.intro d2 q0
   have aM := zh (za0 HN.out.box)
   have aX := zh HN.out.up.size
   have aN : (Value.slice va j vc).ownBlock ≠ some w2.heap.size := fun e => by
    obtain ⟨c, hc⟩ := za5 HN.out.own e
    exact zaq hc HN.out.box (by decide) rfl
   have aY := zh aN
   clear aN
   go_upto_region 5 with fail
   refine za9 12 [(0, true), (1, true), (2, true), (3, true), (4, true), (5, true), (6, true), (7, false), (8, false), (9, false), (10, true), (11, true)] (fun x => x.cell? ⟨w2.heap.size, 2, none⟩ = some (.slice va j vc) /\ x.cell? ⟨w.heap.size, 0, none⟩ = some (.int .i64 (n : Nat))) (by kernel_rfl) (by kernel_rfl) (fun _ _ _ _ _ h => h) hS ?_
   iterate 7
    refine WO.still rfl rfl (fun KK hK => ?_)
    apply Exists.intro
    refine ⟨?_, hK _ ?_⟩
    ·rintro w' ⟨s1, s2⟩
     go_simp
     first | done | rfl | exact ⟨rfl, rfl⟩
    clear hK KK
   refine WO.act rfl rfl (fun K hK => ?_)
   go_simp
   obtain ⟨w4, aj, ak, ab⟩ := run_make_full (P := prog) wr.drew wr.heap.size 180 182 j0 (.agg #[.slice none 0 0, .bool false, .bool false]) 3 underlying180 hj gz0 gz1 .i64 .i64 n (by rw [gz2]; omega) (by unfold maxLen; omega) (Nat.le_refl _)
   rw [aj]
   go_simp
   have aO : w4.ownsRow wr.heap.size 182 3 (.slice (some ⟨wr.heap.size, 0, none⟩) n n) n (madeCells (Value.agg #[Value.slice none 0 0, Value.bool false, Value.bool false]).cells (n * 3)).toList := ak
   have aB : wr.grownBy w4 none := ⟨ab.os, ab.tape, ab.output, ab.size, ab.block⟩
   have an : Up wr w4 := (Up.refl wr).grown aB (fun k hk => by cases hk)
   have aZ := zh aO
   have a0 := zh aB
   have a1 := zh an
   refine hK _ _ ⟨an.cell d2, an.cell q0⟩ ?_
   clear hK K ak ab aO aB an aj
   refine WO.act rfl rfl (fun K hK => ?_)
   go_simp
   have ad := a1.out.alloc (.cells #[.slice (some ⟨wr.heap.size, 0, none⟩) n n] 180)
   refine hK _ _ ?_ ?_
   ·exact ⟨ad.cell d2, ad.cell q0⟩
   clear hK K
   refine WO.act rfl rfl (fun K hK => ?_)
   refine wp_append_own (.tmp 21) (.tmp 25) 107 rfl w2.heap.size 180 i0 (.slice none 0 0) 1 24 underlying107 hi aQ aR aS rfl (by decide) (.slice va j vc) j _ rfl (Up.owns (w := wr) ad HN.out.own) _ 1 1 [.slice (some ⟨wr.heap.size, 0, none⟩) n n] rfl rfl (cell_one_new _ _ _) (fun u hu => by rw [List.mem_singleton] at hu; subst hu; rfl) (by unfold maxLen; omega) (by omega) (by have := aX.out; have := ad.size; omega) ?_
   intro v' w6 ac aa aC
   obtain ⟨a6, c6, a2⟩ := za1 ac
   subst a2
   have aq : (w4.alloc (.cells #[.slice (some ⟨wr.heap.size, 0, none⟩) n n] 180)).grownBy w6 (Value.slice va j vc).ownBlock := ⟨aa.os, aa.tape, aa.output, aa.size, aa.block⟩
   have aD : w6.heap[w2.heap.size]? = wr.heap[w2.heap.size]? := (aq.block _ (Nat.lt_of_lt_of_le aM.out ad.size) (fun e => aY.out e.symm)).trans (ad.block _ aM.out)
   have d26 : w6.cell? ⟨w2.heap.size, 2, none⟩ = some (.slice va j vc) := by simp [World.cell?, aD, HN.out.box]
   have a7 : w6.frozen? ⟨w2.heap.size, 2, none⟩ = false := by simp [World.frozen?, aD, HN.out.box]
   have aP : w6.cell? ⟨w.heap.size, 0, none⟩ = some (.int .i64 (n : Nat)) := ((HN.out.up.trans ad).grown aq (fun k hk => (HN.out.own.lt k hk).1)).cell K0.out
   have HP := zh (HN.out.push aZ.out a0.out ac aq)
   refine hK _ _ ⟨d26, aP⟩ ?_
   clear hK K ac aa aC aq aD aP ad
   iterate 2
    refine WO.still rfl rfl (fun KK hK => ?_)
    apply Exists.intro
    refine ⟨?_, hK _ ?_⟩
    ·rintro w' ⟨s1, s2⟩
     go_simp
     first | done | rfl | exact ⟨rfl, rfl⟩
    clear hK KK
   refine WO.last rfl rfl (fun K hK => ?_)
   go_simp
   refine hK _ _ ?_
   clear hK K
   go_wp2_with fail
   go_roundw
   case rel => exact ⟨j + 1, _, _, by go_num, by omega, HP⟩
   case measure => simp [intOf]; omega
  ·obtain rfl : j = n := by omega
   obtain ⟨R, e1, e2, e3, e4, hd⟩ := HN.out.zL3 HR.out aU.out H0.out aA.out aW.out
   have HD := zh hd
   have HE := zh (And.intro e1 (And.intro e2 e3))
   have a3 := zh HN.out.up
   clear hd e1 e2 e3 e4
   go_wp2_with fail
   go_ret
   obtain ⟨e1, e2, e3⟩ := HE.out
   exact ⟨R, by rw [e3]; rfl, e1, by rw [e2]; exact aK.out, aK.out.trans a3.out, HD.out⟩
section
variable {s : Sy.Lts} {se : Value} {w : World}
theorem zbk (w : World) (a : Addr) : w.drew.cell? a = w.cell? a := rfl
theorem zku (p q k : Int) (l : ByteArray) (hk : (k != 0) = true) (hs : Ls3 w se s.es) (hG : ∀ W, Up w W -> Calls prog 68 #[zCb s se, .int .i64 p, .int .i64 q] W fun r w' => r = .returned (zDt k l) /\ Up W w') :
  Calls prog 16 #[zCb s se, .int .i64 p, .int .i64 q] w fun r w' => r = .returned (.tuple #[.slice none 0 0, zDt k l]) /\ Up w w' := by
 have HG := zh hG
 obtain ⟨ao, cap, rfl⟩ := zaf hs
 obtain ⟨L, hL⟩ := nm (s.es.length)
 unfold zCb zDt at HG
 unfold zCb zDt
 rw [<- hL] at HG ⊢
 have ae := zh (zex w (.cells #[.int .i64 s.n, .int .i64 s.m, .int .i64 s.start, .slice ao L cap] 24))
 have af : Hid (Up w ((w.alloc (.cells #[.int .i64 s.n, .int .i64 s.m, .int .i64 s.start, .slice ao L cap] 24)).alloc (.cells #[.int .i64 0, .int .i64 0, .int .i64 0, .string { data := #[] }] 32))) := zh (((Up.refl w).alloc _).alloc _)
 have ag := ((Up.refl (w.alloc (.cells #[.int .i64 s.n, .int .i64 s.m, .int .i64 s.start, .slice ao L cap] 24))).alloc (.cells #[.int .i64 0, .int .i64 0, .int .i64 0, .string { data := #[] }] 32)).block w.heap.size (by simp)
 have am := zh (ag.trans (heap_alloc_new w _))
 clear hs hL hG ag
 go_enter func16, ntmps16
 go_upto_region 2 with (go_at_call 68; refine (HG.out _ af.out).mono ?_; rintro r w1 ⟨rfl, ah⟩; (have ai := zh ah); clear ah)
 obtain ⟨w2, ab⟩ := nm (w1.alloc (.cells #[.int .i64 k, .int .i64 0, .int .i64 0, .string l] 32))
 rw [<- ab]
 have ac : Up w1 w2 := by rw [ab]; exact (Up.refl _).alloc _
 have aj : w2.heap[w1.heap.size]? = some (.cells #[.int .i64 k, .int .i64 0, .int .i64 0, .string l] 32 (0, 0)) := by rw [ab]; exact heap_alloc_new _ _
 obtain ⟨⟨e0, e1, e2, e3⟩, -⟩ := za6 aj
 have ad := ((ai.out.trans ac).block _ (za0 ae.out)).trans ae.out
 have ak := zh ad
 obtain ⟨⟨r0, r1, r2, r3⟩, z0, z1, z2, z3⟩ := za6 ad
 have al := zh (af.out.trans (ai.out.trans ac))
 clear ab ac aj ad
 go_upto_region 3 with fail
 refine za9 2 [(0, true), (1, true)] (fun w' => w' = w2.drew) (by kernel_rfl) (by kernel_rfl) (fun _ _ _ _ _ h => h) rfl ?_
 iterate 2
  refine WO.still rfl rfl (fun KK hK => ?_)
  apply Exists.intro
  refine ⟨?_, hK _ ?_⟩
  ·rintro w' rfl
   go_simp
   first | done | rfl | exact ⟨rfl, rfl⟩
  clear hK KK
 refine WO.last rfl rfl (fun K hK => ?_)
 go_simp
 refine hK _ _ ?_
 clear hK K
 go_wp2_with fail
 obtain ⟨⟨y0, y1, y2, y3⟩, hT, -⟩ := zbf (W := w2) ak.out (.int .i64 k) (.int .i64 0) (.int .i64 0) (.string l)
 obtain ⟨W5, aa⟩ := nm (((((w2.setCell ⟨w.heap.size + 1, 0, none⟩ (.int .i64 k)).setCell ⟨w.heap.size + 1, 1, none⟩ (.int .i64 0)).setCell ⟨w.heap.size + 1, 2, none⟩ (.int .i64 0)).setCell ⟨w.heap.size + 1, 3, none⟩ (.string l)).drew)
 rw [<- aa]
 replace hT := hT.drew
 rw [<- aa] at hT
 replace y0 : W5.cell? ⟨w.heap.size + 1, 0, none⟩ = some (.int .i64 k) := by rw [aa, zbk]; exact y0
 replace y1 : W5.cell? ⟨w.heap.size + 1, 1, none⟩ = some (.int .i64 0) := by rw [aa, zbk]; exact y1
 replace y2 : W5.cell? ⟨w.heap.size + 1, 2, none⟩ = some (.int .i64 0) := by rw [aa, zbk]; exact y2
 replace y3 : W5.cell? ⟨w.heap.size + 1, 3, none⟩ = some (.string l) := by rw [aa, zbk]; exact y3
 clear aa
 refine bodyPost_ret (v := .tuple #[.slice none 0 0, .agg #[.int .i64 k, .int .i64 0, .int .i64 0, .string l]]) (by simp [results, results16, go_sem, y0, y1, y2, y3]) rfl ⟨rfl, zaj al.out (by omega) hT⟩
def zq2 (s : Sy.Lts) (p q : Nat) (w : World) (r : Ending) (w' : World) : Prop :=
 Up w w' /\ ((Rd.rank s p q < 0 /\ r = .returned (.tuple #[.slice none 0 0, zDt 18 zad])) \/
  (0 <= Rd.rank s p q /\ 5000 < (Dt.F s p q).length /\ r = .returned (.tuple #[.slice none 0 0, zDt 17 zad])) \/
  (0 <= Rd.rank s p q /\ (Dt.F s p q).length <= 5000 /\ ∃ ao cap, r = .returned (.tuple #[.slice ao (Dt.F s p q).length cap, zhd]) /\ Hid (w'.ownsRow w.heap.size 81 2 (.slice ao (Dt.F s p q).length cap) (Dt.F s p q).length (za7 (Dt.F s p q)))))
theorem zzm (p q n : Nat) (hr : Sy.right s = true) (hs : Ls3 w se s.es) (hl : s.es.length <= maxLen) (aB : zfg se) (hn : s.n = (n : Int)) (hp : p < n) (hq : q < n) (h3 : n <= 300) :
  Calls prog 16 #[zCb s se, .int .i64 (p : Nat), .int .i64 (q : Nat)] w (zq2 s p q w) := by
 have HG : Hid (∀ W, Up w W -> Calls prog 68 #[zCb s se, .int .i64 (p : Nat), .int .i64 (q : Nat)] W fun r w' => r = .returned zhd /\ Up W w') := zh (fun W hu => zwc p q hr (hs.up hu) hl (by unfold There; omega) (by omega))
 have HN : Hid (∀ W, Up w W -> Calls prog 69 #[zCb s se] W (zy9 s n W)) := zh (fun W hu => zrw hr (by omega) (hs.up hu) aB n hn (by omega))
 have HB : Hid (∀ k W, Calls prog 70 #[.string zae, .int .i64 k] W fun r w' => r = .returned (zDt k zad) /\ Up W w') := zh zqi
 obtain ⟨ao, cap, rfl⟩ := zaf hs
 obtain ⟨L, hL⟩ := nm (s.es.length)
 unfold zCb at HG HN ⊢
 unfold zhd zDt at HG
 unfold zDt zae at HB
 rw [<- hL] at HG HN ⊢
 have aC := zh (zex w (.cells #[.int .i64 s.n, .int .i64 s.m, .int .i64 s.start, .slice ao L cap] 24))
 have aD : Hid (Up w ((w.alloc (.cells #[.int .i64 s.n, .int .i64 s.m, .int .i64 s.start, .slice ao L cap] 24)).alloc (.cells #[.int .i64 0, .int .i64 0, .int .i64 0, .string { data := #[] }] 32))) := zh (((Up.refl w).alloc _).alloc _)
 have aE := ((Up.refl (w.alloc (.cells #[.int .i64 s.n, .int .i64 s.m, .int .i64 s.start, .slice ao L cap] 24))).alloc (.cells #[.int .i64 0, .int .i64 0, .int .i64 0, .string { data := #[] }] 32)).block w.heap.size (by simp)
 have aF := zh (aE.trans (heap_alloc_new w _))
 have aQ := zh hn
 clear hs hL aE hr hl aB hn
 go_enter func16, ntmps16
 go_upto_region 2 with (go_at_call 68; refine (HG.out _ aD.out).mono ?_; rintro r w1 ⟨rfl, aG⟩; (have am := zh aG); clear aG)
 obtain ⟨w2, aj⟩ := nm (w1.alloc (.cells #[.int .i64 0, .int .i64 0, .int .i64 0, .string { data := #[] }] 32))
 rw [<- aj]
 have ad : Up w1 w2 := by rw [aj]; exact (Up.refl _).alloc _
 have aH : w2.heap[w1.heap.size]? = some (.cells #[.int .i64 0, .int .i64 0, .int .i64 0, .string { data := #[] }] 32 (0, 0)) := by rw [aj]; exact heap_alloc_new _ _
 obtain ⟨⟨e0, e1, e2, e3⟩, -⟩ := za6 aH
 obtain ⟨⟨k0, k1, k2, k3⟩, -⟩ := za6 (((am.out.trans ad).block _ (za0 aF.out)).trans aF.out)
 have ab := zh (((am.out.trans ad).block _ (za0 aC.out)).trans aC.out)
 have ae := zh (aD.out.trans (am.out.trans ad))
 have aR := ad.size
 clear aj ad aH
 go_upto_region 5 with (go_at_call 69; refine (HN.out _ ae.out).mono ?_; rintro r w3 ⟨R, rfl, aI, aJ, aK, hd⟩; (have af := zh aI); (have aS := zh aJ); (have ak := zh aK); (have HD := zh hd); clear aI aJ aK hd)
 obtain ⟨ro, rcap, rg, roff, an, aq, au⟩ := HD.out.rks.up HD.out.up
 have aL : s.n.toNat = n := by have := aQ.out; omega
 rw [aL] at an aq au
 obtain rfl := aq (by omega)
 have c1 : w3.cell? ⟨R.D, 1, none⟩ = some (.slice (some ⟨rg, roff, none⟩) n rcap) := by rw [<- an]; simp [World.cell?, HD.out.box]
 obtain ⟨h0, ro0, rc0, d1, d2⟩ := au p hp
 replace d2 := d2 q hq
 have ag := zh ((ak.out.block _ (za0 ab.out)).trans ab.out)
 obtain ⟨rk, av⟩ := nm (Rd.rank s p q)
 rw [<- av] at d2
 have aM := zh av
 have aw : p < R.n := by rw [af.out]; exact hp
 have ax : q < R.n := by rw [af.out]; exact hq
 clear an aq au aL av
 by_cases hneg : rk < 0
 ·have qn : decide (rk < 0) = true := by simpa using hneg
  have ay : Hid (Rd.rank s p q < 0) := zh (by rw [<- aM.out]; exact hneg)
  clear aw ax
  go_wp2_with (go_at_call 70; refine (HB.out 18 _).mono ?_; rintro r w4 ⟨rfl, aN⟩; (have aa := (aN.block _ (za0 ag.out)).trans ag.out); (obtain ⟨⟨r0, r1, r2, r3⟩, z0, z1, z2, z3⟩ := za6 aa))
  obtain ⟨⟨y0, y1, y2, y3⟩, hT, -⟩ := zbf aa (.int .i64 18) (.int .i64 0) (.int .i64 0) (.string zad)
  refine bodyPost_ret (v := .tuple #[.slice none 0 0, .agg #[.int .i64 18, .int .i64 0, .int .i64 0, .string zad]]) (by simp [results, results16, go_sem, y0, y1, y2, y3]) rfl ⟨zaj (ae.out.trans (ak.out.trans aN)) (by omega) hT, .inl ⟨ay.out, rfl⟩⟩
 ·have qn : decide (rk < 0) = false := by simpa using hneg
  have h0r : 0 <= Rd.rank s p q := by rw [<- aM.out]; omega
  have H0 := zh h0r
  have HF := zh (zqf (Dt.fuel s p q + 1) p q (Nat.lt_succ_self _) aw ax h0r w3 _ HD.out)
  obtain ⟨F, hF⟩ := nm (Dt.F s p q)
  have al := zh hF
  have aO : Hid (∀ w4, Turned (fun k => k ∈ R.bs) w3 w4 -> Up w2 w4) := zh (fun w4 ht => by
   have h2 := (Turned.below ak.out).trans ht (fun i _ e => Nat.le_trans aS.out.size (HD.out.lo i e))
   exact ⟨h2.os, h2.tape, h2.output, h2.size, fun i hi => h2.block i hi (by omega)⟩)
  unfold zcv at HF
  rw [<- hF] at HF
  clear h0r hF aw ax
  by_cases hlong : 5000 < F.length
  ·obtain ⟨f1, f2⟩ := zfw hlong
   rw [f1, f2] at HF
   have HL := zh hlong
   clear f1 f2 hlong
   go_wp2_with (first
    | (go_at_call 71; refine HF.out.mono ?_; rintro r w4 ⟨az4, v4, rfl, ah, ac, -⟩; (obtain ⟨a4, c4, rfl⟩ := za1 ac); (have ai := zh (aO.out _ ah.turn)); clear ah ac)
    | (go_at_call 70; refine (HB.out 17 _).mono ?_; rintro r w5 ⟨rfl, aP⟩; (have aa := ((ai.out.trans aP).block _ (za0 ab.out)).trans ab.out); (obtain ⟨⟨r0, r1, r2, r3⟩, z0, z1, z2, z3⟩ := za6 aa)))
   obtain ⟨⟨y0, y1, y2, y3⟩, hT, -⟩ := zbf aa (.int .i64 17) (.int .i64 0) (.int .i64 0) (.string zad)
   refine bodyPost_ret (v := .tuple #[.slice none 0 0, .agg #[.int .i64 17, .int .i64 0, .int .i64 0, .string zad]]) (by simp [results, results16, go_sem, y0, y1, y2, y3]) rfl ⟨zaj (ae.out.trans (ai.out.trans aP)) (by omega) hT, .inr (.inl ⟨H0.out, by rw [<- al.out]; exact HL.out, rfl⟩)⟩
  ·obtain ⟨f1, f2⟩ := zfk (show F.length <= 5000 by omega)
   rw [f1, f2] at HF
   have HL : Hid (F.length <= 5000) := zh (by omega)
   clear f1 f2 hlong
   go_wp2_with (go_at_call 71; refine HF.out.mono ?_; rintro r w4 ⟨az4, v4, rfl, ah, ac, -⟩; (obtain ⟨a4, c4, rfl⟩ := za1 ac); (have ai := zh (aO.out _ ah.turn)); (have aa := (ai.out.block _ (za0 ab.out)).trans ab.out); (obtain ⟨⟨r0, r1, r2, r3⟩, z0, z1, z2, z3⟩ := za6 aa); (have aA := zh ac); clear ah ac)
   obtain ⟨⟨y0, y1, y2, y3⟩, hT, -⟩ := zbf aa (.int .i64 0) (.int .i64 0) (.int .i64 0) (.string { data := #[] })
   have h6 := ae.out.size
   have h7 := ak.out.size
   have h8 := za0 ab.out
   have aT := za8 (za2 aA.out (fun g hg => hT.block g (za3 aA.out hg) (fun e => by
    have h5 := (aA.out.lt g hg).1
    omega))) (show w.heap.size <= w3.heap.size by omega)
   refine bodyPost_ret (v := .tuple #[.slice a4 F.length c4, .agg #[.int .i64 0, .int .i64 0, .int .i64 0, .string { data := #[] }]]) (by simp [results, results16, go_sem, y0, y1, y2, y3]) rfl ⟨zaj (ae.out.trans ai.out) (by omega) hT, .inr (.inr ⟨H0.out, by rw [<- al.out]; exact HL.out, a4, c4, by rw [<- al.out]; rfl, zh (by rw [<- al.out]; exact aT)⟩)⟩
theorem zv4 (w : World) (a1 a2 a3 : Array Value) (t1 t2 t3 : TypeId) : (((w.alloc (.cells a1 t1)).alloc (.cells a2 t2)).alloc (.cells a3 t3)).heap[w.heap.size]? = some (.cells a1 t1 (0, 0)) /\
  (((w.alloc (.cells a1 t1)).alloc (.cells a2 t2)).alloc (.cells a3 t3)).heap[w.heap.size + 1]? = some (.cells a2 t2 (0, 0)) /\ (((w.alloc (.cells a1 t1)).alloc (.cells a2 t2)).alloc (.cells a3 t3)).heap[w.heap.size + 1 + 1]? = some (.cells a3 t3 (0, 0)) /\
  Up w (((w.alloc (.cells a1 t1)).alloc (.cells a2 t2)).alloc (.cells a3 t3)) := by
 have h1 := heap_alloc_new w (.cells a1 t1)
 have h2 := heap_alloc_new (w.alloc (.cells a1 t1)) (.cells a2 t2)
 have h3 := heap_alloc_new ((w.alloc (.cells a1 t1)).alloc (.cells a2 t2)) (.cells a3 t3)
 have u2 : Up (w.alloc (.cells a1 t1)) ((w.alloc (.cells a1 t1)).alloc (.cells a2 t2)) := (Up.refl _).alloc _
 have u3 : Up ((w.alloc (.cells a1 t1)).alloc (.cells a2 t2)) (((w.alloc (.cells a1 t1)).alloc (.cells a2 t2)).alloc (.cells a3 t3)) := (Up.refl _).alloc _
 simp only [World.size_alloc] at h2 h3
 exact ⟨((u2.trans u3).block _ (za0 h1)).trans h1, (u3.block _ (za0 h2)).trans h2, h3, ((Up.refl w).alloc _).trans (u2.trans u3)⟩
theorem zf3 {W W' : World} {vb eb : Nat} {a1 a2 a3 c1 c2 c3 c4 : Value} {e1 e2 : TypeId} (hv : W.heap[vb]? = some (.cells #[a1, a2, a3] e1 (0, 0))) (he : W.heap[eb]? = some (.cells #[c1, c2, c3, c4] e2 (0, 0))) (ab : vb ≠ eb) (u1 u2 u3 x1 x2 x3 x4 : Value)
  (hW : W' = (((((((W.setCell ⟨vb, 0, none⟩ u1).setCell ⟨vb, 1, none⟩ u2).setCell ⟨vb, 2, none⟩ u3).setCell ⟨eb, 0, none⟩ x1).setCell ⟨eb, 1, none⟩ x2).setCell ⟨eb, 2, none⟩ x3).setCell ⟨eb, 3, none⟩ x4)) :
  (W'.cell? ⟨vb, 0, none⟩ = some u1 /\ W'.cell? ⟨vb, 1, none⟩ = some u2 /\ W'.cell? ⟨vb, 2, none⟩ = some u3) /\ (W'.cell? ⟨eb, 0, none⟩ = some x1 /\ W'.cell? ⟨eb, 1, none⟩ = some x2 /\ W'.cell? ⟨eb, 2, none⟩ = some x3 /\ W'.cell? ⟨eb, 3, none⟩ = some x4) /\ Turned (fun k => k = vb \/ k = eb) W W' := by
 obtain ⟨y0, y1, y2, hT⟩ := zbz hv u1 u2 u3
 obtain ⟨⟨z0, z1, z2, z3⟩, aa, -⟩ := zbf ((hT.block eb (za0 he) (fun e => ab e.symm)).trans he) x1 x2 x3 x4
 rw [<- hW] at z0 z1 z2 z3 aa
 exact ⟨⟨aa.cell y0 ab, aa.cell y1 ab, aa.cell y2 ab⟩, ⟨z0, z1, z2, z3⟩, (hT.mono (fun k _ e => .inl e)).trans aa (fun k _ e => .inr e)⟩
theorem zth {w w1 w2 : World} {a b : Nat} (h : Up w w1) (ha : w.heap.size <= a) (hb : w.heap.size <= b) (k : Turned (fun j => j = a \/ j = b) w1 w2) : Up w w2 := by
 have h2 := (Turned.below h).trans k (fun i _ e => by rcases e with e | e <;> omega)
 exact ⟨h2.os, h2.tape, h2.output, h2.size, fun i hi => h2.block i hi (by omega)⟩
theorem zh2 (p q k : Int) (l : ByteArray) (hk : (k != 0) = true) (aD : (k == 18) = false) (hs : Ls3 w se s.es) (hF : ∀ W, Up w W -> Calls prog 16 #[zCb s se, .int .i64 p, .int .i64 q] W fun r w' => r = .returned (.tuple #[.slice none 0 0, zDt k l]) /\ Up W w') :
  Calls prog 6 #[zCb s se, .int .i64 p, .int .i64 q] w (znr false [] [] k l w) := by
 have HF := zh hF
 obtain ⟨ao, cap, rfl⟩ := zaf hs
 obtain ⟨L, hL⟩ := nm (s.es.length)
 unfold zCb zDt at HF
 unfold zCb
 rw [<- hL] at HF ⊢
 obtain ⟨ak, al, am, an⟩ := zv4 w #[.int .i64 s.n, .int .i64 s.m, .int .i64 s.start, .slice ao L cap] #[.bool false, .slice none 0 0, .slice none 0 0] #[.int .i64 0, .int .i64 0, .int .i64 0, .string { data := #[] }] 24 30 32
 have aE := zh ak
 have aq := zh al
 have ag := zh am
 have ah := zh an
 clear hs hL ak al am an hF
 go_enter func6, ntmps6
 go_upto_region 2 with (go_at_call 16; refine (HF.out _ ah.out).mono ?_; rintro r w1 ⟨rfl, au⟩; (have av := zh au); clear au)
 obtain ⟨w2, ac⟩ := nm (w1.alloc (.cells #[.int .i64 k, .int .i64 0, .int .i64 0, .string l] 32))
 rw [<- ac]
 have aw : Up w1 w2 := by rw [ac]; exact (Up.refl _).alloc _
 have ax : w2.heap[w1.heap.size]? = some (.cells #[.int .i64 k, .int .i64 0, .int .i64 0, .string l] 32 (0, 0)) := by rw [ac]; exact heap_alloc_new _ _
 obtain ⟨⟨e0, e1, e2, e3⟩, -⟩ := za6 ax
 have ai := zh (av.out.trans aw)
 have aj := zh ((ai.out.block _ (za0 aq.out)).trans aq.out)
 have ad := zh ((ai.out.block _ (za0 ag.out)).trans ag.out)
 clear ac aw ax
 go_upto_region 5 with fail
 obtain ⟨⟨v0, v1, v2⟩, f0, f1, f2⟩ := zah aj.out
 obtain ⟨⟨r0, r1, r2, r3⟩, z0, z1, z2, z3⟩ := za6 ad.out
 have aA := And.intro e0 (And.intro e1 (And.intro e2 e3))
 have aB := ah.out.size
 have ab := av.out.size
 have ay := za0 ag.out
 have aC := zh (And.intro ab ay)
 clear aB ab ay
 refine za9 3 [(0, true), (1, true), (2, false)] (fun x => x.cell? ⟨w1.heap.size, 0, none⟩ = some (.int .i64 k) /\ x.cell? ⟨w1.heap.size, 1, none⟩ = some (.int .i64 0) /\ x.cell? ⟨w1.heap.size, 2, none⟩ = some (.int .i64 0) /\ x.cell? ⟨w1.heap.size, 3, none⟩ = some (.string l)) (by kernel_rfl) (by kernel_rfl) (fun _ _ _ _ _ h => h) aA ?_
 iterate 2
  refine WO.still rfl rfl (fun KK hK => ?_)
  apply Exists.intro
  refine ⟨?_, hK _ ?_⟩
  ·rintro w' ⟨s0, s1, s2, s3⟩
   go_simp
   first | done | rfl | exact ⟨rfl, rfl⟩
  clear hK KK
 obtain ⟨-, -, -, hT⟩ := zbz (W := w2.drew) aj.out (.bool false) (.slice none 0 0) (.slice none 0 0)
 obtain ⟨-, g0, g1, g2, g3⟩ := za6 ((hT.block _ (za0 ad.out) (by omega)).trans ad.out)
 refine WO.act rfl rfl (fun K hK => ?_)
 go_simp
 refine hK _ _ ?_ ?_
 ·have ae : w1.heap.size ≠ w.heap.size + 1 := by have := aC.out; omega
  exact ⟨hT.cell e0 ae, hT.cell e1 ae, hT.cell e2 ae, hT.cell e3 ae⟩
 clear hK K
 refine WO.last rfl rfl (fun K hK => ?_)
 go_simp
 refine hK _ _ ?_
 clear hK K
 go_wp2_with fail
 obtain ⟨⟨y0, y1, y2⟩, ⟨x0, x1, x2, x3⟩, af⟩ := zf3 (W := w2) aj.out ad.out (by omega) (.bool false) (.slice none 0 0) (.slice none 0 0) (.int .i64 k) (.int .i64 0) (.int .i64 0) (.string l) rfl
 obtain ⟨W5, aa⟩ := nm ((((((((w2.setCell ⟨w.heap.size + 1, 0, none⟩ (.bool false)).setCell ⟨w.heap.size + 1, 1, none⟩ (.slice none 0 0)).setCell ⟨w.heap.size + 1, 2, none⟩ (.slice none 0 0)).setCell ⟨w.heap.size + 1 + 1, 0, none⟩ (.int .i64 k)).setCell ⟨w.heap.size + 1 + 1, 1, none⟩ (.int .i64 0)).setCell ⟨w.heap.size + 1 + 1, 2, none⟩ (.int .i64 0)).setCell ⟨w.heap.size + 1 + 1, 3, none⟩ (.string l)).drew)
 rw [<- aa]
 replace af := af.drew
 replace y0 : W5.cell? ⟨w.heap.size + 1, 0, none⟩ = some (.bool false) := by rw [aa, zbk]; exact y0
 replace y1 : W5.cell? ⟨w.heap.size + 1, 1, none⟩ = some (.slice none 0 0) := by rw [aa, zbk]; exact y1
 replace y2 : W5.cell? ⟨w.heap.size + 1, 2, none⟩ = some (.slice none 0 0) := by rw [aa, zbk]; exact y2
 replace x0 : W5.cell? ⟨w.heap.size + 1 + 1, 0, none⟩ = some (.int .i64 k) := by rw [aa, zbk]; exact x0
 replace x1 : W5.cell? ⟨w.heap.size + 1 + 1, 1, none⟩ = some (.int .i64 0) := by rw [aa, zbk]; exact x1
 replace x2 : W5.cell? ⟨w.heap.size + 1 + 1, 2, none⟩ = some (.int .i64 0) := by rw [aa, zbk]; exact x2
 replace x3 : W5.cell? ⟨w.heap.size + 1 + 1, 3, none⟩ = some (.string l) := by rw [aa, zbk]; exact x3
 rw [<- aa] at af
 clear aa
 refine bodyPost_ret (v := .tuple #[.agg #[.bool false, .slice none 0 0, .slice none 0 0], .agg #[.int .i64 k, .int .i64 0, .int .i64 0, .string l]]) (by simp [results, results6, go_sem, x0, x1, x2, x3, y0, y1, y2]) rfl ⟨none, 0, none, 0, rfl, zh ⟨World.ownsRow_nil _ _ _ _, World.ownsRow_nil _ _ _ _⟩, zth (ah.out.trans ai.out) (by omega) (by omega) af⟩
theorem zst {xs : List Int} (hx : xs = (Rd.R s (Rd.last s)).map Int.ofNat) (p q : Int) (hr : Sy.right s = true) (ag : zfg se) (hs : Ls3 w se s.es) (hF : ∀ W, Up w W -> Calls prog 16 #[zCb s se, .int .i64 p, .int .i64 q] W fun r w' => r = .returned (.tuple #[.slice none 0 0, zDt 18 zad]) /\ Up W w') :
  Calls prog 6 #[zCb s se, .int .i64 p, .int .i64 q] w (znr true xs [] 0 { data := #[] } w) := by
 have HF := zh hF
 have HC : Hid (∀ W, Up w W -> Calls prog 17 #[zCb s se] W (zcc W xs)) := zh (fun W hu => zj1 hx hr (hs.up hu) ag)
 obtain ⟨ao, cap, rfl⟩ := zaf hs
 obtain ⟨L, hL⟩ := nm (s.es.length)
 unfold zCb zDt at HF
 unfold zCb at HC ⊢
 rw [<- hL] at HF HC ⊢
 obtain ⟨ah, ai, aj, ak⟩ := zv4 w #[.int .i64 s.n, .int .i64 s.m, .int .i64 s.start, .slice ao L cap] #[.bool false, .slice none 0 0, .slice none 0 0] #[.int .i64 0, .int .i64 0, .int .i64 0, .string { data := #[] }] 24 30 32
 have al := zh ah
 have am := zh ai
 have ac := zh aj
 have ad := zh ak
 clear hs hL ah ai aj ak hF hr ag hx
 go_enter func6, ntmps6
 go_upto_region 2 with (go_at_call 16; refine (HF.out _ ad.out).mono ?_; rintro r w1 ⟨rfl, an⟩; (have ay := zh an); clear an)
 obtain ⟨w2, aa⟩ := nm (w1.alloc (.cells #[.int .i64 18, .int .i64 0, .int .i64 0, .string zad] 32))
 rw [<- aa]
 have aq : Up w1 w2 := by rw [aa]; exact (Up.refl _).alloc _
 have au : w2.heap[w1.heap.size]? = some (.cells #[.int .i64 18, .int .i64 0, .int .i64 0, .string zad] 32 (0, 0)) := by rw [aa]; exact heap_alloc_new _ _
 obtain ⟨⟨e0, e1, e2, e3⟩, -⟩ := za6 au
 have ab := zh (ay.out.trans aq)
 obtain ⟨⟨k0, k1, k2, k3⟩, -⟩ := za6 ((ab.out.block _ (za0 al.out)).trans al.out)
 clear aa aq au
 go_wp2_with (go_at_call 17; refine (HC.out _ (ad.out.trans ab.out)).mono ?_; rintro r w3 ⟨ca, cc, rfl, aA, aB⟩; (have ae := zh aA); (have af := zh (ab.out.trans aB)); (have av := zh ((af.out.block _ (za0 am.out)).trans am.out)); (have aw := zh ((af.out.block _ (za0 ac.out)).trans ac.out)); (obtain ⟨⟨v0, v1, v2⟩, f0, f1, f2⟩ := zah av.out); (obtain ⟨⟨r0, r1, r2, r3⟩, z0, z1, z2, z3⟩ := za6 aw.out))
 obtain ⟨⟨y0, y1, y2⟩, ⟨x0, x1, x2, x3⟩, ax⟩ := zf3 (W := w3) av.out aw.out (by omega) (.bool true) (.slice ca xs.length cc) (.slice none 0 0) (.int .i64 0) (.int .i64 0) (.int .i64 0) (.string { data := #[] }) rfl
 have h1 := ab.out.size
 have h2 := za0 ac.out
 have aC := za8 (za2 ae.out (fun g hg => ax.block g (za3 ae.out hg) (fun e => by
  have h5 := (ae.out.lt g hg).1
  rcases e with e | e <;> omega))) (show w.heap.size <= w2.heap.size by omega)
 refine bodyPost_ret (v := .tuple #[.agg #[.bool true, .slice ca xs.length cc, .slice none 0 0], .agg #[.int .i64 0, .int .i64 0, .int .i64 0, .string { data := #[] }]]) (by simp [results, results6, go_sem, x0, x1, x2, x3, y0, y1, y2]) rfl ⟨ca, cc, none, 0, rfl, zh ⟨aC, World.ownsRow_nil _ _ _ _⟩, zth (ad.out.trans af.out) (by omega) (by omega) ax⟩
theorem ztv {F : List Dt.Nd} (p q : Int) (hs : Ls3 w se s.es) (hF : ∀ W, Up w W -> Calls prog 16 #[zCb s se, .int .i64 p, .int .i64 q] W fun r w' => ∃ fa fc, r = .returned (.tuple #[.slice fa F.length fc, zhd]) /\ Hid (w'.ownsRow W.heap.size 81 2 (.slice fa F.length fc) F.length (za7 F)) /\ Up W w') :
  Calls prog 6 #[zCb s se, .int .i64 p, .int .i64 q] w (znr false [] F 0 { data := #[] } w) := by
 have HF := zh hF
 obtain ⟨ao, cap, rfl⟩ := zaf hs
 obtain ⟨L, hL⟩ := nm (s.es.length)
 unfold zCb zhd zDt at HF
 unfold zCb
 rw [<- hL] at HF ⊢
 obtain ⟨ag, ah, ai, aj⟩ := zv4 w #[.int .i64 s.n, .int .i64 s.m, .int .i64 s.start, .slice ao L cap] #[.bool false, .slice none 0 0, .slice none 0 0] #[.int .i64 0, .int .i64 0, .int .i64 0, .string { data := #[] }] 24 30 32
 have ay := zh ag
 have ak := zh ah
 have ac := zh ai
 have ad := zh aj
 clear hs hL ag ah ai aj hF
 go_enter func6, ntmps6
 go_upto_region 2 with (go_at_call 16; refine (HF.out _ ad.out).mono ?_; rintro r w1 ⟨fa, fc, rfl, av, al⟩; (have aw := zh al); clear al)
 obtain ⟨w2, aa⟩ := nm (w1.alloc (.cells #[.int .i64 0, .int .i64 0, .int .i64 0, .string { data := #[] }] 32))
 rw [<- aa]
 have ae : Up w1 w2 := by rw [aa]; exact (Up.refl _).alloc _
 have am : w2.heap[w1.heap.size]? = some (.cells #[.int .i64 0, .int .i64 0, .int .i64 0, .string { data := #[] }] 32 (0, 0)) := by rw [aa]; exact heap_alloc_new _ _
 obtain ⟨⟨e0, e1, e2, e3⟩, -⟩ := za6 am
 have ab := zh (aw.out.trans ae)
 have an := zh ((ab.out.block _ (za0 ak.out)).trans ak.out)
 have aq := zh ((ab.out.block _ (za0 ac.out)).trans ac.out)
 have af := zh (ae.owns av.out)
 obtain ⟨⟨v0, v1, v2⟩, f0, f1, f2⟩ := zah an.out
 obtain ⟨⟨r0, r1, r2, r3⟩, z0, z1, z2, z3⟩ := za6 aq.out
 clear aa ae am
 go_wp2_with fail
 obtain ⟨⟨y0, y1, y2⟩, ⟨x0, x1, x2, x3⟩, au⟩ := zf3 (W := w2) an.out aq.out (by omega) (.bool false) (.slice none 0 0) (.slice fa F.length fc) (.int .i64 0) (.int .i64 0) (.int .i64 0) (.string { data := #[] }) rfl
 have h1 := ab.out.size
 have h2 := za0 ac.out
 have ax := za8 (za2 af.out (fun g hg => au.block g (za3 af.out hg) (fun e => by
  have h5 := (af.out.lt g hg).1
  rcases e with e | e <;> omega))) ad.out.size
 refine bodyPost_ret (v := .tuple #[.agg #[.bool false, .slice none 0 0, .slice fa F.length fc], .agg #[.int .i64 0, .int .i64 0, .int .i64 0, .string { data := #[] }]]) (by simp [results, results6, go_sem, x0, x1, x2, x3, y0, y1, y2]) rfl ⟨none, 0, fa, fc, rfl, zh ⟨World.ownsRow_nil _ _ _ _, ax⟩, zth (ad.out.trans ab.out) (by omega) (by omega) au⟩
end
end Go.Proofs.YtoaoajfjcfcmhaaGreatDoor
