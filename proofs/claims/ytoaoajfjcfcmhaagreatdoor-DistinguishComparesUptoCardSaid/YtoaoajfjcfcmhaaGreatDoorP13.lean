/- Walk: rounds.Ranks. Plain: what a statement looks for among steps: where steps of a label lead. -/
import Derived.Test.YtoaoajfjcfcmhaaGreatDoorP11
import Derived.Test.YtoaoajfjcfcmhaaGreatDoorP08
import Derived.Test.YtoaoajfjcfcmhaaGreatDoorP10
import Derived.Test.YtoaoajfjcfcmhaaGreatDoorP01
set_option linter.unusedVariables false
set_option linter.unusedSimpArgs false
set_option maxHeartbeats 16000000
set_option maxRecDepth 100000
open Go.Proofs.Tryz
namespace Go.Proofs.YtoaoajfjcfcmhaaGreatDoor
open Go.RowKit Go.Sort Go.Maps
def zdu (base : Nat) (w : World) (vs : List Value) (rows : List (List Int)) : Prop :=
 vs.length = rows.length /\ (∀ i, i < rows.length -> w.ownsRow base 3 1 (vs.getD i undef) (rows.getD i []).length (ivs (rows.getD i []))) /\
  ∀ i j g h, i < j -> j < rows.length -> (vs.getD i undef).ownBlock = some g -> (vs.getD j undef).ownBlock = some h -> g < h
theorem zdu.keep {base : Nat} {w w1 : World} {vs : List Value} {rows : List (List Int)} (h : zdu base w vs rows) (hk : ∀ g, base <= g -> g < w.heap.size -> w1.heap[g]? = w.heap[g]?) : zdu base w1 vs rows :=
 ⟨h.1, fun i hi => za2 (h.2.1 i hi) (fun g hg => hk g ((h.2.1 i hi).lt g hg).1 ((h.2.1 i hi).lt g hg).2), h.2.2⟩
theorem zdu.base {w : World} {b b' : Nat} {vs : List Value} {rows : List (List Int)} (h : zdu b w vs rows) (hb : b' <= b) : zdu b' w vs rows :=
 ⟨h.1, fun i hi => za8 (h.2.1 i hi) hb, h.2.2⟩
theorem zdu.snoc {base : Nat} {w0 w : World} {vs : List Value} {rows : List (List Int)} {v : Value} {c : List Int} (h : zdu base w0 vs rows) (hk : ∀ g, base <= g -> g < w0.heap.size -> w.heap[g]? = w0.heap[g]?) (hb : base <= w0.heap.size) (hv : w.ownsRow w0.heap.size 3 1 v c.length (ivs c)) : zdu base w (vs ++ [v]) (rows ++ [c]) := by
 refine ⟨by simp [h.1], fun i hi => ?_, fun i j g k ab hj hg aa => ?_⟩
 ·rw [List.length_append, List.length_singleton] at hi
  by_cases he : i < rows.length
  ·rw [zb6 (by rw [h.1]; exact he), zb6 he]; exact (h.keep hk).2.1 i he
  ·obtain rfl : i = rows.length := by omega
   have h1 : (vs ++ [v]).getD rows.length undef = v := by rw [<- h.1]; exact zbd _ _ _
   rw [h1, zbd]; exact za8 hv hb
 ·rw [List.length_append, List.length_singleton] at hj
  have hi : i < rows.length := by omega
  rw [zb6 (by rw [h.1]; exact hi)] at hg
  by_cases he : j < rows.length
  ·rw [zb6 (by rw [h.1]; exact he)] at aa
   exact h.2.2 i j g k ab he hg aa
  ·obtain rfl : j = rows.length := by omega
   rw [show (vs ++ [v]).getD rows.length undef = v by rw [<- h.1]; exact zbd _ _ _] at aa
   have h1 := za3 (h.2.1 i hi) hg
   have h2 := (hv.lt k aa).1
   omega
theorem zdu.nil (base : Nat) (w : World) : zdu base w [] [] := ⟨rfl, fun i hi => by simp at hi, fun i j g h _ hj => by simp at hj⟩
def zbx (s : Sy.Lts) (p k : Nat) : List Int := (List.range k).map fun q => Rd.rank s p q
def zcw (s : Sy.Lts) (j : Nat) : List (List Int) := (List.range j).map fun p => zbx s p s.n.toNat
def ranks (s : Sy.Lts) : List (List Int) := zcw s s.n.toNat
theorem zi2 (s : Sy.Lts) (p k : Nat) : (zbx s p k).length = k := by simp [zbx]
theorem zmp (s : Sy.Lts) (p k : Nat) : zbx s p (k + 1) = zbx s p k ++ [Rd.rank s p k] := by simp [zbx, List.range_succ]
theorem znl (s : Sy.Lts) (j : Nat) : (zcw s j).length = j := by simp [zcw]
theorem zkw (s : Sy.Lts) (j : Nat) : zcw s (j + 1) = zcw s j ++ [zbx s j s.n.toNat] := by simp [zcw, List.range_succ]
theorem ztc {s : Sy.Lts} {p : Nat} (hp : p < s.n.toNat) : (ranks s).getD p [] = zbx s p s.n.toNat := by simp [ranks, zcw, List.getD, hp]
def zm9 (s : Sy.Lts) (w : World) (x xl : Value) (r : Ending) (w' : World) : Prop :=
 Up w w' /\ ((Sy.right s = true /\ s.n <= 300 /\ ∃ v vs, r = .returned (.tuple #[v, .nilIface]) /\ w'.ownsRow w.heap.size 27 1 v s.n.toNat vs /\ zdu w.heap.size w' vs (ranks s)) \/
  (Sy.right s = true /\ 300 < s.n /\ ∃ pb, r = .returned (.tuple #[.slice none 0 0, zac pb]) /\ w.heap.size <= pb /\ zas w' pb zbw xl) \/
  (Sy.right s = false /\ ∃ qb pb, r = .returned (.tuple #[.slice none 0 0, zac qb]) /\ w.heap.size <= qb /\ w.heap.size <= pb /\ zas w' qb zbw (zac pb) /\ zas w' pb zar x))
theorem zru (s : Sy.Lts) (se : Value) (a : Addr) (xt : TypeId) (xl : Value) (w : World) (hr : Sy.right s = true) (aa : 300 < s.n) (hT : Tab w) (hG : zFl w) (hs : Ls3 w se s.es) (hE : w.cell? ⟨13, 0, none⟩ = some (.iface 335 (.pointer (some a))))
  (hL : w.cell? ⟨2, 0, none⟩ = some (.iface xt xl)) (hl : s.es.length <= maxLen) :
  Calls prog 76 #[zCb s se] w (zm9 s w (.iface 335 (.pointer (some a))) (.iface xt xl)) := by
 obtain ⟨ao, cap, rfl⟩ := zaf hs
 have hA := zuf hr hT hG hs hE hl
 obtain ⟨n, hn⟩ : ∃ n : Nat, s.n = (n : Nat) := ⟨s.n.toNat, by omega⟩
 rw [hn] at hA
 have HA := zh hA
 have HR := zh hr
 have HN := zh aa
 have ai : 300 < n := by omega
 unfold zCb
 rw [hn]
 clear hr hT hG hl aa hn hs hA
 have q1 : decide ((300 : Int) < (n : Int)) = true := by simp; omega
 go_enter func76, ntmps76
 go_wp2_with (first
  | (go_at_call 126; refine HA.out.mono ?_; rintro r w1 ⟨av, cv, vs, rfl, ab, ad, ho, af⟩; (have cB := (za6 ad).1.1); clear ad; (have aj := ab.cell hE); (have ak := ab.cell hL); (have ae := zh ab); clear ho af ab hE hL)
  | (go_at_call 20; refine (zqc a _).mono ?_; rintro e w2 ⟨rfl, rfl⟩)
  | (go_at_call 75; refine (zci zbw _ _ _).mono ?_; rintro e w3 ⟨rfl, ac⟩; (have ag := zh (zed ac)); (have ah := zh (show Up w w3 by rw [ac]; exact ae.out.alloc _)); clear ac))
 go_ret2
 exact ⟨ah.out, .inr (.inl ⟨HR.out, HN.out, _, rfl, ae.out.size, ag.out⟩)⟩
theorem Row.zFc {w : World} {base g cap n size : Nat} {e : TypeId} {xs : List Value} (h : Row w g e (cap * size) xs) (hb : base <= g) (hn : n <= cap) (hc : cap <= maxLen) (hx : xs.length = n * size) :
  w.ownsRow base e size (.slice (some ⟨g, 0, none⟩) n cap) n xs := by
 obtain ⟨cur, hg, hs, hl, ht⟩ := h
 exact ⟨hx, .inr ⟨g, cap, cur, rfl, hb, hg, hn, hc, hs, by rw [<- hx]; exact ht⟩⟩
structure zEa (s : Sy.Lts) (n : Nat) (wA wr : World) (O j : Nat) (vs : List Value) : Prop where
 up : Up wA wr
 row : Row wr O 27 n (vs ++ List.replicate (n - j) (.slice none 0 0))
 rows : zdu (O + 1) wr vs (zcw s j)
structure zE7 (s : Sy.Lts) (n : Nat) (wA wr wq : World) (O j q : Nat) (vs : List Value) (vp : Value) : Prop where
 up : Up wA wq
 turned : Turned (fun k => k = O) wr wq
 row : Row wq O 27 n (vs ++ vp :: List.replicate (n - (j + 1)) (.slice none 0 0))
 own : wq.ownsRow wr.heap.size 3 1 vp q (ivs (zbx s j q))
theorem zEa.enter {s : Sy.Lts} {n : Nat} {wA wr : World} {O j : Nat} {vs : List Value} (h : zEa s n wA wr O j vs) (hj : j < n) : zE7 s n wA wr wr O j 0 vs (.slice none 0 0) :=
 ⟨h.up, Turned.refl _ _, by have := h.row; rwa [show n - j = (n - (j + 1)) + 1 by omega, List.replicate_succ] at this, World.ownsRow_nil _ _ _ _⟩
theorem zE7.leave {s : Sy.Lts} {n : Nat} {wA wr wq : World} {O j : Nat} {vs : List Value} {vp : Value} (h0 : zEa s n wA wr O j vs) (h : zE7 s n wA wr wq O j n vs vp) (hn : s.n.toNat = n) : zEa s n wA wq O (j + 1) (vs ++ [vp]) := by
 refine ⟨h.up, by rw [List.append_assoc]; exact h.row, ?_⟩
 rw [zkw, hn]
 refine h0.rows.snoc (fun g hg hl => h.turned.block g hl (by omega)) (by have := h0.row.lt; omega) ?_
 rw [zi2]; exact h.own
theorem zE7.cell {s : Sy.Lts} {n : Nat} {wA wr wq : World} {O j q : Nat} {vs : List Value} {vp : Value} (h : zE7 s n wA wr wq O j q vs vp) (hl : vs.length = j) : wq.cell? ⟨O, j, none⟩ = some vp :=
 h.row.cell (by rw [<- hl]; simp)
theorem zE7.push {s : Sy.Lts} {n : Nat} {wA wr wq w2 w4 : World} {O j q : Nat} {vs : List Value} {vp v' : Value} {o : Obj} (h : zE7 s n wA wr wq O j q vs vp) (hl : vs.length = j) (hO : wA.heap.size <= O) (ai : O < wr.heap.size) (hu : Up wq w2)
  (aa : w4.ownsRow wr.heap.size 3 1 v' (q + 1) (ivs (zbx s j q) ++ [.int .i64 (Rd.rank s j q)])) (hg : (w2.alloc o).grownBy w4 vp.ownBlock) :
  zE7 s n wA wr (w4.setCell ⟨O, j, none⟩ v') O j (q + 1) vs v' := by
 have ac : ∀ k, vp.ownBlock = some k -> wr.heap.size <= k := fun k hk => (h.own.lt k hk).1
 have ab : Up wq (w2.alloc o) := hu.alloc o
 have ae : w4.heap[O]? = wq.heap[O]? := (hg.block O (Nat.lt_of_lt_of_le h.row.lt ab.size) (fun e => by have := ac O e.symm; omega)).trans (ab.block O h.row.lt)
 have ad := (h.row.keep ae).set j v'
 have af : Turned (fun k => k = O) wr w4 := (h.turned.trans (ab.zHv (S := fun k => k = O)) (fun _ _ h => h)).grown hg (fun k hk => .inr (ac k hk))
 refine ⟨?_, af.setCell (.inl rfl) _, ?_, ?_⟩
 ·have ag : Up wA w4 := (h.up.trans ab).grown hg (fun k hk => by have := ac k hk; omega)
  exact ag.setCell hO _
 ·rw [show (vs ++ vp :: List.replicate (n - (j + 1)) (Value.slice none 0 0)).set j v' = vs ++ v' :: List.replicate (n - (j + 1)) (.slice none 0 0) by rw [<- hl]; simp] at ad
  exact ad
 ·have e : ivs (zbx s j (q + 1)) = ivs (zbx s j q) ++ [.int .i64 (Rd.rank s j q)] := by rw [zmp]; simp [ivs]
  rw [e]
  exact za2 aa (fun g ah => Below.heap_setCell w4 ⟨O, j, none⟩ v' g (by have := (aa.lt g ah).1; simp only; omega))
theorem zvs (s : Sy.Lts) (se : Value) (a : Addr) (xl : Value) (w : World) (hr : Sy.right s = true) (ag : s.n <= 300) (hT : Tab w) (hG : zFl w) (hs : Ls3 w se s.es) (hE : w.cell? ⟨13, 0, none⟩ = some (.iface 335 (.pointer (some a))))
  (hl : s.es.length <= maxLen) :
  Calls prog 76 #[zCb s se] w (zm9 s w (.iface 335 (.pointer (some a))) xl) := by
 obtain ⟨ao, cap, rfl⟩ := zaf hs
 have hA := zuf hr hT hG hs hE hl
 have hR := (Sy.zCj s).1 hr
 obtain ⟨n, hn⟩ : ∃ n : Nat, s.n = (n : Nat) := ⟨s.n.toNat, by have := hR.n0; omega⟩
 rw [hn] at hA
 have HA := zh hA
 have HR := zh hr
 have aD := zh hR
 have HN := zh ag
 have aM : n <= 300 := by omega
 have ah : Hid (s.n.toNat = n) := zh (by rw [hn]; rfl)
 obtain ⟨i0, hi, aE, aF, aG⟩ := info_parts Tryz.zD6
 obtain ⟨j0, hj, gz0, gz1, gz2⟩ := info_parts Tryz.zCp
 unfold zCb
 rw [hn]
 clear hr hT hG hl ag hn hs hA hR
 have q1 : decide ((300 : Int) < (n : Int)) = false := by simp; omega
 go_enter func76, ntmps76
 go_upto_region 6 with (first
  | (go_at_call 126; refine HA.out.mono ?_; rintro r w1 ⟨av, cv, vs, rfl, aq, ay, ho, ai⟩; (have cB := (za6 ay).1.1); clear ay; (have aN := aq.cell hE); (have HO := zh ho); (have HW := zh ai); (have aA := zh aq); clear ho ai aq hE)
  | (go_at_call 20; refine (zqc a _).mono ?_; rintro e w2 ⟨rfl, rfl⟩))
 go_wp2_with (at_make; refine wpList_make_full _ rfl _ _ 36 rfl w1.heap.size 27 i0 (.slice none 0 0) 1 underlying36 hi aE aF _ _ _ _ n rfl rfl rfl rfl (by rw [aG]; omega) (by unfold maxLen; omega) (Nat.le_refl _) ?_; intro w2 aj ae)
 obtain ⟨ad, -, -, -⟩ := Row.of aj
 have e : (madeCells (Value.slice none 0 0).cells (n * 1)).toList = List.replicate n (Value.slice none 0 0) := by rw [Nat.mul_one]; exact toList_madeCells_one _ _
 rw [e, Nat.mul_one] at ad
 have ak : Up w1 w2 := (Up.refl w1).grown ae (fun k hk => by cases hk)
 obtain ⟨O, hO⟩ := nm (w1.heap.size)
 rw [<- hO] at ad
 have H0 : Hid (([] : List Value).length = 0 /\ zEa s n w1 w2 O 0 []) := zh ⟨rfl, ak, by simpa using ad, zdu.nil _ _⟩
 have aO := aA.out.size
 clear e ad ae ak aj
 go_wp2_with fail
 rw [<- hO]
 have aB := zh hO
 clear hO
 go_loopw [30] (fun i wo => ∃ (j : Nat) (vs : List Value), i = .int .i64 j /\ j <= n /\ Hid (vs.length = j /\ zEa s n w1 wo O j vs)) (fun i _ => n - (intOf i).toNat)
 case atStart => exact ⟨0, [], rfl, Nat.zero_le _, H0⟩
 case round =>
  obtain ⟨j, vs', rfl, aP, ab⟩ := hrel
  rename World => wo
  by_cases hlt : j < n
  ·have cBr := ab.out.2.up.cell cB
   have aH := ab.out.2.row.lt
   go_wp2_with fail
   go_loopw [35] (fun i wr => ∃ (q : Nat) (vp : Value), i = .int .i64 q /\ q <= n /\ Hid (zE7 s n w1 wo wr O j q vs' vp)) (fun i _ => n - (intOf i).toNat)
   case atStart => exact ⟨0, _, rfl, Nat.zero_le _, zh (ab.out.2.enter hlt)⟩
   case round =>
    obtain ⟨q, vp, rfl, aQ, HQ⟩ := hrel
    by_cases hlt2 : q < n
    ·obtain ⟨av2, cv2, aI⟩ := za1 HQ.out.own
     subst aI
     have am := HQ.out.cell ab.out.1
     have aR := HQ.out.row.free j
     have aJ := HQ.out.turned.size
     obtain ⟨K0, au⟩ := nm (Rd.last s + 1)
     have HC : Hid (∀ W, Up wr W -> Calls prog 127 #[.slice av K0 cv, .int .i64 (j : Nat), .int .i64 (q : Nat)] W fun r w' => r = .returned (.int .i64 (Rd.rank s j q)) /\ Up W w') :=
      zh (fun W hW => by rw [au]; exact zvg aD.out HO.out HW.out (HQ.out.up.trans hW) (by rw [ah.out]; exact hlt) (by rw [ah.out]; exact hlt2))
     rw [<- au]
     clear au
     go_upto_region 13 with fail
     refine za9 13 [(0, true), (1, true), (2, true), (3, true), (4, true), (5, true), (6, true), (7, true), (8, true), (9, false), (10, false), (11, false), (12, true)] (fun x => x.cell? ⟨O, j, none⟩ = some (.slice av2 q cv2)) (by kernel_rfl) (by kernel_rfl) (fun _ _ _ _ _ h => h) am ?_
     iterate 9
      refine WO.still rfl rfl (fun K hK => ?_)
      apply Exists.intro
      refine ⟨?_, hK _ ?_⟩
      ·intro w' hS
       have s1 : w'.cell? ⟨O, j, none⟩ = some (.slice av2 q cv2) := hS
       go_simp
       first | done | rfl | exact ⟨rfl, rfl⟩
      clear hK K
     refine WO.act rfl rfl (fun K hK => ?_)
     go_simp
     go_at_call 127
     refine (HC.out _ (Up.refl _).drew).mono ?_
     rintro r w3 ⟨rfl, al⟩
     have af : Up wr w3 := ((Up.refl wr).drew).trans al
     clear al
     refine hK _ _ (af.cell am) ?_
     clear hK K
     refine WO.act rfl rfl (fun K hK => ?_)
     go_simp
     refine hK _ _ ?_ ?_
     ·exact (af.alloc _).cell am
     clear hK K
     refine WO.act rfl rfl (fun K hK => ?_)
     refine wp_append_own (.tmp 43) (.tmp 48) 27 rfl wo.heap.size 3 j0 (.int .i64 0) 1 8 underlying27 hj gz0 gz1 gz2 rfl (by decide) (.slice av2 q cv2) q _ rfl (Up.owns (w := wr) (af.alloc _) HQ.out.own) _ 1 1 [.int .i64 (Rd.rank s j q)] rfl rfl (cell_one_new _ _ _) (fun u hu => by simp only [List.mem_singleton] at hu; subst hu; rfl) (by unfold maxLen; omega) (by omega) (by have := af.size; simp only [World.size_alloc]; omega) ?_
     intro v' w4 ac aa aw
     obtain ⟨a4, c4, aK⟩ := za1 ac
     subst aK
     have an : (w3.alloc (.cells #[.int .i64 (Rd.rank s j q)] 3)).grownBy w4 (Value.slice av2 q cv2).ownBlock := ⟨aa.os, aa.tape, aa.output, aa.size, aa.block⟩
     have ax : (Value.slice av2 q cv2).ownBlock ≠ some O := fun e => by have := (HQ.out.own.lt O e).1; omega
     have aL := zaw an ((af.alloc (.cells #[.int .i64 (Rd.rank s j q)] 3)).cell am) ax
     have aC : w4.heap[O]? = wr.heap[O]? := (an.block O (Nat.lt_of_lt_of_le HQ.out.row.lt ((af.alloc _).size)) (fun e => ax e.symm)).trans ((af.alloc _).block O HQ.out.row.lt)
     have aS : w4.frozen? ⟨O, j, none⟩ = false := (HQ.out.row.keep aC).free j
     have HP := zh (HQ.out.push ab.out.1 (Nat.le_of_eq aB.out.symm) aH af ac an)
     refine hK _ _ aL ?_
     clear hK K ac aa aw an ax aC
     refine WO.still rfl rfl (fun K hK => ?_)
     apply Exists.intro
     refine ⟨?_, hK _ ?_⟩
     ·intro w' hS
      go_simp
      first | done | rfl | exact ⟨rfl, rfl⟩
     clear hK K
     refine WO.last rfl rfl (fun K hK => ?_)
     go_simp
     refine hK _ _ ?_
     clear hK K
     go_wp2_with fail
     go_roundw
     case rel => exact ⟨q + 1, _, by go_num, by omega, HP⟩
     case measure => simp [intOf]; omega
    ·obtain rfl : q = n := by omega
     go_wp2_with fail
     go_roundw
     case rel => exact ⟨j + 1, vs' ++ [vp], by go_num, by omega, zh ⟨by rw [List.length_append, ab.out.1]; rfl, zE7.leave ab.out.2 HQ.out ah.out⟩⟩
     case measure => simp [intOf]; omega
  ·obtain rfl : j = n := by omega
   go_wp2_with fail
   go_ret2
   have ai := ab.out.2.row
   rw [Nat.sub_self, List.replicate_zero, List.append_nil] at ai
   have aT := aB.out
   refine ⟨aA.out.trans ab.out.2.up, .inl ⟨HR.out, HN.out, _, vs', rfl, ?_, ?_⟩⟩
   ·rw [ah.out]
    exact Row.zFc (by rw [Nat.mul_one]; exact ai) (by omega) (Nat.le_refl _) (by unfold maxLen; omega) (by rw [ab.out.1, Nat.mul_one])
   ·have h := ab.out.2.rows.base (show w.heap.size <= O + 1 by omega)
    unfold ranks
    rw [ah.out]; exact h
end Go.Proofs.YtoaoajfjcfcmhaaGreatDoor
namespace Go.Proofs.YtoaoajfjcfcmhaaGreatDoor.Rd
open Go.Proofs.YtoaoajfjcfcmhaaGreatDoor.Sy
def byL (l : List (Int × Int)) (x : Int) : List Int := (l.filter fun s => s.1 == x).map (·.2)
theorem zHd (l : List (Int × Int)) (x : Int) (i : Nat) (h : i < l.length) : byL (l.take (i + 1)) x = if (l.getD i (0, 0)).1 = x then byL (l.take i) x ++ [(l.getD i (0, 0)).2] else byL (l.take i) x := by
 have e : l.getD i (0, 0) = l[i] := by simp [List.getD, h]
 rw [List.take_succ_eq_append_getElem h, e]
 unfold byL
 rw [List.filter_append, List.map_append]
 split
 ·rename_i hx; simp [List.filter_cons, hx]
 ·rename_i hx; simp [List.filter_cons, hx]
theorem zH0 (l : List (Int × Int)) (x : Int) : (byL l x).length <= l.length := by
 simp only [byL, List.length_map]; exact List.length_filter_le _ _
theorem zJy {l : List (Int × Int)} {x y : Int} (h : y ∈ byL l x) : (x, y) ∈ l := by
 simp only [byL, List.mem_map, List.mem_filter, beq_iff_eq] at h
 obtain ⟨⟨a, b⟩, ⟨h1, h2⟩, h3⟩ := h
 simp only at h2 h3
 subst h2 h3; exact h1
def found (c : List Nat) (l : List Int) (k : Nat) : Bool := l.any fun y => c.getD y.toNat 0 == k
end Go.Proofs.YtoaoajfjcfcmhaaGreatDoor.Rd
namespace Go.Proofs.YtoaoajfjcfcmhaaGreatDoor
open Go.RowKit Go.Sort Go.Maps
def zcc (w : World) (l : List Int) (r : Ending) (w' : World) : Prop :=
 ∃ ao cap, r = .returned (.slice ao l.length cap) /\ w'.ownsRow w.heap.size 3 1 (.slice ao l.length cap) l.length (ivs l) /\ Up w w'
theorem zi3 (x : Int) : ∀ u ∈ [Value.int .i64 x], u.oneCell' = true := by
 intro u hu
 simp only [List.mem_singleton] at hu
 subst hu; rfl
theorem cell_two_new (w : World) (o : Obj) (x : Value) (e : TypeId) : ∀ j u, [x][j]? = some u -> ((w.alloc o).alloc (.cells #[x] e)).cell? ((⟨w.heap.size + 1, 0, none⟩ : Addr).add j) = some u := by
 intro j u hj
 have h := heap_alloc_new (w.alloc o) (.cells #[x] e)
 rw [World.size_alloc] at h
 match j, hj with
 | 0, hj =>
  simp only [List.getElem?_cons_zero, Option.some.injEq] at hj
  subst hj
  have e : ((⟨w.heap.size + 1, 0, none⟩ : Addr).add 0) = ⟨w.heap.size + 1, 0, none⟩ := by simp [Addr.add]
  rw [e]
  unfold World.cell?
  simp only [h]
  rfl
theorem zw7 {w : World} {v : Value} {l : List (Int × Int)} (x : Int) (hv : Ls2 w v l) (hl : l.length <= 1000000) :
  Calls prog 192 #[v, .int .i64 x] w (zcc w (Rd.byL l x)) := by
 obtain ⟨i0, hi, ai, aj, ak⟩ := info_parts Tryz.zCp
 obtain ⟨ao, cap, g, off, rfl, ha, hx⟩ := hv
 obtain ⟨n, hn⟩ := nm (l.length)
 rw [<- hn] at ha hl ⊢
 have HA := zh ha
 have HX := zh hx
 have HN := zh hn
 clear ha hx hn
 go_enter func192, ntmps192
 go_wp2_with fail
 go_loopw [5, 10] (fun t i wr => ∃ j k : Nat, i = .int .i64 j /\ j <= n /\ Up w wr /\ Hid (k = (Rd.byL (l.take j) x).length) /\ wr.ownsRow w.heap.size 3 1 t k (ivs (Rd.byL (l.take j) x))) (fun _ i _ => n - (intOf i).toNat)
 case atStart => exact ⟨0, 0, rfl, Nat.zero_le _, Up.refl w, zh rfl, World.ownsRow_nil _ _ _ _⟩
 case round =>
  obtain ⟨j, k, rfl, hj, hu, HK, aa⟩ := hrel
  by_cases hlt : j < n
  ·obtain rfl := HA.out (by omega)
   have ag : j < l.length := by rw [<- HN.out]; exact hlt
   have HB := zh (Rd.zHd l x j ag)
   have al : Hid (k <= 1000000) := zh (by
    have h1 := Rd.zH0 (l.take j) x
    rw [<- HK.out, List.length_take] at h1; omega)
   obtain ⟨y, hy⟩ : ∃ y, l.getD j (0, 0) = y := ⟨_, rfl⟩
   have ae := HX.out j ag
   rw [hy] at ae HB
   obtain ⟨y1, y2⟩ := y
   simp only at ae HB
   have d0 := hu.cell ae.1
   have d1 := hu.cell ae.2
   have aq := al.out
   have au := hu.size
   obtain ⟨av, q5, rfl⟩ := za1 aa
   have HO := zh aa
   have HU := zh hu
   clear ae hy aa hu ag
   by_cases hxy : y1 = x
   ·subst hxy
    rw [if_pos rfl] at HB
    go_wp2_with (at_builtin; (refine wpList_append_own _ rfl _ _ 27 rfl w.heap.size 3 i0 (.int .i64 0) 1 8 underlying27 hi ai aj ak rfl (by decide) _ k _ rfl ((HO.out.alloc _).alloc _) ⟨wr.heap.size + 1, 0, none⟩ 1 1 [.int .i64 y2] rfl rfl (cell_two_new _ _ _ _) (zi3 y2) (by unfold maxLen; omega) (by omega) (by simp; omega) ?_); intro v' w2 ac ab af; clear af)
    have ad : w2.ownsRow w.heap.size 3 1 v' (k + 1) (ivs (Rd.byL (l.take (j + 1)) y1)) := by
     rw [HB.out]
     have h := ac
     unfold ivs at h ⊢
     rw [List.map_append]; exact h
    have am := zh ad
    have an := zh (((HU.out.alloc _).alloc _).grown ab (fun g hg => (HO.out.lt g hg).1))
    clear ad ac ab
    go_roundw
    case rel => exact ⟨j + 1, k + 1, by go_num, by omega, an.out, zh (by rw [HB.out, List.length_append, <- HK.out]; rfl), am.out⟩
    case measure => simp [intOf]; omega
   ·rw [if_neg hxy] at HB
    have q1 : (y1 == x) = false := by simpa using hxy
    go_wp2_with fail
    go_roundw
    case rel => exact ⟨j + 1, k, by go_num, by omega, HU.out.alloc _, zh (by rw [HB.out]; exact HK.out), by rw [HB.out]; exact HO.out.alloc _⟩
    case measure => simp [intOf]; omega
  ·obtain rfl : j = n := by omega
   have ah : l.take j = l := by rw [HN.out, List.take_length]
   rw [ah] at aa HK
   obtain ⟨av, q5, rfl⟩ := za1 aa
   have HO := zh aa
   have HU := zh hu
   clear aa hu ah
   go_wp2_with fail
   go_ret
   have hk := HK.out
   subst hk
   exact ⟨av, q5, rfl, HO.out, HU.out⟩
theorem zBn {w : World} {B p : Nat} {s : Sy.Lts} (x : Int) (h : zCg w B s) (hR : Sy.Right s) (hp : p < s.n.toNat) :
  Calls prog 160 #[.pointer (some ⟨B, 0, none⟩), .int .i64 (p : Nat), .int .i64 x] w (zcc w (Rd.byL (Sy.steps s p) x)) := by
 have HE := zh (zp7 h hR hp)
 have HL := zh (zbt hR p)
 clear h hp
 go_enter func160, ntmps160
 go_wp2_with (first
  | (go_at_call 128; refine HE.out.mono ?_; rintro r w1 ⟨v, rfl, aa, hv⟩; (have hw := zw7 x hv HL.out); (obtain ⟨ao, cap, g, off, rfl, -, -⟩ := hv); (have HW := zh hw); (have ab := zh aa); clear hw aa)
  | (go_at_call 192; refine HW.out.mono ?_; rintro r w2 ⟨a2, c2, rfl, ac, ad⟩))
 go_ret
 exact ⟨a2, c2, rfl, za8 ac ab.out.size, ab.out.trans ad⟩
theorem zbv {w : World} {b : Nat} {v : Value} {l : List Int} (h : w.ownsRow b 3 1 v l.length (ivs l)) : Lst w v l := by
 rcases za4 h with ⟨rfl, h0, _⟩ | ⟨g, cap, rfl, hr, _⟩
 ·have : l = [] := List.eq_nil_of_length_eq_zero h0
  subst this
  exact ⟨none, 0, 0, 0, rfl, fun h => by simp at h, fun i hi => by simp at hi⟩
 ·exact ⟨_, _, g, 0, rfl, fun _ => rfl, fun i hi => by rw [Nat.zero_add]; exact hr.cell (by simp [ivs, hi])⟩
end Go.Proofs.YtoaoajfjcfcmhaaGreatDoor
