/- Walks: strong's begin, take. -/
import Derived.Test.YtoaoajfjcfcmhaaGreatDoorP25
import Derived.Test.YtoaoajfjcfcmhaaGreatDoorP01
set_option linter.unusedVariables false
set_option linter.unusedSimpArgs false
set_option maxHeartbeats 16000000
set_option maxRecDepth 100000
open Go.Proofs.Tryz
namespace Go.Proofs.YtoaoajfjcfcmhaaGreatDoor
open Go.RowKit Go.Sort Go.Maps
def Cut (F : Nat -> Prop) (w : World) (k : Nat) : Prop := F k /\ k < w.heap.size
theorem zF4.cut {F : Nat -> Prop} {w : World} {X gB B n : Nat} {p : Rf.St} {hp : List Nat} {nh nt : Nat} (h : zF4 F w X gB B n p hp nh nt) : zF4 (Cut F w) w X gB B n p hp nh nt := by
 obtain ⟨ve, vp, vi, vb, gh, gg, vs, vt, sz, gz, ts, h⟩ := h
 exact ⟨ve, vp, vi, vb, gh, gg, vs, vt, sz, gz, ts, h.box, h.part, h.heap, h.size, h.took, h.gauge, h.hl, h.gl, ⟨h.inX, h.lt⟩, ⟨h.inH, h.heap.lt⟩, ⟨h.inG, h.gauge.lt⟩, fun k hk => ⟨h.inS k hk, za3 h.size hk⟩,
  fun k hk => ⟨h.inT k hk, za3 h.took hk⟩, fun k hk => ⟨h.inP k hk, h.part.zCn hk⟩, h.nHG, h.nSH, h.nSG, h.nP⟩
theorem zbp.mono {F F' : Nat -> Prop} {w : World} {v : Value} {L : List Nat} (h : zbp F w v L) (hF : ∀ k, k < w.heap.size -> F' k -> F k) : zbp F' w v L := by
 obtain ⟨ao, cap, g, off, rfl, h1, h2⟩ := h
 exact ⟨ao, cap, g, off, rfl, fun h0 => ⟨(h1 h0).1, fun e => (h1 h0).2.1 (hF g (h1 h0).2.2 e), (h1 h0).2.2⟩, h2⟩
theorem zbp.up {F : Nat -> Prop} {w w' : World} {v : Value} {L : List Nat} (h : zbp F w v L) (hu : Up w w') : zbp F w' v L := by
 obtain ⟨ao, cap, g, off, rfl, h1, h2⟩ := h
 exact ⟨ao, cap, g, off, rfl, fun h0 => ⟨(h1 h0).1, (h1 h0).2.1, Nat.lt_of_lt_of_le (h1 h0).2.2 hu.size⟩, fun i hi => hu.cell (h2 i hi)⟩
theorem zri {F : Nat -> Prop} {w w1 w2 : World} (h : Turned (Cut F w) w1 w2) : Turned F w1 w2 := h.mono (fun k _ hk => hk.1)
theorem Up.zIv {F : Nat -> Prop} {w w1 : World} (h : Up w w1) : Turned F w w1 := ⟨h.os, h.tape, h.output, h.size, fun k hk _ => h.block k hk⟩
def ztw (s : Sy.Lts) (F : Nat -> Prop) (w : World) (X gB B n : Nat) (p : Rf.St) (hp : List Nat) (r : Ending) (w' : World) : Prop :=
 r = .returned (.tuple #[]) /\ Turned F w w' /\ ∃ p', zF4 (More F w) w' X gB B n p' hp 1 1 /\ Rf.Inv p' n /\ (∀ x, x < n -> p'.marked x = false) /\ Sg.zCz s (fun z => z ∈ List.range n) p.I p'.I
theorem zvf {F : Nat -> Prop} {w : World} {X gB B n : Nat} {p : Rf.St} {hp : List Nat} {nh nt : Nat} (h : zF4 F w X gB B n p hp nh nt) (o : Obj) (x : Int) :
  (∃ u, (w.alloc o).cell? ⟨X, 3, none⟩ = some u) /\ (w.alloc o).frozen? ⟨X, 3, none⟩ = false /\
  (o = .cells #[.int .i64 x] 3 -> zF4 (More F w) ((w.alloc o).setCell ⟨X, 3, none⟩ (.slice (some ⟨w.heap.size, 0, none⟩) 1 1)) X gB B n p hp 1 nt /\ Turned F w ((w.alloc o).setCell ⟨X, 3, none⟩ (.slice (some ⟨w.heap.size, 0, none⟩) 1 1))) := by
 obtain ⟨ve, vp, vi, vb, gh, gg, vs, vt, sz, gz, ts, h⟩ := h
 have hb : (w.alloc o).heap[X]? = _ := (((Up.refl w).alloc o).block X h.lt).trans h.box
 refine ⟨⟨_, ((Up.refl w).alloc o).cell h.cells.2.2.2.1⟩, by simp [World.frozen?, hb], fun e => ?_⟩
 subst e
 have hr := Row.new w 3 [Value.int .i64 x]
 have aa : (w.alloc (.cells #[.int .i64 x] 3)).ownsRow 0 3 1 (.slice (some ⟨w.heap.size, 0, none⟩) 1 1) 1 (ivs [x]) := hr.owns (n := 1) (cap := 1) (size := 1) (by decide) (by decide) rfl
 have := h.newSize (v9 := .slice (some ⟨w.heap.size, 0, none⟩) 1 1) (sz9 := [x]) aa (fun k hk => by simp only [Value.ownBlock, Option.some.injEq] at hk; right; omega) ((Turned.refl _ w).alloc _)
 exact ⟨⟨_, _, _, _, _, _, _, _, _, _, _, this.1⟩, this.2⟩
theorem zd4 {F : Nat -> Prop} {wg w w' : World} (hu : Up wg w) (ht : Turned F w w') (hF : ∀ k, F k -> wg.heap.size <= k) : Up wg w' :=
 ⟨ht.os.trans hu.os, ht.tape.trans hu.tape, ht.output.trans hu.output, Nat.le_trans hu.size ht.size, fun k hk => (ht.block k (Nat.lt_of_lt_of_le hk hu.size) (fun e => by have := hF k e; omega)).trans (hu.block k hk)⟩
theorem zee {F : Nat -> Prop} {wg w : World} (hu : wg.heap.size <= w.heap.size) (hF : ∀ k, F k -> wg.heap.size <= k) : ∀ k, More F w k -> wg.heap.size <= k := fun k hk => by
 rcases hk with e | e
 ·exact hF k e
 ·omega
theorem zql {n : Nat} : ∀ x ∈ List.range n, x < n := fun x hx => List.mem_range.1 hx
theorem zv9 (k : Nat) : ivs ((List.range (k + 1)).map Int.ofNat) = ivs ((List.range k).map Int.ofNat) ++ [.int .i64 ((k : Nat) : Int)] := by
 rw [List.range_succ, List.map_append]; simp [ivs]
theorem zxc {F : Nat -> Prop} {wg w : World} {X gB B n : Nat} {p : Rf.St} {hp : List Nat} {s : Sy.Lts} (h : zF4 F w X gB B n p hp 0 0) (hG : zCg wg gB s) (hu : Up wg w) (hF : ∀ k, F k -> wg.heap.size <= k) (hR : Sy.Right s) (hn : s.n.toNat = n) (hI : Rf.Inv p n) (h0 : ∀ x, x < n -> p.marked x = false) :
  Calls prog 134 #[.pointer (some ⟨X, 0, none⟩)] w (ztw s F w X gB B n p hp) := by
 have aI : n <= 1000 := by have := hR.n1; omega
 have an := h.cut
 have ao : ∀ k, Cut F w k -> wg.heap.size <= k := fun k hk => hF k hk.1
 have c2 : w.cell? ⟨X, 2, none⟩ = some (.slice (some ⟨h.choose_spec.choose_spec.choose_spec.choose_spec.choose, 0, none⟩) n n) := h.choose_spec.choose_spec.choose_spec.choose_spec.choose_spec.choose_spec.choose_spec.choose_spec.choose_spec.choose_spec.choose_spec.cells.2.2.1
 obtain ⟨gh, aq⟩ := nm (h.choose_spec.choose_spec.choose_spec.choose_spec.choose)
 rw [<- aq] at c2
 obtain ⟨j0, hj, gz0, gz1, gz2⟩ := info_parts Tryz.zCp
 have aJ := zh an
 have au := zh ao
 have HG := zh hG
 have HU := zh hu
 have HR := zh hR
 have HN := zh hn
 have HI := zh hI
 have H0 := zh h0
 clear h an ao hG hu hF hR hn hI h0 aq
 go_enter func134, ntmps134
 go_wp2_with fail
 go_loopw [2, 9] (fun va i wr => ∃ k : Nat, i = .int .i64 k /\ k <= n /\ wr.ownsRow w.heap.size 3 1 va k (ivs ((List.range k).map Int.ofNat)) /\ Up w wr) (fun _ i _ => n - (intOf i).toNat)
 case atStart => exact ⟨0, rfl, Nat.zero_le _, World.ownsRow_nil _ _ _ _, Up.refl w⟩
 case round =>
  clear c2
  obtain ⟨k, rfl, hk, ac, ag⟩ := hrel
  obtain ⟨a4, c4, aK⟩ := za1 ac
  subst aK
  have ah := zh ac
  have ad := zh ag
  have aU := ag.size
  clear ac ag
  by_cases hlt : k < n
  ·go_wp2_with (at_builtin; (refine zbg rfl (.tmp 12) (.tmp 14) 27 rfl w.heap.size 3 j0 (.int .i64 0) 1 8 underlying27 hj gz0 gz1 gz2 rfl (by decide) (.slice a4 k c4) k _ rfl (ah.out.alloc _) ⟨wr.heap.size, 0, none⟩ 1 1 [.int .i64 (k : Nat)] rfl rfl (cell_one_new _ _ _) (fun u hu => by simp only [List.mem_singleton] at hu; subst hu; rfl) (by unfold maxLen; omega) (by omega) (by simp only [World.size_alloc]; omega) ?_); intro v9 w9 ab aa ai; (have av : (wr.alloc (.cells #[.int .i64 (k : Nat)] 3)).grownBy w9 (Value.slice a4 k c4).ownBlock := aa); (have aL := zh ((ad.out.alloc (.cells #[.int .i64 (k : Nat)] 3)).grown av (fun g hg => (ah.out.lt g hg).1)); (have aM := zh ab); clear ab aa ai av))
   go_roundw
   case rel => exact ⟨k + 1, by go_num, by omega, by rw [zv9]; exact aM.out, aL.out⟩
   case measure => simp [intOf]; omega
  ·obtain rfl : k = n := by omega
   have aj : zbp (Cut F w) wr (.slice a4 k c4) (List.range k) := by
    refine zbp.zGj (base := w.heap.size) ?_ (fun b h1 h2 hb => by have := hb.2; omega)
    rw [List.length_range]; exact ah.out
   have aN : Hid (Calls prog 165 #[.pointer (some ⟨X, 0, none⟩), .slice a4 k c4] wr (zlg (Cut F w) wr X gB B k p hp 0 0)) := zh (zus (aJ.out.up ad.out) (by omega) aI aj zql (by rw [List.length_range]; omega))
   have aO := zh aj
   clear aj
   go_upto_region 7 with (go_at_call 165; refine aN.out.mono ?_; rintro r w2 ⟨rfl, aw, ax⟩; (have ae := zh aw); (have aP := zh ax); clear aw ax)
   have ay := aO.out.turn ae.out
   obtain ⟨⟨u3, c3⟩, f3, aA⟩ := zvf aP.out (.cells #[.int .i64 (k : Nat)] 3) (k : Nat)
   obtain ⟨aB, ak⟩ := aA rfl
   have aC := zh (ay.turn ak)
   have aD := zh aB
   have af := zh ak
   clear aA aB ak ay
   go_upto_region 8 with fail
   obtain ⟨w3, aE⟩ := nm ((w2.alloc (.cells #[.int .i64 (k : Nat)] 3)).setCell ⟨X, 3, none⟩ (.slice (some ⟨w2.heap.size, 0, none⟩) 1 1))
   rw [<- aE] at aC aD af ⊢
   clear aE c3 f3
   have al := zee (HU.out.trans ad.out).size au.out
   have aV := ae.out.size
   have am : Up wg w2 := zd4 (HU.out.trans ad.out) ae.out au.out
   have aQ := zee am.size al
   have aF : Up wg w3 := zd4 am af.out al
   have aR : Hid (Calls prog 166 #[.pointer (some ⟨X, 0, none⟩), .slice a4 k c4] w3 (zfr s (More (More (Cut F w) wr) w2) w3 X gB B k p hp 1 1 (List.range k))) := zh (zke aD.out (HG.out.up aF) HR.out HN.out HI.out H0.out aC.out.lst zql (by rw [List.length_range]; omega))
   clear al am aQ aF
   go_wp2_with (go_at_call 166; refine aR.out.mono ?_; rintro r w4 ⟨rfl, aG, aH⟩; (have aS := zh aG); (have aT := zh aH); clear aG aH)
   go_end0
   obtain ⟨p', e1, e2, e3, e4⟩ := aT.out
   have s1 := ad.out.size
   have s2 := ae.out.size
   have s3 := af.out.size
   have tt : Turned (Cut F w) wr w4 := (ae.out.more af.out).trans aS.out (fun i hi hf => by
    rcases hf with (e | e) | e
    ·exact e
    ·omega
    ·omega)
   refine ⟨rfl, zri (ad.out.zIv.trans tt (fun _ _ h => h)), p', e1.mono (fun b hb => ?_), e2, e3, e4⟩
   rcases hb with ((e | e) | e) | e
   ·exact .inl e.1
   ·exact .inr (by omega)
   ·exact .inr (by omega)
   ·exact .inr (by omega)
theorem zC4.cut {F : Nat -> Prop} {w : World} {X gB B n : Nat} {p : Rf.St} {hp : List Nat} {nh nt : Nat} {ve vp vi vb : Value} {gh gg : Nat} {vs vt : Value} {sz gz : List Int} {ts : List Value} (h : zC4 F w X gB B n p hp nh nt ve vp vi vb gh gg vs vt sz gz ts) :
  zC4 (Cut F w) w X gB B n p hp nh nt ve vp vi vb gh gg vs vt sz gz ts :=
 ⟨h.box, h.part, h.heap, h.size, h.took, h.gauge, h.hl, h.gl, ⟨h.inX, h.lt⟩, ⟨h.inH, h.heap.lt⟩, ⟨h.inG, h.gauge.lt⟩, fun k hk => ⟨h.inS k hk, za3 h.size hk⟩,
  fun k hk => ⟨h.inT k hk, za3 h.took hk⟩, fun k hk => ⟨h.inP k hk, h.part.zCn hk⟩, h.nHG, h.nSH, h.nSG, h.nP⟩
theorem zC4.zJl {F : Nat -> Prop} {w w9 : World} {X gB B n : Nat} {p : Rf.St} {hp : List Nat} {nh nh9 nt : Nat} {ve vp vi vb : Value} {gh gg : Nat} {vs vt v9 : Value} {sz sz9 gz : List Int} {ts : List Value} {o : Obj}
  (h : zC4 F w X gB B n p hp nh nt ve vp vi vb gh gg vs vt sz gz ts) (aa : w9.ownsRow 0 3 1 v9 nh9 (ivs sz9)) (hg : (w.alloc o).grownBy w9 vs.ownBlock) (ab : v9.ownBlock = vs.ownBlock \/ v9.ownBlock = some (w.alloc o).heap.size) :
  w9.cell? ⟨X, 3, none⟩ = some vs /\ w9.frozen? ⟨X, 3, none⟩ = false /\ Hid (zC4 (More F w) (w9.setCell ⟨X, 3, none⟩ v9) X gB B n p hp nh9 nt ve vp vi vb gh gg v9 vt sz9 gz ts /\ Turned F w (w9.setCell ⟨X, 3, none⟩ v9)) := by
 have ht := zgl hg
 have hb : w9.heap[X]? = _ := (ht.block X h.lt h.types.2.2.1).trans h.box
 refine ⟨by simp [World.cell?, hb], by simp [World.frozen?, hb], zh (h.newSize aa (fun k hk => ?_) ht)⟩
 rcases ab with e | e
 ·exact .inl (e ▸ hk)
 ·right
  rw [e] at hk
  simp only [Option.some.injEq, World.size_alloc] at hk
  omega
theorem zol (hp L : List Nat) (v k : Nat) (h : k < L.length) : Rf.zCa hp (L.take (k + 1)) v = (Rf.zCa hp (L.take k) v).set (L.getD k 0) v := by
 unfold Rf.zCa
 rw [List.take_succ_eq_append_getElem h, List.foldl_append]
 simp [List.getD, h]
def zcn (hp : List Nat) (h k : Nat) : List Nat := (List.range k).filter fun x => hp.getD x 0 == h
theorem zho (hp : List Nat) (h k : Nat) : zcn hp h (k + 1) = if hp.getD k 0 = h then zcn hp h k ++ [k] else zcn hp h k := by
 unfold zcn
 rw [List.range_succ, List.filter_append]
 by_cases e : hp.getD k 0 = h
 ·rw [if_pos e]; simp only [List.filter_cons, List.filter_nil]; rw [if_pos (by simpa using e)]
 ·rw [if_neg e]; simp only [List.filter_cons, List.filter_nil]; rw [if_neg (by simpa using e)]; simp
theorem zjb (hp : List Nat) (h k : Nat) : (zcn hp h k).length <= k := by
 unfold zcn
 have := List.length_filter_le (fun x => hp.getD x 0 == h) (List.range k)
 rwa [List.length_range] at this
theorem zk8 (hp : List Nat) (h k x : Nat) : x ∈ zcn hp h k ↔ x < k /\ hp.getD x 0 = h := by simp [zcn]
def zwu (s : Sy.Lts) (F : Nat -> Prop) (w : World) (X gB B n : Nat) (p : Rf.St) (hp : List Nat) (nh nt : Nat) (L : List Nat) (r : Ending) (w' : World) : Prop :=
 r = .returned (.tuple #[]) /\ Turned F w w' /\ ∃ p1 p2 : Rf.St, zF4 (More F w) w' X gB B n p2 (Rf.zCa hp L nh) (nh + 1) (nt + 1) /\ Rf.Inv p2 n /\ (∀ x, x < n -> p2.marked x = false) /\
  Sg.zCz s (fun z => z ∈ L) p.I p1.I /\ Sg.zCz s (fun z => z ∈ zcn (Rf.zCa hp L nh) (hp.getD (L.getD 0 0) 0) n) p1.I p2.I
theorem zA1 {F : Nat -> Prop} {wg w : World} {X gB B n : Nat} {p : Rf.St} {hp : List Nat} {nh nt : Nat} {s : Sy.Lts} (h : zF4 F w X gB B n p hp nh nt) (hG : zCg wg gB s) (hu : Up wg w) (hF : ∀ k, F k -> wg.heap.size <= k) (hR : Sy.Right s) (hn : s.n.toNat = n) (hI : Rf.Inv p n) (h0 : ∀ x, x < n -> p.marked x = false)
  {v : Value} {L : List Nat} (hv : zbp F w v L) (hL : ∀ x ∈ L, x < n) (aF : 0 < L.length) (aM : L.length <= 1000) (b7 : nh <= 1000) (bE : nt <= 1000) (hh : hp.getD (L.getD 0 0) 0 < nh) :
  Calls prog 136 #[.pointer (some ⟨X, 0, none⟩), v] w (zwu s F w X gB B n p hp nh nt L) := by
 have bF : n <= 1000 := by have := hR.n1; omega
 have bG := h.cut
 have a2 : zbp (Cut F w) w v L := hv.mono (fun k _ hk => hk.1)
 have a3 : ∀ k, Cut F w k -> wg.heap.size <= k := fun k hk => hF k hk.1
 obtain ⟨ve, vp, vi, vb, gh, gg, vs, vt, sz, gz, ts, hA⟩ := bG
 obtain ⟨j0, hj, gz0, gz1, gz2⟩ := info_parts Tryz.zCp
 obtain ⟨nL, aN⟩ := nm (L.length)
 obtain ⟨x0, au⟩ := nm (L.getD 0 0)
 have hx0n : x0 < n := by rw [au, <- zaa 0 aF]; exact hL _ (List.getElem_mem _)
 obtain ⟨aa, aG⟩ := nm (hp.getD x0 0)
 rw [<- au, <- aG] at hh
 have cH : w.cell? ⟨gh, x0, none⟩ = some (.int .i64 (aa : Nat)) := hA.heap.cell (by rw [zai (by rw [hA.hl]; exact hx0n), aG])
 have c2 := hA.cells.2.2.1
 have aO := zh a2
 obtain ⟨ao, cap, g, off, rfl, ha, hc⟩ := a2
 have bH := (ha aF).1
 subst bH
 have cL : w.cell? ⟨g, off, none⟩ = some (.int .i64 (x0 : Nat)) := by have := hc 0 aF; rw [Nat.add_zero, <- au] at this; exact this
 rw [<- aN] at aO aF aM ⊢
 have a5 := (ha (by omega)).2
 have a6 : Hid (∀ k, k < nL -> w.cell? ⟨g, off + k, none⟩ = some (.int .i64 ((L.getD k 0 : Nat) : Int)) /\ L.getD k 0 < n) := zh (fun k hk => ⟨hc k (by omega), by
  have bI : k < L.length := by omega
  rw [<- zaa 0 bI]; exact hL _ (List.getElem_mem _)⟩)
 have bJ : Hid (zF4 (Cut F w) w X gB B n p hp nh nt) := zh h.cut
 have aH := zh a5
 have a7 := zh hL
 have a8 := zh a3
 have HG := zh hG
 have HU := zh hu
 have HR := zh hR
 have HN := zh hn
 have HI := zh hI
 have H0 := zh h0
 have al := zh aN
 have bK := zh au
 have bL := zh aG
 have q0 : (x0 : Int) < (n : Int) := by omega
 have q00 : (0 : Int) < (nL : Int) := by omega
 clear h a3 hG hu hF hR hn hI h0 hA hv hc ha a5 aN hL au aG
 go_enter func136, ntmps136
 go_upto_region 0 with fail
 refine za9 9 [(0, true), (1, true), (2, true), (3, true), (4, true), (5, true), (6, true), (7, true), (8, true)] (fun y => y.cell? ⟨X, 2, none⟩ = some (.slice (some ⟨gh, 0, none⟩) n n) /\ y.cell? ⟨g, off, none⟩ = some (.int .i64 (x0 : Nat)) /\ y.cell? ⟨gh, x0, none⟩ = some (.int .i64 (aa : Nat))) (by kernel_rfl) (by kernel_rfl) (fun _ _ _ _ _ h => h) ⟨c2, cL, cH⟩ ?_
 iterate 9
  refine WO.still rfl rfl (fun K hK => ?_)
  apply Exists.intro
  refine ⟨?_, hK _ ?_⟩
  ·intro w' hS
   have s1 : w'.cell? ⟨X, 2, none⟩ = some (.slice (some ⟨gh, 0, none⟩) n n) := hS.1
   have s2 : w'.cell? ⟨g, off, none⟩ = some (.int .i64 (x0 : Nat)) := hS.2.1
   have s3 : w'.cell? ⟨gh, x0, none⟩ = some (.int .i64 (aa : Nat)) := hS.2.2
   go_simp
   first | done | rfl | exact ⟨rfl, rfl⟩
  clear hK K
 refine WO.last rfl rfl (fun K hK => ?_)
 go_simp
 refine hK _ _ ?_
 clear hK K c2 cL cH
 obtain ⟨w1, aP⟩ := nm (w.drew)
 have ae : Hid (Up w w1) := zh (by rw [aP]; exact (Up.refl w).drew)
 rw [<- aP]
 clear aP
 have bM : Hid (Calls prog 165 #[.pointer (some ⟨X, 0, none⟩), .slice (some ⟨g, off, none⟩) nL cap] w1 (zlg (Cut F w) w1 X gB B n p hp nh nt)) := zh (zus (bJ.out.up ae.out) bE bF (aO.out.up ae.out) a7.out (by rw [<- al.out]; exact aM))
 go_upto_region 2 with (go_at_call 165; refine bM.out.mono ?_; rintro r w2 ⟨rfl, ba, bb⟩; (have aq := zh ba); (have bN := zh bb); clear ba bb)
 obtain ⟨ve2, vp2, vi2, vb2, gh2, gg2, vs2, vt2, sz2, gz2', ts2, hB⟩ := bN.out
 have aQ := (aO.out.up ae.out).turn aq.out
 obtain ⟨F1, hF1d⟩ := nm (More (Cut F w) w1)
 rw [<- hF1d] at hB aQ
 have HF1D := zh hF1d
 have bc : ¬ F1 g /\ g < w2.heap.size := by
  rw [hF1d]
  have h1 := aH.out.2
  have h2 := ae.out.size
  have h3 := aq.out.size
  refine ⟨fun e => ?_, by omega⟩
  rcases e with e | e
  ·exact aH.out.1 e
  ·omega
 have bd := zh bc
 have av : Hid (∀ W, Turned F1 w2 W -> ∀ k, k < nL -> W.cell? ⟨g, off + k, none⟩ = some (.int .i64 ((L.getD k 0 : Nat) : Int))) := zh (fun W ht k hk => by
  have h1 := ae.out.cell (a6.out k hk).1
  have h2 := aH.out.2
  have h3 := ae.out.size
  have e1 := aq.out.block g (by omega) aH.out.1
  have e2 := ht.block g bd.out.2 bd.out.1
  simp only [World.cell?] at h1 ⊢
  rw [e2, e1]; exact h1)
 obtain ⟨as2, cs2, aR⟩ := za1 hB.size
 subst aR
 have HB := zh hB
 have b8 := zh aQ
 clear hB aQ hF1d bc
 go_wp2_with fail
 go_loopw [24] (fun i wr => ∃ k : Nat, i = .int .i64 k /\ k <= nL /\ Hid (zC4 F1 wr X gB B n p (Rf.zCa hp (L.take k) nh) nh (nt + 1) ve2 vp2 vi2 vb2 gh2 gg2 (.slice as2 nh cs2) vt2 sz2 gz2' ts2 /\ Turned F1 w2 wr)) (fun i _ => nL - (intOf i).toNat)
 case atStart => exact ⟨0, rfl, Nat.zero_le _, zh ⟨HB.out, Turned.refl _ _⟩⟩
 case round =>
  obtain ⟨k, rfl, hk, HP⟩ := hrel
  by_cases hlt : k < nL
  ·have dl := av.out wr HP.out.2 k hlt
   have be := (a6.out k hlt).2
   obtain ⟨x, hx⟩ := nm (L.getD k 0)
   rw [<- hx] at dl be
   have bO : Hid (Rf.zCa hp (L.take (k + 1)) nh = (Rf.zCa hp (L.take k) nh).set x nh) := zh (by rw [hx]; exact zol hp L nh k (by rw [<- al.out]; exact hlt))
   have c2 := HP.out.1.cells.2.2.1
   have c3 := HP.out.1.cells.2.2.2.1
   have f2 := HP.out.1.heap.free x
   have q1 : (x : Int) < (n : Int) := by omega
   clear hx
   go_upto_region 5 with fail
   refine za9 11 [(0, true), (1, true), (2, true), (3, true), (4, true), (5, true), (6, true), (7, true), (8, true), (9, true), (10, true)] (fun y => y.cell? ⟨X, 2, none⟩ = some (.slice (some ⟨gh2, 0, none⟩) n n) /\ y.cell? ⟨X, 3, none⟩ = some (.slice as2 nh cs2)) (by kernel_rfl) (by kernel_rfl) (fun _ _ _ _ _ h => h) ⟨c2, c3⟩ ?_
   iterate 11
    refine WO.still rfl rfl (fun K hK => ?_)
    apply Exists.intro
    refine ⟨?_, hK _ ?_⟩
    ·intro w' hS
     have s1 : w'.cell? ⟨X, 2, none⟩ = some (.slice (some ⟨gh2, 0, none⟩) n n) := hS.1
     have s2 : w'.cell? ⟨X, 3, none⟩ = some (.slice as2 nh cs2) := hS.2
     go_simp
     first | done | rfl | exact ⟨rfl, rfl⟩
    clear hK K
   have cx : ∃ u, wr.drew.cell? ⟨gh2, x, none⟩ = some u := ⟨_, HP.out.1.heap.cell (by rw [zai (by rw [HP.out.1.hl]; exact be)])⟩
   obtain ⟨ux, cx⟩ := cx
   have fx : wr.drew.frozen? ⟨gh2, x, none⟩ = false := f2
   refine WO.last rfl rfl (fun K hK => ?_)
   go_simp
   refine hK _ _ ?_
   clear hK K
   have am : Hid (zC4 F1 (wr.drew.setCell ⟨gh2, x, none⟩ (.int .i64 (nh : Nat))) X gB B n p (Rf.zCa hp (L.take (k + 1)) nh) nh (nt + 1) ve2 vp2 vi2 vb2 gh2 gg2 (.slice as2 nh cs2) vt2 sz2 gz2' ts2 /\ Turned F1 w2 (wr.drew.setCell ⟨gh2, x, none⟩ (.int .i64 (nh : Nat)))) := zh (by
    rw [bO.out]
    exact ⟨(HP.out.1.up ((Up.refl wr).drew)).zK2 x nh, (HP.out.2.drew).set1 HB.out.inH _⟩)
   clear c2 c3 f2 cx fx dl
   go_wp2_with fail
   go_roundw
   case rel => exact ⟨k + 1, by go_num, by omega, am⟩
   case measure => simp [intOf]; omega
  ·obtain rfl : k = nL := by omega
   have aw := HP.out
   rw [al.out, List.take_length] at aw
   obtain ⟨ad, an⟩ := nm (Rf.zCa hp L nh)
   rw [<- an] at aw
   have bf := zh an
   have am := zh aw
   have c3 := aw.1.cells.2.2.2.1
   clear aw HP an
   go_upto_region 8 with (at_builtin; (refine zbg rfl (.tmp 44) (.tmp 47) 27 rfl 0 3 j0 (.int .i64 0) 1 8 underlying27 hj gz0 gz1 gz2 rfl (by decide) (.slice as2 nh cs2) nh _ rfl (am.out.1.size.alloc _) ⟨wr.heap.size, 0, none⟩ 1 1 [.int .i64 (k : Nat)] rfl rfl (cell_one_new _ _ _) (fun u hu => by simp only [List.mem_singleton] at hu; subst hu; rfl) (by unfold maxLen; omega) (by omega) (Nat.zero_le _) ?_); intro v9 w9 ac ab af; (obtain ⟨a9, c9, aI⟩ := za1 ac); subst aI; (have ax : (wr.alloc (.cells #[.int .i64 (k : Nat)] 3)).grownBy w9 (Value.slice as2 nh cs2).ownBlock := ab); (have bh : w9.ownsRow 0 3 1 (.slice a9 (nh + 1) c9) (nh + 1) (ivs (sz2 ++ [(k : Int)])) := by have := ac; simpa [ivs] using this); have hh := am.out.1.zJl bh ax; have bP := hh af; obtain ⟨c39, f39, ag⟩ := bP; clear ac ab af ax bh hh)
   obtain ⟨w4, bi⟩ := nm (w9.setCell ⟨X, 3, none⟩ (.slice a9 (nh + 1) c9))
   rw [<- bi] at ag ⊢
   clear bi c39 f39 c3
   obtain ⟨sz4, ay⟩ := nm (sz2 ++ [(k : Int)])
   rw [<- ay] at ag
   clear ay
   have bj := ag.out.1.size
   obtain ⟨g9, cc9, aI, aS, -⟩ := zcx bj (by omega)
   simp only [Value.slice.injEq, true_and] at aI
   obtain ⟨rfl, -⟩ := aI
   have c34 := ag.out.1.cells.2.2.2.1
   have bQ := ag.out.1.sl
   have d9 : w4.cell? ⟨g9, aa, none⟩ = some (.int .i64 (sz4.getD aa 0)) := aS.cell (by simp [ivs, List.getD, show aa < sz4.length by omega])
   have f9 := aS.free aa
   obtain ⟨y, hy⟩ := nm (sz4.getD aa 0)
   rw [<- hy] at d9
   have aA : Hid (∀ z : Int, zC4 (More F1 wr) (w4.setCell ⟨g9, aa, none⟩ (.int .i64 z)) X gB B n p ad (nh + 1) (nt + 1) ve2 vp2 vi2 vb2 gh2 gg2 (.slice (some ⟨g9, 0, none⟩) (nh + 1) c9) vt2 (sz4.set aa z) gz2' ts2 /\ Turned F1 wr (w4.setCell ⟨g9, aa, none⟩ (.int .i64 z)))  := zh (fun z => ⟨ag.out.1.zK3 rfl aa z, Turned.setCell (p := ⟨g9, aa, none⟩) ag.out.2 (ag.out.1.inS g9 rfl) _⟩)
   have q1 : (aa : Int) < ((nh + 1 : Nat) : Int) := by omega
   have q2 : (aa : Int) < (nh : Int) + 1 := by omega
   clear hy bj aS bQ
   go_upto_region 9 with fail
   obtain ⟨w5, bo⟩ := nm (w4.setCell ⟨g9, aa, none⟩ (.int .i64 (wrap64 (y - (k : Int)))))
   have h5 := aA.out (wrap64 (y - (k : Int)))
   rw [<- bo] at h5 ⊢
   obtain ⟨F2, hF2d⟩ := nm (More F1 wr)
   rw [<- hF2d] at h5
   have HF2D := zh hF2d
   have aT := h5.1.cut
   have bR := zh h5.2
   have aU := zh aT
   have c25 := aT.cells.2.2.1
   have bS : Hid (∀ W, Up w5 W -> ∀ j, j < n -> W.cell? ⟨gh2, j, none⟩ = some (.int .i64 ((ad.getD j 0 : Nat) : Int))) := zh (fun W hu j hj => hu.cell (aU.out.heap.cell (by rw [zai (by rw [aU.out.hl]; exact hj)])))
   clear bo h5 aT aA ag c34 d9 f9 hF2d q1 q2
   go_wp2_with fail
   go_loopw [7, 67] (fun va i w6 => ∃ j : Nat, i = .int .i64 j /\ j <= n /\ w6.ownsRow w5.heap.size 3 1 va (zcn ad aa j).length (ivs ((zcn ad aa j).map Int.ofNat)) /\ Up w5 w6) (fun _ i _ => n - (intOf i).toNat)
   case atStart => exact ⟨0, rfl, Nat.zero_le _, World.ownsRow_nil _ _ _ _, Up.refl w5⟩
   case round =>
    clear c25
    obtain ⟨j, rfl, b9, ah, aV⟩ := hrel
    rename World => w6
    obtain ⟨a4, c4, bp⟩ := za1 ah
    obtain ⟨KL, aJ⟩ := nm ((zcn ad aa j).length)
    have bT : KL <= j := by rw [aJ]; exact zjb _ _ _
    rw [<- aJ] at ah bp
    subst bp
    have aW := zh aJ
    have aK := zh ah
    have ai := zh aV
    have ca := aV.size
    clear ah aV aJ
    by_cases hlt2 : j < n
    ·have dc := bS.out w6 ai.out j hlt2
     obtain ⟨a, ha⟩ := nm (ad.getD j 0)
     rw [<- ha] at dc
     by_cases e : a = aa
     ·have hs := zho ad aa j
      rw [<- ha, if_pos e] at hs
      have HS := zh hs
      have bU : Hid ((zcn ad aa (j + 1)).length = KL + 1) := zh (by rw [hs, List.length_append, <- aW.out]; rfl)
      clear hs ha
      subst e
      have qe : ((a : Int) == (a : Int)) = true := by simp
      go_wp2_with (at_builtin; (refine zbg rfl (.tmp 75) (.tmp 77) 27 rfl w5.heap.size 3 j0 (.int .i64 0) 1 8 underlying27 hj gz0 gz1 gz2 rfl (by decide) (.slice a4 KL c4) KL _ rfl (aK.out.alloc _) ⟨w6.heap.size, 0, none⟩ 1 1 [.int .i64 (j : Nat)] rfl rfl (cell_one_new _ _ _) (fun u hu => by simp only [List.mem_singleton] at hu; subst hu; rfl) (by unfold maxLen; omega) (by omega) (by simp only [World.size_alloc]; omega) ?_); intro v9 w9 ac ab af; (have ax : (w6.alloc (.cells #[.int .i64 (j : Nat)] 3)).grownBy w9 (Value.slice a4 KL c4).ownBlock := ab); (have bV := zh ((ai.out.alloc (.cells #[.int .i64 (j : Nat)] 3)).grown ax (fun g hg => (aK.out.lt g hg).1))); (have bW := zh ac); clear ac ab af ax)
      go_roundw
      case rel => exact ⟨j + 1, by go_num, by omega, by rw [bU.out, HS.out]; simpa [ivs] using bW.out, bV.out⟩
      case measure => simp [intOf]; omega
     ·have hs := zho ad aa j
      rw [<- ha, if_neg e] at hs
      have HS := zh hs
      have qe : ((a : Int) == (aa : Int)) = false := by simp; omega
      clear hs ha e
      go_wp2_with fail
      go_roundw
      case rel => exact ⟨j + 1, by go_num, by omega, by rw [HS.out, <- aW.out]; exact aK.out, ai.out⟩
      case measure => simp [intOf]; omega
    ·obtain rfl : j = n := by omega
     have ak : zbp (Cut F2 w5) w6 (.slice a4 KL c4) (zcn ad aa j) := by
      refine zbp.zGj (base := w5.heap.size) ?_ (fun b h1 h2 hb => by have := hb.2; omega)
      rw [<- aW.out]; exact aK.out
     have t26 : Turned F1 w2 w6 := (am.out.2.trans bR.out (fun _ _ h => h)).trans (T := fun _ => False) ⟨ai.out.os, ai.out.tape, ai.out.output, ai.out.size, fun b hb _ => ai.out.block b hb⟩ (fun _ _ h => h.elim)
     have aj : ∀ b, F1 b -> wg.heap.size <= b := by rw [HF1D.out]; exact zee (HU.out.trans ae.out).size a8.out
     have u2 : Up wg w2 := zd4 (HU.out.trans ae.out) aq.out a8.out
     have ur : Up wg wr := zd4 u2 am.out.2 aj
     have u6 : Up wg w6 := zd4 u2 t26 aj
     have aB : ∀ b, Cut F2 w5 b -> wg.heap.size <= b := fun b hb => by have := hb.1; rw [HF2D.out] at this; exact zee ur.size aj b this
     have bq : Lst w6 (.slice (some ⟨g, off, none⟩) k cap) (L.map Int.ofNat) := by
      refine ⟨some ⟨g, off, none⟩, cap, g, off, by rw [List.length_map, <- al.out], fun _ => rfl, fun i hi => ?_⟩
      rw [List.length_map, <- al.out] at hi
      rw [av.out w6 t26 i hi]
      have : i < L.length := by rw [<- al.out]; exact hi
      simp [List.getD, this]
     have bX : Hid (Calls prog 166 #[.pointer (some ⟨X, 0, none⟩), .slice (some ⟨g, off, none⟩) k cap] w6 (zfr s (Cut F2 w5) w6 X gB B j p ad (nh + 1) (nt + 1) L)) := zh (zke ⟨_, _, _, _, _, _, _, _, _, _, _, aU.out.up ai.out⟩ (HG.out.up u6) HR.out HN.out HI.out H0.out bq a7.out (by rw [<- al.out]; exact aM))
     have aC := zh ak
     have aD := zh t26
     have bY := zh u6
     have aX := zh aB
     clear ak t26 aj u2 ur u6 aB bq
     go_upto_region 17 with (go_at_call 166; refine bX.out.mono ?_; rintro r w7 ⟨rfl, br, p1, bt, bu, bv, bw⟩; (have aL := zh br); (have bZ := zh bt); (have b0 := zh bu); (have aY := zh bv); (have b2 := zh bw); clear br bt bu bv bw)
     have aZ : Hid (Calls prog 166 #[.pointer (some ⟨X, 0, none⟩), .slice a4 KL c4] w7 (zfr s (More (Cut F2 w5) w6) w7 X gB B j p1 ad (nh + 1) (nt + 1) (zcn ad aa j))) := zh (zke bZ.out (HG.out.up (zd4 bY.out aL.out aX.out)) HR.out HN.out b0.out aY.out (aC.out.turn aL.out).lst (fun x hx => ((zk8 _ _ _ _).1 hx).1) (by have := zjb ad aa j; omega))
     go_wp2_with (go_at_call 166; refine aZ.out.mono ?_; rintro r w8 ⟨rfl, bx, p2, bz, bA, bB, bC⟩; (have b3 := zh bx); (have b4 := zh bz); (have b5 := zh bA); (have a0 := zh bB); (have b6 := zh bC); clear bx bz bA bB bC)
     go_end0
     have s1 := ae.out.size
     have s2 := aq.out.size
     have s3 := aD.out.size
     have s4 := aL.out.size
     have s5 := am.out.2.size
     have bD : ∀ b, More (More (Cut F2 w5) w6) w7 b -> More F w b := fun b hb => by
      rcases hb with (e | e) | e
      ·have e1 := e.1
       rw [HF2D.out] at e1
       rcases e1 with e1 | e1
       ·rw [HF1D.out] at e1
        rcases e1 with e1 | e1
        ·exact .inl e1.1
        ·exact .inr (by omega)
       ·exact .inr (by omega)
      ·exact .inr (by omega)
      ·exact .inr (by omega)
     have aE : ∀ b, b < w.heap.size -> More (More (Cut F2 w5) w6) w7 b -> F b := fun b hb h => by
      rcases bD b h with e | e
      ·exact e
      ·omega
     have a1 : ∀ b, b < w.heap.size -> F1 b -> F b := fun b hb h => by
      rw [HF1D.out] at h
      rcases h with e | e
      ·exact e.1
      ·omega
     refine ⟨rfl, ?_, p1, p2, ?_, b5.out, a0.out, b2.out, ?_⟩
     ·have t1 : Turned F w w2 := (ae.out.zIv (F := F)).trans aq.out (fun b _ h => h.1)
      have t2 := t1.trans aD.out (fun b hb h => a1 b hb h)
      have t3 := t2.trans aL.out (fun b hb h => aE b hb (.inl (.inl h)))
      exact t3.trans b3.out (fun b hb h => aE b hb (.inl h))
     ·rw [<- bf.out]; exact b4.out.mono bD
     ·rw [<- bf.out, <- bK.out, <- bL.out]; exact b6.out
def zu5 (s : Sy.Lts) (w : World) (n : Nat) (r : Ending) (w' : World) : Prop :=
 ∃ X gB B wg, r = .returned (.tuple #[.pointer (some ⟨X, 0, none⟩), .nilIface]) /\ Hid (Up w wg /\ zCg wg gB s /\ Up wg w' /\ zF4 (fun k => wg.heap.size <= k) w' X gB B n (Rf.zEv (List.replicate n 0)) (List.replicate n 0) 0 0)
theorem zhp (n : Nat) : (madeCells (Value.int .i64 0).cells (n * 1)).toList = ints (List.replicate n 0) := by
 rw [Nat.mul_one]
 have e : (madeCells (Value.int .i64 0).cells n).toList = List.replicate n (Value.int .i64 0) := toList_madeCells_one _ _
 rw [e]
 simp [ints]
theorem zsd (s : Sy.Lts) (se : Value) (xt : TypeId) (xv : Value) (w : World) (hr : Sy.right s = true) (hs : Ls3 w se s.es) (hE : w.cell? ⟨13, 0, none⟩ = some (.iface xt xv)) (hl : s.es.length <= maxLen) :
  Calls prog 132 #[zCb s se] w (zu5 s w s.n.toNat) := by
 obtain ⟨ao, cap, g, off, rfl, ha, hc⟩ := hs
 have hs : Ls3 w (.slice ao s.es.length cap) s.es := ⟨ao, cap, g, off, rfl, ha, hc⟩
 have hR := (Sy.zCj s).1 hr
 obtain ⟨n, hn⟩ : ∃ n : Nat, s.n = (n : Nat) := ⟨s.n.toNat, by have := hR.n0; omega⟩
 have aS : n <= 1000 := by have := hR.n1; omega
 have aC : s.n.toNat = n := by rw [hn]; rfl
 rw [aC]
 have aD : ∀ W, Up w W -> Calls prog 73 #[.agg #[.int .i64 s.n, .int .i64 s.m, .int .i64 s.start, .slice ao s.es.length cap]] W fun r w' => ∃ gB, r = .returned (.tuple #[.pointer (some ⟨gB, 0, none⟩), .nilIface]) /\ Hid (zCg w' gB s /\ Up W w') := fun W hu => by
  refine (zh6 s _ xt xv W (hs.up hu) (hu.cell hE) hl).mono ?_
  rintro r w1 ⟨aT, ⟨-, gB, rfl, hB, hg⟩ | ⟨h1, -⟩⟩
  ·exact ⟨gB, rfl, zh ⟨hg, aT⟩⟩
  ·exact absurd (hr.symm.trans h1) (by decide)
 have aU := zh aD
 have aV := zh hn
 obtain ⟨j0, hj, gz0, gz1, gz2⟩ := info_parts Tryz.zCp
 clear hr hs hE hl ha hc hR aC aD hn
 unfold zCb
 go_enter func132, ntmps132
 go_upto_region 4 with (go_at_call 73; refine (aU.out _ ((Up.refl w).alloc _)).mono ?_; rintro r w1 ⟨gB, rfl, HG⟩)
 have am : Hid (∀ W, Up w1 W -> Calls prog 133 #[.pointer (some ⟨gB, 0, none⟩)] W fun r w' => r = .returned (.int .i64 (n : Nat)) /\ Up W w') := zh (fun W hu => by have := zdy (HG.out.1.up hu); rw [aV.out] at this; exact this)
 go_upto_region 5 with (first
  | (go_at_call 133; refine (am.out _ (Up.refl _)).mono ?_; rintro r w2 ⟨rfl, aE⟩; (have an := zh aE); clear aE)
  | (at_make; refine wpList_make_full _ rfl _ _ 27 rfl w2.heap.size 3 j0 (.int .i64 0) 1 underlying27 hj gz0 gz1 _ _ _ _ n rfl rfl rfl rfl (by rw [gz2]; omega) (by unfold maxLen; omega) (Nat.le_refl _) ?_; intro w3 ad aa; (have ab := (Row.of ad).1); rw [zhp, Nat.mul_one] at ab; (have aF := zh (an.out.grown aa (fun k hk => by cases hk))); (have ac := zh ab); clear ad aa ab))
 obtain ⟨w4, ak⟩ := nm (w3.alloc (.cells #[.pointer (some ⟨gB, 0, none⟩), .pointer none, .slice (some ⟨w2.heap.size, 0, none⟩) n n, .slice none 0 0, .slice none 0 0, .slice none 0 0, .slice none 0 0] 222))
 have ah := heap_alloc_new w3 (.cells #[.pointer (some ⟨gB, 0, none⟩), .pointer none, .slice (some ⟨w2.heap.size, 0, none⟩) n n, .slice none 0 0, .slice none 0 0, .slice none 0 0, .slice none 0 0] 222)
 rw [<- ak] at ah
 have af : Up w3 w4 := by rw [ak]; exact (Up.refl w3).alloc _
 rw [<- ak]
 obtain ⟨X, hX⟩ := nm (w3.heap.size)
 obtain ⟨gh, aq⟩ := nm (w2.heap.size)
 rw [<- hX, <- aq] at ah
 rw [<- hX]
 rw [<- aq] at ac
 have aW := zh ah
 have aG := zh (aF.out.trans af)
 have aH := zh (af.row ac.out)
 have au : Hid (w1.heap.size <= gh /\ gh < X /\ X < w4.heap.size) := zh (by
  have h1 := an.out.size
  have h2 := ac.out.lt
  have h3 := za0 ah
  omega)
 clear ak ah af hX aq ac an aF
 go_upto_region 6 with (first
  | (go_at_call 133; refine (am.out _ aG.out).mono ?_; rintro r w5 ⟨rfl, aI⟩; (have av := zh aI); clear aI)
  | (go_at_call 163; refine (zBh n _ aS).mono ?_; rintro r w6 ⟨B, ve, vp, vi, vb, rfl, hP, hF, hb⟩; (have ae := ((av.out.trans hb).block X au.out.2.2).trans aW.out); (have cx : w6.cell? ⟨X, 1, none⟩ = some (.pointer none) := by simp [World.cell?, ae]); (have fx : w6.frozen? ⟨X, 1, none⟩ = false := by simp [World.frozen?, ae]); (have HP := zh hP); (have HF := zh hF); (have aJ := zh (av.out.trans hb)); (have aw := zh hb); (have aX := zh ae); clear hP hF hb ae))
 obtain ⟨w7, ag⟩ := nm (w6.setCell ⟨X, 1, none⟩ (.pointer (some ⟨B, 0, none⟩)))
 have ax := zat aX.out 1 (.pointer (some ⟨B, 0, none⟩))
 rw [<- ag] at ax
 have aK : ∀ k, k ≠ X -> w7.heap[k]? = w6.heap[k]? := fun k hk => by rw [ag]; exact Below.heap_setCell w6 _ _ k hk
 have aL : w7.heap.size = w6.heap.size := by rw [ag]; simp
 have ai : Up w1 w7 := by rw [ag]; exact (aG.out.trans aJ.out).setCell (by have := au.out; simp only; omega) _
 rw [<- ag]
 have aM := zh ax
 have aY := zh aK
 have aZ := zh aL
 have aN := zh ai
 clear ag ax aK aL ai cx fx
 go_upto_region 7 with (first
  | (go_at_call 133; refine (am.out _ aN.out).mono ?_; rintro r w8 ⟨rfl, aO⟩; (have aP := zh aO); clear aO)
  | (at_make; refine wpList_make_full _ rfl _ _ 27 rfl w8.heap.size 3 j0 (.int .i64 0) 1 underlying27 hj gz0 gz1 _ _ _ _ n rfl rfl rfl rfl (by rw [gz2]; omega) (by unfold maxLen; omega) (Nat.le_refl _) ?_; intro w9 ad aa; (have ab := (Row.of ad).1); rw [zhp, Nat.mul_one] at ab; (have ay := aP.out.grown aa (fun k hk => by cases hk)); (have ae := (ay.block X (za0 aM.out)).trans aM.out); (have cx : ∃ u, w9.cell? ⟨X, 6, none⟩ = some u := ⟨_, by simp [World.cell?, ae]; rfl⟩); obtain ⟨ux, cx⟩ := cx; (have fx : w9.frozen? ⟨X, 6, none⟩ = false := by simp [World.frozen?, ae]); (have aQ := zh ay); (have ac := zh ab); (have aA := zh ae); clear ad aa ab ay ae))
 go_wp2_with fail
 go_ret2
 have hs := au.out
 have s5 := av.out.size
 have s6 := aw.out.size
 have s7 := aZ.out
 have s8 := aP.out.size
 have s9 := ac.out.lt
 obtain ⟨gg, a0⟩ := nm (w8.heap.size)
 have aj := ac.out
 rw [<- a0] at aj s9 ⊢
 have al : ∀ k, zE5 B ve vp vi vb k -> w5.heap.size <= k /\ k < w6.heap.size := fun k hk => ⟨HF.out k hk, HP.out.zCn hk⟩
 have aR : ∀ k, k ≠ X -> k < w6.heap.size -> (w9.setCell ⟨X, 6, none⟩ (.slice (some ⟨gg, 0, none⟩) n n)).heap[k]? = w6.heap[k]? := fun k h1 h2 => (Below.heap_setCell w9 _ _ k h1).trans ((aQ.out.block k (by omega)).trans (aY.out k h1))
 have aB : Up w1 (w9.setCell ⟨X, 6, none⟩ (.slice (some ⟨gg, 0, none⟩) n n)) := (aN.out.trans aQ.out).setCell (by simp only; omega) _
 refine ⟨X, gB, B, w1, rfl, zh ⟨((Up.refl w).alloc _).trans HG.out.2, HG.out.1, aB, ve, vp, vi, vb, gh, gg, .slice none 0 0, .slice none 0 0, [], List.replicate n 0, [], ?_⟩⟩
 refine ⟨?_, HP.out.keep (fun k hk => aR k (by have := al k hk; omega) (al k hk).2), aH.out.keep ((aR gh (by omega) (by omega)).trans (aJ.out.block gh aH.out.lt)), World.ownsRow_nil _ _ _ _, World.ownsRow_nil _ _ _ _, ?_, List.length_replicate, List.length_replicate, by omega, by omega, by omega, fun k hk => (by cases hk), fun k hk => (by cases hk), fun k hk => by have := al k hk; omega, by omega, fun e => (by cases e), fun e => (by cases e), fun k hk => ?_⟩
 ·have := zat aA.out 6 (.slice (some ⟨gg, 0, none⟩) n n)
  rw [this]; rfl
 ·have := aj.other (a := ⟨X, 6, none⟩) (by simp only; omega) (.slice (some ⟨gg, 0, none⟩) n n)
  have e : ints (List.replicate n 0) = ivs (List.replicate n 0) := by simp [ints, ivs]
  rw [<- e]; exact this
 ·have := al k hk
  exact ⟨by omega, by omega, by omega, fun e => (by cases e), fun e => (by cases e)⟩
theorem zBw (l : List Int) : Cn.canon l = Rd.canon l := by
 have hs : ∀ l : List Int, Cn.seen l = Rd.seen l := fun l => rfl
 unfold Cn.canon Rd.canon
 rw [hs]
theorem zBs (l : List Int) (b : Nat) : (Rf.zEv l).M b = 0 := by
 by_cases hb : b < (Cn.seen l).length
 ·simp only [Rf.St.M, Rf.zEv, Rf.zE4 _ _ _ _ hb]
 ·simp only [Rf.St.M, Rf.zEv]
  rw [show ((Rf.outer (Cn.canon l) l.length (Cn.seen l).length).2.getD b (0, 0, 0)) = (0, 0, 0) by
   have := Rf.zCw (Cn.canon l) l.length (Cn.seen l).length
   simp [List.getD, show ¬ b < (Rf.outer (Cn.canon l) l.length (Cn.seen l).length).2.length by omega]]
theorem zmb (n : Nat) (x : Nat) (hx : x < n) : (Rf.zEv (List.replicate n 0)).marked x = false := by
 have hI := Rf.zH8 (List.replicate n 0)
 rw [List.length_replicate] at hI
 have h1 := hI.in1 x hx
 have h2 := zBs (List.replicate n 0) ((Rf.zEv (List.replicate n 0)).I x)
 simp only [Rf.St.marked, decide_eq_false_iff_not]
 omega
theorem zBo (n : Nat) (x : Nat) : (Rf.zEv (List.replicate n 0)).I x = 0 := by
 unfold Rf.St.I
 rw [Rf.zK5]
 simp only [List.getD, List.getElem?_replicate]
 split <;> rfl
def zkg (w : World) (X : Nat) : Nat := match w.cell? ⟨X, 3, none⟩ with
 | some (.slice _ n _) => n
 | _ => 0
theorem zF4.sizes {F : Nat -> Prop} {w : World} {X gB B n : Nat} {p : Rf.St} {hp : List Nat} {nh nt : Nat} (h : zF4 F w X gB B n p hp nh nt) : zkg w X = nh := by
 obtain ⟨ve, vp, vi, vb, gh, gg, vs, vt, sz, gz, ts, h⟩ := h
 obtain ⟨a, c, hv⟩ := za1 h.size
 unfold zkg
 rw [h.cells.2.2.2.1, hv]
structure Going (s : Sy.Lts) (wg : World) (X gB B n : Nat) (F : Nat -> Prop) (wr : World) (p : Rf.St) (hp : List Nat) (nh : Nat) : Prop where
 play : zF4 F wr X gB B n p hp nh nh
 low : ∀ k, F k -> wg.heap.size <= k
 up : Up wg wr
 inv : Rf.Inv p n
 un : ∀ x, x < n -> p.marked x = false
 fit : Sg.Fit s p.I (fun x => hp.getD x 0)
 lt : ∀ x, x < n -> hp.getD x 0 < nh
 has : ∀ k, k < nh -> ∃ x, x < n /\ hp.getD x 0 = k
def zv6 (p : Rf.St) (hp : List Nat) : Prop := ∀ b c, b < p.blocks.length -> c < p.blocks.length -> hof p hp b = hof p hp c -> b = c
def zyo (F : Nat -> Prop) (wr : World) (n : Nat) (p : Rf.St) (hp : List Nat) (g K cap : Nat) : Prop :=
 ∃ b L, b < p.blocks.length /\ (∃ c, c < p.blocks.length /\ c ≠ b /\ hof p hp c = hof p hp b) /\ K = L.length /\ L.length <= 1000 /\ zbp F wr (.slice (some ⟨g, 0, none⟩) K cap) L /\ ∀ x, x ∈ L ↔ x < n /\ p.I x = b
def zKo (s : Sy.Lts) (wg : World) (X gB B n : Nat) (nh : Nat) (lv : Value) (wr : World) : Prop :=
 ∃ F p hp, Going s wg X gB B n F wr p hp nh /\ ((lv = .slice none 0 0 /\ zv6 p hp) \/ ∃ g K cap, lv = .slice (some ⟨g, 0, none⟩) K cap /\ zyo F wr n p hp g K cap)
theorem Going.heaps {s : Sy.Lts} {wg : World} {X gB B n : Nat} {F : Nat -> Prop} {wr : World} {p : Rf.St} {hp : List Nat} {nh : Nat} (h : Going s wg X gB B n F wr p hp nh) : nh <= n := Sg.zJ9 h.has
theorem zw8 {p : Rf.St} {n b : Nat} (hI : Rf.Inv p n) (hb : b < p.blocks.length) : (p.mem b) = ((p.mem b).map Int.toNat).map Int.ofNat /\ ∀ x, x ∈ (p.mem b).map Int.toNat ↔ x < n /\ p.I x = b := by
 refine ⟨?_, fun x => ?_⟩
 ·rw [List.map_map]
  refine (List.map_id _).symm.trans (List.map_congr_left (fun y hy => ?_))
  obtain ⟨e, h1, -⟩ := (Rf.zGw hI hb).1 hy
  rw [h1]; rfl
 ·rw [List.mem_map]
  constructor
  ·rintro ⟨y, hy, rfl⟩
   obtain ⟨e, h1, h2, h3⟩ := (Rf.zGw hI hb).1 hy
   rw [h1]; exact ⟨h2, h3⟩
  ·rintro ⟨h1, h2⟩
   exact ⟨(x : Int), (Rf.zGw hI hb).2 ⟨x, rfl, h1, h2⟩, rfl⟩
theorem Going.small {s : Sy.Lts} {wg : World} {X gB B n : Nat} {F : Nat -> Prop} {w : World} {p : Rf.St} {hp : List Nat} {nh : Nat} (h : Going s wg X gB B n F w p hp nh) (hn : n <= 1000) :
  Calls prog 135 #[.pointer (some ⟨X, 0, none⟩)] w fun r w' => ∃ lv, r = .returned lv /\ Hid (zKo s wg X gB B n nh lv w') /\ Up w w' := by
 have hl := h.heaps
 refine (zoi h.play h.inv hn h.lt (by omega)).mono ?_
 rintro r w' ⟨hu, hc⟩
 have hG : Going s wg X gB B n (Cut F w) w' p hp nh := ⟨h.play.cut.up hu, fun k hk => h.low k hk.1, h.up.trans hu, h.inv, h.un, h.fit, h.lt, h.has⟩
 rcases hc with ⟨rfl, h1⟩ | ⟨b, g, cap, hb, aa, rfl, ho⟩
 ·exact ⟨_, rfl, zh ⟨_, _, _, hG, .inl ⟨rfl, h1⟩⟩, hu⟩
 ·obtain ⟨e, hm⟩ := zw8 h.inv hb
  refine ⟨_, rfl, zh ⟨_, _, _, hG, .inr ⟨g, _, cap, rfl, b, (p.mem b).map Int.toNat, hb, aa, by rw [List.length_map], by rw [List.length_map, Rf.zIl h.inv hb]; have := h.inv.b1 b hb; omega, ?_, hm⟩⟩, hu⟩
  have ab := ho
  rw [e] at ab
  have el : (((p.mem b).map Int.toNat).map Int.ofNat).length = ((p.mem b).map Int.toNat).length := by rw [List.length_map]
  have e2 : (p.mem b).length = ((p.mem b).map Int.toNat).length := by rw [List.length_map]
  rw [el] at ab
  rw [e2]
  exact zbp.zGj ab (fun k h1 h2 hk => by have := hk.2; omega)
theorem Going.take {s : Sy.Lts} {wg : World} {X gB B n : Nat} {F : Nat -> Prop} {w : World} {p : Rf.St} {hp : List Nat} {nh g K cap : Nat} (h : Going s wg X gB B n F w p hp nh) (hG : zCg wg gB s) (hR : Sy.Right s) (hn : s.n.toNat = n) (hB : zyo F w n p hp g K cap) :
    Calls prog 136 #[.pointer (some ⟨X, 0, none⟩), .slice (some ⟨g, 0, none⟩) K cap] w fun r w' => r = .returned (.tuple #[]) /\ Hid (∃ F' p' hp', Going s wg X gB B n F' w' p' hp' (nh + 1)) := by
  obtain ⟨b, L, hb, ⟨c, hc, aj, ak⟩, rfl, al, hv, hm⟩ := hB
  have aA : n <= 1000 := by have := hR.n1; omega
  have hl := h.heaps
  have fb := zgc h.inv hb
  have fc := zgc h.inv hc
  have am : fst p b ∈ L := (hm _).2 fb
  have ae : 0 < L.length := List.length_pos_of_mem am
  have af : ∀ x ∈ L, x < n := fun x hx => ((hm x).1 hx).1
  have ag : L.getD 0 0 ∈ L := by rw [<- zaa 0 ae]; exact List.getElem_mem _
  have ab : ∀ x, x < n -> p.I x = b -> hp.getD x 0 = hof p hp b := fun x hx e => h.fit.fine x (fst p b) (by omega) (by omega) (e.trans fb.2.symm)
  have ah : hp.getD (L.getD 0 0) 0 = hof p hp b := ab _ (af _ ag) ((hm _).1 ag).2
  have an : hof p hp b < nh := h.lt _ fb.1
  refine (zA1 h.play hG h.up h.low hR hn h.inv h.un hv af ae al (by omega) (by omega) (by rw [ah]; exact an)).mono ?_
  rintro r w' ⟨rfl, ht, p1, p2, ao, aq, au, av, ai⟩
  have ac : hp.length = n := by obtain ⟨_, _, _, _, _, _, _, _, _, _, _, hA⟩ := h.play; exact hA.hl
  have aa : ∀ x, x < n -> (Rf.zCa hp L nh).getD x 0 = if p.I x = b then nh else hp.getD x 0 := fun x hx => by
    rw [Rf.zFg, ac]
    by_cases e : p.I x = b
    · rw [if_pos ⟨(hm x).2 ⟨hx, e⟩, hx⟩, if_pos e]
    · rw [if_neg (fun hh => e ((hm x).1 hh.1).2), if_neg e]
  rw [ah] at ai
  have aw : Sg.zCz s (fun z => p.I z = b) p.I p1.I := av.congr hR (fun z hz => by rw [hm z]; exact ⟨fun hh => hh.2, fun hh => ⟨by omega, hh⟩⟩)
  have ax : Sg.zCz s (fun z => hp.getD z 0 = hof p hp b /\ p.I z ≠ b) p1.I p2.I := ai.congr hR (fun z hz => by
    rw [zk8, aa z (by omega)]
    by_cases e : p.I z = b
    · rw [if_pos e]; constructor
      · rintro ⟨-, h2⟩; omega
      · rintro ⟨-, h2⟩; exact absurd e h2
    · rw [if_neg e]; exact ⟨fun hh => ⟨hh.2, e⟩, fun hh => ⟨by omega, hh.1⟩⟩)
  have ad := h.fit.take hR (b := b) (h := hof p hp b) (k := nh) (fun x hx e => ab x (by omega) e) (fun x hx e => by have := h.lt x (by omega); omega) (by omega) aw ax
  have ay : Going s wg X gB B n (More F w) w' p2 (Rf.zCa hp L nh) (nh + 1) := by
   refine ⟨ao, zee h.up.size h.low, zd4 h.up ht h.low, aq, au, ad.congr hR (fun z hz => (aa z (by omega)).symm), fun x hx => ?_, fun k hk => ?_⟩
   · rw [aa x hx]
     split
     · omega
     · have := h.lt x hx; omega
   · by_cases e1 : k = nh
     · exact ⟨fst p b, fb.1, by rw [aa _ fb.1, if_pos fb.2, e1]⟩
     · by_cases e2 : k = hof p hp b
       · exact ⟨fst p c, fc.1, by rw [aa _ fc.1, if_neg (by rw [fc.2]; exact aj), e2]; exact ak⟩
       · obtain ⟨x, h1, h2⟩ := h.has k (by omega)
         exact ⟨x, h1, by rw [aa x h1, if_neg (fun e => e2 (h2.symm.trans (ab x h1 e))), h2]⟩
  exact ⟨rfl, zh ⟨_, p2, _, ay⟩⟩
theorem Going.done {s : Sy.Lts} {wg : World} {X gB B n : Nat} {F : Nat -> Prop} {w : World} {p : Rf.St} {hp : List Nat} {nh : Nat} (h : Going s wg X gB B n F w p hp nh) (hR : Sy.Right s) (hn : s.n.toNat = n) (hN : zv6 p hp) : Cn.canon (p.inn.map Int.ofNat) = Rd.R s (Rd.last s) := by
 rw [zBw]
 have aa := h.inv.li
 refine Sg.zI0 (by rw [List.length_map, aa, hn]) (fun x y hx hy => ?_)
 rw [hn] at hx hy
 have hg : ∀ z, z < n -> (p.inn.map Int.ofNat).getD z 0 = (p.I z : Int) := fun z hz => by
  simp [Rf.St.I, List.getD, show z < p.inn.length by omega]
 rw [hg x hx, hg y hy, Int.natCast_inj]
 refine h.fit.last hR (fun a c ha hc he => ?_) (by omega) (by omega)
 rw [hn] at ha hc
 have ia := (h.inv.in1 a ha).1
 have ic := (h.inv.in1 c hc).1
 refine hN _ _ ia ic ?_
 have e1 := h.fit.fine (fst p (p.I a)) a (by have := (zgc h.inv ia).1; omega) (by omega) (zgc h.inv ia).2
 have e2 := h.fit.fine (fst p (p.I c)) c (by have := (zgc h.inv ic).1; omega) (by omega) (zgc h.inv ic).2
 exact e1.trans (he.trans e2.symm)
def zj9 (s : Sy.Lts) (w : World) (n : Nat) (r : Ending) (w' : World) : Prop :=
 ∃ a1 c1 a2 n2 c2 a3 n3 c3, r = .returned (.tuple #[.agg #[.slice a1 n c1, .slice a2 n2 c2, .slice a3 n3 c3], .nilIface]) /\ Hid (w'.ownsRow w.heap.size 3 1 (.slice a1 n c1) n (ints (Rd.R s (Rd.last s)))) /\ Up w w'
theorem zoy {s : Sy.Lts} {wg w w' : World} {X gB B n : Nat} {F : Nat -> Prop} {p' : Rf.St} (hR : Sy.Right s) (hn : s.n.toNat = n) (h0 : 0 < n) (hF : ∀ k, F k -> wg.heap.size <= k) (hu : Up wg w) (ht : Turned F w w')
  (hp : zF4 (More F w) w' X gB B n p' (List.replicate n 0) 1 1) (hI : Rf.Inv p' n) (aa : ∀ x, x < n -> p'.marked x = false) (hs : Sg.zCz s (fun z => z ∈ List.range n) (Rf.zEv (List.replicate n 0)).I p'.I) :
  Going s wg X gB B n (More F w) w' p' (List.replicate n 0) 1 := by
 have hz : ∀ z, (List.replicate n 0).getD z 0 = 0 := fun z => by
  simp only [List.getD, List.getElem?_replicate]
  split <;> rfl
 have h1 : Sg.zCz s (fun _ => True) (fun _ => 0) p'.I := fun x y hx hy => by
  have := (hs.congr hR (D := fun _ => True) (fun z hz => by rw [List.mem_range]; exact ⟨fun _ => trivial, fun _ => by omega⟩)) x y hx hy
  rw [zBo, zBo] at this
  exact this
 refine ⟨hp, zee hu.size hF, zd4 hu ht hF, hI, aa, (Sg.Fit.begin hR h1).congr hR (fun z _ => (hz z).symm), fun x _ => by rw [hz]; omega, fun k hk => ⟨0, h0, by rw [hz]; omega⟩⟩
theorem zk5 {w : World} {b : Nat} {a1 a2 a3 : Value} {e : TypeId} (h : w.heap[b]? = some (.cells #[a1, a2, a3] e (0, 0))) (v1 v2 v3 : Value) :
  ((((w.setCell ⟨b, 0, none⟩ v1).setCell ⟨b, 1, none⟩ v2).setCell ⟨b, 2, none⟩ v3).cell? ⟨b, 0, none⟩ = some v1 /\ (((w.setCell ⟨b, 0, none⟩ v1).setCell ⟨b, 1, none⟩ v2).setCell ⟨b, 2, none⟩ v3).cell? ⟨b, 1, none⟩ = some v2 /\
   (((w.setCell ⟨b, 0, none⟩ v1).setCell ⟨b, 1, none⟩ v2).setCell ⟨b, 2, none⟩ v3).cell? ⟨b, 2, none⟩ = some v3) /\
  Turned (fun k => k = b) w (((w.setCell ⟨b, 0, none⟩ v1).setCell ⟨b, 1, none⟩ v2).setCell ⟨b, 2, none⟩ v3) := by
 have h1 := zat h 0 v1
 have h2 := zat h1 1 v2
 have h3 := zat h2 2 v3
 refine ⟨⟨?_, ?_, ?_⟩, Turned.set1 (F := fun k => k = b) (Turned.set1 (F := fun k => k = b) (Turned.set1 (F := fun k => k = b) (Turned.refl _ w) rfl v1) rfl v2) rfl v3⟩ <;> simp [World.cell?, h3]
theorem zgf {w : World} {b : Nat} {a1 a2 a3 : Value} {e : TypeId} (h : w.heap[b]? = some (.cells #[a1, a2, a3] e (0, 0))) :
  (w.cell? ⟨b, 0, none⟩ = some a1 /\ w.cell? ⟨b, 1, none⟩ = some a2 /\ w.cell? ⟨b, 2, none⟩ = some a3) /\ w.frozen? ⟨b, 0, none⟩ = false /\ w.frozen? ⟨b, 1, none⟩ = false /\ w.frozen? ⟨b, 2, none⟩ = false := by
 refine ⟨⟨?_, ?_, ?_⟩, ?_, ?_, ?_⟩ <;> simp [World.cell?, World.frozen?, h]
theorem zvo (s : Sy.Lts) (se : Value) (xt : TypeId) (xv : Value) (w : World) (hr : Sy.right s = true) (hs : Ls3 w se s.es) (hE : w.cell? ⟨13, 0, none⟩ = some (.iface xt xv)) (hl : s.es.length <= maxLen) :
  Calls prog 82 #[zCb s se] w (zj9 s w s.n.toNat) := by
 have hR := (Sy.zCj s).1 hr
 have ag : ∀ W, Up w W -> Calls prog 132 #[zCb s se] W (zu5 s W s.n.toNat) := fun W hu => zsd s se xt xv W hr (hs.up hu) (hu.cell hE) hl
 obtain ⟨ao, cap, rfl⟩ := zaf hs
 obtain ⟨n, hn⟩ : ∃ n : Nat, s.n = (n : Nat) := ⟨s.n.toNat, by have := hR.n0; omega⟩
 have ay : n <= 1000 := by have := hR.n1; omega
 have aA : s.n.toNat = n := by rw [hn]; rfl
 rw [aA] at ag ⊢
 obtain ⟨L, hL⟩ := nm (s.es.length)
 unfold zCb at ag ⊢
 rw [<- hL] at ag ⊢
 have aV := zh ag
 have HR := zh hR
 have aW := zh hn
 have af := zh aA
 clear hr hs hE hl hR ag hn aA hL
 have aM : Hid (Up w ((w.alloc (.cells #[.int .i64 s.n, .int .i64 s.m, .int .i64 s.start, .slice ao L cap] 24)).alloc (.cells #[.slice none 0 0, .slice none 0 0, .slice none 0 0] 134))) := zh (((Up.refl w).alloc _).alloc _)
 go_enter func82, ntmps82
 go_upto_region 4 with (go_at_call 132; refine (aV.out _ aM.out).mono ?_; rintro r w2 ⟨X, gB, B, wg, rfl, HP⟩)
 obtain ⟨RB, aB⟩ := nm (w.heap.size + 1)
 have ah := heap_alloc_new (w.alloc (.cells #[.int .i64 s.n, .int .i64 s.m, .int .i64 s.start, .slice ao L cap] 24)) (.cells #[.slice none 0 0, .slice none 0 0, .slice none 0 0] 134)
 rw [World.size_alloc, <- aB] at ah
 have aC : RB < wg.heap.size := Nat.lt_of_lt_of_le (za0 ah) HP.out.1.size
 have au : Hid (∀ W, Up wg W -> W.heap[RB]? = some (.cells #[.slice none 0 0, .slice none 0 0, .slice none 0 0] 134 (0, 0))) := zh (fun W hu => (hu.block RB aC).trans ((HP.out.1.block RB (za0 ah)).trans ah))
 have aD := zh (aM.out.trans HP.out.1)
 have HG := zh HP.out.2.1
 have av := zh HP.out.2.2.1
 have aN := zh HP.out.2.2.2
 have ai : w.heap.size <= RB := by omega
 rw [<- aB]
 have c0 : w2.cell? ⟨X, 0, none⟩ = some (.pointer (some ⟨gB, 0, none⟩)) := by obtain ⟨_, _, _, _, _, _, _, _, _, _, _, hA⟩ := aN.out; exact hA.cells.1
 have aE : Hid (Calls prog 133 #[.pointer (some ⟨gB, 0, none⟩)] w2 fun r w' => r = .returned (.int .i64 (n : Nat)) /\ Up w2 w') := zh (by have := zdy (HG.out.up av.out); rw [aW.out] at this; exact this)
 clear ah aB HP
 by_cases hn0 : n = 0
 ·subst hn0
  go_wp2_with (go_at_call 133; refine aE.out.mono ?_; rintro r w3 ⟨rfl, ae⟩; (obtain ⟨⟨k0, k1, k2⟩, f0, f1, f2⟩ := zgf (au.out w3 (av.out.trans ae))); (have aj := zh (av.out.trans ae)); clear ae c0)
  obtain ⟨⟨y0, y1, y2⟩, hT⟩ := zk5 (au.out w3 aj.out) (.slice none 0 0) (.slice none 0 0) (.slice none 0 0)
  refine bodyPost_ret (v := .tuple #[.agg #[.slice none 0 0, .slice none 0 0, .slice none 0 0], .nilIface]) (by simp [results, results82, go_sem, y0, y1, y2]) rfl ⟨_, _, _, _, _, _, _, _, rfl, zh ?_, zaj (aD.out.trans aj.out) ai hT⟩
  have e : Rd.R s (Rd.last s) = [] := List.eq_nil_of_length_eq_zero (by rw [Rd.zD0]; exact af.out)
  rw [e]; exact World.ownsRow_nil _ _ _ _
 ·have qn : ((n : Int) == 0) = false := by simp; omega
  have h0n : 0 < n := by omega
  clear hn0
  go_upto_region 6 with (go_at_call 133; refine aE.out.mono ?_; rintro r w3 ⟨rfl, ae⟩; (have aF := zh ae); (have aj := zh (av.out.trans ae)); clear ae c0)
  have aO : Hid (Calls prog 134 #[.pointer (some ⟨X, 0, none⟩)] w3 fun r w' => r = .returned (.tuple #[]) /\ Hid (∃ F p, Going s wg X gB B n F w' p (List.replicate n 0) 1)) := zh (by
   have hI := Rf.zH8 (List.replicate n 0)
   rw [List.length_replicate] at hI
   refine (zxc (aN.out.up aF.out) HG.out aj.out (fun k hk => hk) HR.out af.out hI (fun x hx => zmb n x hx)).mono ?_
   rintro r w' ⟨rfl, ht, p', aX, hi', aY, aZ⟩
   exact ⟨rfl, zh ⟨_, p', zoy HR.out af.out h0n (fun k hk => hk) aj.out ht aX hi' aY aZ⟩⟩)
  go_upto_region 8 with (first
   | (go_at_call 134; refine aO.out.mono ?_; rintro r w4 ⟨rfl, aP⟩)
   | (go_at_call 135; refine (aP.out.choose_spec.choose_spec.small ay).mono ?_; rintro r w5 ⟨lv, rfl, aG, -⟩))
  have a0 := aG
  clear aP aO aE
  have aQ := fun (lv : Value) (wr : World) (nh : Nat) (h : zKo s wg X gB B n nh lv wr) => (show zkg wr X = nh from by obtain ⟨F, p, hp, hg, -⟩ := h; exact hg.play.sizes)
  have aR := zh aQ
  clear aQ
  go_loopw [6] (fun v wr => ∃ nh : Nat, Hid (zKo s wg X gB B n nh v wr)) (fun _ wr => 1001 - zkg wr X)
  case atStart => exact ⟨1, aG⟩
  case round =>
   clear aG a0
   obtain ⟨nh, aw⟩ := hrel
   have aH := aR.out _ _ _ aw.out
   obtain ⟨F, p, hp, hg, ak⟩ := aw.out
   have aa := hg.heaps
   have bc := zh hg
   rcases ak with ⟨aI, aJ⟩ | ⟨g, K, cap6, aI, al⟩
   ·subst aI
    have bd := zh aJ
    have a1 := zh (hg.done HR.out af.out aJ)
    obtain ⟨ve, vp, vi, vb, gh, gg, vs, vt, sz, gz, ts, hA⟩ := hg.play
    obtain ⟨at1, ct1, a2⟩ := za1 hA.took
    subst a2
    have c1 := hA.cells.2.1
    have a3 : Hid (Calls prog 137 #[.pointer (some ⟨B, 0, none⟩)] wr (zn0 wr (Rd.R s (Rd.last s)) n)) := zh (by rw [<- a1.out]; exact zp9 hA.part hg.inv ay)
    have HA := zh hA
    have aS := zh hg.up
    have a4 : wg.heap.size <= X := hg.low X hA.inX
    clear hg aJ hA aH aw aa
    go_upto_region 12 with (go_at_call 137; refine a3.out.mono ?_; rintro r w6 ⟨g6, rfl, ab, be, aK⟩; (have ax := (aK.block X HA.out.lt).trans HA.out.box); (have d4 : w6.cell? ⟨X, 4, none⟩ = some (.slice none 0 0) := by simp [World.cell?, ax]); (have f4 : w6.frozen? ⟨X, 4, none⟩ = false := by simp [World.frozen?, ax]); (have am := zh ab); (have a5 := zh aK); (have a6 := zh ax); clear ab aK ax)
    obtain ⟨w7, an⟩ := nm (w6.setCell ⟨X, 4, none⟩ (.slice (some ⟨g6, 0, none⟩) n n))
    have aq := zat a6.out 4 (.slice (some ⟨g6, 0, none⟩) n n)
    rw [<- an] at aq
    have e4 : w7.cell? ⟨X, 4, none⟩ = some (.slice (some ⟨g6, 0, none⟩) n n) := by simp [World.cell?, aq]
    have e5 : w7.cell? ⟨X, 5, none⟩ = some (.slice at1 nh ct1) := by simp [World.cell?, aq]
    have e6 : w7.cell? ⟨X, 6, none⟩ = some (.slice (some ⟨gg, 0, none⟩) n n) := by simp [World.cell?, aq]
    have aL : Up wg w7 := by rw [an]; exact (aS.out.trans a5.out).setCell a4 _
    have bf : X < wr.heap.size := HA.out.lt
    have ac : Row w7 g6 3 n (ints (Rd.R s (Rd.last s))) := by rw [an]; exact am.out.other (by simp only; omega) _
    obtain ⟨⟨k0, k1, k2⟩, x0, x1, x2⟩ := zgf (au.out w7 aL)
    have aT := zh aL
    have ad := zh ac
    rw [<- an]
    clear an aq aL ac d4 f4 c1
    go_wp2_with fail
    obtain ⟨⟨y0, y1, y2⟩, hT⟩ := zk5 (au.out w7 aT.out) (.slice (some ⟨g6, 0, none⟩) n n) (.slice at1 nh ct1) (.slice (some ⟨gg, 0, none⟩) n n)
    have a7 := aS.out.size
    have bh := aD.out.size
    refine bodyPost_ret (v := .tuple #[.agg #[.slice (some ⟨g6, 0, none⟩) n n, .slice at1 nh ct1, .slice (some ⟨gg, 0, none⟩) n n], .nilIface]) (by simp [results, results82, go_sem, y0, y1, y2]) rfl ⟨_, _, _, _, _, _, _, _, rfl, zh ?_, zaj (aD.out.trans aT.out) ai hT⟩
    have hr := ad.out.keep (hT.block g6 ad.out.lt (by omega))
    refine Row.zFc (by rw [Nat.mul_one]; exact hr) (by omega) (Nat.le_refl _) (by unfold maxLen; omega) ?_
    rw [Nat.mul_one, zaz, Rd.zD0]; exact af.out
   ·subst aI
    have bi := fun w => Go.run_neq_slice_nil_any (P := prog) w 27 3 (some ⟨g, 0, none⟩) K cap6 0 0 underlying27
    have a8 := zh (hg.take HG.out HR.out af.out al)
    have a9 := zh aa
    have ba := zh aH
    clear hg al aw aa aH
    go_wp2_with (first
     | (go_at_call 136; refine a8.out.mono ?_; rintro r w6 ⟨rfl, bb⟩)
     | (go_at_call 135; refine (bb.out.choose_spec.choose_spec.choose_spec.small ay).mono ?_; rintro r w7 ⟨lv7, rfl, aU, -⟩))
    go_roundw
    case rel => exact ⟨nh + 1, aU⟩
    case measure =>
     have e1 := aR.out _ _ _ aU.out
     have e2 := ba.out
     have e3 := a9.out
     simp only [e1, e2]
     omega
def znj (s : Sy.Lts) (w : World) (n : Nat) (r : Ending) (w' : World) : Prop :=
 ∃ a1 c1, r = .returned (.tuple #[.slice a1 n c1, .nilIface]) /\ Hid (w'.ownsRow w.heap.size 3 1 (.slice a1 n c1) n (ints (Rd.R s (Rd.last s)))) /\ Up w w'
theorem zsf (s : Sy.Lts) (se : Value) (xt : TypeId) (xv : Value) (w : World) (hr : Sy.right s = true) (hs : Ls3 w se s.es) (hE : w.cell? ⟨13, 0, none⟩ = some (.iface xt xv)) (hl : s.es.length <= maxLen) :
  Calls prog 21 #[zCb s se] w (znj s w s.n.toNat) := by
 have aa : ∀ W, Up w W -> Calls prog 82 #[zCb s se] W (zj9 s W s.n.toNat) := fun W hu => zvo s se xt xv W hr (hs.up hu) (hu.cell hE) hl
 obtain ⟨ao, cap, rfl⟩ := zaf hs
 obtain ⟨n, hn⟩ := nm (s.n.toNat)
 rw [<- hn] at aa ⊢
 obtain ⟨L, hL⟩ := nm (s.es.length)
 unfold zCb at aa ⊢
 rw [<- hL] at aa ⊢
 have ad := zh aa
 clear hr hs hE hl aa hL hn
 have ab : Hid (Up w (w.alloc (.cells #[.int .i64 s.n, .int .i64 s.m, .int .i64 s.start, .slice ao L cap] 24))) := zh ((Up.refl w).alloc _)
 go_enter func21, ntmps21
 go_wp2_with (go_at_call 82; refine (ad.out _ ab.out).mono ?_; rintro r w2 ⟨a1, c1, a2, n2, c2, a3, n3, c3, rfl, HO, ac⟩; (have ae := zh ac); clear ac)
 go_ret2
 have h0 := ab.out.size
 exact ⟨a1, c1, rfl, zh (za8 (((Up.refl w2).alloc _).owns HO.out) h0), (ab.out.trans ae.out).alloc _⟩
end Go.Proofs.YtoaoajfjcfcmhaaGreatDoor
