/- A teller in memory: its box, the row of its parts, the parts' lists, its two maps; a part put, a pair known. -/
import Derived.Test.YtoaoajfjcfcmhaaGreatDoorP16
import Derived.Test.YtoaoajfjcfcmhaaGreatDoorP09
import Derived.WideKeyPair
import Derived.DeepKeys4
import Derived.ChangeBookTie2
import Derived.Test.YtoaoajfjcfcmhaaGreatDoorP02
import Derived.Deep.AppendLies
import Derived.Test.YtoaoajfjcfcmhaaGreatDoorP13
import Derived.Test.YtoaoajfjcfcmhaaGreatDoorP01
set_option linter.unusedVariables false
set_option linter.unusedSimpArgs false
set_option maxHeartbeats 16000000
set_option maxRecDepth 100000
open Go.Proofs.Tryz
namespace Go.Proofs.YtoaoajfjcfcmhaaGreatDoor
open Go.RowKit Go.Maps Go.WideMaps
theorem zxo : laidOutB prog = true := by kernel_rfl
theorem zKv : 201 < prog.types.size := of_decide_eq_true (by kernel_rfl)
theorem zL8 : ArrKey prog 201 3 2 := ⟨underlying201, by kernel_rfl, by kernel_rfl, by kernel_rfl⟩
theorem zKz : KeyLaw prog 201 := Go.deep_law_laid zxo (m := 2) (by omega) zKv (by kernel_rfl) (by rw [underlying201])
theorem zto : Keyed prog 201 := Keyed.of_law zKz
def pkD (a b : Nat) : Lit := .string (keyBytes [.int .i64 (a : Nat), .int .i64 (b : Nat)])
theorem zC2 : ∃ m, prog.types.size = m + 1 := by
 have := zKv
 exact ⟨prog.types.size - 1, by omega⟩
theorem ze7 {a b : Nat} (ha : a <= 1000) (hb : b <= 1000) : keyOf prog 201 (.agg #[.int .i64 (a : Nat), .int .i64 (b : Nat)]) = some (pkD a b) :=
 keyOf_pair zL8 underlying3 zC2 (WalkArith.wf_i64 (by omega)) (WalkArith.wf_i64 (by omega))
theorem zzw : Dt.zJw 1001 pkD where
 lit := fun a b => trivial
 inj := fun a b c d ha hb hc hd h => by
  have h1 := ze7 (a := a) (b := b) (by omega) (by omega)
  have h2 := ze7 (a := c) (b := d) (by omega) (by omega)
  rw [h] at h1
  have := zKz.inj h1 h2
  simp at this
  omega
theorem zev {H : Type} {P : Program} {k : TypeId} {R : Value -> Option (DataW H × List MemPlace)} {w : World} {b n g : Nat} {D : DataW H} {cur : Array Value} {e : TypeId} {fr : Nat × Nat} (h : w.ownsMap P k R b n D) (hg : w.heap[g]? = some (.cells cur e fr)) : b ≠ g := by
 obtain ⟨es, clock, hb, _⟩ := h
 rintro rfl
 rw [hb] at hg
 cases hg
theorem zaq {w : World} {a b : Nat} {ca cb : Array Value} {ea eb : TypeId} {fa fb : Nat × Nat} (ha : w.heap[a]? = some (.cells ca ea fa)) (hb : w.heap[b]? = some (.cells cb eb fb)) (h : ea ≠ eb) : a ≠ b := by
 rintro rfl
 rw [ha] at hb
 simp only [Option.some.injEq, Obj.cells.injEq] at hb
 exact h hb.2.1
abbrev DRow := (Dt.Part × List Dt.Nd) × Value
def ze2 (x : DRow) : List Value := [.int .i64 x.1.1.1.1, .int .i64 x.1.1.1.2, x.2, .int .i64 ((Dt.size x.1.2 : Nat) : Int)]
def cellsD (l : List DRow) : List Value := l.flatMap ze2
theorem zl2 (x : DRow) : (ze2 x).length = 4 := rfl
theorem zkz (l m : List DRow) : cellsD (l ++ m) = cellsD l ++ cellsD m := by simp [cellsD]
theorem zrc (x : DRow) : cellsD [x] = ze2 x := by simp [cellsD]
theorem zjj (l : List DRow) (i c : Nat) (hi : i < l.length) (hc : c < 4) : (cellsD l)[i * 4 + c]? = (ze2 l[i])[c]? := flat_get zl2 l i c hi hc
structure zEp (w : World) (tb : Nat) (gv rv vp : Value) (ma mk : Nat) (rs : List DRow) (T : Dt.Tl) : Prop where
 ps : rs.map (fun x => x.1.1) = T.ps
 ts : rs.map (fun x => x.1.2) = T.ts
 box : w.heap[tb]? = some (.cells #[gv, rv, vp, .map (some ma), .map (some mk)] 124 (0, 0))
 row : w.ownsRow 0 127 4 vp rs.length (cellsD rs)
 own : ∀ x ∈ rs, w.ownsRow 0 3 1 x.2 x.1.1.2.length (ints x.1.1.2)
 ats : w.ownsMap (H := Unit) prog 9 (plainElem prog 3) ma rs.length (Dt.mp (Dt.zGu T.ps))
 kns : w.ownsMap (H := Unit) prog 201 (plainElem prog 3) mk T.kn.length (Dt.mp (Dt.zGi pkD T.kn))
 ne : ma ≠ mk
def zdn (tb ma mk : Nat) (vp : Value) (k : Nat) : Prop := k = tb \/ vp.ownBlock = some k \/ k = ma \/ k = mk
def zgr (tb ma mk : Nat) (vp : Value) (rs : List DRow) (k : Nat) : Prop := zdn tb ma mk vp k \/ ∃ x ∈ rs, x.2.ownBlock = some k
theorem zEp.len {w : World} {tb ma mk : Nat} {gv rv vp : Value} {rs : List DRow} {T : Dt.Tl} (h : zEp w tb gv rv vp ma mk rs T) : rs.length = T.ps.length := by rw [<- h.ps, List.length_map]
theorem zEp.lt {w : World} {tb ma mk : Nat} {gv rv vp : Value} {rs : List DRow} {T : Dt.Tl} (h : zEp w tb gv rv vp ma mk rs T) {k : Nat} (hk : zgr tb ma mk vp rs k) : k < w.heap.size := by
 rcases hk with (rfl | hk | rfl | rfl) | ⟨x, hx, hk⟩
 ·exact za0 h.box
 ·exact za3 h.row hk
 ·exact h.ats.lt
 ·exact h.kns.lt
 ·exact za3 (h.own x hx) hk
theorem zEp.keep {w w' : World} {tb ma mk : Nat} {gv rv vp : Value} {rs : List DRow} {T : Dt.Tl} (h : zEp w tb gv rv vp ma mk rs T) (hk : ∀ k, zgr tb ma mk vp rs k -> w'.heap[k]? = w.heap[k]?) : zEp w' tb gv rv vp ma mk rs T where
 ps := h.ps
 ts := h.ts
 box := (hk tb (.inl (.inl rfl))).trans h.box
 row := za2 h.row (fun g hg => hk g (.inl (.inr (.inl hg))))
 own := fun x hx => za2 (h.own x hx) (fun g hg => hk g (.inr ⟨x, hx, hg⟩))
 ats := zbc h.ats (hk ma (.inl (.inr (.inr (.inl rfl)))))
 kns := zbc h.kns (hk mk (.inl (.inr (.inr (.inr rfl)))))
 ne := h.ne
theorem zEp.up {w w' : World} {tb ma mk : Nat} {gv rv vp : Value} {rs : List DRow} {T : Dt.Tl} (h : zEp w tb gv rv vp ma mk rs T) (hu : Up w w') : zEp w' tb gv rv vp ma mk rs T := h.keep (fun k hk => hu.block k (h.lt hk))
theorem zEp.lists {w : World} {tb ma mk : Nat} {gv rv vp : Value} {rs : List DRow} {T : Dt.Tl} (h : zEp w tb gv rv vp ma mk rs T) {x : DRow} (hx : x ∈ rs) {k : Nat} (hk : x.2.ownBlock = some k) : ¬ zdn tb ma mk vp k := by
 obtain ⟨cur, hc⟩ := za5 (h.own x hx) hk
 rintro (rfl | e | rfl | rfl)
 ·exact zaq hc h.box (by decide) rfl
 ·obtain ⟨cur', aa⟩ := za5 h.row e
  exact zaq hc aa (by decide) rfl
 ·exact zev h.ats hc rfl
 ·exact zev h.kns hc rfl
theorem zEp.heads {w : World} {tb ma mk : Nat} {gv rv vp : Value} {rs : List DRow} {T : Dt.Tl} (h : zEp w tb gv rv vp ma mk rs T) :
  ma ≠ tb /\ mk ≠ tb /\ vp.ownBlock ≠ some tb /\ vp.ownBlock ≠ some ma /\ vp.ownBlock ≠ some mk := by
 refine ⟨zev h.ats h.box, zev h.kns h.box, fun e => ?_, fun e => ?_, fun e => ?_⟩
 ·obtain ⟨cur', aa⟩ := za5 h.row e
  exact zaq aa h.box (by decide) rfl
 ·obtain ⟨cur', aa⟩ := za5 h.row e
  exact zev h.ats aa rfl
 ·obtain ⟨cur', aa⟩ := za5 h.row e
  exact zev h.kns aa rfl
theorem zEp.known {w w' : World} {tb ma mk : Nat} {gv rv vp : Value} {rs : List DRow} {T : Dt.Tl} (h : zEp w tb gv rv vp ma mk rs T) {p q n : Nat}
  (hm : w'.ownsMap (H := Unit) prog 201 (plainElem prog 3) mk (T.kn.length + 1) ((Dt.mp (Dt.zGi pkD T.kn)).put (pkD p q) (.lit (.int .i64 (n : Nat))))) (hg : w.grownBy w' (some mk)) :
  zEp w' tb gv rv vp ma mk rs ⟨T.ps, T.ts, T.kn ++ [((p, q), n)]⟩ /\ Turned (zdn tb ma mk vp) w w' := by
 obtain ⟨n1, n2, n3, n4, n5⟩ := h.heads
 have hb : ∀ k, k < w.heap.size -> k ≠ mk -> w'.heap[k]? = w.heap[k]? := fun k hk he => hg.block k hk (by simpa using he)
 refine ⟨⟨h.ps, h.ts, (hb tb (za0 h.box) (fun e => n2 e.symm)).trans h.box, za2 h.row (fun g hk => hb g (za3 h.row hk) (fun e => n5 (by rw [<- e]; exact hk))),
  fun x hx => za2 (h.own x hx) (fun g hk => hb g (za3 (h.own x hx) hk) (fun e => h.lists hx hk (.inr (.inr (.inr e))))),
  zbc h.ats (hb ma h.ats.lt h.ne), ?_, h.ne⟩, (Turned.refl _ _).grown hg (fun k hk => .inl (.inr (.inr (.inr (by simpa using hk.symm)))))⟩
 have e : Dt.zGi pkD (T.kn ++ [((p, q), n)]) = Dt.zGi pkD T.kn ++ [(pkD p q, n)] := Dt.zIm _ _ _
 show w'.ownsMap _ _ _ mk (T.kn ++ [((p, q), n)]).length (Dt.mp (Dt.zGi pkD (T.kn ++ [((p, q), n)])))
 rw [e, Dt.zFy, List.length_append]
 exact hm
theorem zEp.pushed {W W2 w3 w4 : World} {tb ma mk : Nat} {gv rv vp v' lv : Value} {rs : List DRow} {T : Dt.Tl} {y : Dt.Part} {f : List Dt.Nd} {o : Obj} (h : zEp W tb gv rv vp ma mk rs T)
  (hm : W2.ownsMap (H := Unit) prog 9 (plainElem prog 3) ma (rs.length + 1) ((Dt.mp (Dt.zGu T.ps)).put (.string (Dt.zEs y)) (.lit (.int .i64 (rs.length : Nat))))) (hg : W.grownBy W2 (some ma))
  (hu : Up W2 w3) (hl : W.ownsRow 0 3 1 lv y.2.length (ints y.2)) (ag : ∀ k, lv.ownBlock = some k -> ¬ zdn tb ma mk vp k)
  (ad : w4.ownsRow 0 127 4 v' (rs.length + 1) (cellsD rs ++ ze2 ((y, f), lv))) (ae : (w3.alloc o).grownBy w4 vp.ownBlock) (af : v'.ownBlock = vp.ownBlock \/ v'.ownBlock = some (w3.alloc o).heap.size) :
  zEp (w4.setCell ⟨tb, 2, none⟩ v') tb gv rv v' ma mk (rs ++ [((y, f), lv)]) ⟨T.ps ++ [y], T.ts ++ [f], T.kn⟩ /\ Turned (zdn tb ma mk vp) W (w4.setCell ⟨tb, 2, none⟩ v') /\ (∀ k, v'.ownBlock = some k -> vp.ownBlock = some k \/ W.heap.size <= k) := by
 obtain ⟨n1, n2, n3, n4, n5⟩ := h.heads
 have s2 := hg.size
 have s3 := hu.size
 have s4 : w3.heap.size + 1 <= w4.heap.size := by have := ae.size; simpa using this
 have k3 : ∀ k, k < w3.heap.size -> vp.ownBlock ≠ some k -> w4.heap[k]? = w3.heap[k]? := fun k hk hv =>
  (ae.block k (by simp; omega) (fun e => hv e.symm)).trans (Below.heap_alloc w3 o k hk)
 have k1 : ∀ k, k < W.heap.size -> k ≠ ma -> vp.ownBlock ≠ some k -> w4.heap[k]? = W.heap[k]? := fun k hk hm hv =>
  (k3 k (by omega) hv).trans ((hu.block k (by omega)).trans (hg.block k hk (by simpa using hm)))
 have ac : ∀ k, v'.ownBlock = some k -> vp.ownBlock = some k \/ w3.heap.size < k := by
  intro k hk
  rcases af with e | e
  ·rw [e] at hk; exact .inl hk
  ·rw [hk, Option.some.injEq] at e; right; rw [e]; simp
 have ltb := za0 h.box
 have ah : v'.ownBlock ≠ some tb := by
  intro e
  rcases ac tb e with h1 | h1
  ·exact n3 h1
  ·omega
 have aa : ∀ k, k ≠ tb -> (w4.setCell ⟨tb, 2, none⟩ v').heap[k]? = w4.heap[k]? := fun k hk => Below.heap_setCell w4 ⟨tb, 2, none⟩ v' k hk
 have ab : ∀ k, k < W.heap.size -> ¬ zdn tb ma mk vp k -> (w4.setCell ⟨tb, 2, none⟩ v').heap[k]? = W.heap[k]? := fun k hk hn =>
  (aa k (fun e => hn (.inl e))).trans (k1 k hk (fun e => hn (.inr (.inr (.inl e)))) (fun e => hn (.inr (.inl e))))
 refine ⟨⟨?_, ?_, ?_, ?_, ?_, ?_, ?_, h.ne⟩, ?_, ?_⟩
 ·show _ = T.ps ++ [y]
  rw [List.map_append, h.ps]; rfl
 ·show _ = T.ts ++ [f]
  rw [List.map_append, h.ts]; rfl
 ·have hb : w4.heap[tb]? = some (.cells #[gv, rv, vp, .map (some ma), .map (some mk)] 124 (0, 0)) := (k1 tb ltb (fun e => n1 e.symm) n3).trans h.box
  simp [World.setCell, Array.getElem?_modify, hb]
 ·rw [zkz, zrc, List.length_append]
  exact za2 ad (fun k hk => aa k (fun e => ah (by rw [<- e]; exact hk)))
 ·intro x hx
  rcases List.mem_append.1 hx with hx | hx
  ·exact za2 (h.own x hx) (fun k hk => ab k (za3 (h.own x hx) hk) (h.lists hx hk))
  ·rw [List.mem_singleton] at hx
   subst hx
   exact za2 hl (fun k hk => ab k (za3 hl hk) (ag k hk))
 ·show World.ownsMap _ _ _ _ ma (rs ++ [((y, f), lv)]).length (Dt.mp (Dt.zGu (T.ps ++ [y])))
  rw [Dt.zIq, Dt.zFy, List.length_append, <- h.len]
  exact zbc hm ((aa ma n1).trans ((k3 ma (by have := hm.lt; omega) n4).trans (hu.block ma hm.lt)))
 ·exact zbc h.kns ((aa mk n2).trans (k1 mk h.kns.lt (fun e => h.ne e.symm) n5))
 ·have T1 : Turned (zdn tb ma mk vp) W W2 := (Turned.refl _ _).grown hg (fun k hk => .inl (.inr (.inr (.inl (by simpa using hk.symm)))))
  have T2 : Turned (zdn tb ma mk vp) W w3 := T1.trans ⟨hu.os, hu.tape, hu.output, hu.size, fun k hk _ => hu.block k hk⟩ (fun _ _ hh => hh)
  exact ((T2.alloc o).grown ae (fun k hk => .inl (.inr (.inl hk)))).setCell (.inl (.inl rfl)) _
 ·intro k hk
  rcases ac k hk with e | e
  ·exact .inl e
  ·right; omega
end Go.Proofs.YtoaoajfjcfcmhaaGreatDoor
namespace Go.Proofs.YtoaoajfjcfcmhaaGreatDoor
open Go.RowKit
def LsN (w : World) (v : Value) (l : List Nat) : Prop := ∃ ao cap g off, v = .slice ao l.length cap /\ (0 < l.length -> ao = some ⟨g, off, none⟩) /\ ∀ i, i < l.length -> w.cell? ⟨g, off + i, none⟩ = some (.int .i64 ((l.getD i 0 : Nat) : Int))
theorem zh1 {w : World} {base n : Nat} {v : Value} {l : List Nat} (h : w.ownsRow base 3 1 v n (ints l)) (hn : l.length = n) : LsN w v l := by
 subst hn
 rcases za4 h with ⟨rfl, h0, _⟩ | ⟨g, cap, rfl, hr, _⟩
 ·exact ⟨none, 0, 0, 0, by rw [h0], fun h => by omega, fun i hi => by omega⟩
 ·exact ⟨_, _, g, 0, rfl, fun _ => rfl, fun i hi => by rw [Nat.zero_add]; exact hr.cell (zai hi)⟩
theorem zr3 {w : World} {v : Value} {l : List Nat} (n : Nat) (h : LsN w v l) (hl : l.length <= 1000000) :
  Calls prog 193 #[v, .int .i64 (n : Nat)] w fun r w' => (∃ z : Int, r = .returned (.int .i64 z) /\ (0 <= z ↔ n ∈ l)) /\ w = w' := by
 obtain ⟨ao, cap, g, off, rfl, ha, hx⟩ := h
 obtain ⟨m, hm⟩ := nm (l.length)
 rw [<- hm] at ha hl hx ⊢
 have HA := zh ha
 have HX := zh hx
 have HM := zh hm
 clear ha hx hm
 go_enter func193, ntmps193
 go_wp2_with fail
 go_loopw [8] (fun i wr => ∃ j : Nat, j <= m /\ i = .int .i64 (j : Int) /\ Hid (∀ k, k < j -> l.getD k 0 ≠ n) /\ wr = w) (fun i _ => m - (intOf i).toNat)
 case atStart => exact ⟨0, Nat.zero_le _, rfl, zh (fun k hk => by omega), rfl⟩
 case round =>
  obtain ⟨j, hj, rfl, HN, rfl⟩ := hrel
  by_cases hlt : j < m
  ·obtain rfl := HA.out (by omega)
   have c := HX.out j hlt
   obtain ⟨x, hx⟩ := nm (l.getD j 0)
   rw [<- hx] at c
   have aa := zh hx
   clear hx
   by_cases e : n = x
   ·have q : decide ((n : Int) = (x : Int)) = true := by simp [e]
    have q2 : ((n : Int) == (x : Int)) = true := by simp [e]
    have HR : Hid (n ∈ l) := zh (by
     have ab : j < l.length := by rw [<- HM.out]; exact hlt
     have := aa.out
     rw [e, this]
     simp only [List.getD, List.getElem?_eq_getElem ab, Option.getD_some]
     exact List.getElem_mem ab)
    clear e
    go_wp2_with fail
    go_ret
    exact ⟨⟨_, rfl, ⟨fun _ => HR.out, fun _ => by omega⟩⟩, rfl⟩
   ·have q : decide ((n : Int) = (x : Int)) = false := by simp; omega
    have q2 : ((n : Int) == (x : Int)) = false := by simp; omega
    have HE := zh e
    clear e
    go_wp2_with fail
    go_roundw
    case rel => exact ⟨j + 1, by omega, by go_num, zh (fun k hk => by
     rcases Nat.lt_succ_iff_lt_or_eq.1 hk with h1 | rfl
     ·exact HN.out k h1
     ·rw [<- aa.out]; exact fun h => HE.out h.symm), trivial⟩
    case measure => simp [intOf]; omega
  ·have HR : Hid (n ∉ l) := zh (fun h => by
    obtain ⟨k, hk, e⟩ := List.getElem_of_mem h
    have := HN.out k (by have := HM.out; omega)
    simp only [List.getD, List.getElem?_eq_getElem hk, Option.getD_some] at this
    exact this e)
   go_wp2_with fail
   go_ret
   exact ⟨⟨_, rfl, ⟨fun h => absurd h (by decide), fun h => absurd h HR.out⟩⟩, rfl⟩
theorem zlr {w : World} {v : Value} {l : List Nat} (n : Nat) (h : LsN w v l) (hl : l.length <= 1000000) :
  Calls prog 161 #[v, .int .i64 (n : Nat)] w fun r w' => r = .returned (.bool (decide (n ∈ l))) /\ w = w' := by
 have HI := zh (zr3 n h hl)
 clear h hl
 go_enter func161, ntmps161
 go_wp2_with (go_at_call 193; refine HI.out.mono ?_; rintro r y ⟨⟨z, rfl, hz⟩, rfl⟩; (have HZ := zh hz); clear hz)
 go_ret
 exact ⟨zao (by simpa using HZ.out), rfl⟩
end Go.Proofs.YtoaoajfjcfcmhaaGreatDoor
namespace Go.Proofs.YtoaoajfjcfcmhaaGreatDoor
open Go.RowKit Go.Maps
theorem Tryz.zI9 : (prog.info? 81).map (fun i => (i.zero, i.size, i.bytes)) = some (some (.agg #[.int .i64 0, .int .i64 0]), 2, 16) := by kernel_rfl
def zfl (base : Nat) (l : List (Int × Int)) (w : World) (v : Value) (r : Ending) (w' : World) : Prop :=
 ∃ v', r = .returned v' /\ w'.ownsRow base 81 2 v' l.length (za7 l) /\ Turned (fun k => v.ownBlock = some k) w w' /\ ∀ k, v'.ownBlock = some k -> v.ownBlock = some k \/ w.heap.size <= k
theorem zEp.part {w : World} {tb ma mk : Nat} {gv rv vp : Value} {rs : List DRow} {T : Dt.Tl} (h : zEp w tb gv rv vp ma mk rs T) {i : Nat} (hi : i < T.ps.length) :
  ∃ g cap lv, vp = .slice (some ⟨g, 0, none⟩) rs.length cap /\ w.cell? ⟨g, i * 4, none⟩ = some (.int .i64 (T.ps.getD i ((0, 0), [])).1.1) /\ w.cell? ⟨g, i * 4 + 1, none⟩ = some (.int .i64 (T.ps.getD i ((0, 0), [])).1.2) /\
   w.cell? ⟨g, i * 4 + 2, none⟩ = some lv /\ LsN w lv (T.ps.getD i ((0, 0), [])).2 /\ w.cell? ⟨g, i * 4 + 3, none⟩ = some (.int .i64 ((Dt.size (T.ts.getD i []) : Nat) : Int)) /\ ∀ k, lv.ownBlock = some k -> ∃ cur, w.heap[k]? = some (.cells cur 3 (0, 0)) := by
 have hl := h.len
 have aa : i < rs.length := by omega
 have e1 : T.ps.getD i ((0, 0), []) = rs[i].1.1 := by rw [<- h.ps]; simp [List.getD, aa]
 have e2 : T.ts.getD i [] = rs[i].1.2 := by rw [<- h.ts]; simp [List.getD, aa]
 rcases za4 h.row with ⟨_, h0, _⟩ | ⟨g, cap, rfl, hr, _⟩
 ·omega
 ·have hx := h.own _ (List.getElem_mem aa)
  have hc := fun c (hc : c < 4) => zjj rs i c aa hc
  rw [e1, e2]
  exact ⟨g, cap, rs[i].2, rfl, hr.cell (hc 0 (by omega)), hr.cell (hc 1 (by omega)), hr.cell (hc 2 (by omega)), zh1 hx rfl, hr.cell (hc 3 (by omega)), fun k hk => za5 hx hk⟩
theorem LsN.cell {w : World} {g off m cap : Nat} {l : List Nat} (h : LsN w (.slice (some ⟨g, off, none⟩) m cap) l) {i : Nat} (hi : i < l.length) : w.cell? ⟨g, off + i, none⟩ = some (.int .i64 ((l.getD i 0 : Nat) : Int)) := by
 obtain ⟨ao, c, g', off', e, ha, hx⟩ := h
 simp only [Value.slice.injEq] at e
 have h1 := ha (by omega)
 rw [<- e.1] at h1
 simp only [Option.some.injEq, Addr.mk.injEq, and_true] at h1
 rw [h1.1, h1.2]
 exact hx i hi
def row0 : DRow := (((((0 : Int), (0 : Int)), ([] : List Nat)), ([] : List Dt.Nd)), undef)
theorem zEp.zKd {w : World} {tb ma mk : Nat} {gv rv vp : Value} {rs : List DRow} {T : Dt.Tl} (h : zEp w tb gv rv vp ma mk rs T) {i : Nat} (hi : i < T.ps.length) :
  ∃ g cap, vp = .slice (some ⟨g, 0, none⟩) rs.length cap /\ w.cell? ⟨g, i * 4, none⟩ = some (.int .i64 (T.ps.getD i ((0, 0), [])).1.1) /\ w.cell? ⟨g, i * 4 + 1, none⟩ = some (.int .i64 (T.ps.getD i ((0, 0), [])).1.2) /\
   w.cell? ⟨g, i * 4 + 2, none⟩ = some (rs.getD i row0).2 /\ LsN w (rs.getD i row0).2 (T.ps.getD i ((0, 0), [])).2 := by
 have hl := h.len
 have aa : i < rs.length := by omega
 have e1 : T.ps.getD i ((0, 0), []) = rs[i].1.1 := by rw [<- h.ps]; simp [List.getD, aa]
 have e3 : rs.getD i row0 = rs[i] := by simp [List.getD, aa]
 rcases za4 h.row with ⟨_, h0, _⟩ | ⟨g, cap, rfl, hr, _⟩
 ·omega
 ·have hx := h.own _ (List.getElem_mem aa)
  have hc := fun c (hc : c < 4) => zjj rs i c aa hc
  rw [e1, e3]
  exact ⟨g, cap, rfl, hr.cell (hc 0 (by omega)), hr.cell (hc 1 (by omega)), hr.cell (hc 2 (by omega)), zh1 hx rfl⟩
def zcb (ts : List (List Dt.Nd)) (l : List Nat) (j : Nat) : List Dt.Nd := ((l.take j).map fun i => ts.getD i []).flatten
theorem zpn (ts : List (List Dt.Nd)) {l : List Nat} {j : Nat} (h : j < l.length) : zcb ts l (j + 1) = zcb ts l j ++ ts.getD (l.getD j 0) [] := by
 unfold zcb
 rw [List.take_succ_eq_append_getElem h, List.map_append, List.flatten_append]
 have e : l.getD j 0 = l[j] := by simp [List.getD, h]
 rw [e]
 simp
theorem zun (ts : List (List Dt.Nd)) (x : Dt.Nd) (l : List Nat) (j : Nat) : (zcb ts l j).length + 1 <= (Dt.made ts x l).length := by
 have e : Dt.made ts x l = zcb ts l j ++ ((l.drop j).map fun i => ts.getD i []).flatten ++ [x] := by
  unfold zcb Dt.made
  rw [<- List.flatten_append, <- List.map_append, List.take_append_drop]
 rw [e]
 simp only [List.length_append, List.length_cons, List.length_nil]
 omega
theorem zs6 (ts : List (List Dt.Nd)) (x : Dt.Nd) (l : List Nat) : zcb ts l l.length ++ [x] = Dt.made ts x l := by
 unfold zcb Dt.made
 rw [List.take_length]
structure zEq (base : Nat) (w wr : World) (v o : Value) (n : Nat) (l : List (Int × Int)) : Prop where
 own : wr.ownsRow base 81 2 o n (za7 l)
 turn : Turned (fun k => v.ownBlock = some k) w wr
 loc : ∀ k, o.ownBlock = some k -> v.ownBlock = some k \/ w.heap.size <= k
theorem zEq.tl {base : Nat} {w wr : World} {v o : Value} {n : Nat} {l k : List (Int × Int)} {tb ma mk : Nat} {gv rv vp : Value} {rs : List DRow} {T : Dt.Tl} (h : zEq base w wr v o n l) (hv : w.ownsRow base 81 2 v k.length (za7 k))
  (ht : zEp w tb gv rv vp ma mk rs T) (hf : ∀ b, zgr tb ma mk vp rs b -> b < base) : zEp wr tb gv rv vp ma mk rs T :=
 ht.keep (fun b hb => h.turn.block b (ht.lt hb) (fun e => by have := (hv.lt b e).1; have := hf b hb; omega))
theorem zEq.next {base : Nat} {w wr w2 : World} {v o o2 : Value} {n m : Nat} {l l2 : List (Int × Int)} (h : zEq base w wr v o n l) (ho : w2.ownsRow base 81 2 o2 m (za7 l2)) (ht : Turned (fun k => o.ownBlock = some k) wr w2)
  (hl : ∀ k, o2.ownBlock = some k -> o.ownBlock = some k \/ wr.heap.size <= k) : zEq base w w2 v o2 m l2 := by
 have hs := h.turn.size
 refine ⟨ho, h.turn.trans ht (fun i hi hk => ?_), fun k hk => ?_⟩
 ·rcases h.loc i hk with e | e
  ·exact e
  ·omega
 ·rcases hl k hk with e | e
  ·exact h.loc k e
  ·right; omega
theorem zuo {tb ma mk base : Nat} {gv rv vp : Value} {rs : List DRow} {T : Dt.Tl} (al : Dt.Table T.ps T.ts) (a7 : T.ps.length <= 1000000000000) (hf : ∀ b, zgr tb ma mk vp rs b -> b < base) :
  ∀ (n : Nat) (w : World) (v : Value) (k : List (Int × Int)), n < T.ps.length -> zEp w tb gv rv vp ma mk rs T -> w.ownsRow base 81 2 v k.length (za7 k) -> base <= w.heap.size -> k.length + (T.ts.getD n []).length <= 1000000 ->
  Calls prog 79 #[.pointer (some ⟨tb, 0, none⟩), .int .i64 (n : Nat), v] w (zfl base (k ++ T.ts.getD n []) w v) := by
 intro n
 induction n using Nat.strongRecOn with
 | ind n ih =>
 intro w v k hn ht hv hb ak
 obtain ⟨i0, hi, aS, aT, aU⟩ := info_parts Tryz.zI9
 have IH := zh ih
 clear ih
 obtain ⟨g, cap, aC, c0, c1, c2, aK⟩ := ht.zKd hn
 have t2 : w.cell? ⟨tb, 2, none⟩ = some vp := by simp [World.cell?, ht.box]
 rw [aC] at t2
 have hN : rs.length = T.ps.length := ht.len
 obtain ⟨N, aD⟩ := nm (rs.length)
 rw [<- aD] at t2 hN
 obtain ⟨x, hx⟩ := nm ((T.ps.getD n ((0, 0), [])).1)
 obtain ⟨l, hl⟩ := nm ((T.ps.getD n ((0, 0), [])).2)
 obtain ⟨lv, ay⟩ := nm ((rs.getD n row0).2)
 have ac := al.eq n hn
 have ad := al.less n hn
 have am : (T.ps.getD n ((0, 0), [])).2.length <= 2 := by
  rw [(al.is n hn).2]; unfold Dt.ar; split <;> (try split) <;> omega
 rw [<- hx, <- hl] at ac
 rw [<- hl] at ad am
 rw [<- hx] at c0 c1
 rw [<- ay] at c2
 rw [<- hl, <- ay] at aK
 have aL : Hid (∀ wr, zEp wr tb gv rv vp ma mk rs T -> LsN wr lv l /\ ∃ g2 cap2, vp = .slice (some ⟨g2, 0, none⟩) N cap2 /\ wr.cell? ⟨g2, n * 4, none⟩ = some (.int .i64 x.1) /\ wr.cell? ⟨g2, n * 4 + 1, none⟩ = some (.int .i64 x.2)) := zh (fun wr aV => by
  obtain ⟨g2, cap2, e, d0, d1, _, ae⟩ := aV.zKd hn
  rw [<- hl, <- ay] at ae
  rw [<- hx] at d0 d1
  exact ⟨ae, g2, cap2, by rw [e, aD], d0, d1⟩)
 have a8 : n < N := by omega
 rw [ac] at ak ⊢
 obtain ⟨lo, lc, lg, loff, an, aE, aF⟩ := aK
 obtain ⟨m, hm⟩ := nm (l.length)
 rw [<- hm] at an aE aF am
 have A0 : zEq base w w v v k.length k := ⟨hv, Turned.refl _ _, fun k hk => .inl hk⟩
 obtain ⟨K, hK⟩ := nm (k.length)
 rw [<- hK] at A0
 obtain ⟨x1, x2⟩ := x
 simp only at c0 c1 aL
 have a9 := zh al
 have HF := zh hf
 have HT := zh ht
 have HV := zh hv
 have ao := zh ak
 have HM := zh hm
 have aA := zh hK
 have aq := zh ad
 have aW := zh aE
 have ba := zh aF
 have bb := zh aC
 have aX := zh hN
 have aM := zh hb
 subst an
 have aY := zh A0
 clear hx hl ay ac al hf ht hv ak hm hK ad aE aF aC hN aD A0 hn hb
 go_enter func79, ntmps79
 go_wp2_with fail
 go_loopw [18, 2] (fun i o wr => ∃ j : Nat, i = .int .i64 j /\ j <= m /\ Hid (zEq base w wr v o (K + (zcb T.ts l j).length) (k ++ zcb T.ts l j))) (fun i _ _ => m - (intOf i).toNat)
 case atStart => exact ⟨0, rfl, Nat.zero_le _, by simpa [zcb] using aY⟩
 case round =>
  obtain ⟨j, rfl, hj, HR⟩ := hrel
  have aB := HR.out.tl HV.out HT.out HF.out
  obtain ⟨ae, g2, cap2, aG, d0, d1⟩ := aL.out wr aB
  by_cases hlt : j < m
  ·obtain rfl := aW.out (by omega)
   obtain ⟨q, hq⟩ := nm (l.getD j 0)
   have au : j < l.length := by rw [<- HM.out]; exact hlt
   have aN : q ∈ l := by rw [hq]; simp only [List.getD, List.getElem?_eq_getElem au, Option.getD_some]; exact List.getElem_mem au
   have aO := aq.out q aN
   have cq := ae.cell au
   rw [<- hq] at cq
   have aa := zpn T.ts au
   rw [<- hq] at aa
   have aP := zun T.ts (x1, x2) l (j + 1)
   have aH := ao.out
   have aQ : K = k.length := aA.out
   have HI := zh (IH.out q aO wr _ (k ++ zcb T.ts l j) (by have := aX.out; omega) aB (by rw [List.length_append, <- aQ]; exact HR.out.own) (Nat.le_trans aM.out HR.out.turn.size) (by
    rw [aa, List.length_append] at aP
    rw [List.length_append]
    omega))
   have HS : Hid (k ++ zcb T.ts l (j + 1) = k ++ zcb T.ts l j ++ T.ts.getD q []) := zh (by rw [aa, List.append_assoc])
   clear hq au aN aO aa aP aH aQ
   go_wp2_with fail
   (with_reducible refine HI.out.mono ?_)
   rintro r w2 ⟨o2, rfl, ab, aR, ah⟩
   rw [<- HS.out] at ab
   have ai : (k ++ zcb T.ts l (j + 1)).length = K + (zcb T.ts l (j + 1)).length := by rw [List.length_append, aA.out]
   rw [ai] at ab
   have aZ := zh (HR.out.next ab aR ah)
   clear ab aR ah ai HI
   go_wp2_with fail
   go_roundw
   case rel => exact ⟨j + 1, by go_num, by omega, aZ⟩
   case measure => simp [intOf]; omega
  ·obtain rfl : j = m := by omega
   have ag := zs6 T.ts (x1, x2) l
   rw [<- HM.out] at ag
   have hR := HR.out
   obtain ⟨M, aI⟩ := nm (K + (zcb T.ts l j).length)
   rw [<- aI] at hR
   have a0 : M + 1 <= 1000000 := by
    have h1 := ao.out
    rw [<- ag, List.length_append, List.length_singleton, <- aA.out] at h1
    omega
   have t2' : wr.cell? ⟨tb, 2, none⟩ = some (.slice (some ⟨g2, 0, none⟩) N cap2) := by rw [<- aG]; simp [World.cell?, aB.box]
   obtain ⟨oa, oc, a1⟩ := za1 hR.own
   subst a1
   have bc : base <= wr.heap.size := Nat.le_trans aM.out hR.turn.size
   have bd := zh a0
   have a2 := zh aI
   have av := zh ag
   have aw := zh hR
   have e0 : ∀ o, (wr.alloc o).cell? ⟨g2, n * 4, none⟩ = some (.int .i64 x1) := fun o => ((Up.refl wr).alloc o).cell d0
   clear ag hR aI ae aB
   go_wp2_with (at_builtin; refine wpList_append_lies _ rfl _ _ 28 rfl base 81 i0 (.agg #[.int .i64 0, .int .i64 0]) 2 16 underlying28 hi aS aT aU rfl (by decide) (.slice oa M oc) M _ rfl (aw.out.own.alloc _) ⟨wr.heap.size, 0, none⟩ 1 1 [.int .i64 x1, .int .i64 x2] rfl rfl (zby _ _ _ _) (zg1 (x1, x2)) (by omega) (by unfold maxLen; omega) (by omega) (by simp only [World.size_alloc]; omega) _ rfl ?_; intro g9 c9 w9 aj af ax aJ; (have a3 := zh aj); (have a4 := zh af); (have a5 := zh ax); clear aj af ax aJ)
   go_ret
   have hE : (k ++ Dt.made T.ts (x1, x2) l).length = M + 1 := by rw [<- av.out, a2.out, aA.out]; simp only [List.length_append, List.length_singleton]; omega
   refine ⟨_, rfl, ?_, ?_, ?_⟩
   ·rw [hE, <- av.out, <- List.append_assoc, zb7]
    exact a3.out
   ·refine ((aw.out.turn.alloc _).grown a4.out (fun b hb => ?_))
    exact aw.out.loc b hb
   ·intro b hb
    rcases a5.out with e | e
    ·refine aw.out.loc b ?_
     rw [e]; exact hb
    ·right
     have h1 := aw.out.turn.size
     have a6 : g9 = b := by simpa [Value.ownBlock] using hb
     rw [<- a6, e]
     simp only [World.size_alloc]
     omega
theorem zeh (s : Sy.Lts) (q : Nat) (l : Int) : Dt.zD3 s q l = (Rd.byL (Sy.steps s q) l).map Int.toNat := by
 unfold Dt.zD3 Rd.byL
 rw [List.map_map]
 rfl
def zda (w : World) (rv : Value) (s : Sy.Lts) : Prop :=
 ∃ ao cap g off, rv = .slice ao s.n.toNat cap /\ (0 < s.n.toNat -> ao = some ⟨g, off, none⟩) /\ ∀ p, p < s.n.toNat -> ∃ h ro rc, w.cell? ⟨g, off + p, none⟩ = some (.slice (some ⟨h, ro, none⟩) s.n.toNat rc) /\
  ∀ q, q < s.n.toNat -> w.cell? ⟨h, ro + q, none⟩ = some (.int .i64 (Rd.rank s p q))
theorem zda.up {w w1 : World} {rv : Value} {s : Sy.Lts} (h : zda w rv s) (hu : Up w w1) : zda w1 rv s := by
 obtain ⟨ao, cap, g, off, e, ha, hx⟩ := h
 refine ⟨ao, cap, g, off, e, ha, fun p hp => ?_⟩
 obtain ⟨h, ro, rc, h1, h2⟩ := hx p hp
 exact ⟨h, ro, rc, hu.cell h1, fun q hq => hu.cell (h2 q hq)⟩
theorem zlv {w : World} {b : Nat} {rv : Value} {vs : List Value} {s : Sy.Lts} (ho : w.ownsRow b 27 1 rv s.n.toNat vs) (hr : zdu b w vs (ranks s)) : zda w rv s := by
 obtain ⟨hl, aa, -⟩ := hr
 rw [show (ranks s).length = s.n.toNat from znl s _] at hl aa
 rcases za4 ho with ⟨rfl, h0, _⟩ | ⟨g, cap, rfl, hR, _⟩
 ·exact ⟨none, 0, 0, 0, by rw [h0], fun h => by omega, fun p hp => by omega⟩
 ·refine ⟨_, cap, g, 0, rfl, fun _ => rfl, fun p hp => ?_⟩
  have ab := aa p hp
  rw [ztc hp, zi2] at ab
  have hv : vs[p]? = some (vs.getD p undef) := by simp [List.getD, hl, hp]
  have hc := hR.cell hv
  rcases za4 ab with ⟨_, h0, _⟩ | ⟨h, rc, e, ac, _⟩
  ·omega
  ·rw [e] at hc
   refine ⟨h, 0, rc, by rw [Nat.zero_add]; exact hc, fun q hq => ?_⟩
   rw [Nat.zero_add]
   exact ac.cell (by simp [ivs, zbx, hq])
theorem zmu (s : Sy.Lts) (x : Int × Int) (q : Nat) (k : Int) : Dt.tells s x q k = (Rd.byL (Sy.steps s q) x.1).all fun t => decide (0 <= Rd.rank s x.2.toNat t.toNat) && decide (Rd.rank s x.2.toNat t.toNat < k) := by
 unfold Dt.tells
 rw [zeh, List.all_map]
 rfl
theorem zvp {w : World} {tb p q : Nat} {rv : Value} {s : Sy.Lts} (h1 : w.cell? ⟨tb, 1, none⟩ = some rv) (hr : zda w rv s) (hp : p < s.n.toNat) (hq : q < s.n.toNat) (hn : s.n.toNat <= 1000) :
  Calls prog 77 #[.pointer (some ⟨tb, 0, none⟩), .int .i64 (p : Nat), .int .i64 (q : Nat)] w fun r w' => r = .returned (.bool (decide (Rd.rank s p q < 0))) /\ w = w' := by
 obtain ⟨ao, cap, g, off, rfl, ha, hx⟩ := hr
 obtain rfl := ha (by omega)
 obtain ⟨h, ro, rc, c1, aa⟩ := hx p hp
 have c2 := aa q hq
 obtain ⟨n, ab⟩ := nm (s.n.toNat)
 obtain ⟨z, hz⟩ := nm (Rd.rank s p q)
 rw [<- ab] at h1 c1 hp hq hn
 rw [<- hz] at c2 ⊢
 clear hx aa ab hz ha
 go_enter func77, ntmps77
 go_wp2_with fail
 go_ret
 exact ⟨rfl, rfl⟩
structure Tel (w0 : World) (tb B : Nat) (rv : Value) (ma mk : Nat) (s : Sy.Lts) (w : World) (vp : Value) (rs : List DRow) (T : Dt.Tl) : Prop where
 tl : zEp w tb (.pointer (some ⟨B, 0, none⟩)) rv vp ma mk rs T
 ok : T.Ok s
 up : Up w0 w
 lo : ∀ k, zdn tb ma mk vp k -> w0.heap.size <= k
structure zD9 (w0 : World) (tb B : Nat) (rv : Value) (ma mk : Nat) (s : Sy.Lts) (d e : Nat) (w : World) (vp : Value) (rs : List DRow) (T : Dt.Tl) (w' : World) (vp' : Value) (rs' : List DRow) (T' : Dt.Tl) : Prop where
 tel : Tel w0 tb B rv ma mk s w' vp' rs' T'
 go : T.To s 10003 d e T'
 turn : Turned (zdn tb ma mk vp) w w'
 blk : ∀ k, vp'.ownBlock = some k -> vp.ownBlock = some k \/ w.heap.size <= k
 foot : ∀ k, zgr tb ma mk vp' rs' k -> zgr tb ma mk vp rs k \/ w.heap.size <= k
section
variable {w0 w w1 w2 : World} {tb B ma mk d e d' e' : Nat} {rv vp vp1 vp2 : Value} {rs rs1 rs2 : List DRow} {s : Sy.Lts} {T T1 T2 : Dt.Tl}
theorem Tel.upto (h : Tel w0 tb B rv ma mk s w vp rs T) (hu : Up w w1) : Tel w0 tb B rv ma mk s w1 vp rs T := ⟨h.tl.up hu, h.ok, h.up.trans hu, h.lo⟩
theorem Tel.same (h : Tel w0 tb B rv ma mk s w vp rs T) (hu : Up w w1) : zD9 w0 tb B rv ma mk s 0 0 w vp rs T w1 vp rs T :=
 ⟨h.upto hu, Dt.Tl.To.refl _ _ _ _, hu.zHv, fun k hk => .inl hk, fun k hk => .inl hk⟩
theorem Tel.turned (h : Tel w0 tb B rv ma mk s w vp rs T) (ht : Turned (zdn tb ma mk vp) w w1) : Up w0 w1 := by
 have h1 := ((Turned.below h.up).trans ht (fun i _ hi => h.lo i hi))
 exact ⟨h1.os, h1.tape, h1.output, h1.size, fun i hi => h1.block i hi (by omega)⟩
theorem zD9.zKi (h : zD9 w0 tb B rv ma mk s d e w vp rs T w1 vp1 rs1 T1) {k : Nat} (hk : zdn tb ma mk vp1 k) : zdn tb ma mk vp k \/ w.heap.size <= k := by
 rcases hk with rfl | hk | rfl | rfl
 ·exact .inl (.inl rfl)
 ·rcases h.blk k hk with h1 | h1
  ·exact .inl (.inr (.inl h1))
  ·exact .inr h1
 ·exact .inl (.inr (.inr (.inl rfl)))
 ·exact .inl (.inr (.inr (.inr rfl)))
theorem zD9.trans (h : zD9 w0 tb B rv ma mk s d e w vp rs T w1 vp1 rs1 T1) (k : zD9 w0 tb B rv ma mk s d' e' w1 vp1 rs1 T1 w2 vp2 rs2 T2) :
  zD9 w0 tb B rv ma mk s (max d d') (e + e') w vp rs T w2 vp2 rs2 T2 := by
 have hs := h.turn.size
 refine ⟨k.tel, h.go.trans k.go, h.turn.trans k.turn (fun i hi ht => ?_), fun b hb => ?_, fun b hb => ?_⟩
 ·rcases h.zKi ht with h1 | h1
  ·exact h1
  ·omega
 ·rcases k.blk b hb with h1 | h1
  ·exact h.blk b h1
  ·right; omega
 ·rcases k.foot b hb with h1 | h1
  ·exact h.foot b h1
  ·right; omega
theorem zD9.mono (h : zD9 w0 tb B rv ma mk s d e w vp rs T w1 vp1 rs1 T1) (hd : d <= d') (he : e <= e') : zD9 w0 tb B rv ma mk s d' e' w vp rs T w1 vp1 rs1 T1 :=
 ⟨h.tel, h.go.mono hd he, h.turn, h.blk, h.foot⟩
theorem zD9.upto (h : zD9 w0 tb B rv ma mk s d e w vp rs T w1 vp1 rs1 T1) (hu : Up w1 w2) : zD9 w0 tb B rv ma mk s d e w vp rs T w2 vp1 rs1 T1 := by
 have := h.trans (h.tel.same hu)
 exact this.mono (by omega) (by omega)
end
end Go.Proofs.YtoaoajfjcfcmhaaGreatDoor
