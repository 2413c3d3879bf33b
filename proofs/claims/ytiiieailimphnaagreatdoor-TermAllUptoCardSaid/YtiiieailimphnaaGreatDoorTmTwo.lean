/- The plain law behind TermSames: the document's numbers of a store's terms in another store; terms put one behind the other into any store. No program in sight. The plain law behind the document's own Same: its list of numbers, round by round. No program in sight. The document's own Put, by its contract; New. Walks: Bad, Told of a fault of term; told of the law. Walks of the book: SameInts of lists of any length, LentInts, StaysInts. Memory behind the law's put: a store and the document's own beside each other; terms among the arguments that stay; cells of a list that are written over. -/
import Derived.Test.YtiiieailimphnaaGreatDoorTmRMem
import Derived.Test.YtiiieailimphnaaGreatDoorTmR9
import Derived.Test.YtiiieailimphnaaGreatDoorTmW15
import Derived.Test.YtiiieailimphnaaGreatDoorErrBare
import Derived.Test.YtiiieailimphnaaGreatDoorQuiet
import Derived.Test.YtiiieailimphnaaGreatDoorTmR7
import Derived.Test.YtiiieailimphnaaGreatDoorTmW9

namespace Go.Proofs.YtiiieailimphnaaGreatDoor.Tm

/-- A term that may not be put is not there. -/
theorem num_may {o : List T} (h : Inv o) (t : T) : (if t.may o.length = true then find o t else -1) = num o t := by
  by_cases hm : t.may o.length = true
  · rw [if_pos hm]; rfl
  · rw [if_neg hm]
    unfold num
    rw [if_neg (fun hin => hm (h.may_mem hin))]

theorem asL_succ {s o : List T} (ho : Inv o) {i : Nat} (hi : i < s.length) :
    asL s o (i + 1) = asL s o i ++ [if (s[i].renum (asL s o i)).may o.length = true then find o (s[i].renum (asL s o i)) else -1] := by
  rw [num_may ho]
  simp only [asL, List.getElem?_eq_getElem hi]

theorem asL_bound {s o : List T} (i : Nat) : ∀ x ∈ asL s o i, -1 ≤ x ∧ x < o.length ∨ x = -1 := by
  induction i with
  | zero => intro x hx; simp [asL] at hx
  | succ i ih =>
    intro x hx
    simp only [asL, List.mem_append, List.mem_singleton] at hx
    rcases hx with hx | rfl
    · exact ih x hx
    · cases s[i]? with
      | none => exact .inr rfl
      | some t =>
        simp only
        unfold num
        split
        · rename_i h
          have := List.idxOf_lt_length_iff.2 h
          left; omega
        · exact .inr rfl

/-- Same of the document. -/
theorem same_num {s o : List T} (hs : Inv s) (ho : Inv o) {a b : Nat} (ha : a < s.length) (hb : b < o.length) : decide ((asL s o (a + 1)).getD a (-1) = (b : Int)) = alike s o a b := by
  have := alike_num hs ho (a + 1) a b (by omega) ha hb
  cases h : alike s o a b
  · rw [h] at this
    simp at this
    simp [this]
  · rw [h] at this
    simpa using this

/-- The terms behind so many calls of Put, from a store on. -/
def runFrom (s l : List T) : List T := l.foldl (fun s t => (put s t).2) s

theorem runFrom_nil (s : List T) : runFrom s [] = s := rfl

theorem runFrom_take (s l : List T) (i : Nat) (h : i < l.length) : runFrom s (l.take (i + 1)) = (put (runFrom s (l.take i)) (l.getD i nilT)).2 := by
  have e : l.getD i nilT = l[i] := by simp [List.getD, h]
  rw [List.take_succ_eq_append_getElem h, runFrom, List.foldl_append, e]
  rfl

theorem runFrom_len (s l : List T) : s.length ≤ (runFrom s l).length ∧ (runFrom s l).length ≤ s.length + l.length := by
  obtain ⟨r, rfl⟩ : ∃ r : List T, l = r.reverse := ⟨l.reverse, by simp⟩
  induction r with
  | nil => simp [runFrom]
  | cons t r ih =>
    have e : runFrom s (t :: r).reverse = (put (runFrom s r.reverse) t).2 := by simp [runFrom]
    rw [e]
    have := put_len (s := runFrom s r.reverse) (t := t)
    simp only [List.reverse_cons, List.length_append, List.length_singleton]
    omega

end Go.Proofs.YtiiieailimphnaaGreatDoor.Tm

namespace Go.Proofs.YtiiieailimphnaaGreatDoor.Tm

/-- The list as it stands ahead of the round i: the numbers so far, then zeros. -/
def asF (s o : List T) (n i : Nat) : List Int := asL s o i ++ List.replicate (n - i) 0

theorem asF_len (s o : List T) {n i : Nat} (h : i ≤ n) : (asF s o n i).length = n := by simp [asF, asL_len]; omega

theorem asF_zero (s o : List T) (n : Nat) : asF s o n 0 = List.replicate n 0 := by simp [asF, asL]

theorem asF_end (s o : List T) (n : Nat) : asF s o n n = asL s o n := by simp [asF]

theorem asF_get (s o : List T) {n i j : Nat} (h : j < i) : (asF s o n i).getD j 0 = (asL s o i).getD j (-1) := by
  have hl : j < (asL s o i).length := by rw [asL_len]; exact h
  simp [asF, List.getD, List.getElem?_append, hl]

theorem asF_set (s o : List T) (ho : Inv o) {n i : Nat} (hi : i < s.length) (hn : i < n) {x : Int} (hx : x = if (s[i].renum (asL s o i)).may o.length = true then find o (s[i].renum (asL s o i)) else -1) : (asF s o n i).set i x = asF s o n (i + 1) := by
  unfold asF
  rw [asL_succ ho hi, ← hx]
  have e : n - i = (n - (i + 1)) + 1 := by omega
  rw [e, List.replicate_succ, List.set_append_right _ _ (by rw [asL_len]; exact Nat.le_refl _), asL_len, Nat.sub_self, List.set_cons_zero, List.append_assoc]
  rfl

theorem asF_set2 (s o : List T) (ho : Inv o) {n i : Nat} (hi : i < s.length) (hn : i < n) {x y : Int} (hx : x = if (s[i].renum (asL s o i)).may o.length = true then find o (s[i].renum (asL s o i)) else -1) : ((asF s o n i).set i y).set i x = asF s o n (i + 1) := by
  rw [List.set_set]
  exact asF_set s o ho hi hn hx

theorem asF_get2 (s o : List T) {n i j : Nat} {y : Int} (h : j < i) : ((asF s o n i).set i y).getD j 0 = (asL s o i).getD j (-1) := by
  rw [← asF_get s o (n := n) h]
  simp only [List.getD, List.getElem?_set_ne (show i ≠ j by omega)]

theorem asF_last {s o : List T} {a : Nat} : (asF s o (a + 1) (a + 1)).getD a 0 = (asL s o (a + 1)).getD a (-1) := asF_get s o (by omega)

theorem renum_34 {t : T} (aL : List Int) (h : t.kind = 3 ∨ t.kind = 4) : t.renum aL = { t with a := aL.getD t.a.toNat (-1), b := aL.getD t.b.toNat (-1) } := by rw [T.renum, if_pos h]
theorem renum_256 {t : T} (aL : List Int) (h : t.kind = 2 ∨ t.kind = 5 ∨ t.kind = 6) : t.renum aL = { t with a := aL.getD t.a.toNat (-1) } := by rw [T.renum, if_neg (by omega), if_pos h]
theorem renum_17 {t : T} (aL : List Int) (h : t.kind = 1 ∨ t.kind = 7) : t.renum aL = t := by rw [T.renum, if_neg (by omega), if_neg (by omega)]

theorem renum_lists (t : T) (aL : List Int) : (t.renum aL).names = t.names ∧ (t.renum aL).pairs = t.pairs ∧ (t.renum aL).kind = t.kind ∧ (t.renum aL).label = t.label := by
  unfold T.renum
  split
  · exact ⟨rfl, rfl, rfl, rfl⟩
  split
  · exact ⟨rfl, rfl, rfl, rfl⟩
  · exact ⟨rfl, rfl, rfl, rfl⟩

end Go.Proofs.YtiiieailimphnaaGreatDoor.Tm

namespace Go.Proofs.YtiiieailimphnaaGreatDoor
open Go.RowKit Go.Maps
set_option linter.unusedVariables false
set_option linter.unusedSimpArgs false

theorem refput_any {F : Nat → Prop} {w : World} {R : Nat} {s : List Tm.T} {t : Tm.T} {nv pv : Value} (hR : Rs F w R s) (h : TRead w t nv pv) (hs : s.length ≤ 1000) (hn : t.names.length ≤ 9223372036854775807) (hp : t.pairs.length ≤ 9223372036854775807) :
    Calls Tryz.prog 22 #[.pointer (some ⟨R, 0, none⟩), .agg #[.int .i64 t.kind, .int .i64 t.label, .int .i64 t.a, .int .i64 t.b, nv, pv]] w (RefPut F w R s t) := by
  cases hm : t.may s.length
  · exact refput_bad hR h hm hn hp
  · by_cases hin : t ∈ s
    · exact refput_had hR h hm hs hin
    · exact refput_new hR h hm hs hin

/-- What the document's New leaves. -/
def NewRef (w : World) (r : Ending) (w' : World) : Prop := ∃ R, r = .returned (.pointer (some ⟨R, 0, none⟩)) ∧ Rs (fun k => w.heap.size ≤ k) w' R [Tm.nilT] ∧ Up w w'

set_option maxHeartbeats 2000000 in
set_option maxRecDepth 100000 in
theorem refnew_any (w : World) : Calls Tryz.prog 7 #[] w (NewRef w) := by
  have h0 := rs_zero w
  have hU := (Up.refl w).alloc (.cells Tryz.zeroCells32 32)
  have HP := Lib.hid (refput_any (t := Tm.nilT) h0 ⟨lst_nil _, lsp_nil _⟩ (by decide) (by decide) (by decide))
  have HE : Hid (∀ r w1, RefPut (fun k => w.heap.size ≤ k) (w.alloc (.cells Tryz.zeroCells32 32)) w.heap.size [] Tm.nilT r w1 → r = .returned (.int .i64 0) ∧ Rs (fun k => w.heap.size ≤ k) w1 w.heap.size [Tm.nilT] ∧ Up w w1) := Lib.hid (fun r w1 h => by
    have e : Tm.put [] Tm.nilT = (some 0, [Tm.nilT]) := by decide
    obtain ⟨h1, h2, h3⟩ := h
    rw [e] at h1 h2
    have s1 := hU.size
    refine ⟨h1, h2.mono (fun k _ hk => by rcases hk with hk | hk; exact hk; exact Nat.le_trans s1 hk), ?_⟩
    have ht' : Turned (fun k => w.heap.size ≤ k) w w1 := (Turned.below hU).trans h3 (fun i _ hi => hi)
    exact ⟨ht'.os, ht'.tape, ht'.output, ht'.size, fun i hi => ht'.block i hi (by omega)⟩)
  unfold Tm.nilT at HP
  clear h0 hU
  go_enter Tryz.func7, Tryz.ntmps7
  go_wp2_with fail
  (with_reducible refine HP.out.mono ?_)
  rintro e w1 hd
  obtain ⟨rfl, h2, h3⟩ := HE.out _ _ hd
  clear hd
  go_wp2_with fail
  go_ret
  exact ⟨_, rfl, h2, h3⟩

end Go.Proofs.YtiiieailimphnaaGreatDoor

namespace Go.Proofs.YtiiieailimphnaaGreatDoor
open Go.RowKit Go.Maps
set_option linter.unusedVariables false
set_option linter.unusedSimpArgs false

theorem quiet_left {P : Program} {f : FuncId} {args : Array Value} {w : World} {n : Nat} {v : Value}
    (h : Calls P f args (w.drewN n) fun e w' => e = .returned v ∧ w.drewN n = w') : Calls P f args (w.drewN n) fun e w' => e = .returned v ∧ ∃ m, w' = w.drewN m :=
  h.mono fun _ _ ⟨he, hm⟩ => ⟨he, n, hm.symm⟩

theorem quiet_add_left {P : Program} {f : FuncId} {args : Array Value} {w : World} {a n : Nat} {v : Value}
    (h : Calls P f args (w.drewN (a + n)) fun e w' => e = .returned v ∧ w.drewN (a + n) = w') :
    Calls P f args (w.drewN (a + n)) fun e w'' => e = .returned v ∧ ∃ m, w'' = w.drewN (a + m) :=
  h.mono fun _ _ ⟨he, hm⟩ => ⟨he, n, hm.symm⟩

theorem Tryz.asFault (v : Value) (w : World) : (Instr.typeAssert (.iface 120 v) 51 120 true).run Tryz.prog w = .ok (.tuple #[v, .bool true]) w := by kernel_rfl
theorem Tryz.asNoFault (v : Value) (w : World) : (Instr.typeAssert (.iface 214 v) 51 120 true).run Tryz.prog w = .ok (.tuple #[.pointer none, .bool false]) w := by kernel_rfl

/-- "refine " -/
def layersRef : ByteArray := { data := #[114, 101, 102, 105, 110, 101, 32] }

/-- "term " -/
def layersTerm : ByteArray := { data := #[116, 101, 114, 109, 32] }

set_option maxHeartbeats 1000000 in
theorem bad_any (k : Int) (w : World) :
    Calls Tryz.prog 32 #[.string layerTerm, .int .i64 k] w fun r w' => r = .returned (.agg #[.int .i64 k, .int .i64 0, .int .i64 0, .string layersTerm]) ∧ Up w w' := by
  unfold layerTerm
  go_enter Tryz.func32, Tryz.ntmps32
  go_wp2_with fail
  apply bodyPost_ret
  · (simp [results, Tryz.results32, go_sem]; rfl)
  · rfl
  · exact ⟨rfl, by repeat (first | (with_reducible exact Up.refl _) | (with_reducible apply Up.drew) | (with_reducible apply Up.alloc))⟩

set_option maxHeartbeats 4000000 in
set_option maxRecDepth 100000 in
theorem told_fault {w : World} (F : Nat) (a : Addr) (code : Int) (h0 : 1 ≤ code) (h1 : code ≤ 100) (hF : w.heap[F]? = some (.cells #[.string layerTerm, .int .i64 0, .int .i64 0, .iface 214 (.pointer (some a))] 123 (0, 0)))
    (hK : ∀ (w1 : World) (v : Value), Up w w1 → Wraps w1 v a → Calls Tryz.prog 90 #[v] w1 fun r w' => r = .returned (.int .i64 code) ∧ w1 = w') :
    Calls Tryz.prog 31 #[.iface 120 (.pointer (some ⟨F, 0, none⟩)), .agg #[.int .i64 code, .int .i64 0, .int .i64 0, .string layersTerm]] w fun r w' => r = .returned (.bool true) ∧ Up w w' := by
  have c0 : w.cell? ⟨F, 0, none⟩ = some (.string layerTerm) := by simp [World.cell?, hF]
  have c1 : w.cell? ⟨F, 1, none⟩ = some (.int .i64 0) := by simp [World.cell?, hF]
  have c2 : w.cell? ⟨F, 2, none⟩ = some (.int .i64 0) := by simp [World.cell?, hF]
  have c3 : w.cell? ⟨F, 3, none⟩ = some (.iface 214 (.pointer (some a))) := by simp [World.cell?, hF]
  have HK1 : Hid (∀ w1, Up w w1 → Calls Tryz.prog 90 #[.iface 120 (.pointer (some ⟨F, 0, none⟩))] w1 fun r w' => r = .returned (.int .i64 code) ∧ w1 = w') := fun w1 hu => hK w1 _ hu (.inr ⟨F, rfl, hu.cell c3⟩)
  have HK2 : Hid (∀ w1, Up w w1 → Calls Tryz.prog 90 #[.iface 214 (.pointer (some a))] w1 fun r w' => r = .returned (.int .i64 code) ∧ w1 = w') := fun w1 hu => hK w1 _ hu (.inl rfl)
  have hFl := (Array.getElem?_eq_some_iff.1 hF).1
  have q0 : (code == 0) = false := by simp; omega
  have qc : (code != code) = false := by simp
  have qd : (code == code) = true := by simp
  unfold layerTerm at c0
  have aF := Tryz.asFault
  have aN := Tryz.asNoFault
  clear hK hF
  go_enter Tryz.func31, Tryz.ntmps31
  go_wp2_with fail
  go_quiet ((go_at_call 90; exact quiet_left (HK1.out _ (by repeat (first | (with_reducible exact Up.refl _) | (with_reducible apply Up.drewN) | (with_reducible apply Up.drew) | (with_reducible apply Up.alloc))))))
  go_wp2_with fail
  refine wp_loop_rounds 2 ?_
  rw [rounds_succ]
  go_wp2_with fail
  go_quiet (fail)
  go_wp2_with fail
  rw [rounds_succ]
  go_wp2_with fail
  rw [show (({ data := #[] } : ByteArray) ++ { data := #[116, 101, 114, 109] } ++ { data := #[32] }) = layersTerm from by decide]
  have hq : (layersTerm == layersTerm) = true := by decide
  go_quiet ((go_at_call 90; exact quiet_add_left (HK2.out _ (by repeat (first | (with_reducible exact Up.refl _) | (with_reducible apply Up.drewN) | (with_reducible apply Up.drew) | (with_reducible apply Up.alloc))))))
  go_wp2_with fail
  go_ret
  exact ⟨rfl, by repeat (first | (with_reducible exact Up.refl _) | (with_reducible apply Up.drewN) | (with_reducible apply Up.drew) | (with_reducible apply Up.alloc))⟩


/-- The three sentinels, told apart. -/
structure Sts (w : World) (a1 a2 a3 : Addr) : Prop where
  s1 : Sent w 0 a1
  s2 : Sent w 2 a2
  s3 : Sent w 1 a3
  n1 : a3 ≠ a1
  n2 : a3 ≠ a2

theorem Sts.up {w w' : World} {a1 a2 a3 : Addr} (h : Sts w a1 a2 a3) (hu : Up w w') : Sts w' a1 a2 a3 := ⟨h.s1.below hu, h.s2.below hu, h.s3.below hu, h.n1, h.n2⟩

theorem told_none (w : World) : Calls Tryz.prog 12 #[.nilIface, .int .i64 0] w (Done w) := by
  go_enter Tryz.func12, Tryz.ntmps12
  go_wp2_with fail
  go_ret
  exact ⟨rfl, Up.refl _⟩

set_option maxHeartbeats 2000000 in
theorem told_term {w : World} {F : Nat} {a : Addr} (code : Int) (h0 : 1 ≤ code) (h1 : code ≤ 100) (hF : FaultT w F 214 (.pointer (some a)))
    (hK : ∀ (w1 : World) (v : Value), Up w w1 → Wraps w1 v a → Calls Tryz.prog 90 #[v] w1 fun r w' => r = .returned (.int .i64 code) ∧ w1 = w') :
    Calls Tryz.prog 12 #[.iface 120 (.pointer (some ⟨F, 0, none⟩)), .int .i64 code] w (Done w) := by
  have HT : Hid (∀ w1, Up w w1 → Calls Tryz.prog 31 #[.iface 120 (.pointer (some ⟨F, 0, none⟩)), .agg #[.int .i64 code, .int .i64 0, .int .i64 0, .string layersTerm]] w1 fun r w' => r = .returned (.bool true) ∧ Up w1 w') := fun w1 hu =>
    told_fault F a code h0 h1 (hF.up hu) (fun w2 v hu2 hv => hK w2 v (hu.trans hu2) hv)
  have HB := Lib.hid (bad_any code w)
  have q0 : (code == 0) = false := by simp; omega
  clear hF hK
  unfold layerTerm at HB
  go_enter Tryz.func12, Tryz.ntmps12
  go_wp2_with (first
    | (go_at_call 32; refine HB.out.mono ?_; rintro r w1 ⟨rfl, hu1⟩)
    | (go_at_call 31; refine (HT.out _ hu1).mono ?_; rintro r w2 ⟨rfl, hu2⟩))
  go_ret
  exact ⟨rfl, hu1.trans hu2⟩

theorem told_arg {w : World} {F : Nat} {a1 a2 a3 : Addr} (hF : FaultT w F 214 (.pointer (some a1))) (hS : Sts w a1 a2 a3) :
    Calls Tryz.prog 12 #[.iface 120 (.pointer (some ⟨F, 0, none⟩)), .int .i64 1] w (Done w) :=
  told_term 1 (by omega) (by omega) hF (fun w1 v hu hv => code_1 hv (hS.up hu).s1)

theorem told_index {w : World} {F : Nat} {a1 a2 a3 : Addr} (hF : FaultT w F 214 (.pointer (some a3))) (hS : Sts w a1 a2 a3) :
    Calls Tryz.prog 12 #[.iface 120 (.pointer (some ⟨F, 0, none⟩)), .int .i64 3] w (Done w) :=
  told_term 3 (by omega) (by omega) hF (fun w1 v hu hv => code_3 hv (hS.up hu).s1 (hS.up hu).s2 (hS.up hu).s3 hS.n1 hS.n2)

end Go.Proofs.YtiiieailimphnaaGreatDoor

namespace Go.Proofs.YtiiieailimphnaaGreatDoor
open Go.RowKit Go.Maps
set_option linter.unusedVariables false
set_option linter.unusedSimpArgs false

set_option maxHeartbeats 1000000 in
set_option maxRecDepth 100000 in
theorem sameInts_big {v u : Value} {xs : List Int} {w : World} (hm : xs.length ≤ 4611686018427387904) (hv : Lst w v xs) (hu : Lst w u xs) :
    Calls Tryz.prog 14 #[v, u] w (Same w true) := by
  obtain ⟨ao, c, g, off, rfl, ha, hx⟩ := hv
  obtain ⟨bo, d, h, off2, rfl, hb, hy⟩ := hu
  have HX := Lib.hid hx
  have HY := Lib.hid hy
  have HA := Lib.hid ha
  have HB := Lib.hid hb
  obtain ⟨n, hn⟩ : ∃ n, n = xs.length := ⟨_, rfl⟩
  rw [← hn] at hm HA HB ⊢
  have HN := Lib.hid hn
  have qn : ((n : Int) != (n : Int)) = false := by simp
  clear hn hx hy ha hb
  go_enter Tryz.func14, Tryz.ntmps14
  go_wp2_with fail
  go_loopw [5] (fun i wr => ∃ j q : Nat, j ≤ n ∧ i = .int .i64 j ∧ wr = w.drewN q) (fun i _ => n - (intOf i).toNat)
  case atStart => exact ⟨0, 0, Nat.zero_le _, rfl, rfl⟩
  case round =>
    obtain ⟨j, q, hj, rfl, rfl⟩ := hrel
    by_cases hlt : j < n
    · obtain rfl := HA.out (by omega)
      obtain rfl := HB.out (by omega)
      have cx := HX.out j (by rw [← HN.out]; exact hlt)
      have cy := HY.out j (by rw [← HN.out]; exact hlt)
      obtain ⟨x, hxe⟩ : ∃ x, x = xs.getD j 0 := ⟨_, rfl⟩
      rw [← hxe] at cx cy
      have qx : (x == x) = true := by simp
      clear hxe
      go_wp2_with fail
      go_quiet (fail)
      go_wp2_with fail
      go_roundw
      case rel => exact ⟨j + 1, _, by omega, by go_num, rfl⟩
      case measure => simp [intOf]; omega
    · obtain rfl : j = n := by omega
      go_wp2_with fail
      go_ret
      exact ⟨rfl, _, rfl⟩

/-- Numbers with room behind them, in which marks stand. -/
def LentAt (w : World) (xs : List Int) (v : Value) (g cap : Nat) : Prop :=
  v = .slice (some ⟨g, 0, none⟩) xs.length cap ∧ xs.length + 2 ≤ cap ∧ cap ≤ maxLen ∧ Row w g 3 cap (vals xs ++ [.int .i64 (-77), .int .i64 (-78)])

theorem LentAt.lst {w : World} {xs : List Int} {v : Value} {g cap : Nat} (h : LentAt w xs v g cap) : Lst w v xs := by
  obtain ⟨rfl, h1, _, hr⟩ := h
  refine ⟨_, _, g, 0, rfl, fun _ => rfl, fun i hi => ?_⟩
  rw [Nat.zero_add]
  exact hr.cell (by rw [List.getElem?_append_left (by rw [vals_length]; exact hi)]; exact vals_get hi)

theorem LentAt.keep {w w' : World} {xs : List Int} {v : Value} {g cap : Nat} (h : LentAt w xs v g cap) (hk : w'.heap[g]? = w.heap[g]?) : LentAt w' xs v g cap :=
  ⟨h.1, h.2.1, h.2.2.1, h.2.2.2.keep hk⟩

def LentDone (w : World) (xs : List Int) (r : Ending) (w' : World) : Prop := ∃ v g cap, r = .returned v ∧ LentAt w' xs v g cap ∧ w.heap.size ≤ g ∧ Up w w'

theorem cells_new2 (w : World) (a b : Value) (t : TypeId) : ∀ j u, ([a, b] : List Value)[j]? = some u → (w.alloc (.cells #[a, b] t)).cell? ((⟨w.heap.size, 0, none⟩ : Addr).add j) = some u := by
  intro j u hj
  match j, hj with
  | 0, hj => simp at hj; subst hj; simp [Addr.add]
  | 1, hj => simp at hj; subst hj; simp [Addr.add]
  | j + 2, hj => simp at hj

set_option maxHeartbeats 1000000 in
set_option maxRecDepth 100000 in
theorem lent_any {u : Value} {xs : List Int} {w : World} (hf : xs.length * 8 ≤ 140737488351232) (hu : Lst w u xs) :
    Calls Tryz.prog 23 #[u] w (LentDone w xs) := by
  obtain ⟨i0, hi, hz0, hz1, hz2⟩ := info_parts Tryz.intInfo'
  obtain ⟨ao, c, g, off, rfl, ha, hx⟩ := hu
  obtain ⟨n, hn⟩ : ∃ n, n = xs.length := ⟨_, rfl⟩
  rw [← hn] at hf ha ⊢
  have HA : Hid (ao = none → n = 0) := Lib.hid (fun e => by
    rcases Nat.eq_zero_or_pos n with h | h
    · exact h
    · have := ha h; rw [e] at this; cases this)
  have HL : Hid ((vals xs).length = n * 1) := Lib.hid (by rw [vals_length, hn, Nat.mul_one])
  have HX : Hid (∀ ad, ao = some ad → ∀ j u, (vals xs)[j]? = some u → w.cell? (ad.add j) = some u) := Lib.hid (fun ad e j u hu => by
    have hjl : j < n := by have := (List.getElem?_eq_some_iff.1 hu).1; rw [vals_length] at this; omega
    have := ha (by omega)
    rw [e] at this; cases this
    exact vals_at hx j u hu)
  have HN := Lib.hid hn
  clear hn ha hx
  go_enter Tryz.func23, Tryz.ntmps23
  go_wp2_with (first
    | (at_builtin; refine wpList_append_fresh _ rfl _ _ 29 rfl 3 i0 _ 1 8 Tryz.underlying29 hi hz0 hz1 hz2 rfl (by decide) rfl ao n c rfl (vals xs) HA.out HL.out HX.out (vals_oneCell _) (by unfold maxLen; omega) (by omega) ?_; intro v1 w1 hown1 hU1; (obtain ⟨p1, k1, rfl⟩ := owns_shape' hown1); (have hbase : w.heap.size ≤ w1.heap.size := hU1.size))
    | (at_builtin; refine wpList_append_own _ rfl _ _ 29 rfl w.heap.size 3 i0 _ 1 8 Tryz.underlying29 hi hz0 hz1 hz2 rfl (by decide) (.slice p1 n k1) n _ rfl (hown1.alloc _) ⟨w1.heap.size, 0, none⟩ 2 2 [.int .i64 (-77), .int .i64 (-78)] rfl rfl (cells_new2 _ _ _ _) (by intro u hu; simp at hu; rcases hu with rfl | rfl <;> rfl) (by unfold maxLen; omega) (by omega) (by simp; omega) ?_; intro v2 w2 hown2 hgrow2 hnil2; (rcases owns_cases hown2 with ⟨_, h0, _⟩ | ⟨g2, cap2, rfl, hr2, hc2, hm2, -⟩); (exact absurd h0 (by omega)); (have hg2 := (hown2.lt g2 rfl).1); (replace hgrow2 := Lib.hid hgrow2); (replace hown2 := Lib.hid hown2); (replace hr2 := Lib.hid hr2)))
  go_ret
  refine ⟨_, g2, cap2, rfl, ⟨by rw [← HN.out]; rfl, by rw [← HN.out]; exact hc2, hm2, by have := hr2.out; rwa [Nat.mul_one] at this⟩, hg2, (hU1.alloc _).grown hgrow2.out (fun k hk => (hown1.lt k hk).1)⟩

set_option maxHeartbeats 1000000 in
set_option maxRecDepth 100000 in
theorem stays_any {v u : Value} {xs : List Int} {w : World} {g cap : Nat} (hm : xs.length ≤ 4611686018427387904) (hL : LentAt w xs v g cap) (hu : Lst w u xs) :
    Calls Tryz.prog 24 #[v, u] w (Same w true) := by
  have HS := Lib.hid (sameInts_big hm hL.lst hu)
  obtain ⟨rfl, hc, hcm, hr⟩ := hL
  obtain ⟨bo, d, h, off2, rfl, -⟩ := hu
  obtain ⟨n, hn⟩ : ∃ n, n = xs.length := ⟨_, rfl⟩
  have c1 : w.cell? ⟨g, n, none⟩ = some (.int .i64 (-77)) := hr.cell (by rw [List.getElem?_append_right (by rw [vals_length, hn]; exact Nat.le_refl _), vals_length, hn, Nat.sub_self]; rfl)
  have c2 : w.cell? ⟨g, n + 1, none⟩ = some (.int .i64 (-78)) := hr.cell (by rw [List.getElem?_append_right (by rw [vals_length, hn]; omega), vals_length, hn, Nat.add_sub_cancel_left]; rfl)
  rw [← hn] at hm hc HS ⊢
  unfold maxLen at hcm
  clear hr hn
  go_enter Tryz.func24, Tryz.ntmps24
  go_wp2_with (go_at_call 14; (with_reducible refine HS.out.mono ?_); rintro r w1 ⟨rfl, q, rfl⟩)
  go_ret
  exact ⟨rfl, _, rfl⟩

end Go.Proofs.YtiiieailimphnaaGreatDoor

namespace Go.Proofs.YtiiieailimphnaaGreatDoor
open Go.RowKit Go.Maps
set_option linter.unusedVariables false
set_option linter.unusedSimpArgs false

/-- Two stores, their blocks apart, each among its own ones and new ones. -/
structure Two (F G : Nat → Prop) (w : World) (B R : Nat) (wr : World) (s r : List Tm.T) (F' G' : Nat → Prop) : Prop where
  f : ∀ k, F' k → F k ∨ w.heap.size ≤ k
  g : ∀ k, G' k → G k ∨ w.heap.size ≤ k
  apart : ∀ k, F' k → ¬ G' k
  lt : ∀ k, F' k ∨ G' k → k < wr.heap.size
  st : St F' wr B s
  rs : Rs G' wr R r
  t : Turned (fun k => F k ∨ G k) w wr

theorem Two.start {F G : Nat → Prop} {w : World} {B R : Nat} {s r : List Tm.T} (hs : St F w B s) (hr : Rs G w R r) (hd : ∀ k, F k → ¬ G k) (hl : ∀ k, F k ∨ G k → k < w.heap.size) : Two F G w B R w s r F G :=
  ⟨fun _ h => .inl h, fun _ h => .inl h, hd, hl, hs, hr, Turned.refl _ _⟩

theorem Two.up {F G F' G' : Nat → Prop} {w wr w2 : World} {B R : Nat} {s r : List Tm.T} (h : Two F G w B R wr s r F' G') (hu : Up wr w2) : Two F G w B R w2 s r F' G' :=
  ⟨h.f, h.g, h.apart, fun k hk => Nat.lt_of_lt_of_le (h.lt k hk) hu.size, h.st.up hu, h.rs.up hu, h.t.trans (upTurned (F := fun k => F k ∨ G k) hu) (fun _ _ h => h)⟩

theorem Two.put1 {F G F' G' : Nat → Prop} {w wr w2 : World} {B R : Nat} {s s' r : List Tm.T} (h : Two F G w B R wr s r F' G') (hs : St (fun j => F' j ∨ wr.heap.size ≤ j) w2 B s') (ht : Turned F' wr w2) :
    Two F G w B R w2 s' r (fun k => (F' k ∨ wr.heap.size ≤ k) ∧ k < w2.heap.size) G' := by
  refine ⟨fun k hk => ?_, h.g, fun k hk hg => ?_, fun k hk => ?_, hs.bound, h.rs.turned ht (fun k _ hg hf => h.apart k hf hg), h.t.trans ht (fun k hk hf => ?_)⟩
  · rcases hk.1 with hk | hk
    · exact h.f k hk
    · exact .inr (Nat.le_trans h.t.size hk)
  · have := h.lt k (.inr hg)
    rcases hk.1 with hk | hk
    · exact h.apart k hk hg
    · omega
  · rcases hk with hk | hk
    · exact hk.2
    · exact Nat.lt_of_lt_of_le (h.lt k (.inr hk)) ht.size
  · rcases h.f k hf with e | e
    · exact .inl e
    · omega

theorem Two.put2 {F G F' G' : Nat → Prop} {w wr w2 : World} {B R : Nat} {s r r' : List Tm.T} (h : Two F G w B R wr s r F' G') (hs : Rs (fun j => G' j ∨ wr.heap.size ≤ j) w2 R r') (ht : Turned G' wr w2) :
    Two F G w B R w2 s r' F' (fun k => (G' k ∨ wr.heap.size ≤ k) ∧ k < w2.heap.size) := by
  refine ⟨h.f, fun k hk => ?_, fun k hf hk => ?_, fun k hk => ?_, h.st.turned ht (fun k _ hf hg => h.apart k hf hg), hs.bound, h.t.trans ht (fun k hk hg => ?_)⟩
  · rcases hk.1 with hk | hk
    · exact h.g k hk
    · exact .inr (Nat.le_trans h.t.size hk)
  · have := h.lt k (.inl hf)
    rcases hk.1 with hk | hk
    · exact h.apart k hf hk
    · omega
  · rcases hk with hk | hk
    · exact Nat.lt_of_lt_of_le (h.lt k (.inl hk)) ht.size
    · exact hk.2
  · rcases h.g k hg with e | e
    · exact .inr e
    · omega

/-- .. where something else is written over. -/
theorem Two.other {F G F' G' S : Nat → Prop} {w wr w2 : World} {B R : Nat} {s r : List Tm.T} (h : Two F G w B R wr s r F' G') (ht : Turned S wr w2) (hS : ∀ k, S k → w.heap.size ≤ k ∧ ¬ F' k ∧ ¬ G' k) : Two F G w B R w2 s r F' G' :=
  ⟨h.f, h.g, h.apart, fun k hk => Nat.lt_of_lt_of_le (h.lt k hk) ht.size, h.st.turned ht (fun k _ hf hs => (hS k hs).2.1 hf), h.rs.turned ht (fun k _ hg hs => (hS k hs).2.2 hg), h.t.trans ht (fun k hk hs => by have := (hS k hs).1; omega)⟩

/-- Terms in cells, their lists at the values vs. -/
def TermsIn (w : World) (g off : Nat) (l : List Tm.T) (vs : Nat → Value × Value) : Prop := ∀ i, i < l.length →
  (w.cell? ⟨g, off + i * 6, none⟩ = some (.int .i64 (l.getD i Tm.nilT).kind) ∧ w.cell? ⟨g, off + i * 6 + 1, none⟩ = some (.int .i64 (l.getD i Tm.nilT).label) ∧ w.cell? ⟨g, off + i * 6 + 2, none⟩ = some (.int .i64 (l.getD i Tm.nilT).a) ∧
    w.cell? ⟨g, off + i * 6 + 3, none⟩ = some (.int .i64 (l.getD i Tm.nilT).b) ∧ w.cell? ⟨g, off + i * 6 + 4, none⟩ = some (vs i).1 ∧ w.cell? ⟨g, off + i * 6 + 5, none⟩ = some (vs i).2) ∧
  TRead w (l.getD i Tm.nilT) (vs i).1 (vs i).2

theorem TermsIn.of {w : World} {g off : Nat} {l : List Tm.T} (h : TermsAt w g off l) : ∃ vs, TermsIn w g off l vs := by
  classical
  refine ⟨fun i => if hi : i < l.length then ((h i hi).choose, (h i hi).choose_spec.choose) else (default, default), fun i hi => ?_⟩
  have hs := (h i hi).choose_spec.choose_spec
  simp only [dif_pos hi]
  exact ⟨hs.1, hs.2.1⟩

theorem TermsIn.up {w w1 : World} {g off : Nat} {l : List Tm.T} {vs : Nat → Value × Value} (h : TermsIn w g off l vs) (hu : Up w w1) : TermsIn w1 g off l vs := fun i hi => by
  obtain ⟨⟨c0, c1, c2, c3, c4, c5⟩, hr⟩ := h i hi
  exact ⟨⟨hu.cell c0, hu.cell c1, hu.cell c2, hu.cell c3, hu.cell c4, hu.cell c5⟩, hr.up hu⟩

/-- What the caller of put keeps, whatever the stores' blocks become. -/
structure Kept (w : World) (g off : Nat) (l : List Tm.T) (vs : Nat → Value × Value) (a1 a2 a3 : Addr) : Prop where
  terms : TermsIn w g off l vs
  tab : Tab w
  sts : Sts w a1 a2 a3

theorem Kept.up {w w1 : World} {g off : Nat} {l : List Tm.T} {vs : Nat → Value × Value} {a1 a2 a3 : Addr} (h : Kept w g off l vs a1 a2 a3) (hu : Up w w1) : Kept w1 g off l vs a1 a2 a3 := ⟨h.terms.up hu, h.tab.up hu, h.sts.up hu⟩

/-- Cells that may be written over, and the world they were written over in. -/
structure Over (w : World) (g n : Nat) (wr : World) : Prop where
  t : Turned (fun k => k = g) w wr
  c : ∀ j, j < n → ∃ x, wr.cell? ⟨g, j, none⟩ = some x
  f : ∀ j, wr.frozen? ⟨g, j, none⟩ = false

theorem Over.start {w : World} {g n cap : Nat} {e : TypeId} {xs : List Value} (h : Row w g e cap xs) (hx : n ≤ xs.length) : Over w g n w :=
  ⟨Turned.refl _ _, fun j hj => ⟨xs[j]'(by omega), h.cell (List.getElem?_eq_getElem (by omega))⟩, fun j => h.free j⟩

theorem Over.set {w wr : World} {g n : Nat} (h : Over w g n wr) (j : Nat) (u : Value) : Over w g n (wr.setCell ⟨g, j, none⟩ u) := by
  refine ⟨h.t.setCell (.inl rfl) _, fun i hi => ?_, fun i => by rw [World.frozen?_setCell]; exact h.f i⟩
  obtain ⟨x, hx⟩ := h.c i hi
  by_cases e : i = j
  · subst e
    exact ⟨u, World.cell?_setCell_same _ _ _ hx⟩
  · exact ⟨x, by rw [World.cell?_setCell_other _ _ _ _ (by simp [Addr.mk.injEq] <;> omega)]; exact hx⟩

theorem Over.drewN {w wr : World} {g n : Nat} (h : Over w g n wr) (q : Nat) : Over w g n (wr.drewN q) := ⟨h.t.drewN q, h.c, h.f⟩

end Go.Proofs.YtiiieailimphnaaGreatDoor
