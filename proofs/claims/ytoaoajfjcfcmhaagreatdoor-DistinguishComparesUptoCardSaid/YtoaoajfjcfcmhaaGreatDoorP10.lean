/- Walk: rounds.each. errors.As at the target **api.Fault, by its contracts: nil; a *api.Fault itself. Walks: fault.At, fault.As at an error of a lower layer. Walk: rounds.All. errors.Is at a fault that wraps a fault. errors.Is at an error of errors.New's make itself, by its contracts; api.Code of an error, whether it is one of errors.N. -/
import Derived.Test.YtoaoajfjcfcmhaaGreatDoorP09
import Derived.Test.YtoaoajfjcfcmhaaGreatDoorChecked
import Derived.WalkKit
import Derived.LaidEql
import Derived.Stop.Asserts
import Derived.RowKitTokens
import Derived.Test.YtoaoajfjcfcmhaaGreatDoorP05
import Derived.Test.YtoaoajfjcfcmhaaGreatDoorP01
import Derived.Stop.LaidErr
import Derived.Stop.LaidTwo
set_option linter.unusedVariables false
set_option linter.unusedSimpArgs false
set_option maxHeartbeats 16000000
set_option maxRecDepth 100000
open Go.Proofs.Tryz
namespace Go.Proofs.YtoaoajfjcfcmhaaGreatDoor
open Go.RowKit Go.Sort Go.Maps
def zzg (w : World) (B : Nat) (s : Sy.Lts) (r : Ending) (w' : World) : Prop :=
 ∃ bb cb gb gc, r = .returned (.func (.func 189) #[] #[.pointer (some ⟨bb, 0, none⟩), .pointer (some ⟨cb, 0, none⟩), .pointer (some ⟨gb, 0, none⟩)]) /\ Up w w' /\ (w.heap.size <= bb /\ w.heap.size <= cb) /\ zCt w' bb cb gb B s false gc (List.replicate s.n.toNat 0)
theorem zx7 {w : World} {B : Nat} {s : Sy.Lts} (h : zCg w B s) (hR : Sy.Right s) :
  Calls prog 155 #[.pointer (some ⟨B, 0, none⟩)] w (zzg w B s) := by
 obtain ⟨i0, hi, ai, aj, ak⟩ := info_parts Tryz.zFu
 obtain ⟨n, hn⟩ : ∃ n : Nat, s.n = (n : Nat) := ⟨s.n.toNat, by have := hR.n0; omega⟩
 have am : n <= 1000 := by have := hR.n1; omega
 have HG := zh h
 have HN := zh hn
 clear hn h
 go_enter func155, ntmps155
 go_wp2_with (first
  | (go_at_call 133; refine (zdy (HG.out.up (by exact (Up.refl _).alloc _))).mono ?_; rintro r w1 ⟨rfl, ag⟩; rw [HN.out])
  | (at_make; refine wpList_make_full _ rfl _ _ 27 rfl 0 3 i0 (.int .i64 0) 1 underlying27 hi ai aj _ _ _ _ n rfl rfl rfl rfl (by rw [ak]; omega) (by unfold maxLen; omega) (Nat.zero_le _) ?_; intro w2 ac aa))
 go_ret
 obtain ⟨ad, -, -, -⟩ := Row.of ac
 have ab : Row w2 w1.heap.size 3 n (ints (List.replicate n 0)) := by
  have e : (madeCells (Value.int .i64 0).cells (n * 1)).toList = ints (List.replicate n 0) := by
   rw [Nat.mul_one, zcm]; exact toList_madeCells_one _ _
  rw [<- e]; simpa using ad
 have ah : Up w w1 := Up.trans ((Up.refl _).alloc _) ag
 have ae : Up w1 w2 := (Up.refl _).grown aa (by simp)
 have hs : s.n.toNat = n := by rw [HN.out]; rfl
 have hg : w2.heap[w.heap.size]? = some (.cells #[.pointer (some ⟨B, 0, none⟩)] 114 (0, 0)) :=
  ((ag.trans ae).block _ (by show w.heap.size < (w.heap.push _).size; simp)).trans (by show (w.heap.push _)[w.heap.size]? = _; simp)
 have al := za0 hg
 refine ⟨_, _, _, w1.heap.size, rfl, ((ah.trans ae).alloc _).alloc _, ⟨by omega, by omega⟩, ?_⟩
 rw [hs]
 have af : ∀ o o', Up w2 ((w2.alloc o).alloc o') := fun o o' => ((Up.refl _).alloc o).alloc o'
 refine ⟨?_, ?_, ?_, ?_, ⟨w2, HG.out.up (ah.trans ae), af _ _, by omega, by omega⟩⟩
 ·show ((w2.heap.push _).push _)[w2.heap.size + 1]? = _
  simp [Array.getElem?_push, Array.getElem_push]
 ·rw [List.length_replicate]
  show ((w2.heap.push _).push _)[w2.heap.size]? = _
  simp [Array.getElem?_push]
 ·rw [List.length_replicate]
  exact (af _ _).row ab
 ·exact ((af _ _).block _ al).trans hg
end Go.Proofs.YtoaoajfjcfcmhaaGreatDoor
namespace Go.Proofs.YtoaoajfjcfcmhaaGreatDoor
open Go.RowKit Go.Extern.Stop Go.Stop Go.Extern
theorem zno (t : Value) (w : World) :
  Calls prog 22 #[.nilIface, t] w fun e w' => e = .returned (.bool false) /\ w' = w := by
 go_enter func22, ntmps22
 go_wp2
 go_ret
 exact ⟨rfl, rfl⟩
theorem Tryz.zIf (t : Addr) (w : World) : (ReflectliteValue.unpack (.iface 75 (.pointer (some t)))).run prog w
  = .ok (.agg #[.pointer (some ⟨23, 75, none⟩), .pointer (some ⟨w.heap.size, 0, none⟩), .int .u64 150]) (w.alloc (.cells #[.pointer (some t)] 75)) := by kernel_rfl
theorem Tryz.zKf (a : Addr) (w : World) : (ReflectliteValue.methodAny (ReflectliteValue.valueError "reflectlite.Value.Type" 0) (fun t _ _ _ => ReflectliteType.toType t) #[.agg #[.pointer (some ⟨23, 75, none⟩), .pointer (some a), .int .u64 150]]).run prog w
  = .ok (.iface 207 (.agg #[.pointer (some ⟨23, 75, none⟩)])) w := by kernel_rfl
theorem Tryz.zHo (h : Value) (w : World) : (Go.method 467 207 (.agg #[h]) "Kind").run prog w = .ok (271, h) w := by kernel_rfl
theorem Tryz.zKc (w : World) : ((ReflectliteType.abiMethod fun t => (fun a : Nat => Value.int IntKind.u8 (a : Int)) <$> Rtype.kind t) #[.pointer (some ⟨23, 75, none⟩)]).run prog w = .ok (.int .u8 22) w := by kernel_rfl
theorem Tryz.zKb (w : World) : ((ReflectliteType.abiMethod fun t => (fun a : Nat => Value.int IntKind.u8 (a : Int)) <$> Rtype.kind t) #[.pointer (some ⟨23, 70, none⟩)]).run prog w = .ok (.int .u8 22) w := by kernel_rfl
theorem rlm (z : Sem Value) (f : TypeId -> Addr -> Nat -> Nat -> Sem Value) (v : Value) :
  ReflectliteValue.method z f #[v] = (do match <- ReflectliteValue.parts v with | none => z | some (t, a, fl) => f t a fl (fl % 32)) := rfl
theorem Tryz.zIe (a : Addr) (w : World) : (ReflectliteValue.parts (.agg #[.pointer (some ⟨23, 75, none⟩), .pointer (some a), .int .u64 150])).run prog w = .ok (some (75, a, 150)) w := by kernel_rfl
theorem Tryz.zK6 (a p : Addr) (W : World) (ha : W.cell? a = some (.pointer (some p))) :
  (ReflectliteValue.method (ReflectliteValue.valueError "reflectlite.Value.IsNil" 0) ReflectliteValue.isNil #[.agg #[.pointer (some ⟨23, 75, none⟩), .pointer (some a), .int .u64 150]]).run prog W = .ok (.bool false) W := by
 rw [rlm]
 simp only [Sem.run_bind, Tryz.zIe, Result.andThen]
 simp [ReflectliteValue.isNil, loadVar, isAgg, underlying, underlying75, ha, Result.andThen]
theorem Tryz.zHl (h : Value) (w : World) : (Go.method 467 207 (.agg #[h]) "Elem").run prog w = .ok (283, .agg #[h]) w := by kernel_rfl
theorem Tryz.zF9 (h : Value) (w : World) : (Go.method 467 207 (.agg #[h]) "Implements").run prog w = .ok (284, .agg #[h]) w := by kernel_rfl
theorem Tryz.zEw (h : Value) (w : World) : (Go.method 467 207 (.agg #[h]) "AssignableTo").run prog w = .ok (281, .agg #[h]) w := by kernel_rfl
theorem Tryz.zKe (w : World) : (ReflectliteType.method ReflectliteType.elem #[.agg #[.pointer (some ⟨23, 75, none⟩)]]).run prog w = .ok (.iface 207 (.agg #[.pointer (some ⟨23, 70, none⟩)])) w := by kernel_rfl
theorem Tryz.zG6 (w : World) : (ReflectliteType.relation "Implements" ReflectliteType.implements_ #[.agg #[.pointer (some ⟨23, 70, none⟩)], .iface 207 (.agg #[.pointer (some ⟨23, 50, none⟩)])]).run prog w = .ok (.bool true) w := by kernel_rfl
theorem Tryz.zJc (v : Value) (w : World) : (ReflectliteType.typeOf #[.iface 70 v]).run prog w = .ok (.iface 207 (.agg #[.pointer (some ⟨23, 70, none⟩)])) w := by kernel_rfl
theorem Tryz.zG7 (w : World) : (ReflectliteType.relation "AssignableTo" ReflectliteType.assignableTo #[.agg #[.pointer (some ⟨23, 70, none⟩)], .iface 207 (.agg #[.pointer (some ⟨23, 70, none⟩)])]).run prog w = .ok (.bool true) w := by kernel_rfl
theorem Tryz.zIt (e : Addr) (w : World) : (ReflectliteValue.unpack (.iface 70 (.pointer (some e)))).run prog w
  = .ok (.agg #[.pointer (some ⟨23, 70, none⟩), .pointer (some ⟨w.heap.size, 0, none⟩), .int .u64 150]) (w.alloc (.cells #[.pointer (some e)] 70)) := by kernel_rfl
theorem Tryz.zJ3 (w : World) : (Rtype.elem? 75).run prog w = .ok (some 70) w := by kernel_rfl
theorem Tryz.zL6 (p : Addr) (w : World) : (ReflectliteValue.mk 70 p ReflectliteValue.flagAddr).run prog w = .ok (.agg #[.pointer (some ⟨23, 70, none⟩), .pointer (some p), .int .u64 406]) w := by kernel_rfl
theorem Tryz.zJz (a p : Addr) (W : World) (ha : W.cell? a = some (.pointer (some p))) :
  (ReflectliteValue.method (ReflectliteValue.valueError "reflectlite.Value.Elem" 0) ReflectliteValue.elem #[.agg #[.pointer (some ⟨23, 75, none⟩), .pointer (some a), .int .u64 150]]).run prog W
   = .ok (.agg #[.pointer (some ⟨23, 70, none⟩), .pointer (some p), .int .u64 406]) W := by
 rw [rlm]
 simp only [Sem.run_bind, Tryz.zIe, Result.andThen]
 simp [ReflectliteValue.elem, loadVar, isAgg, underlying, underlying75, ha, Result.andThen, Tryz.zJ3, Tryz.zL6]
theorem rls (v x : Value) : ReflectliteValue.set #[v, x] = (do
  let (some (dst, a, fl), some (src, b, _)) := (<- ReflectliteValue.parts v, <- ReflectliteValue.parts x)
   | unsupported (.noEntry "extern/(internal/reflectlite.Value).Set.zeroValue")
  if fl / ReflectliteValue.flagAddr % 2 == 0 then unsupported (.noEntry "extern/(internal/reflectlite.Value).Set.unaddressable")
  let val <- loadVar src b
  if <- Rtype.directlyAssignable dst src then storeVar dst a val
  else if <- Rtype.implements dst src then
   if (<- Rtype.kind src) == 20 then
    match val with
    | .nilIface => unsupported (.noEntry "extern/reflectlite: a nil value of one interface type handed on as a value of another")
    | _ => storeVar dst a val
   else storeVar dst a (.iface src val)
  else panicString ("reflectlite.Set: value of type " ++ (<- Rtype.spelt src) ++ " is not assignable to type " ++ (<- Rtype.spelt dst))
  pure (.tuple #[])) := rfl
theorem Tryz.zJb (a : Addr) (w : World) : (ReflectliteValue.parts (.agg #[.pointer (some ⟨23, 70, none⟩), .pointer (some a), .int .u64 406])).run prog w = .ok (some (70, a, 406)) w := by kernel_rfl
theorem Tryz.zK1 (a : Addr) (w : World) : (ReflectliteValue.parts (.agg #[.pointer (some ⟨23, 70, none⟩), .pointer (some a), .int .u64 150])).run prog w = .ok (some (70, a, 150)) w := by kernel_rfl
theorem Tryz.zJn (w : World) : (Rtype.directlyAssignable 70 70).run prog w = .ok true w := by kernel_rfl
theorem Tryz.zKn (ta b e : Addr) (old : Value) (W : World) (hb : W.cell? b = some (.pointer (some e))) (ht : W.cell? ta = some old) (hf : W.frozen? ta = false) :
  (ReflectliteValue.set #[.agg #[.pointer (some ⟨23, 70, none⟩), .pointer (some ta), .int .u64 406], .agg #[.pointer (some ⟨23, 70, none⟩), .pointer (some b), .int .u64 150]]).run prog W
   = .ok (.tuple #[]) (W.setCell ta (.pointer (some e))) := by
 rw [rls]
 simp only [Sem.run_bind, Tryz.zJb, Tryz.zK1, Result.andThen]
 simp [ReflectliteValue.flagAddr, loadVar, isAgg, underlying, underlying70, hb, Result.andThen, Tryz.zJn, storeVar, Value.cells, storeCells, Addr.add]
 rw [run_store prog W ta _ _ (by rfl)]
 simp [ht, hf]
theorem zB8 (e t : Addr) (old : Value) (w : World) (hg : w.cell? ⟨4, 0, none⟩ = some (.iface 207 (.agg #[.pointer (some ⟨23, 50, none⟩)]))) (aa : w.cell? t = some old) (ac : w.frozen? t = false) :
  Calls prog 22 #[.iface 70 (.pointer (some e)), .iface 75 (.pointer (some t))] w fun ev w' => ev = .returned (.bool true) /\ w' = ((((w.alloc (.cells #[.pointer (some t)] 75)).alloc (.cells #[.pointer (some ⟨23, 75, none⟩), .pointer (some ⟨w.heap.size, 0, none⟩), .int .u64 150] 140)).alloc (.cells #[.pointer (some ⟨23, 75, none⟩), .pointer (some ⟨w.heap.size, 0, none⟩), .int .u64 150] 140)).alloc (.cells #[.pointer (some e)] 70)).setCell t (.pointer (some e)) := by
 have h6 := @run_callFunc_extern prog 83 _ (fun args => ReflectliteValue.unpack (args.getD 0 (.tuple #[]))) func83 (by kernel_rfl) (by kernel_rfl) (by kernel_rfl) (by kernel_rfl)
 have h7 := @run_callFunc_extern prog 84 _ (ReflectliteValue.methodAny (ReflectliteValue.valueError "reflectlite.Value.Type" 0) (fun t _ _ _ => ReflectliteType.toType t)) func84 (by kernel_rfl) (by kernel_rfl) (by kernel_rfl) (by kernel_rfl)
 have h8 := @run_callFunc_extern prog 85 _ (ReflectliteValue.method (ReflectliteValue.valueError "reflectlite.Value.IsNil" 0) ReflectliteValue.isNil) func85 (by kernel_rfl) (by kernel_rfl) (by kernel_rfl) (by kernel_rfl)
 have ae := @run_callFunc_extern prog 271 _ (ReflectliteType.abiMethod fun t => do pure (.int .u8 (<- Rtype.kind t))) func271 (by kernel_rfl) (by kernel_rfl) (by kernel_rfl) (by kernel_rfl)
 have af := @run_callFunc_extern prog 283 _ (ReflectliteType.method ReflectliteType.elem) func283 (by kernel_rfl) (by kernel_rfl) (by kernel_rfl) (by kernel_rfl)
 have ag := @run_callFunc_extern prog 284 _ (ReflectliteType.relation "Implements" ReflectliteType.implements_) func284 (by kernel_rfl) (by kernel_rfl) (by kernel_rfl) (by kernel_rfl)
 have ah := @run_callFunc_extern prog 80 _ ReflectliteType.typeOf func80 (by kernel_rfl) (by kernel_rfl) (by kernel_rfl) (by kernel_rfl)
 have ai := @run_callFunc_extern prog 281 _ (ReflectliteType.relation "AssignableTo" ReflectliteType.assignableTo) func281 (by kernel_rfl) (by kernel_rfl) (by kernel_rfl) (by kernel_rfl)
 have aj := @run_callFunc_extern prog 138 _ (ReflectliteValue.method (ReflectliteValue.valueError "reflectlite.Value.Elem" 0) ReflectliteValue.elem) func138 (by kernel_rfl) (by kernel_rfl) (by kernel_rfl) (by kernel_rfl)
 have ak := @run_callFunc_extern prog 139 _ ReflectliteValue.set func139 (by kernel_rfl) (by kernel_rfl) (by kernel_rfl) (by kernel_rfl)
 have tO := Tryz.zJc
 have mA := Tryz.zEw
 have a25 := Tryz.zG7
 have v25 := Tryz.zIt
 have f6 := Tryz.zIf
 have f7 := Tryz.zKf
 have mK := Tryz.zHo
 have mE := Tryz.zHl
 have mI := Tryz.zF9
 have k27 := Tryz.zKc
 have k25 := Tryz.zKb
 have e27 := Tryz.zKe
 have i25 := Tryz.zG6
 have n8 := Tryz.zK6 ⟨w.heap.size, 0, none⟩ t ((w.alloc (.cells #[.pointer (some t)] 75)).alloc (.cells #[.pointer (some ⟨23, 75, none⟩), .pointer (some ⟨w.heap.size, 0, none⟩), .int .u64 150] 140)) (by simp)
 have ad : 4 < w.heap.size := World.block_lt_of_cell? w ⟨4, 0, none⟩ hg
 have al : ((w.alloc (.cells #[.pointer (some t)] 75)).alloc (.cells #[.pointer (some ⟨23, 75, none⟩), .pointer (some ⟨w.heap.size, 0, none⟩), .int .u64 150] 140)).cell? ⟨4, 0, none⟩ = some (.iface 207 (.agg #[.pointer (some ⟨23, 50, none⟩)])) := by
  rw [World.cell?_alloc_lt _ _ ⟨4, 0, none⟩ (by simp; omega), World.cell?_alloc_lt _ _ ⟨4, 0, none⟩ ad]; exact hg
 have ab : t.block < w.heap.size := by
  rcases Nat.lt_or_ge t.block w.heap.size with h | h
  ·exact h
  ·simp [World.cell?, Array.getElem?_eq_none h] at aa
 have el := Tryz.zJz ⟨w.heap.size, 0, none⟩ t (((w.alloc (.cells #[.pointer (some t)] 75)).alloc (.cells #[.pointer (some ⟨23, 75, none⟩), .pointer (some ⟨w.heap.size, 0, none⟩), .int .u64 150] 140)).alloc (.cells #[.pointer (some ⟨23, 75, none⟩), .pointer (some ⟨w.heap.size, 0, none⟩), .int .u64 150] 140)) (by rw [World.cell?_alloc_lt _ _ ⟨w.heap.size, 0, none⟩ (by simp; omega)]; simp)
 have st := Tryz.zKn t ⟨w.heap.size + 1 + 1 + 1, 0, none⟩ e old ((((w.alloc (.cells #[.pointer (some t)] 75)).alloc (.cells #[.pointer (some ⟨23, 75, none⟩), .pointer (some ⟨w.heap.size, 0, none⟩), .int .u64 150] 140)).alloc (.cells #[.pointer (some ⟨23, 75, none⟩), .pointer (some ⟨w.heap.size, 0, none⟩), .int .u64 150] 140)).alloc (.cells #[.pointer (some e)] 70))
  (by rw [World.cell?_alloc_at _ _ _ _ (by simp)]; rfl)
  (by rw [World.cell?_alloc_lt _ _ t (by simp; omega), World.cell?_alloc_lt _ _ t (by simp; omega), World.cell?_alloc_lt _ _ t (by simp; omega), World.cell?_alloc_lt _ _ t ab]; exact aa)
  (by rw [World.frozen?_alloc_old _ _ t (by simp; omega), World.frozen?_alloc_old _ _ t (by simp; omega), World.frozen?_alloc_old _ _ t (by simp; omega), World.frozen?_alloc_old _ _ t (Nat.ne_of_lt ab)]; exact ac)
 go_enter func22, ntmps22
 go_wp2
 refine wp_loop_rounds 1 ?_
 rw [rounds_succ]
 go_wp2
 go_ret
 exact ⟨rfl, rfl⟩
end Go.Proofs.YtoaoajfjcfcmhaaGreatDoor
namespace Go.Proofs.YtoaoajfjcfcmhaaGreatDoor
open Go.RowKit Go.Sort Go.Maps
theorem zB4 (l : ByteArray) (a b : Int) (xt : TypeId) (xv : Value) (w : World) :
  Calls prog 125 #[.string l, .iface xt xv, .int .i64 a, .int .i64 b] w fun e w' => e = .returned (zac w.heap.size) /\ w' = w.alloc (.cells #[.string l, .int .i64 a, .int .i64 b, .iface xt xv] 79) := by
 go_enter func125, ntmps125
 go_wp2_with fail
 go_ret
 exact ⟨rfl, rfl⟩
def zFl (w : World) : Prop := w.cell? ⟨4, 0, none⟩ = some (.iface 207 (.agg #[.pointer (some ⟨23, 50, none⟩)]))
theorem zso {B X : World} {b : Nat} {u : Value} {e : TypeId} (h1 : B.heap[b]? = some (.cells #[u] e (0, 0))) (hu : Up B X) (v : Value) : (X.setCell ⟨b, 0, none⟩ v).cell? ⟨b, 0, none⟩ = some v :=
 (one_cell (zo7 ((hu.block _ (za0 h1)).trans h1) _)).1
theorem zyc (e : Addr) (u : Value) (w : World) (hg : zFl w) :
  Calls prog 22 #[.iface 70 (.pointer (some e)), .iface 75 (.pointer (some ⟨w.heap.size, 0, none⟩))] (w.alloc (.cells #[u] 70)) fun ev w' =>
   ev = .returned (.bool true) /\ w'.cell? ⟨w.heap.size, 0, none⟩ = some (.pointer (some e)) /\ Up w w' := by
 have h1 : (w.alloc (.cells #[u] 70)).heap[w.heap.size]? = some (.cells #[u] 70 (0, 0)) := by
  show (w.heap.push _)[w.heap.size]? = _
  simp
 obtain ⟨c0, c1⟩ := one_cell h1
 refine (zB8 e ⟨w.heap.size, 0, none⟩ u _ (((Up.refl w).alloc _).cell hg) c0 c1).mono ?_
 rintro ev w' ⟨rfl, rfl⟩
 refine ⟨rfl, ?_, Up.setCell (((((((Up.refl w).alloc _).alloc _).alloc _).alloc _).alloc _)) (Nat.le_refl _) _⟩
 exact zso h1 (((((Up.refl _).alloc _).alloc _).alloc _).alloc _) _
theorem zzr {w : World} {b : Nat} {a1 a2 a3 a4 : Value} {e : TypeId} (h : w.heap[b]? = some (.cells #[a1, a2, a3, a4] e (0, 0))) :
  w.cell? ⟨b, 1, none⟩ = some a2 /\ w.cell? ⟨b, 2, none⟩ = some a3 := by
 refine ⟨?_, ?_⟩ <;> simp [World.cell?, h]
theorem zxg {W x : World} {a1 a2 a3 : Addr} {v1 v2 v3 : Value} (h1 : W.cell? a1 = some v1) (h2 : W.cell? a2 = some v2) (h3 : W.cell? a3 = some v3) (hu : Up W x) : x.cell? a1 = some v1 /\ x.cell? a2 = some v2 /\ x.cell? a3 = some v3 /\ Up W x :=
 ⟨hu.cell h1, hu.cell h2, hu.cell h3, hu⟩
theorem zed {w w1 : World} {l : ByteArray} {v : Value} (h : w1 = w.alloc (.cells #[.string l, .int .i64 0, .int .i64 0, v] 79)) : zas w1 w.heap.size l v := by
 subst h
 show (w.heap.push _)[w.heap.size]? = _
 simp
theorem zq1 (l l0 : ByteArray) (v0 : Value) (pb : Nat) (w : World) (hF : zas w pb l0 v0) (hg : zFl w) :
  Calls prog 74 #[.string l, zac pb] w fun e w' => ∃ qb, e = .returned (zac qb) /\ w.heap.size <= qb /\ Up w w' /\ zas w' qb l (zac pb) := by
 have HF := zh hF
 have HG := zh hg
 clear hF hg
 unfold zac
 go_enter func74, ntmps74
 go_upto_region 5 with (go_at_call 22; refine (zyc ⟨pb, 0, none⟩ _ _ HG.out).mono ?_; rintro r w1 ⟨rfl, e0, aa⟩)
 obtain ⟨e1, e2⟩ := zzr (HF.out.up aa)
 go_region_held3 (fun x => x.cell? ⟨w.heap.size, 0, none⟩ = some (.pointer (some ⟨pb, 0, none⟩)) /\ x.cell? ⟨pb, 1, none⟩ = some (.int .i64 0) /\ x.cell? ⟨pb, 2, none⟩ = some (.int .i64 0) /\ Up w1 x)
  ((refine zxg e0 e1 e2 ?_; first | exact (Up.refl _).drew | exact Up.refl _ | assumption))
  (first | (go_at_call 125; refine (zB4 l 0 0 _ _ _).mono ?_; rintro r w2 ⟨rfl, ab⟩; (have q2 : Up w1 w2 := by rw [ab]; exact Up.alloc (by first | exact (Up.refl _).drew | exact Up.refl _) _); (have q3 := zed ab); clear ab))
 all_goals go_wp2_with fail
 go_ret
 exact ⟨_, rfl, aa.size, aa.trans q2, q3⟩
def zbw : ByteArray := { data := #[114, 111, 117, 110, 100, 115] }
def zb4 (base : Nat) (w : World) (vs : List Value) (rows : List (List Nat)) : Prop :=
 vs.length = rows.length /\ (∀ i, i < rows.length -> w.ownsRow base 3 1 (vs.getD i undef) (rows.getD i []).length (ivs ((rows.getD i []).map Int.ofNat))) /\
  ∀ i j g h, i < j -> j < rows.length -> (vs.getD i undef).ownBlock = some g -> (vs.getD j undef).ownBlock = some h -> g < h
theorem zb4.up {base : Nat} {w w1 : World} {vs : List Value} {rows : List (List Nat)} (h : zb4 base w vs rows) (hu : Up w w1) : zb4 base w1 vs rows :=
 ⟨h.1, fun i hi => hu.owns (h.2.1 i hi), h.2.2⟩
theorem zb6 {α : Type} {l : List α} {x d : α} {i : Nat} (h : i < l.length) : (l ++ [x]).getD i d = l.getD i d := by simp [List.getD, List.getElem?_append_left h]
theorem zbd {α : Type} (l : List α) (x d : α) : (l ++ [x]).getD l.length d = x := by simp [List.getD]
theorem zb4.snoc {base : Nat} {w0 w : World} {vs : List Value} {rows : List (List Nat)} {v : Value} {c : List Nat} (h : zb4 base w0 vs rows) (hu : Up w0 w) (hb : base <= w0.heap.size) (hv : w.ownsRow w0.heap.size 3 1 v c.length (ivs (c.map Int.ofNat))) : zb4 base w (vs ++ [v]) (rows ++ [c]) := by
 refine ⟨by simp [h.1], fun i hi => ?_, fun i j g k aa hj hg hk => ?_⟩
 ·rw [List.length_append, List.length_singleton] at hi
  by_cases he : i < rows.length
  ·rw [zb6 (by rw [h.1]; exact he), zb6 he]; exact hu.owns (h.2.1 i he)
  ·obtain rfl : i = rows.length := by omega
   have h1 : (vs ++ [v]).getD rows.length undef = v := by rw [<- h.1]; exact zbd _ _ _
   rw [h1, zbd]; exact za8 hv hb
 ·rw [List.length_append, List.length_singleton] at hj
  have hi : i < rows.length := by omega
  rw [zb6 (by rw [h.1]; exact hi)] at hg
  by_cases he : j < rows.length
  ·rw [zb6 (by rw [h.1]; exact he)] at hk
   exact h.2.2 i j g k aa he hg hk
  ·obtain rfl : j = rows.length := by omega
   rw [show (vs ++ [v]).getD rows.length undef = v by rw [<- h.1]; exact zbd _ _ _] at hk
   have h1 := za3 (h.2.1 i hi) hg
   have h2 := (hv.lt k hk).1
   omega
theorem zb4.grown {base b2 e2 n2 : Nat} {w w1 : World} {vs xs : List Value} {v : Value} {rows : List (List Nat)} (h : zb4 base w vs rows) (ho : w.ownsRow b2 e2 1 v n2 xs) (he : e2 ≠ 3) (hg : w.grownBy w1 v.ownBlock) : zb4 base w1 vs rows :=
 ⟨h.1, fun i hi => za2 (h.2.1 i hi) (fun g aa => hg.block g (za3 (h.2.1 i hi) aa) (fun e => by
  obtain ⟨c1, h1⟩ := za5 (h.2.1 i hi) aa
  obtain ⟨c2, h2⟩ := za5 ho e.symm
  rw [h1] at h2
  simp only [Option.some.injEq, Obj.cells.injEq] at h2
  exact he h2.2.1.symm)), h.2.2⟩
theorem zCt.begin {w : World} {bb cb gb B gc : Nat} {s : Sy.Lts} {c : List Nat} (h : zCt w bb cb gb B s false gc c) (aa : gc ≠ bb) : zCt (w.setCell ⟨bb, 0, none⟩ (.bool true)) bb cb gb B s true gc c := by
 have ab : cb ≠ bb := fun e => by
  have h1 := h.cl
  rw [e, h.bg] at h1
  simp only [Option.some.injEq, Obj.cells.injEq] at h1
  exact absurd h1.2.1 (by decide)
 have ac : gb ≠ bb := fun e => by
  have h1 := h.gr
  rw [e, h.bg] at h1
  simp only [Option.some.injEq, Obj.cells.injEq] at h1
  exact absurd h1.2.1 (by decide)
 refine ⟨zo7 h.bg _, (Below.heap_setCell w ⟨bb, 0, none⟩ _ cb ab).trans h.cl, h.row.other aa _, (Below.heap_setCell w ⟨bb, 0, none⟩ _ gb ac).trans h.gr, ?_⟩
 obtain ⟨w0, h1, h2, h3, h4⟩ := h.sep
 exact ⟨w0, h1, h2.setCell h4 _, h3, h4⟩
theorem zCt.apart {w : World} {bb cb gb B gc : Nat} {s : Sy.Lts} {b : Bool} {c : List Nat} (h : zCt w bb cb gb B s b gc c) : gc ≠ bb := fun e => by
 obtain ⟨cur, h1, -⟩ := h.row
 rw [e, h.bg] at h1
 simp only [Option.some.injEq, Obj.cells.injEq] at h1
 exact absurd h1.2.1 (by decide)
theorem zCt.grow {w w1 : World} {bb cb gb B gc b n : Nat} {s : Sy.Lts} {bg : Bool} {c : List Nat} {v : Value} {xs : List Value} (h : zCt w bb cb gb B s bg gc c) (ho : w.ownsRow b 27 1 v n xs) (hb : cb < b) (hg : w.grownBy w1 v.ownBlock) : zCt w1 bb cb gb B s bg gc c := by
 have hk : ∀ (j : Nat) (cur : Array Value) (e : TypeId), w.heap[j]? = some (.cells cur e (0, 0)) -> e ≠ 27 -> w1.heap[j]? = w.heap[j]? := fun j cur e hj he =>
  hg.block j (za0 hj) (fun e1 => by
   obtain ⟨c2, h2⟩ := za5 ho e1.symm
   rw [hj] at h2
   simp only [Option.some.injEq, Obj.cells.injEq] at h2
   exact he h2.2.1)
 have aa : w1.heap[cb]? = w.heap[cb]? := hg.block cb (za0 h.cl) (fun e1 => by have := (ho.lt cb e1.symm).1; omega)
 refine ⟨(hk _ _ _ h.bg (by decide)).trans h.bg, aa.trans h.cl, ?_, (hk _ _ _ h.gr (by decide)).trans h.gr, ?_⟩
 ·obtain ⟨cur, h1, h2⟩ := h.row
  exact h.row.keep (hk _ _ _ h1 (by decide))
 ·obtain ⟨w0, h1, h2, h3, h4⟩ := h.sep
  exact ⟨w0, h1, h2.grown hg (fun j hj => by have := (ho.lt j hj).1; omega), h3, h4⟩
def zo3 (s : Sy.Lts) (w : World) (x : Value) (r : Ending) (w' : World) : Prop :=
 Up w w' /\ ((Sy.right s = true /\ ∃ v vs, r = .returned (.tuple #[v, .nilIface]) /\ w'.ownsRow w.heap.size 27 1 v (Rd.last s + 1) vs /\ zb4 w.heap.size w' vs (Rd.rounds s)) \/
  (Sy.right s = false /\ ∃ qb pb, r = .returned (.tuple #[.slice none 0 0, zac qb]) /\ w.heap.size <= qb /\ w.heap.size <= pb /\ zas w' qb zbw (zac pb) /\ zas w' pb zar x))
theorem zA6 (s : Sy.Lts) (se : Value) (xt : TypeId) (xv : Value) (w : World) (hr : Sy.right s = false) (hs : Ls3 w se s.es) (hE : w.cell? ⟨13, 0, none⟩ = some (.iface xt xv)) (hG : zFl w) (hl : s.es.length <= maxLen) :
  Calls prog 126 #[zCb s se] w (zo3 s w (.iface xt xv)) := by
 obtain ⟨ao, cap, g, off, rfl, ha, hc⟩ := hs
 have hs : Ls3 w (.slice ao s.es.length cap) s.es := ⟨ao, cap, g, off, rfl, ha, hc⟩
 have HN : Hid (∀ W, Up w W -> Calls prog 73 #[.agg #[.int .i64 s.n, .int .i64 s.m, .int .i64 s.start, .slice ao s.es.length cap]] W (zwr s W (.iface xt xv))) := zh (fun W hu => zh6 s _ xt xv W (hs.up hu) (hu.cell hE) hl)
 have HR := zh hr
 have HG := zh hG
 clear hr hs hE hG hl ha hc
 unfold zCb
 go_enter func126, ntmps126
 go_wp2_with (first
  | (go_at_call 73; refine (HN.out _ ((Up.refl w).alloc _)).mono ?_; rintro r w1 ⟨ab, ⟨h1, -⟩ | ⟨-, pb, rfl, ac, ad⟩⟩; (exact absurd (h1.symm.trans HR.out) (by decide)); (have ae := zh ad); (have ag := zh ac); (have aa := zh (((Up.refl w).alloc _).trans ab)); clear ad ac ab; unfold zac)
  | (go_at_call 74; refine (zq1 zbw zar _ _ _ ae.out (aa.out.cell HG.out)).mono ?_; rintro r w2 ⟨qb, rfl, ai, af, ah⟩))
 go_ret2
 have h0 := aa.out.size
 exact ⟨aa.out.trans af, .inr ⟨HR.out, qb, _, rfl, by omega, by have := ag.out; rw [World.size_alloc] at this; omega, ah, ae.out.up af⟩⟩
def sliceLen : Value -> Nat
 | .slice _ n _ => n
 | _ => 0
theorem zsz {s : Sy.Lts} {k : Nat} (hk : k <= Rd.last s) (h : Rd.R s (k + 1) = Rd.R s k) : k = Rd.last s := by
 rcases Nat.lt_or_ge k (Rd.last s) with h1 | h1
 ·exact absurd h (Rd.zGd s k h1)
 ·omega
theorem zu4 {s : Sy.Lts} {k : Nat} (hk : k <= Rd.last s) (h : Rd.R s (k + 1) ≠ Rd.R s k) : k < Rd.last s := by
 rcases Nat.lt_or_ge k (Rd.last s) with h1 | h1
 ·exact h1
 ·obtain rfl : k = Rd.last s := by omega
  exact absurd (Rd.zHb s) h
def zc9 (s : Sy.Lts) (k : Nat) : List (List Nat) := (List.range k).map (Rd.R s)
theorem zhi (s : Sy.Lts) (k : Nat) : zc9 s (k + 1) = zc9 s k ++ [Rd.R s k] := by simp [zc9, List.range_succ]
theorem zk4 (s : Sy.Lts) : zc9 s (Rd.last s + 1) = Rd.rounds s := rfl
theorem zuk {w : World} {bb cb gb B gc n : Nat} {s : Sy.Lts} {c : List Nat} (h : zCt w bb cb gb B s false gc c) (hn : c.length = n) :
  Calls prog 189 #[.pointer (some ⟨bb, 0, none⟩), .pointer (some ⟨cb, 0, none⟩), .pointer (some ⟨gb, 0, none⟩)] w fun r w' =>
   r = .returned (.slice (some ⟨gc, 0, none⟩) n n) /\ zCt w' bb cb gb B s true gc c /\ (∀ w0, Up w0 w -> w0.heap.size <= bb -> Up w0 w') := by
 refine (zsa h).mono ?_
 rintro r w' ⟨rfl, rfl⟩
 exact ⟨by rw [hn], h.begin h.apart, fun w0 h1 h2 => h1.setCell h2 _⟩
def zxm (w : World) (bb cb gb B n : Nat) (s : Sy.Lts) (k : Nat) (r : Ending) (w' : World) : Prop :=
 (Rd.R s (k + 1) = Rd.R s k /\ r = .returned (.slice none 0 0) /\ Up w w') \/
 (Rd.R s (k + 1) ≠ Rd.R s k /\ ∃ g, r = .returned (.slice (some ⟨g, 0, none⟩) n n) /\ zCt w' bb cb gb B s true g (Rd.R s (k + 1)) /\ Turned (fun k => k = cb) w w' /\ (∀ w0, Up w0 w -> w0.heap.size <= cb -> Up w0 w'))
theorem zww {w : World} {bb cb gb B gc n k : Nat} {s : Sy.Lts} (h : zCt w bb cb gb B s true gc (Rd.R s k)) (hR : Sy.Right s) (hT : Tab w) (hn : s.n.toNat = n) :
  Calls prog 189 #[.pointer (some ⟨bb, 0, none⟩), .pointer (some ⟨cb, 0, none⟩), .pointer (some ⟨gb, 0, none⟩)] w (zxm w bb cb gb B n s k) := by
 refine (zti h hR hT (Rd.zD0 s k) (Rd.zIa s k (by have := hR.n1; omega))).mono ?_
 rintro r w' (⟨h1, h2, h3⟩ | ⟨h1, g, h2, -, h4, h5⟩)
 ·exact .inl ⟨h1, h2, h3⟩
 ·refine .inr ⟨h1, g, by rw [h2, Rd.zD0, hn], h4, h5, fun w0 h6 h7 => ?_⟩
  exact ⟨h5.os.trans h6.os, h5.tape.trans h6.tape, h5.output.trans h6.output, Nat.le_trans h6.size h5.size, fun j hj => (h5.block j (Nat.lt_of_lt_of_le hj h6.size) (by omega)).trans (h6.block j hj)⟩
theorem zi5 {w : World} {v : Value} {n k : Nat} {s : Sy.Lts} (hv : Lst w v ((Rd.R s k).map Int.ofNat)) (hn : s.n.toNat = n) (aa : n <= 1000) :
  Calls prog 156 #[v] w fun r w' => ∃ ao cap, r = .returned (.slice ao n cap) /\ w'.ownsRow w.heap.size 3 1 (.slice ao n cap) (Rd.R s k).length (ivs ((Rd.R s k).map Int.ofNat)) /\ Up w w' := by
 have hl : ((Rd.R s k).map Int.ofNat).length = n := by rw [List.length_map, Rd.zD0, hn]
 refine (zr2 hv (by omega)).mono ?_
 rintro r w' ⟨v', rfl, ho, hu⟩
 obtain ⟨ao, cap, rfl⟩ := za1 ho
 rw [hl] at ho ⊢
 exact ⟨ao, cap, rfl, by rw [Rd.zD0, hn]; exact ho, hu⟩
def Ahead (bb cb gb B n : Nat) (s : Sy.Lts) (k : Nat) (v8 : Value) (w : World) : Prop :=
 (v8 = .slice none 0 0 /\ k = Rd.last s) \/ (k < Rd.last s /\ ∃ g, v8 = .slice (some ⟨g, 0, none⟩) n n /\ zCt w bb cb gb B s true g (Rd.R s (k + 1)))
theorem zk6 {w : World} {bb cb gb B gc n k : Nat} {s : Sy.Lts} (h : zCt w bb cb gb B s true gc (Rd.R s k)) (hR : Sy.Right s) (hT : Tab w) (hn : s.n.toNat = n) (hk : k <= Rd.last s) :
  Calls prog 189 #[.pointer (some ⟨bb, 0, none⟩), .pointer (some ⟨cb, 0, none⟩), .pointer (some ⟨gb, 0, none⟩)] w fun r w' =>
   ∃ v8, r = .returned v8 /\ Ahead bb cb gb B n s k v8 w' /\ Turned (fun k => k = cb) w w' /\ (∀ w0, Up w0 w -> w0.heap.size <= cb -> Up w0 w') := by
 refine (zww h hR hT hn).mono ?_
 rintro r w' (⟨h1, h2, h3⟩ | ⟨h1, g, h2, h3, h5, h4⟩)
 ·exact ⟨_, h2, .inl ⟨rfl, zsz hk h1⟩, h3.zHv, fun w0 h _ => h.trans h3⟩
 ·exact ⟨_, h2, .inr ⟨zu4 hk h1, g, rfl, h3⟩, h5, h4⟩
theorem zjt {w3 w4 : World} {v : Value} {s : Sy.Lts} (h4 : Up w3 w4) (ho : w4.ownsRow w3.heap.size 3 1 v (Rd.R s 0).length (ivs ((Rd.R s 0).map Int.ofNat))) :
  (w4.alloc (.cells #[v] 27)).ownsRow w3.heap.size 27 1 (.slice (some ⟨w4.heap.size, 0, none⟩) 1 1) 1 [v] /\ zb4 w3.heap.size (w4.alloc (.cells #[v] 27)) [v] (zc9 s 1) := by
 have h1 := h4.size
 refine ⟨⟨rfl, .inr ⟨w4.heap.size, 1, #[v], rfl, by omega, by show (w4.heap.push _)[w4.heap.size]? = _; simp, Nat.le_refl _, by decide, rfl, rfl⟩⟩, rfl, fun i hi => ?_, fun i j g k aa hj => by simp [zc9] at hj; omega⟩
 obtain rfl : i = 0 := by simp [zc9] at hi; omega
 exact ((Up.refl w4).alloc _).owns ho
def zAw (w : World) (b bb cb gb B n : Nat) (s : Sy.Lts) (v7 v8 : Value) (wr : World) : Prop :=
 ∃ k vs, k <= Rd.last s /\ wr.ownsRow b 27 1 v7 (k + 1) vs /\ zb4 b wr vs (zc9 s (k + 1)) /\ Up w wr /\ Ahead bb cb gb B n s k v8 wr
theorem zht {w w' : World} {b cb e size n : Nat} {v : Value} {xs : List Value} (h : w.ownsRow b e size v n xs) (hb : cb < b) (ht : Turned (fun k => k = cb) w w') : w'.ownsRow b e size v n xs :=
 za2 h (fun g hg => ht.block g (za3 h hg) (by have := (h.lt g hg).1; omega))
theorem zb4.turn {w w' : World} {b cb : Nat} {vs : List Value} {rows : List (List Nat)} (h : zb4 b w vs rows) (hb : cb < b) (ht : Turned (fun k => k = cb) w w') : zb4 b w' vs rows :=
 ⟨h.1, fun i hi => zht (h.2.1 i hi) hb ht, h.2.2⟩
theorem zb4.base {w : World} {b b' : Nat} {vs : List Value} {rows : List (List Nat)} (h : zb4 b w vs rows) (hb : b' <= b) : zb4 b' w vs rows :=
 ⟨h.1, fun i hi => za8 (h.2.1 i hi) hb, h.2.2⟩
theorem Tryz.zD6 : (prog.info? 27).map (fun i => (i.zero, i.size, i.bytes)) = some (some (.slice none 0 0), 1, 24) := by kernel_rfl
theorem zey (a : Option Addr) (n c : Nat) : ∀ u ∈ [Value.slice a n c], u.oneCell' = true := by
 intro u hu
 simp only [List.mem_singleton] at hu
 subst hu; rfl
theorem zn4 {s : Sy.Lts} (h : s.n.toNat = 0) : Rd.last s = 0 := by
 unfold Rd.last; rw [h]; rfl
theorem all_good (s : Sy.Lts) (se : Value) (xt : TypeId) (xv : Value) (w : World) (hr : Sy.right s = true) (hT : Tab w) (hs : Ls3 w se s.es) (hE : w.cell? ⟨13, 0, none⟩ = some (.iface xt xv)) (hl : s.es.length <= maxLen) :
  Calls prog 126 #[zCb s se] w (zo3 s w (.iface xt xv)) := by
 obtain ⟨ao, cap, g, off, rfl, ha, hc⟩ := hs
 have hs : Ls3 w (.slice ao s.es.length cap) s.es := ⟨ao, cap, g, off, rfl, ha, hc⟩
 have HN : Hid (∀ W, Up w W -> Calls prog 73 #[.agg #[.int .i64 s.n, .int .i64 s.m, .int .i64 s.start, .slice ao s.es.length cap]] W (zwr s W (.iface xt xv))) := zh (fun W hu => zh6 s _ xt xv W (hs.up hu) (hu.cell hE) hl)
 have aE := zh hr
 have HR : Hid (Sy.Right s) := zh ((Sy.zCj s).1 hr)
 have HT := zh hT
 obtain ⟨n, hn⟩ : ∃ n : Nat, s.n = (n : Nat) := ⟨s.n.toNat, by have := HR.out.n0; omega⟩
 have aW : n <= 1000 := by have := HR.out.n1; omega
 have aX : s.n.toNat = n := by rw [hn]; rfl
 have ah := zh aX
 have aF := zh hn
 obtain ⟨i0, hi, bt, bu, bv⟩ := info_parts Tryz.zD6
 clear hr hs hE hl ha hc hT aX
 unfold zCb
 rw [hn]
 clear hn
 go_enter func126, ntmps126
 rw [aF.out] at HN
 go_upto_region 6 with (first
  | (go_at_call 73; refine (HN.out _ ((Up.refl w).alloc _)).mono ?_; rintro r w1 ⟨aY, ⟨-, B, rfl, hB, hg⟩ | ⟨h1, -⟩⟩; rotate_left; (exact absurd (aE.out.symm.trans h1) (by decide)); (have HG := zh hg); (have aZ := zh (((Up.refl w).alloc _).trans aY)); clear hB hg aY)
  | (go_at_call 155; refine (zx7 HG.out HR.out).mono ?_; rintro r w2 ⟨bb, cb, gb, gc, rfl, a0, ⟨a1, bw⟩, he⟩; (have HE := zh he); (have bx := zh a0); clear he a0)
  | (go_at_call 189; refine (zuk HE.out (n := n) (by rw [List.length_replicate]; exact ah.out)).mono ?_; rintro r w3 ⟨rfl, a2, a3⟩; (have aG : Hid (zCt w3 bb cb gb B s true gc (Rd.R s 0)) := zh a2); (have a4 := zh (a3 _ bx.out a1)); clear a2 a3)
  | (go_at_call 156; refine (zi5 (k := 0) (n := n) (Row.zKg (m := n) (q := n) aG.out.row (by rw [Rd.zD0]; exact ah.out)) ah.out aW).mono ?_; rintro r w4 ⟨ao4, cap4, rfl, a5, a6⟩; (have bz := zh a5); (have aH := zh a6); clear a5 a6))
 have aI := aZ.out.size
 have aJ := a4.out.size
 obtain ⟨ab, aa⟩ := zjt aH.out bz.out
 have aA : Up w (w4.alloc (.cells #[.slice ao4 n cap4] 27)) := ((aZ.out.trans a4.out).trans aH.out).alloc _
 have aK := aG.out.up (aH.out.alloc (.cells #[.slice ao4 n cap4] 27))
 have a8 : w.heap.size <= cb := by omega
 have ac : cb < w3.heap.size := za0 aG.out.cl
 have ad : w.heap.size <= w3.heap.size := by omega
 obtain ⟨b3, a9⟩ := nm (w3.heap.size)
 rw [<- a9] at ab aa ac ad
 clear a9
 have ba := zh (HT.out.up aA)
 generalize w4.alloc (.cells #[.slice ao4 n cap4] 27) = w5 at ab aa aA aK ba ⊢
 have al := zh ab
 have ai := zh aa
 have bc := zh aA
 have aL := zh aK
 clear ab aa aA aK aI aJ a1 bw
 by_cases hn0 : n = 0
 ·subst hn0
  go_wp2_with (go_at_call 133; refine (zdy aL.out.graph).mono ?_; rintro r w6 ⟨rfl, aj⟩; rw [aF.out])
  go_ret2
  have bd := zn4 ah.out
  refine ⟨bc.out.trans aj, .inl ⟨aE.out, _, _, rfl, by rw [bd]; exact za8 (aj.owns al.out) ad, ?_⟩⟩
  rw [<- zk4, bd]
  exact (ai.out.up aj).base ad
 ·have bA : (n : Int) ≠ 0 := by omega
  go_upto_region 9 with (first
   | (go_at_call 133; refine (zdy aL.out.graph).mono ?_; rintro r w6 ⟨rfl, aj⟩; rw [aF.out]; (have bB := zh (aL.out.up aj)); (have bC := zh (ba.out.up aj)); (have aM := zh aj); clear aj)
   | (go_at_call 189; refine (zk6 (k := 0) (n := n) bB.out HR.out bC.out ah.out (Nat.zero_le _)).mono ?_; rintro r w7 ⟨v8, rfl, be, bf, bh⟩; (have bD := zh be); (have bE := zh (bh _ (bc.out.trans aM.out) a8)); (have bi := zh bf); clear be bh bf))
  have HL : Hid (Rd.last s < n) := zh (by have := Rd.zGx s (by rw [ah.out]; omega); rw [ah.out] at this; exact this)
  have hq := Lib.run_eql_slice_nil (P := prog)
  go_loopw [7, 8] (zAw w b3 bb cb gb B n s) (fun v7 _ _ => 1001 - sliceLen v7)
  case atStart => exact ⟨0, _, Nat.zero_le _, zht (aM.out.owns al.out) ac bi.out, (ai.out.up aM.out).turn ac bi.out, bE.out, bD.out⟩
  case round =>
   obtain ⟨k, vs, hk, ak, ae, aN, ha⟩ := hrel
   have HK := zh hk
   have bj := zh ae
   have aO := zh aN
   have HO := zh ak
   rcases ha with ⟨rfl, am⟩ | ⟨am, g, rfl, he⟩
   ·have aP := zh am
    clear hk ae aN ak am
    go_wp2_with fail
    go_ret2
    obtain rfl := aP.out
    exact ⟨aO.out, .inl ⟨aE.out, _, _, rfl, za8 HO.out ad, bj.out.base ad⟩⟩
   ·have aP := zh am
    have bo := zh he
    have bL := fun w => hq w 27 3 (some ⟨g, 0, none⟩) n n 0 0 underlying27
    clear hk ae aN ak he am hq
    have aQ : k + 1 <= Rd.last s := aP.out
    have bM : k + 1 < n := Nat.lt_of_le_of_lt aQ HL.out
    have bN := aO.out.size
    have aR : sliceLen u7 = k + 1 := by obtain ⟨a7, c7, rfl⟩ := za1 HO.out; rfl
    have hb3r : b3 <= wr.heap.size := by
     obtain ⟨a7, c7, h7⟩ := za1 HO.out
     rcases za4 HO.out with ⟨-, h0, -⟩ | ⟨g7, c7, h7, -⟩
     ·omega
     ·have := HO.out.lt g7 (by rw [h7]; rfl)
      omega
    go_upto_region 10 with (first
     | (go_at_call 156; refine (zi5 (k := k + 1) (n := n) (Row.zKg (m := n) (q := n) bo.out.row (by rw [Rd.zD0]; exact ah.out)) ah.out aW).mono ?_; rintro r w8 ⟨ao8, cap8, rfl, bp, aB⟩; (have bF := zh bp); (have aS := zh aB); (have an := zh (aB.owns HO.out)); (have bO := aB.size); clear bp aB)
     | (at_builtin; (refine wpList_append_own _ rfl _ _ 36 rfl b3 27 i0 (.slice none 0 0) 1 24 underlying36 hi bt bu bv rfl (by decide) _ (k + 1) _ rfl (an.out.alloc _) ⟨w8.heap.size, 0, none⟩ 1 1 [.slice ao8 n cap8] rfl rfl (cell_one_new _ _ _) (zey _ _ _) (by unfold maxLen; omega) (by omega) (by simp; omega) ?_); intro v9 w9 af ag aq; clear aq))
    have aC : (w8.alloc (.cells #[.slice ao8 n cap8] 27)).grownBy w9 u7.ownBlock := ag
    have aD := an.out.alloc (.cells #[.slice ao8 n cap8] 27)
    have bq : zb4 b3 w9 (vs ++ [.slice ao8 n cap8]) (zc9 s (k + 1 + 1)) := by
     rw [zhi]
     exact zb4.grown ((bj.out.snoc aS.out hb3r bF.out).up ((Up.refl _).alloc _)) aD (by decide) aC
    have br := (bo.out.up (aS.out.alloc (.cells #[.slice ao8 n cap8] 27))).grow aD ac aC
    have aT : Up w w9 := ((aO.out.trans aS.out).alloc _).grown aC (fun j hj => by have := (aD.lt j hj).1; omega)
    have au : sliceLen v9 = k + 1 + 1 := by obtain ⟨a7, c7, rfl⟩ := za1 af; rfl
    have bG := zh bq
    have bH := zh br
    have bI := zh aT
    have bJ := zh af
    have bK := zh (HT.out.up aT)
    clear ag aC aD bq br aT af
    go_wp2_with (go_at_call 189; refine (zk6 (k := k + 1) (n := n) bH.out HR.out bK.out ah.out aQ).mono ?_; rintro r bP ⟨v10, rfl, av, aw, ax⟩; (have aU := zh av); (have aV := zh (ax _ bI.out a8)); (have ay := zh aw); clear av ax aw)
    go_roundw
    case rel => exact ⟨k + 1, _, aQ, zht bJ.out ac ay.out, bG.out.turn ac ay.out, aV.out, aU.out⟩
    case measure => simp [aR, au]; omega
theorem zAh (s : Sy.Lts) (se : Value) (xt : TypeId) (xv : Value) (w : World) (hT : Tab w) (hG : zFl w) (hs : Ls3 w se s.es) (hE : w.cell? ⟨13, 0, none⟩ = some (.iface xt xv)) (hl : s.es.length <= maxLen) :
  Calls prog 126 #[zCb s se] w (zo3 s w (.iface xt xv)) := by
 cases hr : Sy.right s
 ·exact zA6 s se xt xv w hr hs hE hG hl
 ·exact all_good s se xt xv w hr hT hs hE hl
theorem zjg {w : World} {g off i : Nat} {c : List Nat} (h : zk9 w g off (c.map Int.ofNat)) (hi : i < c.length) : w.cell? ⟨g, off + i, none⟩ = some (.int .i64 ((c.getD i 0 : Nat) : Int)) := by
 have := h i (by rw [List.length_map]; exact hi)
 rw [this]
 simp [List.getD, hi]
theorem zsx {w : World} {pb qb p q : Nat} {c : List Nat} {v : Value} (hp : w.cell? ⟨pb, 0, none⟩ = some (.int .i64 (p : Nat))) (hq : w.cell? ⟨qb, 0, none⟩ = some (.int .i64 (q : Nat))) (hv : Lst w v (c.map Int.ofNat)) (aa : p < c.length) (ab : q < c.length) (hm : c.length <= 1000) :
  Calls prog 158 #[v, .pointer (some ⟨pb, 0, none⟩), .pointer (some ⟨qb, 0, none⟩)] w fun r w' => r = .returned (.bool (c.getD p 0 != c.getD q 0)) /\ Up w w' := by
 obtain ⟨ao, cap, g, off, rfl, ha, hx⟩ := hv
 have ae := zjg hx aa
 have af := zjg hx ab
 rw [List.length_map] at ha ⊢
 obtain rfl := ha (by omega)
 obtain ⟨n, hn⟩ := nm (c.length)
 rw [<- hn] at aa ab hm ⊢
 obtain ⟨x, ac⟩ : ∃ x, c.getD p 0 = x := ⟨_, rfl⟩
 obtain ⟨y, ad⟩ : ∃ y, c.getD q 0 = y := ⟨_, rfl⟩
 rw [ac] at ae ⊢
 rw [ad] at af ⊢
 clear hx ha hn ac ad
 by_cases hxy : x = y
 ·subst hxy
  have q1 : ((x : Int) != (x : Int)) = false := by simp
  have HQ : Hid (false = (x != x)) := zh (by simp)
  go_enter func158, ntmps158
  go_wp2_with fail
  go_quiet (fail)
  go_wp2_with fail
  go_ret
  exact ⟨zao HQ.out, (Up.refl w).drewN _⟩
 ·have q1 : ((x : Int) != (y : Int)) = true := by simp; omega
  have HQ : Hid (true = (x != y)) := zh (by simp [hxy])
  clear hxy
  go_enter func158, ntmps158
  go_wp2_with fail
  go_quiet (fail)
  go_wp2_with fail
  go_ret
  exact ⟨zao HQ.out, (Up.refl w).drewN _⟩
def zfh (w : World) (v : Value) (rows : List (List Nat)) : Prop :=
 ∃ g cap, v = .slice (some ⟨g, 0, none⟩) rows.length cap /\ ∀ i, i < rows.length -> ∃ u, w.cell? ⟨g, i, none⟩ = some u /\ Lst w u ((rows.getD i []).map Int.ofNat)
theorem zfh.up {w w1 : World} {v : Value} {rows : List (List Nat)} (h : zfh w v rows) (hu : Up w w1) : zfh w1 v rows := by
 obtain ⟨g, cap, hv, hr⟩ := h
 refine ⟨g, cap, hv, fun i hi => ?_⟩
 obtain ⟨u, h1, h2⟩ := hr i hi
 exact ⟨u, hu.cell h1, h2.up hu⟩
theorem zb4.at {w : World} {b n : Nat} {v : Value} {vs : List Value} {rows : List (List Nat)} (ho : w.ownsRow b 27 1 v n vs) (h : zb4 b w vs rows) (hn : rows.length = n) (h0 : 0 < n) : zfh w v rows := by
 rcases za4 ho with ⟨-, h1, -⟩ | ⟨g, cap, rfl, hr, -⟩
 ·omega
 ·refine ⟨g, cap, by rw [hn], fun i hi => ?_⟩
  have aa : i < vs.length := by rw [h.1]; exact hi
  refine ⟨vs.getD i undef, hr.cell (by simp [List.getD, aa]), zcy (h.2.1 i hi)⟩
def zbm (rows : List (List Nat)) (p q : Nat) : Int :=
 match rows.findIdx? (fun l => l.getD p 0 != l.getD q 0) with
 | some k => (k : Int)
 | none => -1
theorem zmy {rows : List (List Nat)} {p q j : Nat} (hj : j < rows.length) (h : ∀ k, k < j -> ((rows.getD k []).getD p 0 != (rows.getD k []).getD q 0) = false) (h1 : ((rows.getD j []).getD p 0 != (rows.getD j []).getD q 0) = true) : zbm rows p q = j := by
 have : rows.findIdx? (fun l => l.getD p 0 != l.getD q 0) = some j := by
  rw [List.findIdx?_eq_some_iff_getElem]
  refine ⟨hj, ?_, fun k hk => ?_⟩
  ·rw [zaa [] hj]; exact h1
  ·rw [zaa [] (by omega : k < rows.length), h k hk]; simp
 unfold zbm; rw [this]
theorem zj6 {rows : List (List Nat)} {p q : Nat} (h : ∀ k, k < rows.length -> ((rows.getD k []).getD p 0 != (rows.getD k []).getD q 0) = false) : zbm rows p q = -1 := by
 have : rows.findIdx? (fun l => l.getD p 0 != l.getD q 0) = none := by
  rw [List.findIdx?_eq_none_iff]
  intro l hl
  obtain ⟨k, hk, rfl⟩ := List.mem_iff_getElem.1 hl
  rw [zaa [] hk]; exact h k hk
 unfold zbm; rw [this]
theorem zuy {w : World} {pb qb p q : Nat} {rows : List (List Nat)} {v : Value} (hp : w.cell? ⟨pb, 0, none⟩ = some (.int .i64 (p : Nat))) (hq : w.cell? ⟨qb, 0, none⟩ = some (.int .i64 (q : Nat))) (hv : zfh w v rows) (hm : rows.length <= 1001)
  (hl : ∀ c ∈ rows, p < c.length /\ q < c.length /\ c.length <= 1000) :
  Calls prog 157 #[v, .func (.func 158) #[] #[.pointer (some ⟨pb, 0, none⟩), .pointer (some ⟨qb, 0, none⟩)]] w fun r w' => r = .returned (.int .i64 (zbm rows p q)) /\ Up w w' := by
 obtain ⟨g, cap, rfl, hr⟩ := hv
 obtain ⟨m, ad⟩ := nm (rows.length)
 rw [<- ad] at hm ⊢
 have HM := zh ad
 have HR := zh hr
 have HL := zh hl
 have HP := zh hp
 have HQ := zh hq
 clear ad hr hl hp hq
 go_enter func157, ntmps157
 go_wp2_with fail
 go_loopw [8] (fun i wr => ∃ j : Nat, j <= m /\ i = .int .i64 j /\ Up w wr /\ Hid (∀ k, k < j -> ((rows.getD k []).getD p 0 != (rows.getD k []).getD q 0) = false)) (fun i _ => m - (intOf i).toNat)
 case atStart => exact ⟨0, Nat.zero_le _, rfl, Up.refl _, fun k hk => by omega⟩
 case round =>
  obtain ⟨j, hj, rfl, hU, HE⟩ := hrel
  by_cases hlt : j < m
  ·obtain ⟨u, hc, ab⟩ := HR.out j (by rw [<- HM.out]; exact hlt)
   have ac : rows.getD j [] ∈ rows := by rw [<- zaa [] (by rw [<- HM.out]; exact hlt)]; exact List.getElem_mem _
   obtain ⟨af, ag, ah⟩ := HL.out _ ac
   have aa : ∀ W, Up w W -> Calls prog 158 #[u, .pointer (some ⟨pb, 0, none⟩), .pointer (some ⟨qb, 0, none⟩)] W fun r w' => r = .returned (.bool ((rows.getD j []).getD p 0 != (rows.getD j []).getD q 0)) /\ Up W w' := fun W hW =>
    zsx (hW.cell HP.out) (hW.cell HQ.out) (ab.up hW) af ag ah
   obtain ⟨ao, ucap, ug, uoff, ai, -, -⟩ := ab
   obtain ⟨L, aj⟩ := nm (((rows.getD j []).map Int.ofNat).length)
   rw [<- aj] at ai
   subst ai
   clear aj
   have c0 := hU.cell hc
   obtain ⟨t, ht⟩ : ∃ t, ((rows.getD j []).getD p 0 != (rows.getD j []).getD q 0) = t := ⟨_, rfl⟩
   rw [ht] at aa
   have HT := zh ht
   have HC := zh aa
   clear hc ac af ag ah aa ht
   cases t
   ·go_wp2_with (go_at_call 158; refine (HC.out _ hU).mono ?_; rintro r w1 ⟨rfl, ae⟩)
    go_roundw
    case rel => exact ⟨j + 1, by omega, by go_num, hU.trans ae, fun k hk => by
      by_cases hkj : k = j
      ·rw [hkj]; exact HT.out
      ·exact HE.out k (by omega)⟩
    case measure => simp [intOf] <;> omega
   ·go_wp2_with (go_at_call 158; refine (HC.out _ hU).mono ?_; rintro r w1 ⟨rfl, ae⟩)
    go_ret
    exact ⟨ze0 (zmy (by rw [<- HM.out]; exact hlt) HE.out HT.out).symm, hU.trans ae⟩
  ·obtain rfl : j = m := by omega
   go_wp2_with fail
   go_ret
   exact ⟨ze0 (zj6 (fun k hk => HE.out k (by rw [HM.out]; exact hk))).symm, hU⟩
theorem zwp {w : World} {p q : Nat} {rows : List (List Nat)} {v : Value} (hv : zfh w v rows) (hm : rows.length <= 1001) (hl : ∀ c ∈ rows, p < c.length /\ q < c.length /\ c.length <= 1000) :
  Calls prog 127 #[v, .int .i64 (p : Nat), .int .i64 (q : Nat)] w fun r w' => r = .returned (.int .i64 (zbm rows p q)) /\ Up w w' := by
 have HI : Hid (∀ W pb qb, Up w W -> W.cell? ⟨pb, 0, none⟩ = some (.int .i64 (p : Nat)) -> W.cell? ⟨qb, 0, none⟩ = some (.int .i64 (q : Nat)) -> Calls prog 157 #[v, .func (.func 158) #[] #[.pointer (some ⟨pb, 0, none⟩), .pointer (some ⟨qb, 0, none⟩)]] W fun r w' => r = .returned (.int .i64 (zbm rows p q)) /\ Up W w') :=
  zh (fun W pb qb hW h1 h2 => zuy h1 h2 (hv.up hW) hm hl)
 obtain ⟨g, cap, rfl, -⟩ := hv
 obtain ⟨m, aa⟩ := nm (rows.length)
 rw [<- aa] at HI ⊢
 obtain ⟨f, hf⟩ := nm (zbm rows p q)
 rw [<- hf] at HI ⊢
 clear aa hf hm hl
 go_enter func127, ntmps127
 go_wp2_with (go_at_call 157; refine (HI.out _ _ _ (((Up.refl w).alloc _).alloc _) (by simp) (by simp)).mono ?_; rintro r w1 ⟨rfl, ab⟩)
 go_ret
 exact ⟨rfl, (((Up.refl w).alloc _).alloc _).trans ab⟩
end Go.Proofs.YtoaoajfjcfcmhaaGreatDoor
namespace Go.Proofs.YtoaoajfjcfcmhaaGreatDoor
open Go.RowKit Go.Extern.Stop Go.Stop Go.Extern
theorem zn8 (qb pb : Nat) (b : Addr) (w : World) (h0 : w.cell? ⟨qb, 3, none⟩ = some (.iface 70 (.pointer (some ⟨pb, 0, none⟩)))) (h1 : w.cell? ⟨pb, 3, none⟩ = some (.iface 335 (.pointer (some b)))) :
  Calls prog 20 #[.iface 70 (.pointer (some ⟨qb, 0, none⟩)), .iface 335 (.pointer (some b))] w fun e w' => e = .returned (.bool true) /\ w = w' := by
 obtain ⟨i, hi, aa⟩ := Option.map_eq_some_iff.1 Tryz.zFq
 obtain ⟨j, hj, ac⟩ := Option.map_eq_some_iff.1 Tryz.zFo
 have h8 := @run_callFunc_extern prog 80 _ Extern.ReflectliteType.typeOf func80 (by kernel_rfl) (by kernel_rfl) (by kernel_rfl) (by kernel_rfl)
 have ad := @run_callFunc_extern prog 282 _ (Extern.ReflectliteType.method Tryz.zGk) func282 (by kernel_rfl) (by kernel_rfl) (by kernel_rfl) (by kernel_rfl)
 have tT := Tryz.zEg
 have cT := Tryz.zD7
 have mR := Tryz.zCe
 have nE := Tryz.zHz
 have uE := Tryz.zDz
 have vE := Tryz.zDk
 have nW := Tryz.zJg
 have uW := Tryz.zEl
 have mU := Tryz.zDr
 have ae := run_eql_iface_ptr_same (P := prog) w b underlying50 underlying335 hi aa hj
 have af := run_eql_iface_types (P := prog) 70 335 (.pointer (some ⟨pb, 0, none⟩)) (.pointer (some b)) underlying50 (by decide) w
 have ab := run_eql_iface_types (P := prog) 70 335 (.pointer (some ⟨qb, 0, none⟩)) (.pointer (some b)) underlying50 (by decide) w
 go_enter func20, ntmps20
 go_wp2
 refine wp_loop_rounds 3 ?_
 rw [rounds_succ]
 go_wp2
 rw [rounds_succ]
 go_wp2
 rw [rounds_succ]
 go_wp2
 go_ret
 exact ⟨rfl, rfl⟩
theorem zl0 (qb pb : Nat) (b a : Addr) (ca cb : Array Value) (ta tb : TypeId) (w : World) (h0 : w.cell? ⟨qb, 3, none⟩ = some (.iface 70 (.pointer (some ⟨pb, 0, none⟩)))) (h1 : w.cell? ⟨pb, 3, none⟩ = some (.iface 335 (.pointer (some a)))) (ab : a ≠ b) (ha : w.heap[a.block]? = some (.cells ca ta (0, 0))) (hb : w.heap[b.block]? = some (.cells cb tb (0, 0))) :
  Calls prog 20 #[.iface 70 (.pointer (some ⟨qb, 0, none⟩)), .iface 335 (.pointer (some b))] w fun e w' => e = .returned (.bool false) /\ w = w' := by
 obtain ⟨i, hi, aa⟩ := Option.map_eq_some_iff.1 Tryz.zFq
 obtain ⟨j, hj, ac⟩ := Option.map_eq_some_iff.1 Tryz.zFo
 have h8 := @run_callFunc_extern prog 80 _ Extern.ReflectliteType.typeOf func80 (by kernel_rfl) (by kernel_rfl) (by kernel_rfl) (by kernel_rfl)
 have ae := @run_callFunc_extern prog 282 _ (Extern.ReflectliteType.method Tryz.zGk) func282 (by kernel_rfl) (by kernel_rfl) (by kernel_rfl) (by kernel_rfl)
 have tT := Tryz.zEg
 have cT := Tryz.zD7
 have mR := Tryz.zCe
 have nE := Tryz.zHz
 have uE := Tryz.zDz
 have vE := Tryz.zDk
 have nW := Tryz.zJg
 have uW := Tryz.zEl
 have mU := Tryz.zDr
 have af := run_eql_iface_ptr_other (P := prog) w underlying50 underlying335 hi aa hj (by rw [ac]; decide) ab ha hb
 have ag := run_eql_iface_types (P := prog) 70 335 (.pointer (some ⟨pb, 0, none⟩)) (.pointer (some b)) underlying50 (by decide) w
 have ad := run_eql_iface_types (P := prog) 70 335 (.pointer (some ⟨qb, 0, none⟩)) (.pointer (some b)) underlying50 (by decide) w
 go_enter func20, ntmps20
 go_wp2
 refine wp_loop_rounds 3 ?_
 rw [rounds_succ]
 go_wp2
 rw [rounds_succ]
 go_wp2
 rw [rounds_succ]
 go_wp2
 go_ret
 exact ⟨rfl, rfl⟩
theorem zm0 (b : Addr) (w : World) :
  Calls prog 20 #[.iface 335 (.pointer (some b)), .iface 335 (.pointer (some b))] w fun e w' => e = .returned (.bool true) /\ w = w' := by
 obtain ⟨i, hi, aa⟩ := Option.map_eq_some_iff.1 Tryz.zFq
 obtain ⟨j, hj, ab⟩ := Option.map_eq_some_iff.1 Tryz.zFo
 have h8 := @run_callFunc_extern prog 80 _ Extern.ReflectliteType.typeOf func80 (by kernel_rfl) (by kernel_rfl) (by kernel_rfl) (by kernel_rfl)
 have ac := @run_callFunc_extern prog 282 _ (Extern.ReflectliteType.method Tryz.zGk) func282 (by kernel_rfl) (by kernel_rfl) (by kernel_rfl) (by kernel_rfl)
 have tT := Tryz.zEg
 have cT := Tryz.zD7
 have mR := Tryz.zCe
 have nE := Tryz.zHz
 have uE := Tryz.zDz
 have vE := Tryz.zDk
 have ad := run_eql_iface_ptr_same (P := prog) w b underlying50 underlying335 hi aa hj
 go_enter func20, ntmps20
 go_wp2
 refine wp_loop_rounds 1 ?_
 rw [rounds_succ]
 go_wp2
 go_ret
 exact ⟨rfl, rfl⟩
theorem zls (b a : Addr) (ca cb : Array Value) (ta tb : TypeId) (w : World) (ab : a ≠ b) (ha : w.heap[a.block]? = some (.cells ca ta (0, 0))) (hb : w.heap[b.block]? = some (.cells cb tb (0, 0))) :
  Calls prog 20 #[.iface 335 (.pointer (some a)), .iface 335 (.pointer (some b))] w fun e w' => e = .returned (.bool false) /\ w = w' := by
 obtain ⟨i, hi, aa⟩ := Option.map_eq_some_iff.1 Tryz.zFq
 obtain ⟨j, hj, ac⟩ := Option.map_eq_some_iff.1 Tryz.zFo
 have h8 := @run_callFunc_extern prog 80 _ Extern.ReflectliteType.typeOf func80 (by kernel_rfl) (by kernel_rfl) (by kernel_rfl) (by kernel_rfl)
 have ad := @run_callFunc_extern prog 282 _ (Extern.ReflectliteType.method Tryz.zGk) func282 (by kernel_rfl) (by kernel_rfl) (by kernel_rfl) (by kernel_rfl)
 have tT := Tryz.zEg
 have cT := Tryz.zD7
 have mR := Tryz.zCe
 have nE := Tryz.zHz
 have uE := Tryz.zDz
 have vE := Tryz.zDk
 have ae := run_eql_iface_ptr_other (P := prog) w underlying50 underlying335 hi aa hj (by rw [ac]; decide) ab ha hb
 go_enter func20, ntmps20
 go_wp2
 refine wp_loop_rounds 1 ?_
 rw [rounds_succ]
 go_wp2
 go_ret
 exact ⟨rfl, rfl⟩
def Wraps (w : World) (v : Value) (a : Addr) : Prop :=
 v = .iface 335 (.pointer (some a)) \/ ∃ pb, v = .iface 70 (.pointer (some ⟨pb, 0, none⟩)) /\ w.cell? ⟨pb, 3, none⟩ = some (.iface 335 (.pointer (some a)))
theorem zky {w : World} {v : Value} {a : Addr} (h : Wraps w v a) :
  Calls prog 20 #[v, .iface 335 (.pointer (some a))] w fun e w' => e = .returned (.bool true) /\ w = w' := by
 rcases h with rfl | ⟨pb, rfl, hc⟩
 ·exact zm0 a w
 ·exact zdm pb a w hc
theorem zfb {w : World} {v : Value} {a b : Addr} {ca cb : Array Value} {ta tb : TypeId} (h : Wraps w v a) (aa : a ≠ b) (ha : w.heap[a.block]? = some (.cells ca ta (0, 0))) (hb : w.heap[b.block]? = some (.cells cb tb (0, 0))) :
  Calls prog 20 #[v, .iface 335 (.pointer (some b))] w fun e w' => e = .returned (.bool false) /\ w = w' := by
 rcases h with rfl | ⟨pb, rfl, hc⟩
 ·exact zls b a ca cb ta tb w aa ha hb
 ·exact zep pb b a ca cb ta tb w hc aa ha hb
structure zJm (w : World) (g : Nat) (a : Addr) : Prop where
 var : w.cell? ⟨g, 0, none⟩ = some (.iface 335 (.pointer (some a)))
 blk : ∃ ca ta, w.heap[a.block]? = some (.cells ca ta (0, 0))
theorem zec {w : World} {v : Value} {a : Addr} (h : Wraps w v a) : ∃ t p, v = .iface t p := by
 rcases h with rfl | ⟨pb, rfl, _⟩ <;> exact ⟨_, _, rfl⟩
theorem zBg {w : World} {v : Value} {a a1 a2 : Addr} (h : Wraps w v a) (s1 : zJm w 5 a1) (s2 : zJm w 2 a2) (s3 : zJm w 1 a) (n1 : a ≠ a1) (n2 : a ≠ a2) :
  Calls prog 23 #[v] w fun r w' => r = .returned (.int .i64 3) /\ w = w' := by
 obtain ⟨c, tc, hc⟩ := s3.blk
 obtain ⟨c1, t1, aa⟩ := s1.blk
 obtain ⟨c2, t2, ab⟩ := s2.blk
 have H := zh (zky h)
 have H1 := zh (zfb h n1 hc aa)
 have H2 := zh (zfb h n2 hc ab)
 obtain ⟨t, p, rfl⟩ := zec h
 have g1 := s1.var
 have g2 := s2.var
 have g3 := s3.var
 clear h s1 s2 s3 hc aa ab n1 n2
 go_enter func23, ntmps23
 go_wp2_with (first
  | (go_at_call 20; (with_reducible refine H1.out.mono ?_); rintro e w4 ⟨rfl, rfl⟩)
  | (go_at_call 20; (with_reducible refine H2.out.mono ?_); rintro e w4 ⟨rfl, rfl⟩)
  | (go_at_call 20; (with_reducible refine H.out.mono ?_); rintro e w4 ⟨rfl, rfl⟩))
 go_ret
 exact ⟨rfl, rfl⟩
end Go.Proofs.YtoaoajfjcfcmhaaGreatDoor
namespace Go.Proofs.YtoaoajfjcfcmhaaGreatDoor
open Go.RowKit
theorem zi0 {w : World} {a b : Addr} {s t : ByteArray} (ha : w.cell? a = some (.string s)) (hb : w.cell? b = some (.string t)) (h : s.data.toList ≠ t.data.toList) : a ≠ b := by
 rintro rfl
 rw [ha] at hb
 simp only [Option.some.injEq, Value.string.injEq] at hb
 exact h (by rw [hb])
theorem zbi {P : Program} {W : World} {n : String} {g : Nat} {a : Addr} {c : Array Value} {t : TypeId} (hg : P.globalNamed n = some g) (hv : W.var? P n = some #[.iface 335 (.pointer (some a))]) (hb : W.heap[a.block]? = some (.cells c t (0, 0))) : zJm W g a :=
 ⟨by simpa using World.var?_cell hg hv 0, c, t, hb⟩
end Go.Proofs.YtoaoajfjcfcmhaaGreatDoor
