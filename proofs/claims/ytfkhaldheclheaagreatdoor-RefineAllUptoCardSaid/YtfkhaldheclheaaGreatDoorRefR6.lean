/- Walks: the reference's New and Of. Walks: the reference's Of. -/
import Derived.Test.YtfkhaldheclheaaGreatDoorRefR3
import Derived.Deep.RegionWith
import Derived.BigRegion
import Derived.Deep.DeepCutAuto

namespace Go.Proofs.YtfkhaldheclheaaGreatDoor
open Go.RowKit
set_option linter.unusedVariables false
set_option linter.unusedSimpArgs false

theorem Tryz.boolInfo : (Tryz.prog.info? 4).map (fun i => (i.zero, i.size, i.bytes)) = some (some (.bool false), 1, 1) := by kernel_rfl

theorem zero_rowB (w : World) (n : Nat) (Z : Array Value) (hZ : Z = madeCells (Value.bool false).cells (n * 1)) : Row (w.alloc (.cells Z 4)) w.heap.size 4 n (bools (List.replicate n false)) := by
  refine ⟨Z, heap_alloc_new w _, by rw [hZ, size_madeCells]; omega, by simp [bools], ?_⟩
  have e : Z.toList = bools (List.replicate n false) := by
    rw [hZ, Nat.mul_one, show (Value.bool false).cells = #[Value.bool false] from rfl, toList_madeCells_one]; simp [bools]
  rw [e, List.take_of_length_le (Nat.le_refl _)]

theorem zero_rowI (w : World) (n : Nat) (Z : Array Value) (hZ : Z = madeCells (Value.int .i64 0).cells (n * 1)) : Row (w.alloc (.cells Z 3)) w.heap.size 3 n (ints (List.replicate n 0)) := by
  refine ⟨Z, heap_alloc_new w _, by rw [hZ, size_madeCells]; omega, by simp [ints], ?_⟩
  have e : Z.toList = ints (List.replicate n 0) := by
    rw [hZ, Nat.mul_one, ints_zero]; exact toList_madeCells_one _ _
  rw [e, List.take_of_length_le (Nat.le_refl _)]

/-- What the reference's New and Of leave: a partition by value. -/
def RefMade (w : World) (n : Nat) (inn : List Nat) (mk : List Bool) (nb : Nat) (r : Ending) (w' : World) : Prop :=
  ∃ vB vM, r = .returned (.tuple #[.agg #[vB, vM, .int .i64 (nb : Nat)], .bool true]) ∧ w'.ownsRow w.heap.size 3 1 vB n (ints inn) ∧ w'.ownsRow w.heap.size 4 1 vM n (bools mk) ∧ Up w w'

theorem Row.ownsAt {w : World} {g cap n size base : Nat} {e : TypeId} {xs : List Value} (h : Row w g e (cap * size) xs) (hn : n ≤ cap) (hc : cap ≤ maxLen) (hx : xs.length = n * size) (hb : base ≤ g) :
    w.ownsRow base e size (.slice (some ⟨g, 0, none⟩) n cap) n xs := by
  obtain ⟨cur, hg, hs, hl, ht⟩ := h
  exact ⟨hx, .inr ⟨g, cap, cur, rfl, hb, hg, hn, hc, hs, by rw [← hx]; exact ht⟩⟩

theorem heapUp {w : World} {g : Nat} {o o' : Obj} (h : w.heap[g]? = some o) : (w.alloc o').heap[g]? = some o :=
  (Below.heap_alloc _ _ _ (Array.getElem?_eq_some_iff.1 h).1).trans h
theorem heapDrew {w : World} {g : Nat} {o : Obj} (h : w.heap[g]? = some o) : w.drew.heap[g]? = some o := h
theorem heapNew {w : World} {g : Nat} {o : Obj} (h : g = w.heap.size) : (w.alloc o).heap[g]? = some o := by rw [h]; exact heap_alloc_new w o

theorem rowI_of {W : World} {g n : Nat} {Z : Array Value} (hZ : Z = madeCells (Value.int .i64 0).cells (n * 1)) (h : W.heap[g]? = some (.cells Z 3 (0, 0))) : Row W g 3 n (ints (List.replicate n 0)) := by
  refine ⟨Z, h, by rw [hZ, size_madeCells]; omega, by simp [ints], ?_⟩
  have e : Z.toList = ints (List.replicate n 0) := by
    rw [hZ, Nat.mul_one, ints_zero]; exact toList_madeCells_one _ _
  rw [e, List.take_of_length_le (Nat.le_refl _)]

theorem rowB_of {W : World} {g n : Nat} {Z : Array Value} (hZ : Z = madeCells (Value.bool false).cells (n * 1)) (h : W.heap[g]? = some (.cells Z 4 (0, 0))) : Row W g 4 n (bools (List.replicate n false)) := by
  refine ⟨Z, h, by rw [hZ, size_madeCells]; omega, by simp [bools], ?_⟩
  have e : Z.toList = bools (List.replicate n false) := by
    rw [hZ, Nat.mul_one, show (Value.bool false).cells = #[Value.bool false] from rfl, toList_madeCells_one]; simp [bools]
  rw [e, List.take_of_length_le (Nat.le_refl _)]

theorem refMade_of {w W : World} {n gB gM nb : Nat} {ZI ZB : Array Value} (hml : n ≤ maxLen) (hI : ZI = madeCells (Value.int .i64 0).cells (n * 1)) (hB : ZB = madeCells (Value.bool false).cells (n * 1)) (h1 : W.heap[gB]? = some (.cells ZI 3 (0, 0))) (h2 : W.heap[gM]? = some (.cells ZB 4 (0, 0)))
    (g1 : w.heap.size ≤ gB) (g2 : w.heap.size ≤ gM) (hu : Up w W) : RefMade w n (List.replicate n 0) (List.replicate n false) nb (.returned (.tuple #[.agg #[.slice (some ⟨gB, 0, none⟩) n n, .slice (some ⟨gM, 0, none⟩) n n, .int .i64 (nb : Nat)], .bool true])) W :=
  ⟨_, _, rfl, Row.ownsAt (by rw [Nat.mul_one]; exact rowI_of hI h1) (Nat.le_refl _) hml (by simp [ints]) g1, Row.ownsAt (by rw [Nat.mul_one]; exact rowB_of hB h2) (Nat.le_refl _) hml (by simp [bools]) g2, hu⟩

set_option maxHeartbeats 4000000 in
set_option maxRecDepth 100000 in
theorem refNew (n : Nat) (w : World) (hn : n ≤ 1000) :
    Calls Tryz.prog 8 #[.int .i64 n] w (RefMade w n (List.replicate n 0) (List.replicate n false) (if 0 < n then 1 else 0)) := by
  obtain ⟨i0, hi, hz0, hz1, hz2⟩ := info_parts Tryz.intInfo
  obtain ⟨j0, hj, hy0, hy1, hy2⟩ := info_parts Tryz.boolInfo
  obtain ⟨ZI, hZI⟩ : ∃ Z, Z = madeCells (Value.int .i64 0).cells (n * 1) := ⟨_, rfl⟩
  obtain ⟨ZB, hZB⟩ : ∃ Z, Z = madeCells (Value.bool false).cells (n * 1) := ⟨_, rfl⟩
  have hmkI : ∀ w, (Instr.makeSlice 22 (.int .i64 (n : Int)) (.int .i64 (n : Int))).run Tryz.prog w = .ok (.slice (some ⟨w.heap.size, 0, none⟩) n n) (w.alloc (.cells ZI 3)) := by
    intro w
    have h := run_make (P := Tryz.prog) w 22 3 i0 (.int .i64 0) Tryz.underlying22 hi hz0 .i64 .i64 n n (by omega) (by omega) (by rw [hz2]; omega) (by omega)
    rw [h, hZI, hz1]; simp
  have hmkB : ∀ w, (Instr.makeSlice 46 (.int .i64 (n : Int)) (.int .i64 (n : Int))).run Tryz.prog w = .ok (.slice (some ⟨w.heap.size, 0, none⟩) n n) (w.alloc (.cells ZB 4)) := by
    intro w
    have h := run_make (P := Tryz.prog) w 46 4 j0 (.bool false) Tryz.underlying46 hj hy0 .i64 .i64 n n (by omega) (by omega) (by rw [hy2]; omega) (by omega)
    rw [h, hZB, hy1]; simp
  have HI := Lib.hid hZI
  have HB := Lib.hid hZB
  have hml : n ≤ maxLen := by unfold maxLen; omega
  clear hZI hZB hi hz0 hz1 hz2 hj hy0 hy1 hy2
  have q0 : decide ((n : Int) < 0) = false := by simp
  have q1 : decide (1000 < (n : Int)) = false := by simp; omega
  by_cases h0 : 0 < n
  · have h0' : (0 : Int) < (n : Int) := by omega
    rw [if_pos h0]
    go_enter Tryz.func8, Tryz.ntmps8
    go_wp2_with fail
    go_region_with (fail)
    all_goals go_wp2_with fail
    all_goals
      apply bodyPost_ret
      · (simp [results, Tryz.results8, go_sem]; rfl)
      · rfl
      · exact refMade_of (nb := 1) hml HI.out HB.out (by repeat (first | (apply heapNew; (simp only [World.size_alloc]; done)) | apply heapUp | apply heapDrew)) (by repeat (first | (apply heapNew; (simp only [World.size_alloc]; done)) | apply heapUp | apply heapDrew)) (by omega) (by omega) (by repeat (first | exact Up.refl _ | apply Up.drew | apply Up.alloc))
  · have q2 : decide (0 < n) = false := by simpa using h0
    rw [if_neg h0]
    clear h0
    go_enter Tryz.func8, Tryz.ntmps8
    go_wp2_with fail
    go_region_with (fail)
    all_goals go_wp2_with fail
    all_goals
      apply bodyPost_ret
      · (simp [results, Tryz.results8, go_sem]; rfl)
      · rfl
      · exact refMade_of (nb := 0) hml HI.out HB.out (by repeat (first | (apply heapNew; (simp only [World.size_alloc]; done)) | apply heapUp | apply heapDrew)) (by repeat (first | (apply heapNew; (simp only [World.size_alloc]; done)) | apply heapUp | apply heapDrew)) (by omega) (by omega) (by repeat (first | exact Up.refl _ | apply Up.drew | apply Up.alloc))

set_option maxHeartbeats 1000000 in
set_option maxRecDepth 100000 in
theorem refNew_bad (n : Int) (w : World) (h : n < 0 ∨ 1000 < n) :
    Calls Tryz.prog 8 #[.int .i64 n] w fun r w' => r = .returned (.tuple #[.agg #[.slice none 0 0, .slice none 0 0, .int .i64 0], .bool false]) ∧ Up w w' := by
  by_cases h0 : n < 0
  · go_enter Tryz.func8, Tryz.ntmps8
    go_wp2_with fail
    apply bodyPost_ret
    · (simp [results, Tryz.results8, go_sem]; rfl)
    · rfl
    · exact ⟨rfl, by repeat (first | exact Up.refl _ | apply Up.drew | apply Up.alloc)⟩
  · have h1 : 1000 < n := by omega
    have h2 : 0 ≤ n := by omega
    clear h h0
    go_enter Tryz.func8, Tryz.ntmps8
    go_wp2_with fail
    apply bodyPost_ret
    · (simp [results, Tryz.results8, go_sem]; rfl)
    · rfl
    · exact ⟨rfl, by repeat (first | exact Up.refl _ | apply Up.drew | apply Up.alloc)⟩

set_option maxHeartbeats 1000000 in
set_option maxRecDepth 100000 in
theorem refOf_bad (ao : Option Addr) (n cap : Nat) (w : World) (h : 1000 < n) (hm : n ≤ 9223372036854775807) :
    Calls Tryz.prog 10 #[.slice ao n cap] w fun r w' => r = .returned (.tuple #[.agg #[.slice none 0 0, .slice none 0 0, .int .i64 0], .bool false]) ∧ Up w w' := by
  have h1 : (1000 : Int) < (n : Int) := by omega
  go_enter Tryz.func10, Tryz.ntmps10
  go_wp2_with fail
  apply bodyPost_ret
  · (simp [results, Tryz.results10, go_sem]; rfl)
  · rfl
  · exact ⟨rfl, by repeat (first | exact Up.refl _ | apply Up.drew | apply Up.alloc)⟩

end Go.Proofs.YtfkhaldheclheaaGreatDoor

namespace Go.Proofs.YtfkhaldheclheaaGreatDoor
open Go.RowKit
set_option linter.unusedVariables false
set_option linter.unusedSimpArgs false

theorem upHeap {w w1 : World} {g : Nat} {o : Obj} (hu : Up w w1) (h : w.heap[g]? = some o) : w1.heap[g]? = some o := (hu.block g (Array.getElem?_eq_some_iff.1 h).1).trans h

theorem heapSet {w : World} {g : Nat} {o : Obj} {p : Addr} (h : w.heap[g]? = some o) (hp : g ≠ p.block) (v : Value) : (w.setCell p v).heap[g]? = some o := (Below.heap_setCell _ _ _ _ hp).trans h

theorem refMade_of2 {w W : World} {n gB gM nb : Nat} {inn : List Nat} {ZB : Array Value} (hml : n ≤ maxLen) (hn : inn.length = n) (hB : ZB = madeCells (Value.bool false).cells (n * 1)) (h1 : Row W gB 3 n (ints inn)) (h2 : W.heap[gM]? = some (.cells ZB 4 (0, 0)))
    (g1 : w.heap.size ≤ gB) (g2 : w.heap.size ≤ gM) (hu : Up w W) : RefMade w n inn (List.replicate n false) nb (.returned (.tuple #[.agg #[.slice (some ⟨gB, 0, none⟩) n n, .slice (some ⟨gM, 0, none⟩) n n, .int .i64 (nb : Nat)], .bool true])) W :=
  ⟨_, _, rfl, Row.ownsAt (by rw [Nat.mul_one]; exact h1) (Nat.le_refl _) hml (by rw [ints_length, hn, Nat.mul_one]) g1, Row.ownsAt (by rw [Nat.mul_one]; exact rowB_of hB h2) (Nat.le_refl _) hml (by simp [bools]) g2, hu⟩

set_option maxHeartbeats 4000000 in
set_option maxRecDepth 100000 in
theorem refOf {v : Value} {l : List Int} {w : World} (hn : l.length ≤ 1000) (hv : Lst w v l) :
    Calls Tryz.prog 10 #[v] w (RefMade w l.length (Cn.canon l) (List.replicate l.length false) (Cn.seen l).length) := by
  obtain ⟨j0, hj, hy0, hy1, hy2⟩ := info_parts Tryz.boolInfo
  have hv0 := hv
  obtain ⟨ao, cap, g, off, rfl, _, _⟩ := hv0
  have HC : Hid (∀ w1, Up w w1 → Calls Tryz.prog 22 #[.slice ao l.length cap] w1 (CanonDone w1 l l.length)) := fun w1 hu => canonRef (by omega) (hv.up hu)
  have HT : Hid (∀ w1, Up w w1 → Calls Tryz.prog 23 #[.slice ao l.length cap] w1 (TogDone w1 l)) := fun w1 hu => togRef (by omega) (hv.up hu)
  have HCL : Hid ((Cn.canon l).length = l.length) := Cn.canon_len l
  obtain ⟨n, hnl⟩ : ∃ n, n = l.length := ⟨_, rfl⟩
  rw [← hnl] at hn HC HT HCL ⊢
  obtain ⟨ZB, hZB⟩ : ∃ Z, Z = madeCells (Value.bool false).cells (n * 1) := ⟨_, rfl⟩
  have hmkB : ∀ w, (Instr.makeSlice 46 (.int .i64 (n : Int)) (.int .i64 (n : Int))).run Tryz.prog w = .ok (.slice (some ⟨w.heap.size, 0, none⟩) n n) (w.alloc (.cells ZB 4)) := by
    intro w
    have h := run_make (P := Tryz.prog) w 46 4 j0 (.bool false) Tryz.underlying46 hj hy0 .i64 .i64 n n (by omega) (by omega) (by rw [hy2]; omega) (by omega)
    rw [h, hZB, hy1]; simp
  have HB := Lib.hid hZB
  have hml : n ≤ maxLen := by unfold maxLen; omega
  have q1 : decide (1000 < (n : Int)) = false := by simp; omega
  clear hZB hj hy0 hy1 hy2 hnl hv
  go_enter Tryz.func10, Tryz.ntmps10
  go_wp2_with fail
  go_region_with (first
    | (go_at_call 22; refine (HC.out _ (by repeat (first | exact Up.refl _ | assumption | apply Up.drew | apply Up.alloc))).mono ?_; rintro r w1 ⟨gc, rfl, hrow, hg, hup⟩; (have hu1 : Up w w1 := Up.trans (by repeat (first | exact Up.refl _ | assumption | apply Up.drew | apply Up.alloc)) hup); (have hb1 : w1.heap[w.heap.size]? = some (.cells #[.slice none 0 0, .slice none 0 0, .int .i64 0] 48 (0, 0)) := upHeap hup (by repeat (first | exact heap_alloc_new _ _ | apply heapUp | apply heapDrew))))
    | (go_at_call 23; refine (HT.out _ (by repeat (first | exact Up.refl _ | assumption | apply Up.drew | apply Up.alloc))).mono ?_; rintro r w2 ⟨rfl, hup2⟩; (have hu2 : Up w w2 := Up.trans (by repeat (first | exact Up.refl _ | assumption | apply Up.drew | apply Up.alloc)) hup2); (have hrow2 : Row w2 gc 3 n (ints (Cn.canon l)) := hup2.row (by repeat (first | exact hrow | apply Row.drew | apply Row.alloc))); (have hb2 : w2.heap[w.heap.size]? = some (.cells #[.slice none 0 0, .slice none 0 0, .int .i64 0] 48 (0, 0)) := upHeap hup2 (by repeat (first | exact hb1 | apply heapUp | apply heapDrew))); (have d0 : w2.cell? ⟨w.heap.size, 0, none⟩ = some (.slice none 0 0) := by simp [World.cell?, hb2]); (have d1 : w2.cell? ⟨w.heap.size, 1, none⟩ = some (.slice none 0 0) := by simp [World.cell?, hb2]); (have d2 : w2.cell? ⟨w.heap.size, 2, none⟩ = some (.int .i64 0) := by simp [World.cell?, hb2]); (have f0 : w2.frozen? ⟨w.heap.size, 0, none⟩ = false := by simp [World.frozen?, hb2]); (have f1 : w2.frozen? ⟨w.heap.size, 1, none⟩ = false := by simp [World.frozen?, hb2]); (have f2 : w2.frozen? ⟨w.heap.size, 2, none⟩ = false := by simp [World.frozen?, hb2]); (have hs2 : w.heap.size < w2.heap.size := (Array.getElem?_eq_some_iff.1 hb2).1)))
  all_goals go_wp2_with fail
  all_goals
    have hg' : w.heap.size < gc := by simp at hg; omega
    have hsa : w.heap.size < w1.heap.size := (Array.getElem?_eq_some_iff.1 hb1).1
    apply bodyPost_ret
    · (simp [results, Tryz.results10, go_sem, d0, d1, d2, f0, f1, f2, hs2]; rfl)
    · rfl
    · refine refMade_of2 hml HCL.out HB.out ?_ ?_ (by omega) (by omega) ?_
      · repeat (first | exact hrow2 | (with_reducible apply Row.drew) | (with_reducible apply Row.alloc) | ((with_reducible refine Row.other ?_ ?_ _); rotate_left; (show gc ≠ w.heap.size; omega)))
      · repeat (first | ((with_reducible apply heapNew); (simp; done)) | (with_reducible apply heapUp) | (with_reducible apply heapDrew) | ((with_reducible refine heapSet ?_ ?_ _); rotate_left; (simp only [ne_eq]; omega)) | (with_reducible refine upHeap hup2 ?_) | (with_reducible refine upHeap hup ?_))
      · repeat (first | assumption | (with_reducible exact Up.refl _) | (with_reducible apply Up.drew) | (with_reducible apply Up.alloc) | ((with_reducible refine Up.setCell ?_ ?_ _); rotate_left; exact Nat.le_refl _))

end Go.Proofs.YtfkhaldheclheaaGreatDoor
