/- Walk: Same. -/
import Derived.Test.YtiiieailimphnaaDoorTmW17
import Derived.Laws.EntriesVeiled
namespace Go.Proofs.YtiiieailimphnaaDoor
open Go.RowKit Go.Maps
set_option linter.unusedVariables false
set_option linter.unusedSimpArgs false

theorem blocks5 (w : World) (A B C D E : Obj) : let W := ((((w.alloc A).alloc B).alloc C).alloc D).alloc E
    W.heap[w.heap.size]? = some A ∧ W.heap[w.heap.size + 1]? = some B ∧ W.heap[w.heap.size + 1 + 1]? = some C ∧ W.heap[w.heap.size + 1 + 1 + 1]? = some D ∧ W.heap[w.heap.size + 1 + 1 + 1 + 1]? = some E := by
  intro W
  refine ⟨?_, ?_, ?_, ?_, ?_⟩
  · exact heapUp (heapUp (heapUp (heapUp (heapNew rfl))))
  · exact heapUp (heapUp (heapUp (heapNew (by simp))))
  · exact heapUp (heapUp (heapNew (by simp)))
  · exact heapUp (heapNew (by simp))
  · exact heapNew (by simp)

theorem cell1 {w : World} {k : Nat} {v : Value} {t : TypeId} (h : w.heap[k]? = some (.cells #[v] t (0, 0))) : w.cell? ⟨k, 0, none⟩ = some v := by
  simp [World.cell?, h]

/-- What Same begins with. -/
theorem sameAt_start {F G : Nat → Prop} {w : World} {S O : Nat} {s o : List Tm.T} (hs : St F w S s) (ho : St G w O o) :
    SameAt (((((w.alloc (.cells #[.pointer (some ⟨S, 0, none⟩)] 24)).alloc (.cells #[.pointer (some ⟨O, 0, none⟩)] 24)).alloc (.map #[] 0)).alloc (.cells #[.map (some (w.heap.size + 1 + 1))] 61)).alloc
      (.cells #[.func (.func 24) #[] #[.pointer (some ⟨w.heap.size + 1 + 1 + 1, 0, none⟩), .pointer (some ⟨w.heap.size, 0, none⟩), .pointer (some ⟨w.heap.size + 1, 0, none⟩), .pointer (some ⟨w.heap.size + 1 + 1 + 1 + 1, 0, none⟩)]] 62))
      w.heap.size S O (w.heap.size + 1 + 1) (w.heap.size + 1 + 1 + 1) w.heap.size (w.heap.size + 1) (w.heap.size + 1 + 1 + 1 + 1) s o [] := by
  obtain ⟨h0, h1, h2, h3, h4⟩ := blocks5 w (.cells #[.pointer (some ⟨S, 0, none⟩)] 24) (.cells #[.pointer (some ⟨O, 0, none⟩)] 24) (.map #[] 0) (.cells #[.map (some (w.heap.size + 1 + 1))] 61)
    (.cells #[.func (.func 24) #[] #[.pointer (some ⟨w.heap.size + 1 + 1 + 1, 0, none⟩), .pointer (some ⟨w.heap.size, 0, none⟩), .pointer (some ⟨w.heap.size + 1, 0, none⟩), .pointer (some ⟨w.heap.size + 1 + 1 + 1 + 1, 0, none⟩)]] 62)
  have hU := fun (A B C D E : Obj) => (((((Up.refl w).alloc A).alloc B).alloc C).alloc D).alloc E
  refine ⟨(hs.bound.up (hU _ _ _ _ _)).mono (fun k _ hk => hk.2), (ho.bound.up (hU _ _ _ _ _)).mono (fun k _ hk => hk.2), by omega, ?_, ?_, ?_, ?_, ?_, List.nodup_nil, fun p hp => by cases hp⟩
  · exact cell1 h3
  · exact cell1 h0
  · exact cell1 h1
  · exact cell1 h4
  · refine ownsMap_keep (w := ((w.alloc (.cells #[.pointer (some ⟨S, 0, none⟩)] 24)).alloc (.cells #[.pointer (some ⟨O, 0, none⟩)] 24)).alloc (.map #[] 0)) ?_ ?_
    · have := World.ownsMap_made (H := Unit) (P := Tryd.prog) ((w.alloc (.cells #[.pointer (some ⟨S, 0, none⟩)] 24)).alloc (.cells #[.pointer (some ⟨O, 0, none⟩)] 24)) 63 unitElem
      rw [show ((w.alloc (.cells #[.pointer (some ⟨S, 0, none⟩)] 24)).alloc (.cells #[.pointer (some ⟨O, 0, none⟩)] 24)).heap.size = w.heap.size + 1 + 1 by simp] at this
      exact this
    · exact h2.trans (heapNew (by simp)).symm

theorem upTurn {w wr w2 : World} {F : Nat → Prop} (h : Up w wr) (ht : Turned F wr w2) (hF : ∀ k, F k → w.heap.size ≤ k) : Up w w2 := by
  have := (upTurned (F := fun k => w.heap.size ≤ k) h).trans ht (fun i _ hi => hF i hi)
  exact (this.mono (T := fun _ => False) (fun i hi h => by omega)).toBelow (fun k h => h)

/-- What Same of two numbers that are there leaves. -/
def SameIn (b : Bool) (w : World) (r : Ending) (w' : World) : Prop := r = .returned (.tuple #[.bool b, .nilIface]) ∧ Up w w'

set_option maxHeartbeats 4000000 in
set_option maxRecDepth 100000 in
theorem same_in {F G : Nat → Prop} {w : World} {S O : Nat} {s o : List Tm.T} (hs : St F w S s) (ho : St G w O o) {a b : Nat} (ha : a < s.length) (hb : b < o.length) (hls : s.length ≤ 1000) (hlo : o.length ≤ 1000) :
    Calls Tryd.prog 11 #[.pointer (some ⟨S, 0, none⟩), .int .i64 (a : Nat), .pointer (some ⟨O, 0, none⟩), .int .i64 (b : Nat)] w (SameIn (Tm.alike s o a b) w) := by
  have HA : Hid (∀ W, Up w W → Calls Tryd.prog 23 #[.pointer (some ⟨S, 0, none⟩), .int .i64 (a : Nat)] W fun e w' => e = .returned .nilIface ∧ W = w') := fun W hW => asked_in (hs.up hW) a ⟨by omega, by omega⟩
  have HB : Hid (∀ W, Up w W → Calls Tryd.prog 23 #[.pointer (some ⟨O, 0, none⟩), .int .i64 (b : Nat)] W fun e w' => e = .returned .nilIface ∧ W = w') := fun W hW => asked_in (ho.up hW) b ⟨by omega, by omega⟩
  have HS := Lib.hid (sameAt_start hs ho)
  have HC : Hid (∀ W, SameAt W w.heap.size S O (w.heap.size + 1 + 1) (w.heap.size + 1 + 1 + 1) w.heap.size (w.heap.size + 1) (w.heap.size + 1 + 1 + 1 + 1) s o [] →
      Calls Tryd.prog 24 #[.int .i64 (a : Nat), .int .i64 (b : Nat), .pointer (some ⟨w.heap.size + 1 + 1 + 1, 0, none⟩), .pointer (some ⟨w.heap.size, 0, none⟩), .pointer (some ⟨w.heap.size + 1, 0, none⟩), .pointer (some ⟨w.heap.size + 1 + 1 + 1 + 1, 0, none⟩)] W
        (SameDone w.heap.size S O (w.heap.size + 1 + 1) (w.heap.size + 1 + 1 + 1) w.heap.size (w.heap.size + 1) (w.heap.size + 1 + 1 + 1 + 1) s o a b [] W)) := fun W hW => same1_any hls hlo (a + 1) a b [] W (by omega) ha hb hW (fun p hp => by cases hp)
  have hU2 := fun (A B : Obj) => (((Up.refl w).alloc A).alloc B)
  have hU5 : Hid (∀ A B C D E : Obj, Up w (((((w.alloc A).alloc B).alloc C).alloc D).alloc E)) := fun A B C D E => (((((Up.refl w).alloc A).alloc B).alloc C).alloc D).alloc E
  have HU2 := Lib.hid hU2
  obtain ⟨v, hv⟩ : ∃ v, v = Tm.alike s o a b := ⟨_, rfl⟩
  have HV := Lib.hid hv
  have hmm := @run_makeMap Tryd.prog
  rw [← hv]
  clear hs ho ha hb hls hlo hU2 hv
  go_enter Tryd.func11, Tryd.ntmps11
  go_wp2_with fail
  (with_reducible refine (HA.out _ (HU2.out _ _)).mono ?_)
  rintro e w1 ⟨rfl, rfl⟩
  go_wp2_with fail
  (with_reducible refine (HB.out _ (HU2.out _ _)).mono ?_)
  rintro e w1 ⟨rfl, rfl⟩
  go_wp2_with fail
  (with_reducible refine (HC.out _ HS.out).mono ?_)
  rintro e w' ⟨sl', rfl, -, ht, -⟩
  rw [← HV.out]
  go_wp2_with fail
  go_ret2
  exact ⟨rfl, upTurn (hU5.out _ _ _ _ _) ht (fun k hk => by rw [hk]; omega)⟩

end Go.Proofs.YtiiieailimphnaaDoor
