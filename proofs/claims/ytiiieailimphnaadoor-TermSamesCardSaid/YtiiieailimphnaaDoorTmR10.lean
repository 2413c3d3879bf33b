/- The document's own Put, by its contract; New. -/
import Derived.Test.YtiiieailimphnaaDoorTmR9
import Derived.Test.YtiiieailimphnaaDoorTmPlain2
namespace Go.Proofs.YtiiieailimphnaaDoor
open Go.RowKit Go.Maps
set_option linter.unusedVariables false
set_option linter.unusedSimpArgs false

theorem refput_any {F : Nat → Prop} {w : World} {R : Nat} {s : List Tm.T} {t : Tm.T} {nv pv : Value} (hR : Rs F w R s) (h : TRead w t nv pv) (hs : s.length ≤ 1000) (hn : t.names.length ≤ 9223372036854775807) (hp : t.pairs.length ≤ 9223372036854775807) :
    Calls Tryd.prog 32 #[.pointer (some ⟨R, 0, none⟩), .agg #[.int .i64 t.kind, .int .i64 t.label, .int .i64 t.a, .int .i64 t.b, nv, pv]] w (RefPut F w R s t) := by
  cases hm : t.may s.length
  · exact refput_bad hR h hm hn hp
  · by_cases hin : t ∈ s
    · exact refput_had hR h hm hs hin
    · exact refput_new hR h hm hs hin

/-- What the document's New leaves. -/
def NewRef (w : World) (r : Ending) (w' : World) : Prop := ∃ R, r = .returned (.pointer (some ⟨R, 0, none⟩)) ∧ Rs (fun k => w.heap.size ≤ k) w' R [Tm.nilT] ∧ Up w w'

set_option maxHeartbeats 2000000 in
set_option maxRecDepth 100000 in
theorem refnew_any (w : World) : Calls Tryd.prog 14 #[] w (NewRef w) := by
  have h0 := rs_zero w
  have hU := (Up.refl w).alloc (.cells Tryd.zeroCells47 47)
  have HP := Lib.hid (refput_any (t := Tm.nilT) h0 ⟨lst_nil _, lsp_nil _⟩ (by decide) (by decide) (by decide))
  have HE : Hid (∀ r w1, RefPut (fun k => w.heap.size ≤ k) (w.alloc (.cells Tryd.zeroCells47 47)) w.heap.size [] Tm.nilT r w1 → r = .returned (.int .i64 0) ∧ Rs (fun k => w.heap.size ≤ k) w1 w.heap.size [Tm.nilT] ∧ Up w w1) := Lib.hid (fun r w1 h => by
    have e : Tm.put [] Tm.nilT = (some 0, [Tm.nilT]) := by decide
    obtain ⟨h1, h2, h3⟩ := h
    rw [e] at h1 h2
    have s1 := hU.size
    refine ⟨h1, h2.mono (fun k _ hk => by rcases hk with hk | hk; exact hk; exact Nat.le_trans s1 hk), ?_⟩
    have ht' : Turned (fun k => w.heap.size ≤ k) w w1 := (Turned.below hU).trans h3 (fun i _ hi => hi)
    exact ⟨ht'.os, ht'.tape, ht'.output, ht'.size, fun i hi => ht'.block i hi (by omega)⟩)
  unfold Tm.nilT at HP
  clear h0 hU
  go_enter Tryd.func14, Tryd.ntmps14
  go_wp2_with fail
  (with_reducible refine HP.out.mono ?_)
  rintro e w1 hd
  obtain ⟨rfl, h2, h3⟩ := HE.out _ _ hd
  clear hd
  go_wp2_with fail
  go_ret
  exact ⟨_, rfl, h2, h3⟩

end Go.Proofs.YtiiieailimphnaaDoor
