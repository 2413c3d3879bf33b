/- The book of lists of integers and of lists of lists, as a whole: Ints, Rows, Row, Apart; what they leave as it was. Walk: Book.Row: rows of numbers, and the list of them. -/
import Derived.Test.YtpmdjicaefmbnaaGreatDoorBook3Apart
import Derived.Test.YtpmdjicaefmbnaaGreatDoorRdRanks

namespace Go.Proofs.YtpmdjicaefmbnaaGreatDoor
open Go.RowKit
set_option linter.unusedVariables false
set_option linter.unusedSimpArgs false

/-- What the lists of lists hold reads as lists. -/
def Cont (w : World) (qs : List Rw.Ent) : Prop := ∀ q ∈ qs, ∃ rows : List (List Int), rows.length = q.xs.length ∧ ∀ j, j < rows.length → (rows.getD j []).length ≤ 900000 ∧ w.ownsRow 0 3 1 (nth q.xs j) (rows.getD j []).length ((rows.getD j []).map (Value.int .i64))

theorem Cont.keep {w w' : World} {qs : List Rw.Ent} (h : Cont w qs) (hk : ∀ (v : Value) (n : Nat) (xs : List Value), w.ownsRow 0 3 1 v n xs → w'.ownsRow 0 3 1 v n xs) : Cont w' qs := fun q hq => by
  obtain ⟨rows, h1, h2⟩ := h q hq
  exact ⟨rows, h1, fun j hj => ⟨(h2 j hj).1, hk _ _ _ (h2 j hj).2⟩⟩

theorem rows_lstR {w : World} {v : Value} {xs : List Value} {rows : List (List Int)} (ho : w.ownsRow 0 34 1 v xs.length xs) (hl : rows.length = xs.length) (hr : ∀ j, j < rows.length → w.ownsRow 0 3 1 (nth xs j) (rows.getD j []).length ((rows.getD j []).map (Value.int .i64))) : Rw.LstR w v rows := by
  rcases owns_cases ho with ⟨rfl, h0, _⟩ | ⟨g, cap, rfl, h1, _⟩
  · exact ⟨none, 0, 0, 0, by rw [hl, h0], fun h => by omega, fun i hi => by omega⟩
  · exact ⟨_, cap, g, 0, by rw [hl], fun _ => rfl, fun j hj => ⟨nth xs j, by rw [Nat.zero_add]; exact h1.cell (nth_get (by rw [← hl]; exact hj)), owns_lst (hr j hj)⟩⟩

theorem Cont.rds {w : World} {bk : Nat} {vi vw vp vq : Value} {qs : List Rw.Ent} (h : Cont w qs) (hp : Rw.BookAt w bk vp vq vi vw qs) : Rw.Rds w (Rw.entV qs) (Rw.entU qs) := fun i hi => by
  have hi' : i < qs.length := by simpa [Rw.entV] using hi
  obtain ⟨e1, e2, -⟩ := Rw.ent_at hi'
  obtain ⟨rows, h1, h2⟩ := h _ (List.getElem_mem hi')
  have hsz := hp.sz _ (List.getElem_mem hi')
  refine ⟨rows, by omega, fun j hj => by have := (h2 j hj).1; omega, ?_, ?_⟩
  · rw [e1]; exact rows_lstR (hp.ent _ (List.getElem_mem hi')).1 h1 (fun j hj => (h2 j hj).2)
  · rw [e2]; exact rows_lstR (hp.ent _ (List.getElem_mem hi')).2 h1 (fun j hj => (h2 j hj).2)

theorem B3.key {w w' : World} {bk : Nat} {vi vw vp vq : Value} {es : List B3.Ent} (hi : B3.BookAt w bk vi vw vp vq es) (ht : Turned (B3.BkOwn bk vi vw) w w') {e : TypeId} {base size n : Nat} {v : Value} {xs : List Value} (h : w.ownsRow base e size v n xs) (h1 : e ≠ 34) (h2 : e ≠ 50) : w'.ownsRow base e size v n xs :=
  owns_keep h (fun g hg => ht.block g (owns_lt h hg) (fun e => by
    rcases e with rfl | e | e
    · obtain ⟨cur, hc⟩ := owns_type h hg
      have hb0 := hi.box
      rw [hc] at hb0
      simp only [Option.some.injEq, Obj.cells.injEq] at hb0
      exact h2 hb0.2.1
    · exact B3.owns_type_ne h hi.ri h1 hg e
    · exact B3.owns_type_ne h hi.rw h1 hg e))

theorem Rw.key {w w' : World} {bk : Nat} {vi vw vp vq : Value} {qs : List Rw.Ent} (hi : Rw.BookAt w bk vp vq vi vw qs) (ht : Turned (Rw.BkOwn bk vp vq) w w') {e : TypeId} {base size n : Nat} {v : Value} {xs : List Value} (h : w.ownsRow base e size v n xs) (h1 : e ≠ 26) (h2 : e ≠ 50) : w'.ownsRow base e size v n xs :=
  owns_keep h (fun g hg => ht.block g (owns_lt h hg) (fun e => by
    rcases e with rfl | e | e
    · obtain ⟨cur, hc⟩ := owns_type h hg
      have hb0 := hi.box
      rw [hc] at hb0
      simp only [Option.some.injEq, Obj.cells.injEq] at hb0
      exact h2 hb0.2.1
    · exact Rw.owns_type_ne h hi.ri h1 hg e
    · exact Rw.owns_type_ne h hi.rw h1 hg e))

theorem Rw.BookAt.other {w w' : World} {bk : Nat} {vi vw vp vq vi' vw' : Value} {es : List B3.Ent} {qs : List Rw.Ent} (hp : Rw.BookAt w bk vp vq vi vw qs) (hi : B3.BookAt w bk vi vw vp vq es) (ht : Turned (B3.BkOwn bk vi vw) w w')
    (hd : ∀ g, vi.ownBlock = some g ∨ vw.ownBlock = some g → g ∉ Rw.entBlocks qs)
    (hb : w'.heap[bk]? = some (.cells #[vi', vw', .slice none 0 0, .slice none 0 0, .slice none 0 0, .slice none 0 0, .slice none 0 0, .slice none 0 0, .slice none 0 0, .slice none 0 0, .slice none 0 0, .slice none 0 0, .slice none 0 0, .slice none 0 0, .slice none 0 0, .slice none 0 0, vp, vq, .slice none 0 0, .slice none 0 0, .slice none 0 0, .slice none 0 0] 50 (0, 0))) : Rw.BookAt w' bk vp vq vi' vw' qs := by
  have key2 : ∀ {v : Value} {n : Nat} {xs : List Value}, w.ownsRow 0 34 1 v n xs → (∀ g, v.ownBlock = some g → g ∈ Rw.entBlocks qs) → w'.ownsRow 0 34 1 v n xs := fun h hm => owns_keep h (fun g hg => ht.block g (owns_lt h hg) (fun e => by
    rcases e with rfl | e | e
    · obtain ⟨cur, hc⟩ := owns_type h hg
      have hb0 := hi.box
      rw [hc] at hb0
      simp at hb0
    · exact hd g (.inl e) (hm g hg)
    · exact hd g (.inr e) (hm g hg)))
  exact ⟨hb, B3.key hi ht hp.ri (by decide) (by decide), B3.key hi ht hp.rw (by decide) (by decide), hp.ap,
    fun e he => ⟨key2 (hp.ent e he).1 (fun g hg => Rw.mem_entBlocks.2 ⟨e, he, .inl hg⟩), key2 (hp.ent e he).2 (fun g hg => Rw.mem_entBlocks.2 ⟨e, he, .inr hg⟩)⟩, hp.nd, hp.sz⟩

theorem B3.BookAt.other {w w' : World} {bk : Nat} {vi vw vp vq vp' vq' : Value} {es : List B3.Ent} {qs : List Rw.Ent} (hi : B3.BookAt w bk vi vw vp vq es) (hp : Rw.BookAt w bk vp vq vi vw qs) (ht : Turned (Rw.BkOwn bk vp vq) w w')
    (hb : w'.heap[bk]? = some (.cells #[vi, vw, .slice none 0 0, .slice none 0 0, .slice none 0 0, .slice none 0 0, .slice none 0 0, .slice none 0 0, .slice none 0 0, .slice none 0 0, .slice none 0 0, .slice none 0 0, .slice none 0 0, .slice none 0 0, .slice none 0 0, .slice none 0 0, vp', vq', .slice none 0 0, .slice none 0 0, .slice none 0 0, .slice none 0 0] 50 (0, 0))) : B3.BookAt w' bk vi vw vp' vq' es :=
  ⟨hb, Rw.key hp ht hi.ri (by decide) (by decide), Rw.key hp ht hi.rw (by decide) (by decide), hi.ap, fun e he => ⟨Rw.key hp ht (hi.ent e he).1 (by decide) (by decide), Rw.key hp ht (hi.ent e he).2 (by decide) (by decide)⟩, hi.nd, hi.sz⟩

/-- The book in bk; its blocks are bk or no less than lo; those of its lists of integers are among P, those of its lists of lists among Q, those that hold the lists of integers among R. -/
def Bk3 (P Q R : Nat → Prop) (lo bk : Nat) (w : World) : Prop :=
  ∃ vi vw vp vq es qs, B3.BookAt w bk vi vw vp vq es ∧ Rw.BookAt w bk vp vq vi vw qs ∧ es.length ≤ 400 ∧ qs.length ≤ 400 ∧ Cont w qs ∧
    (∀ j, B3.BkFoot bk vi vw es j → j = bk ∨ lo ≤ j) ∧ (∀ j, Rw.BkFoot bk vp vq qs j → j = bk ∨ lo ≤ j) ∧ (∀ g, vi.ownBlock = some g ∨ vw.ownBlock = some g → g ∉ Rw.entBlocks qs) ∧
    (∀ g, g ∈ B3.entBlocks es → P g) ∧ (∀ g, g ∈ Rw.entBlocks qs → Q g) ∧ ∀ g, vi.ownBlock = some g ∨ vw.ownBlock = some g → R g

theorem Bk3.up {P Q R : Nat → Prop} {lo bk : Nat} {w w' : World} (h : Bk3 P Q R lo bk w) (hu : Up w w') : Bk3 P Q R lo bk w' := by
  obtain ⟨vi, vw, vp, vq, es, qs, hi, hp, h1, h2, h3, h4, h5, h6, h7, h8, h9⟩ := h
  exact ⟨vi, vw, vp, vq, es, qs, hi.up hu, hp.up hu, h1, h2, h3.keep (fun v n xs h => hu.owns h), h4, h5, h6, h7, h8, h9⟩

theorem Bk3.mono {P Q R P' Q' R' : Nat → Prop} {lo bk : Nat} {w : World} (h : Bk3 P Q R lo bk w) (hP : ∀ g, P g → P' g) (hQ : ∀ g, Q g → Q' g) (hR : ∀ g, R g → R' g) : Bk3 P' Q' R' lo bk w := by
  obtain ⟨vi, vw, vp, vq, es, qs, hi, hp, h1, h2, h3, h4, h5, h6, h7, h8, h9⟩ := h
  exact ⟨vi, vw, vp, vq, es, qs, hi, hp, h1, h2, h3, h4, h5, h6, fun g hg => hP g (h7 g hg), fun g hg => hQ g (h8 g hg), fun g hg => hR g (h9 g hg)⟩

theorem Bk3.head {P Q R : Nat → Prop} {lo bk : Nat} {w : World} (h : Bk3 P Q R lo bk w) : Bk3 (fun g => g < w.heap.size) (fun g => g < w.heap.size) (fun g => g < w.heap.size) lo bk w ∧ bk < w.heap.size := by
  obtain ⟨vi, vw, vp, vq, es, qs, hi, hp, h1, h2, h3, h4, h5, h6, h7, h8, h9⟩ := h
  exact ⟨⟨vi, vw, vp, vq, es, qs, hi, hp, h1, h2, h3, h4, h5, h6, fun g hg => hi.foot_lt (.inr (.inr (.inr hg))), fun g hg => hp.foot_lt (.inr (.inr (.inr hg))), fun g hg => by
    rcases hg with hg | hg
    · exact owns_lt hi.ri hg
    · exact owns_lt hi.rw hg⟩, hi.foot_lt (.inl rfl)⟩

theorem Bk3.ints {P Q R : Nat → Prop} {lo bk : Nat} {w : World} {v : Value} {xs : List Int} (h : Bk3 P Q R lo bk w) (hlo : lo ≤ w.heap.size)
    (hv : w.ownsRow 0 3 1 v xs.length (xs.map (Value.int .i64))) (hN : ∀ g, v.ownBlock = some g → lo ≤ g ∧ ¬ P g) (hx : xs.length ≤ 900000) :
    Calls Tryz.prog 59 #[.pointer (some ⟨bk, 0, none⟩), v] w fun r w' => r = .returned (.tuple #[]) ∧
      Bk3 (fun g => P g ∨ v.ownBlock = some g ∨ w.heap.size ≤ g) Q (fun g => R g ∨ w.heap.size ≤ g) lo bk w' ∧ Turned (fun k => k = bk ∨ R k ∧ lo ≤ k) w w' := by
  obtain ⟨vi, vw, vp, vq, es, qs, hi, hp, h1, h2, h3, h4, h5, h6, h7, h8, h9⟩ := h
  refine (B3.bookInts hi h1 hv hx (fun g hg hm => (hN g hg).2 (h7 g hm))).mono ?_
  rintro r w' ⟨rfl, vi', vw', es', hb', hl', hes, hft, ht, hia, haw⟩
  have htn : ∀ k, B3.BkOwn bk vi vw k → k = bk ∨ R k ∧ lo ≤ k := fun k hk => by
    rcases hk with e | e | e
    · exact .inl e
    · rcases h4 k (.inr (.inl e)) with e2 | e2
      · exact .inl e2
      · exact .inr ⟨h9 k (.inl e), e2⟩
    · rcases h4 k (.inr (.inr (.inl e))) with e2 | e2
      · exact .inl e2
      · exact .inr ⟨h9 k (.inr e), e2⟩
  refine ⟨rfl, ⟨vi', vw', vp, vq, es', qs, hb', Rw.BookAt.other hp hi ht h6 hb'.box, hl', h2, h3.keep (fun v n xs h => B3.key hi ht h (by decide) (by decide)), fun j hj => ?_, h5, fun g hg => ?_, fun g hg => ?_, h8, fun g hg => ?_⟩, ht.mono (fun k _ => htn k)⟩
  · rcases hft j hj with e | e | e
    · exact h4 j e
    · exact .inr (hN j e).1
    · right; omega
  · have key : vi.ownBlock = some g ∨ vw.ownBlock = some g ∨ w.heap.size ≤ g := by
      rcases hg with hg | hg
      · rcases hia g hg with e | e
        · exact .inl e
        · exact .inr (.inr e)
      · rcases haw g hg with e | e
        · exact .inr (.inl e)
        · exact .inr (.inr e)
    rcases key with e | e | e
    · exact h6 g (.inl e)
    · exact h6 g (.inr e)
    · intro hm
      have := hp.foot_lt (.inr (.inr (.inr hm)))
      omega
  · rcases hes with e | ⟨u, e, hu⟩
    · rw [e] at hg; exact .inl (h7 g hg)
    · rw [e, B3.entBlocks_snoc] at hg
      rcases List.mem_append.1 hg with hg | hg
      · exact .inl (h7 g hg)
      · rcases List.mem_append.1 hg with hg | hg
        · exact .inr (.inl (B3.mem_blk.1 hg))
        · exact .inr (.inr (hu g (B3.mem_blk.1 hg)))
  · rcases hg with hg | hg
    · rcases hia g hg with e | e
      · exact .inl (h9 g (.inl e))
      · exact .inr e
    · rcases haw g hg with e | e
      · exact .inl (h9 g (.inr e))
      · exact .inr e

theorem Bk3.rows {P Q R : Nat → Prop} {lo bk : Nat} {w : World} {v : Value} {xs : List Value} {rows : List (List Int)} (h : Bk3 P Q R lo bk w) (hlo : lo ≤ w.heap.size)
    (hv : w.ownsRow 0 34 1 v xs.length xs) (hr : rows.length = xs.length) (hc : ∀ j, j < rows.length → (rows.getD j []).length ≤ 900000 ∧ w.ownsRow 0 3 1 (nth xs j) (rows.getD j []).length ((rows.getD j []).map (Value.int .i64)))
    (hN : ∀ g, v.ownBlock = some g → lo ≤ g ∧ ¬ Q g ∧ ¬ R g) (hx : xs.length ≤ 900000) :
    Calls Tryz.prog 60 #[.pointer (some ⟨bk, 0, none⟩), v] w fun r w' => r = .returned (.tuple #[]) ∧
      Bk3 P (fun g => Q g ∨ v.ownBlock = some g ∨ w.heap.size ≤ g) R lo bk w' ∧ Turned (fun k => k = bk ∨ lo ≤ k) w w' := by
  obtain ⟨vi, vw, vp, vq, es, qs, hi, hp, h1, h2, h3, h4, h5, h6, h7, h8, h9⟩ := h
  have h1s : ∀ u ∈ xs, u.oneCell' = true := fun u hu => by
    obtain ⟨j, hj, rfl⟩ := List.mem_iff_getElem.1 hu
    obtain ⟨ao, c, hh⟩ := owns_shape' (hc j (by rw [hr]; exact hj)).2
    rw [show xs[j] = nth xs j by simp [nth, List.getD, hj], hh]; rfl
  refine (Rw.bookRows hp h2 hv hx h1s (fun g hg hm => (hN g hg).2.1 (h8 g hm))).mono ?_
  rintro r w' ⟨rfl, vp', vq', qs', hb', hl', hes, hft, ht, hia, haw⟩
  have htn : ∀ k, Rw.BkOwn bk vp vq k → k = bk ∨ lo ≤ k := fun k hk => by
    rcases hk with e | e | e
    · exact .inl e
    · exact h5 k (.inr (.inl e))
    · exact h5 k (.inr (.inr (.inl e)))
  have hkc : ∀ (v : Value) (n : Nat) (ys : List Value), w.ownsRow 0 3 1 v n ys → w'.ownsRow 0 3 1 v n ys := fun v n ys h => Rw.key hp ht h (by decide) (by decide)
  have hib : ∀ g, vi.ownBlock = some g ∨ vw.ownBlock = some g → g < w.heap.size := fun g hg => by
    rcases hg with hg | hg
    · exact owns_lt hi.ri hg
    · exact owns_lt hi.rw hg
  refine ⟨rfl, ⟨vi, vw, vp', vq', es, qs', B3.BookAt.other hi hp ht hb'.box, hb', h1, hl', ?_, h4, fun j hj => ?_, fun g hg hm => ?_, h7, fun g hg => ?_, h9⟩, ht.mono (fun k _ => htn k)⟩
  · rcases hes with e | ⟨u, e, hu⟩
    · rw [e]; exact h3.keep hkc
    · rw [e]
      intro q hq
      rcases List.mem_append.1 hq with hq | hq
      · exact h3.keep hkc q hq
      · obtain rfl := List.mem_singleton.1 hq
        exact ⟨rows, hr, fun j hj => ⟨(hc j hj).1, hkc _ _ _ (hc j hj).2⟩⟩
  · rcases hft j hj with e | e | e
    · exact h5 j e
    · exact .inr (hN j e).1
    · right; omega
  · rcases hes with e | ⟨u, e, hu⟩
    · rw [e] at hm; exact h6 g hg hm
    · rw [e, Rw.entBlocks_snoc] at hm
      rcases List.mem_append.1 hm with hm | hm
      · exact h6 g hg hm
      · rcases List.mem_append.1 hm with hm | hm
        · exact (hN g (Rw.mem_blk.1 hm)).2.2 (h9 g hg)
        · have k1 := hu g (Rw.mem_blk.1 hm)
          have k2 := hib g hg
          omega
  · rcases hes with e | ⟨u, e, hu⟩
    · rw [e] at hg; exact .inl (h8 g hg)
    · rw [e, Rw.entBlocks_snoc] at hg
      rcases List.mem_append.1 hg with hg | hg
      · exact .inl (h8 g hg)
      · rcases List.mem_append.1 hg with hg | hg
        · exact .inr (.inl (Rw.mem_blk.1 hg))
        · exact .inr (.inr (hu g (Rw.mem_blk.1 hg)))

theorem Bk3.apart {P Q R : Nat → Prop} {lo bk : Nat} {w : World} (h : Bk3 P Q R lo bk w) :
    Calls Tryz.prog 22 #[.pointer (some ⟨bk, 0, none⟩)] w fun r w' => r = .returned (.bool true) ∧ Turned (fun k => k = bk ∨ lo ≤ k) w w' := by
  obtain ⟨vi, vw, vp, vq, es, qs, hi, hp, h1, h2, h3, h4, h5, h6, h7, h8, h9⟩ := h
  refine (apart3_any hi hp h1 h2 (h3.rds hp) (fun g hg hm => ?_)).mono ?_
  · obtain ⟨i, hi2, hk⟩ := hm
    have hi' : i < qs.length := by simpa [Rw.entV] using hi2
    rw [(Rw.ent_at hi').1] at hk
    exact h6 g (.inl hg) (Rw.mem_entBlocks.2 ⟨_, List.getElem_mem hi', .inl hk⟩)
  · rintro r w' ⟨rfl, ht⟩
    refine ⟨rfl, ht.mono (fun k _ hk => ?_)⟩
    rcases hk with hk | hk
    · exact h4 k (B3.BookAt.inV hi hk)
    · exact h5 k (Rw.BookAt.inV hp hk)

end Go.Proofs.YtpmdjicaefmbnaaGreatDoor

namespace Go.Proofs.YtpmdjicaefmbnaaGreatDoor
open Go.RowKit
set_option linter.unusedVariables false
set_option linter.unusedSimpArgs false

theorem nth_undef {vs : List Value} {i : Nat} (h : i < vs.length) : vs.getD i undef = nth vs i := by simp [nth, List.getD, h]

/-- In the loop of Row. -/
def RowSt (a c lo bk : Nat) (vs : List Value) (w : World) (k : Nat) (wr : World) : Prop :=
  Bk3 (fun g => g < a ∨ c ≤ g ∨ ∃ j, j < k ∧ (nth vs j).ownBlock = some g) (fun g => g < a) (fun g => g < a ∨ c ≤ g) lo bk wr ∧ Turned (fun k => k = bk ∨ (k < a ∨ c ≤ k) ∧ lo ≤ k) w wr

/-- What lies between keeps. -/
theorem RowSt.owns {a c lo bk k : Nat} {vs : List Value} {w wr : World} (h : RowSt a c lo bk vs w k wr) (hb : bk < a) (hc : c = w.heap.size) {e : TypeId} {size n : Nat} {v : Value} {xs : List Value} (hv : w.ownsRow a e size v n xs) : wr.ownsRow a e size v n xs :=
  owns_keep hv (fun g hg => h.2.block g (owns_lt hv hg) (fun e => by
    have h1 := (hv.lt g hg).1
    have h2 := (hv.lt g hg).2
    rcases e with e | ⟨e | e, -⟩ <;> omega))

set_option maxHeartbeats 2000000 in
set_option maxRecDepth 100000 in
theorem bookrow_any {P Q R : Nat → Prop} {lo bk a n : Nat} {w : World} {v : Value} {vs : List Value} {rows : List (List Int)} (h : Bk3 P Q R lo bk w) (hP : ∀ g, P g → g < a) (hQ : ∀ g, Q g → g < a) (hR : ∀ g, R g → g < a) (hlo : lo ≤ a) (hba : bk < a) (haw : a ≤ w.heap.size)
    (hv : w.ownsRow a 34 1 v n vs) (hr : RowsI a w vs rows) (hl : ∀ j, j < rows.length → (rows.getD j []).length ≤ 900000) (hn : n ≤ 900000) :
    Calls Tryz.prog 21 #[.pointer (some ⟨bk, 0, none⟩), v] w fun r w' => r = .returned (.tuple #[]) ∧ (∃ P' Q' R', Bk3 P' Q' R' lo bk w') ∧ Turned (fun k => k = bk ∨ lo ≤ k) w w' := by
  have hvl : vs.length = n := by have := hv.1; rw [Nat.mul_one] at this; exact this
  have hrl : rows.length = n := by rw [← hr.1, hvl]
  have hrow : ∃ ao ci g, v = .slice ao n ci ∧ ∀ wr : World, wr.ownsRow a 34 1 v n vs → ∀ i, i < n → ao = some ⟨g, 0, none⟩ ∧ wr.cell? ⟨g, i, none⟩ = some (nth vs i) := by
    rcases owns_cases hv with ⟨rfl, h0, _⟩ | ⟨g, ci, rfl, hr, _⟩
    · exact ⟨none, 0, 0, by rw [h0], fun wr hw i hi => by omega⟩
    · refine ⟨_, ci, g, rfl, fun wr hw i hi => ⟨rfl, (Row.of hw).1.cell (nth_get (by rw [hvl]; exact hi))⟩⟩
  obtain ⟨ao, ci, g, rfl, hc⟩ := hrow
  obtain ⟨c, hcc⟩ : ∃ c, c = w.heap.size := ⟨_, rfl⟩
  have H0 : Hid (RowSt a c lo bk vs w 0 w) := Lib.hid ⟨h.mono (fun g hg => .inl (hP g hg)) hQ (fun g hg => .inl (hR g hg)), Turned.refl _ _⟩
  have hat : ∀ j, j < n → w.ownsRow a 3 1 (nth vs j) (rows.getD j []).length ((rows.getD j []).map (Value.int .i64)) := fun j hj => by
    have := hr.2.1 j (by rw [hrl]; exact hj)
    rw [nth_undef (by rw [hvl]; exact hj)] at this
    exact this
  have hris : ∀ i j g, i < j → j < n → (nth vs i).ownBlock = some g → (nth vs j).ownBlock ≠ some g := fun i j g hij hj h1 h2 => by
    have := hr.2.2 i j g g hij (by rw [hrl]; exact hj) (by rw [nth_undef (by omega)]; exact h1) (by rw [nth_undef (by omega)]; exact h2)
    omega
  have HV := Lib.hid hv
  have HAT := Lib.hid hat
  have HRI := Lib.hid hris
  have HCC := Lib.hid hcc
  have HC := Lib.hid hc
  have HL := Lib.hid hl
  have HVL := Lib.hid hvl
  have HRL := Lib.hid hrl
  have hac : a ≤ c := by omega
  clear h hP hQ hR hv hr hl hat hris hvl hrl hcc hc
  go_enter Tryz.func21, Tryz.ntmps21
  go_wp2_with fail
  go_loopw [4] (fun i wr => ∃ k : Nat, k ≤ n ∧ i = .int .i64 k ∧ RowSt a c lo bk vs w k wr) (fun i _ => n - (intOf i).toNat)
  case atStart => exact ⟨0, Nat.zero_le _, rfl, H0.out⟩
  case round =>
    clear H0
    obtain ⟨k, hk, rfl, hS⟩ := hrel
    have hvr := hS.owns hba HCC.out HV.out
    have HVR := Lib.hid hvr
    have hsz : c ≤ wr.heap.size := by rw [HCC.out]; exact hS.2.size
    by_cases hlt : k < n
    · obtain ⟨rfl, d1⟩ := HC.out wr hvr k hlt
      have hir := hS.owns hba HCC.out (HAT.out k hlt)
      have hln := HL.out k (by rw [HRL.out]; exact hlt)
      have HBI := Lib.hid (hS.1.ints (by omega) (owns_base hir (Nat.zero_le _)) (fun g' hg' => by
        have h1 := (hir.lt g' hg').1
        have h2 := ((HAT.out k hlt).lt g' hg').2
        rw [← HCC.out] at h2
        refine ⟨by omega, ?_⟩
        rintro (e | e | ⟨j, hj, e⟩)
        · omega
        · omega
        · exact HRI.out j k g' hj hlt e hg') hln)
      obtain ⟨eo, ec, hev⟩ := owns_shape' hir
      obtain ⟨L, hLL⟩ : ∃ L, L = (rows.getD k []).length := ⟨_, rfl⟩
      rw [← hLL] at hev
      rw [hev] at d1 HBI
      have HEV := Lib.hid hev
      clear hLL
      have qk : (k : Int) < (n : Int) := by omega
      have HS := Lib.hid hS
      clear hS hvr hir hln hev
      go_wp2_with (go_at_call 59; (with_reducible refine HBI.out.mono ?_); rintro r w2 ⟨rfl, hB2, hT2⟩)
      go_roundw
      case rel =>
        refine ⟨k + 1, by omega, by go_num, hB2.mono (fun g' hg' => ?_) (fun g' hg' => hg') (fun g' hg' => ?_), HS.out.2.trans hT2 (fun i _ hi => ?_)⟩
        · rcases hg' with (e | e | ⟨j, hj, e⟩) | e | e
          · exact .inl e
          · exact .inr (.inl e)
          · exact .inr (.inr ⟨j, by omega, e⟩)
          · exact .inr (.inr ⟨k, by omega, by rw [HEV.out]; exact e⟩)
          · exact .inr (.inl (by omega))
        · rcases hg' with e | e
          · exact e
          · exact .inr (by omega)
        · rcases hi with e | ⟨e, e2⟩
          · exact .inl e
          · exact .inr ⟨e, e2⟩
      case measure => simp [intOf]; omega
    · obtain rfl : k = n := by omega
      have HBR := Lib.hid (hS.1.rows (rows := rows) (by omega) (by rw [HVL.out]; exact owns_base hvr (Nat.zero_le _)) (by rw [HVL.out, HRL.out]) (fun j hj => ⟨HL.out j hj, owns_base (hS.owns hba HCC.out (HAT.out j (by rw [← HRL.out]; exact hj))) (Nat.zero_le _)⟩) (fun g' hg' => by
        have h1 := (HV.out.lt g' hg').1
        have h2 := (HV.out.lt g' hg').2
        rw [← HCC.out] at h2
        refine ⟨by omega, by omega, ?_⟩
        rintro (e | e) <;> omega) (by rw [HVL.out]; exact hn))
      have HS := Lib.hid hS
      clear hS hvr
      go_wp2_with (go_at_call 60; (with_reducible refine HBR.out.mono ?_); rintro r w2 ⟨rfl, hB2, hT2⟩)
      go_end0
      exact ⟨rfl, ⟨_, _, _, hB2⟩, (HS.out.2.mono (fun i _ hi => by
        rcases hi with e | ⟨-, e⟩
        · exact .inl e
        · exact .inr e)).trans hT2 (fun i _ hi => hi)⟩

end Go.Proofs.YtpmdjicaefmbnaaGreatDoor
