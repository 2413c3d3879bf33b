/- append onto a slice that the call owns: what else keeps its rows. No function of the program is named. -/
import Derived.Test.YtfkhaldheclheaaGreatDoorMem
import Derived.Maps.AppendAt
namespace Go.Proofs.YtfkhaldheclheaaGreatDoor
open Go.RowKit
set_option linter.unusedVariables false
set_option linter.unusedSimpArgs false

/-- Rows that keep: those that do not lie in the slice's own block, and those that are no longer there than the slice. -/
def Keeps (w w' : World) (v : Value) (n size : Nat) : Prop :=
  ∀ (b size' n0 : Nat) (e' : TypeId) (v0 : Value) (ys : List Value), w.ownsRow b e' size' v0 n0 ys → (v0.ownBlock = v.ownBlock → n0 * size' ≤ n * size) → w'.ownsRow b e' size' v0 n0 ys

theorem run_append_keep {P : Program} (w : World) (base : Nat) (t ty e : TypeId) (i : TypeInfo) (z : Value) (size bytes : Nat) (ht : P.underlying t = some (.slice e)) (hi : P.info? e = some i) (hz : i.zero = some z)
    (hsize : i.size = size) (hby : i.bytes = bytes) (hzs : z.cells.size = size) (hsz : 0 < size)
    (v : Value) (n : Nat) (xs : List Value) (hown : w.ownsRow base e size v n xs)
    (a : Addr) (m c : Nat) (news : List Value) (hl : news.length = m * size) (hnews : ∀ j u, news[j]? = some u → w.cell? (a.add j) = some u) (h1 : ∀ u ∈ news, u.oneCell' = true)
    (h63 : n + m ≤ maxLen) (hbytes : (n + m) * bytes ≤ 140737488355328) (hbase : base ≤ w.heap.size) :
    ∃ v' w', (Builtin.append_ #[t, t] ty #[v, .slice (some a) m c]).run P w = .ok v' w' ∧ w'.ownsRow base e size v' (n + m) (xs ++ news) ∧ w.grownBy w' v.ownBlock ∧
      (v'.ownBlock = v.ownBlock ∨ v'.ownBlock = some w.heap.size) ∧ Keeps w w' v n size := by
  obtain ⟨v', w', hr, h2, h3, _, h5⟩ := run_append_own_at (P := P) w base t ty e i z size bytes ht hi hz hsize hby hzs hsz v n xs hown a m c news hl hnews h1 h63 hbytes hbase
  refine ⟨v', w', hr, h2, h3, h5, ?_⟩
  intro b size' n0 e' v0 ys h0 hle
  rcases hown.2 with ⟨rfl, rfl⟩ | ⟨g, cap, cur, rfl, hbg, hg, hnc, hcm, hcs, htake⟩
  · exact owns_keep h0 (fun k hk => h3.block k (owns_lt h0 hk) (by simp [Value.ownBlock]))
  · by_cases hsame : v0.ownBlock = some g
    · by_cases hroom : n + m ≤ cap
      · have hfit : n * i.size + news.length ≤ cur.size := by rw [hl, hcs, hsize, ← Nat.add_mul]; exact Nat.mul_le_mul_right _ hroom
        have hr2 := run_append_room (P := P) w t ty e i ht hi g n cap cur hg a m c news (by rw [hsize]; exact hl) hnews h1 hroom hfit
        rw [hr2] at hr
        simp only [Result.ok.injEq] at hr
        obtain ⟨_, rfl⟩ := hr
        have hle' : n0 * size' ≤ n * size := hle (by rw [hsame]; rfl)
        refine ⟨h0.1, ?_⟩
        rcases h0.2 with ⟨rfl, _⟩ | ⟨g0, cap0, cur0, rfl, b0, k0, n00, m0, s0, t0⟩
        · cases hsame
        · simp only [Value.ownBlock, Option.some.injEq] at hsame
          subst hsame
          rw [hg] at k0
          simp only [Option.some.injEq, Obj.cells.injEq, and_true] at k0
          obtain ⟨rfl, rfl⟩ := k0
          refine .inr ⟨g0, cap0, _, rfl, b0, setRow_heap w g0 cur _ _ _ hg, n00, m0, ?_, ?_⟩
          · rw [← s0]
            simp only [List.size_toArray, List.length_append, List.length_take, List.length_drop, Array.length_toList]
            omega
          · rw [← t0]
            show List.take (n0 * size') (List.take (n * i.size) cur.toList ++ news ++ List.drop (n * i.size + news.length) cur.toList) = _
            have hlen : (List.take (n * i.size) cur.toList).length = n * i.size := by rw [List.length_take, Array.length_toList]; omega
            rw [List.append_assoc, List.take_append_of_le_length (by rw [hlen, hsize]; exact hle'), List.take_take, Nat.min_eq_left (by rw [hsize]; exact hle')]
      · have holds : ∀ j u, xs[j]? = some u → w.cell? ((⟨g, 0, none⟩ : Addr).add j) = some u := hown.cells (g := g) rfl
        have hr2 := run_append_grow (P := P) w t ty e i z ht hi hz ⟨g, 0, none⟩ n cap xs (by rw [hsize]; exact hown.1) holds a m c news (by rw [hsize]; exact hl) hnews (by omega) (by simp only [maxLen] at h63; omega) (growslice_fits (by omega) (by rw [hby]; exact hbytes))
        rw [hr2] at hr
        simp only [Result.ok.injEq] at hr
        obtain ⟨_, rfl⟩ := hr
        exact owns_keep h0 (fun k hk => Below.heap_alloc w.drew _ k (owns_lt h0 hk))
    · exact owns_keep h0 (fun k hk => h3.block k (owns_lt h0 hk) (by rw [show Value.ownBlock (.slice (some ⟨g, 0, none⟩) n cap) = some g from rfl]; intro e; rw [e] at hk; exact hsame hk))

/-- At the operation, for the walk. -/
theorem wpList_append_keep {P : Program} {w : World} {ops : Array Oper} {rest : List Oper} {o : Oper} {a : Act} {Q : Exit → Act → World → Prop} (hgd : o.guard = none) (s x : Operand) (t : TypeId)
    (ho : o.op = .call { callee := .builtin .append, args := #[s, x], argTypes := #[t, t] })
    (base : Nat) (e : TypeId) (i : TypeInfo) (z : Value) (size bytes : Nat) (ht : P.underlying t = some (.slice e)) (hi : P.info? e = some i) (hz : i.zero = some z)
    (hsize : i.size = size) (hby : i.bytes = bytes) (hzs : z.cells.size = size) (hsz : 0 < size)
    (v : Value) (n : Nat) (xs : List Value) (hs : a.eval s = v) (hown : w.ownsRow base e size v n xs)
    (ad : Addr) (m c : Nat) (news : List Value) (hx : a.eval x = .slice (some ad) m c) (hl : news.length = m * size) (hnews : ∀ j u, news[j]? = some u → w.cell? (ad.add j) = some u) (h1 : ∀ u ∈ news, u.oneCell' = true)
    (h63 : n + m ≤ maxLen) (hbytes : (n + m) * bytes ≤ 140737488355328) (hbase : base ≤ w.heap.size)
    (h : ∀ v' w', w'.ownsRow base e size v' (n + m) (xs ++ news) → w.grownBy w' v.ownBlock → (v'.ownBlock = v.ownBlock ∨ v'.ownBlock = some w.heap.size) → Keeps w w' v n size → wpList P ops Q rest (a.put o.dst v') w') :
    wpList P ops Q (o :: rest) a w := by
  refine wpList_plain hgd fun K hK => ?_
  obtain ⟨v', w', hr, h2, h3, h4, h5⟩ := run_append_keep (P := P) w base t o.type e i z size bytes ht hi hz hsize hby hzs hsz v n xs hown ad m c news hl hnews h1 h63 hbytes hbase
  unfold Oper.wp execOp
  simp only [ho, resolve, invoke, builtin, Sem.run_bind, Sem.run_pure, Result.andThen_ok, List.map_toArray, List.map_cons, List.map_nil, hs, hx, hr]
  exact hK _ _ (h v' w' h2 h3 h4 h5)

end Go.Proofs.YtfkhaldheclheaaGreatDoor
