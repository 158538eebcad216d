/-
  'append(s, x...)' where x is nil, or a slice of values that is read. Conditions: none.
-/
import Derived.Test.YtmdkfbbagjcboaaCodeCuts
namespace Go.Proofs.Ytmdkfbbagjcboaa
open Go.RowKit

/-- 'append(s, x...)' of nothing: s. -/
theorem run_append_none {P : Program} (w : World) (base : Nat) (t ty e : TypeId) (z : Value) (size bytes : Nat) (ht : P.underlying t = some (.slice e)) (hinfo : (P.info? e).map (fun i => (i.zero, i.size, i.bytes)) = some (some z, size, bytes))
    (v : Value) (n : Nat) (xs : List Value) (hown : w.ownsRow base e size v n xs) (c : Nat) : (Builtin.append_ #[t, t] ty #[v, .slice none 0 c]).run P w = .ok v w := by
  obtain ⟨i, hi, hz, rfl, rfl⟩ := info_parts hinfo
  rcases hown.2 with ⟨rfl, rfl⟩ | ⟨g, cap, cur, rfl, hbg, hg, hnc, hcm, hcs, htake⟩
  · simp [Builtin.append_, run_underlying ht, sizeOf, typeInfo, hi, Builtin.lenOf, Builtin.firstCells]
  · simp [Builtin.append_, run_underlying ht, sizeOf, typeInfo, hi, Builtin.lenOf, Builtin.firstCells, loadCells]
    rw [if_pos hnc]
    simp [storeCells]

theorem vals_get : ∀ (L : List V) (j : Nat) (u : Value), (vals L)[j]? = some u → ∃ x, L[j / 4]? = some x ∧ x.cells[j % 4]? = some u
  | [], j, u, h => by simp [vals] at h
  | x :: L, j, u, h => by
    have e : vals (x :: L) = x.cells ++ vals L := rfl
    have hc : x.cells.length = 4 := rfl
    rw [e] at h
    by_cases hj : j < 4
    · rw [List.getElem?_append_left (by omega)] at h
      refine ⟨x, ?_, ?_⟩
      · rw [show j / 4 = 0 by omega]; rfl
      · rw [show j % 4 = j by omega]; exact h
    · rw [List.getElem?_append_right (by omega), hc] at h
      obtain ⟨y, h1, h2⟩ := vals_get L (j - 4) u h
      refine ⟨y, ?_, ?_⟩
      · rw [show j / 4 = (j - 4) / 4 + 1 by omega]; exact h1
      · rw [show j % 4 = (j - 4) % 4 by omega]; exact h2

theorem vals_length (L : List V) : (vals L).length = L.length * 4 := by
  induction L with
  | nil => rfl
  | cons x L ih =>
    show (x.cells ++ vals L).length = _
    rw [List.length_append, ih, List.length_cons]
    show 4 + _ = _
    omega

theorem vals_one (L : List V) : ∀ u ∈ vals L, u.oneCell' = true := by
  intro u hu
  simp only [vals, List.mem_flatMap] at hu
  obtain ⟨x, _, hx⟩ := hu
  simp only [V.cells, List.mem_cons, List.not_mem_nil, or_false] at hx
  rcases hx with rfl | rfl | rfl | rfl <;> rfl

theorem ReadV.news {w : World} {b off n cap : Nat} {L : List V} (h : ReadV w (.slice (some ⟨b, off, none⟩) n cap) L) (j : Nat) (u : Value) (hj : (vals L)[j]? = some u) : w.cell? ((⟨b, off, none⟩ : Addr).add j) = some u := by
  obtain ⟨ao, cap', he, hc⟩ := h
  simp only [Value.slice.injEq] at he
  obtain ⟨rfl, _, rfl⟩ := he
  obtain ⟨x, hx, hu⟩ := vals_get L j u hj
  obtain ⟨b', off', e, _, e0, e1, e2, e3⟩ := hc _ x hx
  simp only [Option.some.injEq, Addr.mk.injEq, and_true] at e
  obtain ⟨rfl, rfl⟩ := e
  rw [Addr.add_lit]
  have hm : j % 4 < 4 := Nat.mod_lt _ (by omega)
  have hd : j / 4 * 4 + j % 4 = j := by omega
  match hk : j % 4, hm with
  | 0, _ =>
    rw [hk] at hu hd
    cases hu
    rw [show off + j = off + j / 4 * 4 by omega]; exact e0
  | 1, _ =>
    rw [hk] at hu hd
    cases hu
    rw [show off + j = off + j / 4 * 4 + 1 by omega]; exact e1
  | 2, _ =>
    rw [hk] at hu hd
    cases hu
    rw [show off + j = off + j / 4 * 4 + 2 by omega]; exact e2
  | 3, _ =>
    rw [hk] at hu hd
    cases hu
    rw [show off + j = off + j / 4 * 4 + 3 by omega]; exact e3

theorem wpList_wanted {P : Program} {ops : Array Oper} {Q : Exit → Act → World → Prop} {a : Act} {w : World} {rest : List Oper} {o : Oper} (hg : Region.wanted o (yielded ops a.tmps) = true)
    (h : ∀ K : Act → World → Prop, (∀ a w, wpList P ops Q rest a w → K a w) → o.wp P a w K Q) : wpList P ops Q (o :: rest) a w :=
  wpList_step fun K hK => by rw [if_pos hg]; exact h K hK

/-- An append of cells that are known, nothing among them: where the row then lies. -/
theorem run_append_row {P : Program} (w : World) (base : Nat) (t ty e : TypeId) (z : Value) (size bytes : Nat) (ht : P.underlying t = some (.slice e)) (hinfo : (P.info? e).map (fun i => (i.zero, i.size, i.bytes)) = some (some z, size, bytes))
    (hzs : z.cells.size = size) (hsz : 0 < size) (v : Value) (n : Nat) (xs : List Value) (hown : w.ownsRow base e size v n xs)
    (ad : Addr) (m c : Nat) (news : List Value) (hl : news.length = m * size) (hnews : ∀ j u, news[j]? = some u → w.cell? (ad.add j) = some u) (h1 : ∀ u ∈ news, u.oneCell' = true)
    (h63 : n + m ≤ maxLen) (hbytes : (n + m) * bytes ≤ 140737488355328) (hbase : base ≤ w.heap.size) :
    ∃ v' w', (Builtin.append_ #[t, t] ty #[v, .slice (some ad) m c]).run P w = .ok v' w' ∧ w'.ownsRow base e size v' (n + m) (xs ++ news) ∧ w.grownBy w' v.ownBlock ∧
      (∀ k, v'.ownBlock = some k → v.ownBlock = some k ∨ w.heap.size ≤ k) := by
  by_cases h0 : 0 < m
  · obtain ⟨g, cap, w', hr, h2, h3, h4⟩ := run_append_where (P := P) w base t ty e z size bytes ht hinfo hzs hsz v n xs hown ad m c news hl hnews h1 h0 h63 hbytes hbase
    refine ⟨_, w', hr, h2, h3, fun k hk => ?_⟩
    simp only [Value.ownBlock, Option.some.injEq] at hk
    subst hk
    exact h4.imp_right fun e => by omega
  · obtain rfl : m = 0 := by omega
    obtain ⟨i, hi, hz, hi1, hi2⟩ := info_parts hinfo
    obtain ⟨v', w', hr, h2, h3, h4⟩ := run_append_own (P := P) w base t ty e i z size bytes ht hi hz hi1 hi2 hzs hsz v n xs hown ad 0 c news hl hnews h1 h63 hbytes hbase
    refine ⟨v', w', hr, h2, h3, fun k hk => ?_⟩
    rcases hown.2 with ⟨rfl, rfl⟩ | ⟨g, cap, cur, rfl, hbg, hg, hnc, hcm, hcs, htake⟩
    · rw [h4.2 ⟨rfl, rfl⟩] at hk
      cases hk
    · have hfit : n * i.size + news.length ≤ cur.size := by rw [hl, hcs, hi1]; simpa using Nat.mul_le_mul_right _ hnc
      have hr2 := run_append_room (P := P) w t ty e i ht hi g n cap cur hg ad 0 c news (by rw [hi1]; exact hl) hnews h1 (by omega) hfit
      rw [hr] at hr2
      obtain ⟨rfl, _⟩ := Result.ok.inj hr2
      exact Or.inl hk

/-- 'append(s, x...)' of values that are read (the operation may be guarded). -/
theorem wpList_append_vals {ops : Array Oper} {Q : Exit → Act → World → Prop} {a : Act} {rest : List Oper} {o : Oper} (w : World) (hgd : Region.wanted o (yielded ops a.tmps) = true) (s x : Operand)
    (ho : o.op = .call { callee := .builtin .append, args := #[s, x], argTypes := #[22, 22] })
    (base : Nat) (v : Value) (n : Nat) (xs : List Value) (hs : a.eval s = v) (hown : w.ownsRow base 41 4 v n xs) (u : Value) (L : List V) (hx : a.eval x = u) (hr : ReadV w u L)
    (hb : n + L.length ≤ 1000000) (hbase : base ≤ w.heap.size)
    (h : ∀ v' w', w'.ownsRow base 41 4 v' (n + L.length) (xs ++ vals L) → Same (fun k => v.ownBlock = some k) w w' → (∀ k, v'.ownBlock = some k → v.ownBlock = some k ∨ w.heap.size ≤ k) →
      wpList Try.prog ops Q rest (a.put o.dst v') w') : wpList Try.prog ops Q (o :: rest) a w := by
  have hr0 := hr
  obtain ⟨ao, cap, rfl, hc⟩ := hr
  obtain ⟨v', w', hrun, h1, h2, h3⟩ : ∃ v' w', (Builtin.append_ #[22, 22] o.type #[v, .slice ao L.length cap]).run Try.prog w = .ok v' w' ∧ w'.ownsRow base 41 4 v' (n + L.length) (xs ++ vals L) ∧
      Same (fun k => v.ownBlock = some k) w w' ∧ (∀ k, v'.ownBlock = some k → v.ownBlock = some k ∨ w.heap.size ≤ k) := by
    cases ao with
    | none =>
      have hL : L = [] := by
        cases L with
        | nil => rfl
        | cons y L =>
          obtain ⟨_, _, e, _⟩ := hc 0 y rfl
          cases e
      subst hL
      exact ⟨v, w, run_append_none (P := Try.prog) w base 22 o.type 41 _ 4 40 Try.underlying22 value_info v n xs hown cap, by simpa [vals] using hown, Same.refl _ w, fun k hk => Or.inl hk⟩
    | some ad =>
      obtain ⟨v', w', e1, e2, e3, e4⟩ := run_append_row (P := Try.prog) w base 22 o.type 41 _ 4 40 Try.underlying22 value_info rfl (by decide) v n xs hown ad L.length cap (vals L) (vals_length L) (fun j u hj => by
        obtain ⟨x, hx', _⟩ := vals_get L j u hj
        obtain ⟨b', off', e, _⟩ := hc _ x hx'
        simp only [Option.some.injEq] at e
        subst e
        exact hr0.news j u hj) (vals_one L) (by unfold maxLen; omega) (by omega) hbase
      exact ⟨v', w', e1, e2, (Same.refl (fun k => v.ownBlock = some k) w).grown e3 (fun k hk _ => hk), e4⟩
  refine wpList_wanted hgd fun K hK => ?_
  unfold Oper.wp execOp
  simp only [ho, resolve, invoke, builtin, Sem.run_bind, Sem.run_pure, Result.andThen_ok, List.map_toArray, List.map_cons, List.map_nil, hs, hx, hrun]
  exact hK _ _ (h v' w' h1 h2 h3)

/-- 'append(s, x...)' of bytes that are read. -/
theorem wpList_append_bytes {ops : Array Oper} {Q : Exit → Act → World → Prop} {a : Act} {rest : List Oper} {o : Oper} (w : World) (hgd : o.guard = none) (s x : Operand)
    (ho : o.op = .call { callee := .builtin .append, args := #[s, x], argTypes := #[23, 23] })
    (base : Nat) (v : Value) (m : List UInt8) (hs : a.eval s = v) (hown : w.ownsRow base 5 1 v m.length (bytesV m)) (u : Value) (l : List UInt8) (hx : a.eval x = u) (hr : RD w u l)
    (hb : m.length + l.length ≤ 1000000) (hbase : base ≤ w.heap.size)
    (h : ∀ v' w', Bytes w base v w' v' (m ++ l) → wpList Try.prog ops Q rest (a.put o.dst v') w') : wpList Try.prog ops Q (o :: rest) a w := by
  rcases hr with ⟨cap, rfl, rfl⟩ | ⟨b0, off, cap, rfl, hrb, _⟩
  · have hrun := run_append_none (P := Try.prog) w base 23 o.type 5 (.int .u8 0) 1 1 Try.underlying23 byte_info v m.length (bytesV m) hown cap
    refine wpList_plain hgd fun K hK => ?_
    unfold Oper.wp execOp
    simp only [ho, resolve, invoke, builtin, Sem.run_bind, Sem.run_pure, Result.andThen_ok, List.map_toArray, List.map_cons, List.map_nil, hs, hx, hrun]
    exact hK _ _ (h v w (by rw [List.append_nil]; exact Bytes.start hown))
  · exact wpList_append_row w hgd s x 23 ho base 5 (.int .u8 0) 1 1 Try.underlying23 byte_info rfl (by decide) v m.length (bytesV m) hs hown ⟨b0, off, none⟩ l.length cap (bytesV l) hx (by rw [bytesV_length]; omega) hrb.news (bytesV_one _)
      (by unfold maxLen; omega) (by omega) hbase (fun v' w' h1 h2 h3 => h v' w' (Bytes.row h1 rfl h2 h3))

theorem vals_at : ∀ (L : List V) (j : Nat) (x : V) (k : Nat) (u : Value), L[j]? = some x → x.cells[k]? = some u → (vals L)[j * 4 + k]? = some u
  | [], j, x, k, u, h, _ => by simp at h
  | y :: L, 0, x, k, u, h, hu => by
    simp at h
    subst h
    have hk := (List.getElem?_eq_some_iff.1 hu).1
    show (y.cells ++ vals L)[0 * 4 + k]? = _
    rw [List.getElem?_append_left (by omega)]
    simpa using hu
  | y :: L, j + 1, x, k, u, h, hu => by
    have ih := vals_at L j x k u (by simpa using h) hu
    show (y.cells ++ vals L)[(j + 1) * 4 + k]? = _
    have hc : y.cells.length = 4 := rfl
    rw [List.getElem?_append_right (by omega), hc, show (j + 1) * 4 + k - 4 = j * 4 + k by omega]
    exact ih

theorem ReadV.own {w : World} {B : Nat} {v : Value} {L : List V} (h : w.ownsRow B 41 4 v L.length (vals L)) : ReadV w v L := by
  rcases h.2 with ⟨rfl, h0⟩ | ⟨g, cap, cur, rfl, hbg, hg, hnc, hcm, hcs, htake⟩
  · have : L = [] := List.eq_nil_of_length_eq_zero h0
    subst this
    exact ⟨none, 0, rfl, fun j x hj => by simp at hj⟩
  · refine ⟨some ⟨g, 0, none⟩, cap, rfl, fun j x hj => ?_⟩
    have hcell := fun k u hu => h.cells (g := g) rfl (j * 4 + k) u (vals_at L j x k u hj hu)
    have e0 := hcell 0 _ rfl
    have e1 := hcell 1 _ rfl
    have e2 := hcell 2 _ rfl
    have e3 := hcell 3 _ rfl
    rw [Addr.add_lit] at e0 e1 e2 e3
    exact ⟨g, 0, rfl, lt_of_block hg, e0, e1, e2, e3⟩

end Go.Proofs.Ytmdkfbbagjcboaa
