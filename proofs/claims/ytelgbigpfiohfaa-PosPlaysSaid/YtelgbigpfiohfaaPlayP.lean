/-
  'append(s, x...)' of whole numbers that are read, or of nil; a list without one of its rows. Conditions: none.
-/
import Derived.Test.YtelgbigpfiohfaaPosMoves
namespace Go.Proofs.Ytelgbigpfiohfaa
open Go.RowKit Go.Extern.Stop Go.Stop Go.Extern Go.Lib
set_option maxRecDepth 1000000

theorem out_filter {L : List Int} (hn : L.Nodup) {y : Int} (hy : y ∈ L) : out L (L.idxOf y) = L.filter (fun q => q ≠ y) := by
  induction L with
  | nil => cases hy
  | cons a L ih =>
    obtain ⟨ha, hn'⟩ := List.nodup_cons.1 hn
    by_cases e : a = y
    · subst e
      have : L.filter (fun q => q ≠ a) = L := List.filter_eq_self.2 (fun q hq => by simp; rintro rfl; exact ha hq)
      rw [out, List.idxOf_cons_self]
      show L = _
      rw [List.filter_cons_of_neg (by simp), this]
    · have hy' : y ∈ L := by
        rcases List.mem_cons.1 hy with h | h
        · exact absurd h.symm e
        · exact h
      have e' : (a == y) = false := by simp [e]
      have h := ih hn' hy'
      unfold out at h ⊢
      rw [List.idxOf_cons, e']
      simp only [cond_false, List.take_succ_cons, List.drop_succ_cons, List.cons_append]
      rw [h, List.filter_cons_of_pos (by simp [e])]

/-- 'append(s, x...)' of nothing: s. -/
theorem run_append_none {P : Program} (w : World) (base : Nat) (t ty e : TypeId) (z : Value) (size bytes : Nat) (ht : P.underlying t = some (.slice e)) (hinfo : (P.info? e).map (fun i => (i.zero, i.size, i.bytes)) = some (some z, size, bytes))
    (v : Value) (n : Nat) (xs : List Value) (hown : w.ownsRow base e size v n xs) (c : Nat) : (Builtin.append_ #[t, t] ty #[v, .slice none 0 c]).run P w = .ok v w := by
  obtain ⟨i, hi, hz, rfl, rfl⟩ := info_parts hinfo
  rcases hown.2 with ⟨rfl, rfl⟩ | ⟨g, cap, cur, rfl, hbg, hg, hnc, hcm, hcs, htake⟩
  · simp [Builtin.append_, run_underlying ht, sizeOf, typeInfo, hi, Builtin.lenOf, Builtin.firstCells]
  · simp [Builtin.append_, run_underlying ht, sizeOf, typeInfo, hi, Builtin.lenOf, Builtin.firstCells, loadCells]
    rw [if_pos hnc]
    simp [storeCells]

/-- An append of cells that are known, nothing among them: where the row then lies. -/
theorem run_append_row {P : Program} (w : World) (base : Nat) (t ty e : TypeId) (z : Value) (size bytes : Nat) (ht : P.underlying t = some (.slice e)) (hinfo : (P.info? e).map (fun i => (i.zero, i.size, i.bytes)) = some (some z, size, bytes))
    (hzs : z.cells.size = size) (hsz : 0 < size) (v : Value) (n : Nat) (xs : List Value) (hown : w.ownsRow base e size v n xs)
    (ad : Addr) (m c : Nat) (news : List Value) (hl : news.length = m * size) (hnews : ∀ j u, news[j]? = some u → w.cell? (ad.add j) = some u) (h1 : ∀ u ∈ news, u.oneCell' = true)
    (h63 : n + m ≤ maxLen) (hbytes : (n + m) * bytes ≤ 140737488355328) (hbase : base ≤ w.heap.size) :
    ∃ v' w', (Builtin.append_ #[t, t] ty #[v, .slice (some ad) m c]).run P w = .ok v' w' ∧ w'.ownsRow base e size v' (n + m) (xs ++ news) ∧ w.grownBy w' v.ownBlock ∧
      (∀ k, v'.ownBlock = some k → v.ownBlock = some k ∨ w.heap.size ≤ k) := by
  by_cases h0 : 0 < m
  · obtain ⟨g, cap, w', hr, h2, h3, h4⟩ := run_append_where (P := P) w base t ty e z size bytes ht hinfo hzs hsz v n xs hown ad m c news hl hnews h1 h0 h63 hbytes hbase
    refine ⟨_, w', hr, h2, h3, fun k hk => ?_⟩
    simp only [Value.ownBlock, Option.some.injEq] at hk
    subst hk
    exact h4.imp_right fun e => by omega
  · obtain rfl : m = 0 := by omega
    obtain ⟨i, hi, hz, hi1, hi2⟩ := info_parts hinfo
    obtain ⟨v', w', hr, h2, h3, h4⟩ := run_append_own (P := P) w base t ty e i z size bytes ht hi hz hi1 hi2 hzs hsz v n xs hown ad 0 c news hl hnews h1 h63 hbytes hbase
    refine ⟨v', w', hr, h2, h3, fun k hk => ?_⟩
    rcases hown.2 with ⟨rfl, rfl⟩ | ⟨g, cap, cur, rfl, hbg, hg, hnc, hcm, hcs, htake⟩
    · rw [h4.2 ⟨rfl, rfl⟩] at hk
      cases hk
    · have hfit : n * i.size + news.length ≤ cur.size := by rw [hl, hcs, hi1]; simpa using Nat.mul_le_mul_right _ hnc
      have hr2 := run_append_room (P := P) w t ty e i ht hi g n cap cur hg ad 0 c news (by rw [hi1]; exact hl) hnews h1 (by omega) hfit
      rw [hr] at hr2
      obtain ⟨rfl, _⟩ := Result.ok.inj hr2
      exact Or.inl hk

theorem int64_info : (Try.prog.info? 2).map (fun i => (i.zero, i.size, i.bytes)) = some (some (.int .i64 0), 1, 8) := by kernel_rfl

/-- 'append(s, x...)' of whole numbers that are read. -/
theorem wpList_append_ints {ops : Array Oper} {Q : Exit → Act → World → Prop} {a : Act} {rest : List Oper} {o : Oper} (w : World) (hgd : o.guard = none) (s x : Operand)
    (ho : o.op = .call { callee := .builtin .append, args := #[s, x], argTypes := #[38, 38] })
    (base : Nat) (v : Value) (xs : List Int) (hs : a.eval s = v) (hown : w.ownsRow base 2 1 v xs.length (intsV xs)) (u : Value) (ys : List Int) (hx : a.eval x = u) (hr : ReadC w 2 u (intsV ys))
    (hb : xs.length + ys.length ≤ 1000000) (hbase : base ≤ w.heap.size)
    (h : ∀ v' w', w'.ownsRow base 2 1 v' (xs ++ ys).length (intsV (xs ++ ys)) → Same (fun k => v.ownBlock = some k) w w' → (∀ k, v'.ownBlock = some k → v.ownBlock = some k ∨ w.heap.size ≤ k) →
      wpList Try.prog ops Q rest (a.put o.dst v') w') : wpList Try.prog ops Q (o :: rest) a w := by
  have hr0 := hr
  obtain ⟨ao, cap, rfl, hc, hcap⟩ := hr
  have hly : (intsV ys).length = ys.length := by simp
  obtain ⟨v', w', hrun, h1, h2, h3⟩ : ∃ v' w', (Builtin.append_ #[38, 38] o.type #[v, .slice ao (intsV ys).length cap]).run Try.prog w = .ok v' w' ∧ w'.ownsRow base 2 1 v' (xs ++ ys).length (intsV (xs ++ ys)) ∧
      Same (fun k => v.ownBlock = some k) w w' ∧ (∀ k, v'.ownBlock = some k → v.ownBlock = some k ∨ w.heap.size ≤ k) := by
    have happ : intsV (xs ++ ys) = intsV xs ++ intsV ys := by simp
    cases ao with
    | none =>
      have hL : ys = [] := by
        cases ys with
        | nil => rfl
        | cons y L =>
          obtain ⟨_, _, _, _, e, _⟩ := hc 0 (.int .i64 y) rfl
          cases e
      subst hL
      exact ⟨v, w, run_append_none (P := Try.prog) w base 38 o.type 2 _ 1 8 Try.underlying38 int64_info v xs.length (intsV xs) hown cap, by simpa using hown, Same.refl _ w, fun k hk => Or.inl hk⟩
    | some ad =>
      obtain ⟨v', w', e1, e2, e3, e4⟩ := run_append_row (P := Try.prog) w base 38 o.type 2 _ 1 8 Try.underlying38 int64_info rfl (by decide) v xs.length (intsV xs) hown ad ys.length cap (intsV ys) (by simp) (fun j u hj => by
        obtain ⟨b, off, cs, fr, e, hbk, hcell⟩ := hc j u hj
        simp only [Option.some.injEq] at e
        subst e
        rw [Addr.add_lit]
        exact hcell) (ints_one ys) (by unfold maxLen; omega) (by omega) hbase
      refine ⟨v', w', by rw [hly]; exact e1, by rw [List.length_append, happ]; exact e2, ⟨e3.os, e3.tape, e3.output, e3.size, fun i hi hn => e3.block i hi (fun e => hn e.symm)⟩, e4⟩
  refine wpList_plain hgd fun K hK => ?_
  unfold Oper.wp execOp
  simp only [ho, resolve, invoke, builtin, Sem.run_bind, Sem.run_pure, Result.andThen_ok, List.map_toArray, List.map_cons, List.map_nil, hs, hx, hrun]
  exact hK _ _ (h v' w' h1 h2 h3)

end Go.Proofs.Ytelgbigpfiohfaa
