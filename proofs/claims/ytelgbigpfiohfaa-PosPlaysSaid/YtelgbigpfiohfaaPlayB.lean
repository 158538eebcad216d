/-
  The reference's Put. Conditions: few elements.
-/
import Derived.Test.YtelgbigpfiohfaaPlayA
namespace Go.Proofs.Ytelgbigpfiohfaa
open Go.RowKit Go.Extern.Stop Go.Stop Go.Extern Go.Lib
set_option maxRecDepth 1000000

section
variable {a : Act} {w : World} {ops : Array Oper} {o : Oper}

theorem wp_append_ints {K : Act → World → Prop} {Q : Exit → Act → World → Prop} (s x : Operand)
    (ho : o.op = .call { callee := .builtin .append, args := #[s, x], argTypes := #[38, 38] })
    (base : Nat) (v : Value) (xs : List Int) (hs : a.eval s = v) (hown : w.ownsRow base 2 1 v xs.length (intsV xs)) (u : Value) (ys : List Int) (hx : a.eval x = u) (hr : ReadC w 2 u (intsV ys))
    (hb : xs.length + ys.length ≤ 1000000) (hbase : base ≤ w.heap.size)
    (h : ∀ v' w', w'.ownsRow base 2 1 v' (xs ++ ys).length (intsV (xs ++ ys)) → Same (fun k => v.ownBlock = some k) w w' → (∀ k, v'.ownBlock = some k → v.ownBlock = some k ∨ w.heap.size ≤ k) → K (a.put o.dst v') w') : Oper.wp Try.prog o a w K Q := by
  have hr0 := hr
  obtain ⟨ao, cap, rfl, hc, hcap⟩ := hr
  have hly : (intsV ys).length = ys.length := by simp
  obtain ⟨v', w', hrun, h1, h2, h3⟩ : ∃ v' w', (Builtin.append_ #[38, 38] o.type #[v, .slice ao (intsV ys).length cap]).run Try.prog w = .ok v' w' ∧ w'.ownsRow base 2 1 v' (xs ++ ys).length (intsV (xs ++ ys)) ∧
      Same (fun k => v.ownBlock = some k) w w' ∧ (∀ k, v'.ownBlock = some k → v.ownBlock = some k ∨ w.heap.size ≤ k) := by
    have happ : intsV (xs ++ ys) = intsV xs ++ intsV ys := by simp
    cases ao with
    | none =>
      have hL : ys = [] := by
        cases ys with
        | nil => rfl
        | cons y L =>
          obtain ⟨_, _, _, _, e, _⟩ := hc 0 (.int .i64 y) rfl
          cases e
      subst hL
      exact ⟨v, w, run_append_none (P := Try.prog) w base 38 o.type 2 _ 1 8 Try.underlying38 int64_info v xs.length (intsV xs) hown cap, by simpa using hown, Same.refl _ w, fun k hk => Or.inl hk⟩
    | some ad =>
      obtain ⟨v', w', e1, e2, e3, e4⟩ := run_append_row (P := Try.prog) w base 38 o.type 2 _ 1 8 Try.underlying38 int64_info rfl (by decide) v xs.length (intsV xs) hown ad ys.length cap (intsV ys) (by simp) (fun j u hj => by
        obtain ⟨b, off, cs, fr, e, hbk, hcell⟩ := hc j u hj
        simp only [Option.some.injEq] at e
        subst e
        rw [Addr.add_lit]
        exact hcell) (ints_one ys) (by unfold maxLen; omega) (by omega) hbase
      refine ⟨v', w', by rw [hly]; exact e1, by rw [List.length_append, happ]; exact e2, ⟨e3.os, e3.tape, e3.output, e3.size, fun i hi hn => e3.block i hi (fun e => hn e.symm)⟩, e4⟩
  unfold Oper.wp execOp
  simp only [ho, resolve, invoke, builtin, Sem.run_bind, Sem.run_pure, Result.andThen_ok, List.map_toArray, List.map_cons, List.map_nil, hs, hx, hrun]
  exact h v' w' h1 h2 h3

theorem step_append_ints {K : Act → World → Prop} {Q : Exit → Act → World → Prop} {E : Prop} (hgd : o.guard = none) (s x : Operand)
    (ho : o.op = .call { callee := .builtin .append, args := #[s, x], argTypes := #[38, 38] })
    (base : Nat) (v : Value) (xs : List Int) (hs : a.eval s = v) (hown : w.ownsRow base 2 1 v xs.length (intsV xs)) (u : Value) (ys : List Int) (hx : a.eval x = u) (hr : ReadC w 2 u (intsV ys))
    (hb : xs.length + ys.length ≤ 1000000) (hbase : base ≤ w.heap.size)
    (h : ∀ v' w', w'.ownsRow base 2 1 v' (xs ++ ys).length (intsV (xs ++ ys)) → Same (fun k => v.ownBlock = some k) w w' → (∀ k, v'.ownBlock = some k → v.ownBlock = some k ∨ w.heap.size ≤ k) → K (a.put o.dst v') w') :
    if Region.wanted o (yielded ops a.tmps) = true then Oper.wp Try.prog o a w K Q else E := by
  have hw : Region.wanted o (yielded ops a.tmps) = true := by simp [Region.wanted, hgd]
  rw [if_pos hw]
  exact wp_append_ints s x ho base v xs hs hown u ys hx hr hb hbase h
end

theorem ints_take {w : World} {g off n cap : Nat} {R : List Int} (h : ReadC w 2 (.slice (some ⟨g, off, none⟩) n cap) (intsV R)) {u : Nat} (hu : u ≤ n) : ReadC w 2 (.slice (some ⟨g, off, none⟩) u cap) (intsV (R.take u)) := by
  have := h.take hu
  simpa [List.map_take] using this

theorem ints_drop {w : World} {g off n cap : Nat} {R : List Int} (h : ReadC w 2 (.slice (some ⟨g, off, none⟩) n cap) (intsV R)) {u : Nat} (hu : u ≤ n) : ReadC w 2 (.slice (some ⟨g, off + u, none⟩) (n - u) (cap - u)) (intsV (R.drop u)) := by
  have := h.drop hu
  simpa [List.map_drop] using this

theorem ints_rest {w : World} {g n cap : Nat} {R : List Int} (h : ReadC w 2 (.slice (some ⟨g, 0, none⟩) n cap) (intsV R)) (hn : R.length = n) (hc : n ≤ cap) {u : Nat} (hu : u ≤ n) : ReadC w 2 (.slice (if cap = u then some ⟨g, 0, none⟩ else some ⟨g, u, none⟩) (n - u) (cap - u)) (intsV (R.drop u)) := by
  by_cases e : cap = u
  · have hd : R.drop u = [] := List.drop_of_length_le (by omega)
    rw [hd, if_pos e]
    exact ⟨_, _, by rw [show n - u = ([] : List Value).length by simp; omega]; rfl, fun j x hj => by simp at hj, Nat.zero_le _⟩
  · rw [if_neg e]
    have := ints_drop h hu
    rwa [Nat.zero_add] at this

theorem ints_nil (w : World) : ReadC w 2 (.slice none 0 0) (intsV []) := ⟨none, 0, rfl, fun j x hj => by simp at hj, Nat.le_refl _⟩

theorem fnd_yes {L : List Int} {y : Int} (h : y ∈ L) : fnd L y = (L.idxOf y : Int) := if_pos h
theorem fnd_no {L : List Int} {y : Int} (h : y ∉ L) : fnd L y = -1 := if_neg h

theorem put_gone {w : World} {v : Value} {L : List Int} {y i : Int} (hv : ReadC w 2 v (intsV L)) (hL : L.length ≤ 1000) (hy : y ∉ L) :
    Calls Try.prog 24 #[v, .int .i64 y, .int .i64 i] w fun e w' => e = .returned (.tuple #[v, .int .i64 71]) ∧ w = w' := by
  have HF := Lib.hid (find18_any (y := y) hv hL)
  have HFN := Lib.hid (fnd_no hy)
  clear hv hy
  go_enter Try.func24, Try.ntmps24
  go_wp2_with fail
  refine HF.out.mono ?_
  rw [HFN.out]
  rintro e w1 ⟨rfl, rfl⟩
  go_wp2_with fail
  go_ret2
  exact ⟨rfl, rfl⟩

theorem put_bad {w : World} {v : Value} {L : List Int} {y i : Int} (hv : ReadC w 2 v (intsV L)) (hL : L.length ≤ 1000) (hy : y ∈ L) (hi : i < 0 ∨ (L.length : Int) ≤ i) :
    Calls Try.prog 24 #[v, .int .i64 y, .int .i64 i] w fun e w' => e = .returned (.tuple #[v, .int .i64 73]) ∧ w = w' := by
  have HF := Lib.hid (find18_any (y := y) hv hL)
  obtain ⟨f, hf⟩ : ∃ f, L.idxOf y = f := ⟨_, rfl⟩
  have HFN := Lib.hid (fnd_yes hy)
  rw [hf] at HFN
  have hcap : ∃ ao cap, v = .slice ao L.length cap := by
    obtain ⟨ao, cap, rfl, _⟩ := hv
    exact ⟨ao, cap, by simp⟩
  obtain ⟨ao, cap, rfl⟩ := hcap
  clear hv hy hf
  have hf0 : ¬ (f : Int) < 0 := by omega
  by_cases hi0 : i < 0
  · clear hi
    go_enter Try.func24, Try.ntmps24
    go_wp2_with fail
    refine HF.out.mono ?_
    rw [HFN.out]
    rintro e w1 ⟨rfl, rfl⟩
    go_wp2_with fail
    go_ret2
    exact ⟨rfl, rfl⟩
  · have hi1 : (L.length : Int) ≤ i := hi.resolve_left hi0
    clear hi
    go_enter Try.func24, Try.ntmps24
    go_wp2_with fail
    refine HF.out.mono ?_
    rw [HFN.out]
    rintro e w1 ⟨rfl, rfl⟩
    go_wp2_with fail
    go_ret2
    exact ⟨rfl, rfl⟩

/-- What Put hands back. -/
def PutOut (w w' : World) (L' : List Int) (e : Ending) : Prop := ∃ v', e = .returned (.tuple #[v', .int .i64 0]) ∧ w'.ownsRow w.heap.size 2 1 v' L'.length (intsV L') ∧ Same (fun _ => False) w w'

theorem PutOut.made {w w' : World} {L L' : List Int} {v' : Value} {e : Ending} (he : e = .returned (.tuple #[v', .int .i64 0])) (hl : L = L') (h : w'.ownsRow w.heap.size 2 1 v' L.length (intsV L)) (hs : Same (fun _ => False) w w') : PutOut w w' L' e := by
  subst hl
  exact ⟨v', he, h, hs⟩

theorem put_ok {w : World} {v : Value} {L : List Int} {y i : Int} {u : Nat} (hv : ReadC w 2 v (intsV L)) (hL : L.length ≤ 1000) (hn : L.Nodup) (hy : y ∈ L) (hi : i = u) (hu : u < L.length) :
    Calls Try.prog 24 #[v, .int .i64 y, .int .i64 i] w fun e w' => PutOut w w' (movedTo L y u) e := by
  subst hi
  have HF := Lib.hid (find18_any (y := y) hv hL)
  obtain ⟨f, hf⟩ : ∃ f, L.idxOf y = f := ⟨_, rfl⟩
  have HFN := Lib.hid (fnd_yes hy)
  rw [hf] at HFN
  have hcap : ∃ ao cap, v = .slice ao L.length cap := by
    obtain ⟨ao, cap, rfl, _⟩ := hv
    exact ⟨ao, cap, by simp⟩
  obtain ⟨ao, cap, rfl⟩ := hcap
  have HW := Lib.hid (without_any (y := y) hv hL)
  have hof := out_filter hn hy
  have hol := out_length (List.idxOf_lt_length_iff.2 hy)
  have hmv : movedTo L y u = (sans L y).take u ++ y :: (sans L y).drop u := by
    unfold movedTo sans
    rw [← hof]
    rfl
  rw [hmv]
  have hsl : (sans L y).length = L.length - 1 := by rw [← hol, hof]; rfl
  generalize sans L y = R at *
  clear hv hy hf hof hol hmv hn
  have hf0 : ¬ (f : Int) < 0 := by omega
  have hi1 : ¬ (L.length : Int) ≤ (u : Int) := by omega
  have HSL := Lib.hid hsl
  clear hsl
  go_enter Try.func24, Try.ntmps24
  go_wp2_with fail
  refine HF.out.mono ?_
  rw [HFN.out]
  rintro e w1 ⟨rfl, rfl⟩
  go_wp2_with fail
  refine HW.out.mono ?_
  rintro e w2 ⟨v2, rfl, ho, hs⟩
  have HO := Lib.hid ho; have HS := Lib.hid hs
  have hul : u ≤ R.length := by have := HSL.out; omega
  rcases ho.2 with ⟨rfl, h0⟩ | ⟨g, c2, cur, rfl, hbg, hg, hnc, hcm, hcs, htake⟩
  · have hu0 : u = 0 := by omega
    have hR : R = [] := List.length_eq_zero_iff.1 h0
    subst hu0 hR
    have hup := hs.size
    have hs0 : Same (fun _ => False) w2 (w2.drew.alloc (.cells #[.int .i64 y] 2)) := ((Same.refl (fun _ => False) w2).drew).alloc _
    have HOA := Lib.hid (show (w2.drew.alloc (.cells #[.int .i64 y] 2)).ownsRow w.heap.size 2 1 (.slice none 0 0) ([] : List Int).length (intsV []) from World.ownsRow_nil _ _ _ _)
    have HRD := Lib.hid (ownsRow_read (one_row (w := w2.drew) (B := w.heap.size) hup y))
    have HUA := Lib.hid (show w.heap.size ≤ (w2.drew.alloc (.cells #[.int .i64 y] 2)).heap.size by have := hs0.size; omega)
    have HSA := Lib.hid (HS.out.trans hs0 (fun _ _ h => h))
    clear ho hs hs0 HO HW
    go_wp2_with fail
    go_region_law (first
      | (refine step_append_ints (w := w2.drew.alloc (.cells #[.int .i64 y] 2)) rfl (.tmp 32) (.tmp 34) rfl w.heap.size (.slice none 0 0) [] (by simp [Act.eval]) HOA.out (.slice (some ⟨w2.heap.size, 0, none⟩) 1 1) [y] (by simp [Act.eval]) HRD.out (by simp) HUA.out ?_; intro v4 w4 ho4 hs4 hb4; have HO4 := Lib.hid ho4; have HS4 := Lib.hid (HSA.out.trans hs4 (fun i hi hq => by cases hq)); have HU4 := Lib.hid (Nat.le_trans HUA.out hs4.size); clear ho4 hs4 hb4)
      | (refine step_append_ints (w := w4) rfl (.tmp 35) (.tmp 38) rfl w.heap.size v4 ([] ++ [y]) (by simp [Act.eval]) HO4.out (.slice none 0 0) [] (by simp [Act.eval]) (ints_nil w4) (by simp) HU4.out ?_; intro v5 w5 ho5 hs5 hb5; have HO5 := Lib.hid ho5; have HS5 := Lib.hid (HS4.out.trans hs5 (fun i hi hq => by have := (HO4.out.lt i hq).1; omega)); clear ho5 hs5 hb5))
    all_goals (go_wp2_with fail)
    all_goals (go_ret2)
    all_goals exact PutOut.made rfl (by simp) HO5.out HS5.out
  · have HRT := Lib.hid (ints_take (ownsRow_read ho) hul)
    clear ho hs htake hcs
    have hlg := lt_of_block hg
    have hup := HS.out.size
    go_wp2_with (first
      | (at_builtin; refine wpList_append_ints w2 rfl (.const (.slice none 0 0)) (.tmp 30) rfl w.heap.size (.slice none 0 0) [] rfl (World.ownsRow_nil _ _ _ _) _ (R.take u) rfl HRT.out (by have := HSL.out; simp; omega) hup ?_))
    intro v3 w3 ho3 hs3 hb3
    have ho3 : w3.ownsRow w.heap.size 2 1 v3 (R.take u).length (intsV (R.take u)) := by rw [List.length_take, Nat.min_eq_left hul]; simpa using ho3
    have hs3 : Same (fun _ => False) w2 w3 := hs3.weaken (fun k _ h => by cases h)
    have hb3 : ∀ k, v3.ownBlock = some k → w2.heap.size ≤ k := fun k hk => (hb3 k hk).resolve_left (fun h => by cases h)
    have hR3 := (ownsRow_read HO.out).kept hs3 (fun _ _ h => h)
    have hup3 : w.heap.size ≤ w3.heap.size := by have := hs3.size; omega
    have HRR := Lib.hid (fun (w4 : World) (h : Same (fun k => v3.ownBlock = some k) w3 w4) => ints_rest (hR3.kept h (fun q hq hF => by simp only [Value.ownBlock, Option.some.injEq] at hq; have := hb3 q hF; omega)) rfl hnc hul)
    have HB3 := Lib.hid hb3
    have hs0 : Same (fun _ => False) w3 (w3.drew.alloc (.cells #[.int .i64 y] 2)) := ((Same.refl (fun _ => False) w3).drew).alloc _
    have HOA := Lib.hid (hs0.row ho3 (fun _ _ h => h))
    have HRD := Lib.hid (ownsRow_read (one_row (w := w3.drew) (B := w.heap.size) hup3 y))
    have HUA := Lib.hid (show w.heap.size ≤ (w3.drew.alloc (.cells #[.int .i64 y] 2)).heap.size by have := hs0.size; omega)
    have HSA := Lib.hid hs0
    have HS3 := Lib.hid (HS.out.trans hs3 (fun _ _ h => h))
    clear ho3 hs3 hb3 hR3 hs0
    go_wp2_with fail
    go_region_law (first
      | (refine step_append_ints (w := w3.drew.alloc (.cells #[.int .i64 y] 2)) rfl (.tmp 32) (.tmp 34) rfl w.heap.size v3 (R.take u) (by simp [Act.eval]) HOA.out (.slice (some ⟨w3.heap.size, 0, none⟩) 1 1) [y] (by simp [Act.eval]) HRD.out (by have := HSL.out; simp; omega) HUA.out ?_; intro v4 w4 ho4 hs4 hb4; have HRD4 := Lib.hid (HRR.out w4 ((HSA.out.weaken (fun _ _ h => h.elim)).trans hs4 (fun _ _ h => h))); have HO4 := Lib.hid ho4; have HS4 := Lib.hid ((HS3.out.trans HSA.out (fun _ _ h => h)).trans hs4 (fun i hi hq => by have := (HOA.out.lt i hq).1; omega)); have HU4 := Lib.hid (Nat.le_trans HUA.out hs4.size); clear ho4 hs4 hb4)
      | (refine step_append_ints (w := w4) rfl (.tmp 35) (.tmp 38) rfl w.heap.size v4 (R.take u ++ [y]) (by simp [Act.eval]) HO4.out (.slice (if c2 = u then some ⟨g, 0, none⟩ else some ⟨g, u, none⟩) (R.length - u) (c2 - u)) (R.drop u) (by simp [Act.eval]) HRD4.out (by have := HSL.out; simp; omega) HU4.out ?_; intro v5 w5 ho5 hs5 hb5; have HO5 := Lib.hid ho5; have HS5 := Lib.hid (HS4.out.trans hs5 (fun i hi hq => by have := (HO4.out.lt i hq).1; omega)); clear ho5 hs5 hb5))
    all_goals (go_wp2_with fail)
    all_goals (go_ret2)
    all_goals exact PutOut.made rfl (by simp) HO5.out HS5.out

end Go.Proofs.Ytelgbigpfiohfaa
