/-
  Plain: what SeqSplices wants, and what Splice does. Conditions: none.
-/
import Derived.Test.YtelgbigpfiohfaaSeqN
import Derived.Test.YtelgbigpfiohfaaPosMoves
namespace Go.Proofs.Ytelgbigpfiohfaa
open Go.RowKit

theorem nodup_rev {l : List Int} (h : l.Nodup) : l.reverse.Nodup := List.pairwise_reverse.2 (h.imp (fun h e => h e.symm))

/-- The rows that stay, those that were picked put ahead of b. -/
def wantOf (Lf : List Int) (b : Int) (I : List Int) : List Int := Lf.flatMap fun y => if y = b then I ++ [y] else [y]

theorem wantOf_snoc (Lf : List Int) (b : Int) (I : List Int) (y : Int) : wantOf (Lf ++ [y]) b I = wantOf Lf b I ++ (if y = b then I ++ [y] else [y]) := by simp [wantOf]

theorem wantOf_none {b : Int} {I : List Int} : ∀ {Lf : List Int}, b ∉ Lf → wantOf Lf b I = Lf
  | [], _ => rfl
  | y :: Lf, h => by
    have hy : ¬ y = b := fun e => h (by simp [e])
    have ih := wantOf_none (b := b) (I := I) (Lf := Lf) (fun hb => h (List.mem_cons_of_mem _ hb))
    unfold wantOf at ih ⊢
    rw [List.flatMap_cons, if_neg hy, ih]
    rfl

theorem less_sel {L M : List Int} {sel : Int → Bool} (h : ∀ q ∈ M, q ∈ L) : less M (L.filter sel).reverse = M.filter (fun q => !sel q) := by
  unfold less
  refine List.filter_congr fun q hq => ?_
  congr 1
  rw [Bool.eq_iff_iff]
  simp [h q hq]

theorem splices_mid {L : List Int} {b : Int} {sel : Int → Bool} (hn : L.Nodup) (h0 : (0 : Int) ∉ L) (hb : b ≠ 0) (hbL : b ∈ L) (hs : sel b = false) : spliced L (L.filter sel).reverse b = wantOf (L.filter (fun q => !sel q)) b (L.filter sel).reverse := by
  obtain ⟨A, C, e⟩ := List.append_of_mem hbL
  have hn' := hn
  rw [e] at hn'
  obtain ⟨hA, hzC, hAC⟩ := List.nodup_append.1 hn'
  obtain ⟨hzC', hC⟩ := List.nodup_cons.1 hzC
  have hzA : b ∉ A := fun h => hAC b h b (by simp) rfl
  have h1 := spliced_mid hn' hb _ (L.filter sel).reverse rfl (nodup_rev (hn.filter _)) (fun y hy => by
    have hy' := List.mem_filter.1 (List.mem_reverse.1 hy)
    refine ⟨by rw [← e]; exact hy'.1, fun h => ?_, fun h => h0 (h ▸ hy'.1)⟩
    rw [h, hs] at hy'
    exact absurd hy'.2 (by simp))
  rw [← e] at h1
  rw [h1, less_sel (fun q hq => by rw [e]; simp [hq]), less_sel (fun q hq => by rw [e]; simp [hq])]
  generalize (L.filter sel).reverse = I
  rw [e, List.filter_append, List.filter_cons_of_pos (by simp [hs])]
  have w1 := wantOf_none (b := b) (I := I) (Lf := A.filter (fun q => !sel q)) (fun h => hzA (List.mem_filter.1 h).1)
  have w2 := wantOf_none (b := b) (I := I) (Lf := C.filter (fun q => !sel q)) (fun h => hzC' (List.mem_filter.1 h).1)
  unfold wantOf at w1 w2 ⊢
  rw [List.flatMap_append, List.flatMap_cons, if_pos rfl, w1, w2]
  simp

theorem splices_end {L : List Int} {sel : Int → Bool} (hn : L.Nodup) (h0 : (0 : Int) ∉ L) : spliced L (L.filter sel).reverse 0 = wantOf (L.filter (fun q => !sel q)) 0 (L.filter sel).reverse ++ (L.filter sel).reverse := by
  rw [spliced_end hn _ (L.filter sel).reverse rfl (nodup_rev (hn.filter _)) (fun y hy => by
    have hy' := List.mem_filter.1 (List.mem_reverse.1 hy)
    exact ⟨hy'.1, fun h => h0 (h ▸ hy'.1)⟩), less_sel (fun q hq => hq), wantOf_none (fun h => h0 (List.mem_filter.1 h).1)]

/-- Of 1, 2, .. which are picked, the last one first. -/
def picked (sel : Int → Bool) (j : Nat) : List Int := ((iota j).filter sel).reverse
/-- .. and which are not. -/
def stays (sel : Int → Bool) (j : Nat) : List Int := (iota j).filter fun q => !sel q

theorem iota_more (j : Nat) : iota (j + 1) = iota j ++ [(j : Int) + 1] := by simp [iota, List.range_succ]

theorem picked_yes {sel : Int → Bool} {j : Nat} (h : sel ((j : Int) + 1) = true) : picked sel (j + 1) = ((j : Int) + 1) :: picked sel j := by simp [picked, iota_more, List.filter_append, h]
theorem picked_no {sel : Int → Bool} {j : Nat} (h : sel ((j : Int) + 1) = false) : picked sel (j + 1) = picked sel j := by simp [picked, iota_more, List.filter_append, h]
theorem stays_yes {sel : Int → Bool} {j : Nat} (h : sel ((j : Int) + 1) = true) : stays sel (j + 1) = stays sel j := by simp [stays, iota_more, List.filter_append, h]
theorem stays_no {sel : Int → Bool} {j : Nat} (h : sel ((j : Int) + 1) = false) : stays sel (j + 1) = stays sel j ++ [(j : Int) + 1] := by simp [stays, iota_more, List.filter_append, h]
theorem picked_length (sel : Int → Bool) (j : Nat) : (picked sel j).length ≤ j := by
  have := List.length_filter_le sel (iota j)
  rw [iota_length] at this
  simpa [picked] using this
theorem stays_length (sel : Int → Bool) (j : Nat) : (stays sel j).length ≤ j := by
  have := List.length_filter_le (fun q => !sel q) (iota j)
  rwa [iota_length] at this
theorem wantOf_length (b : Int) (I : List Int) : ∀ Lf : List Int, (wantOf Lf b I).length ≤ Lf.length * (I.length + 1)
  | [] => by simp [wantOf]
  | y :: Lf => by
    have ih := wantOf_length b I Lf
    unfold wantOf at ih ⊢
    rw [List.flatMap_cons, List.length_append, List.length_cons, Nat.succ_mul]
    have : (if y = b then I ++ [y] else [y]).length ≤ I.length + 1 := by split <;> simp
    omega

theorem iota_nodup (k : Nat) : (iota k).Nodup := by
  unfold iota
  exact List.pairwise_map.2 (List.nodup_range.imp (fun h e => h (by omega)))

theorem picked_facts {sel : Int → Bool} {k : Nat} {b : Int} (hs : sel b = false) : (picked sel k).Nodup ∧ ∀ y ∈ picked sel k, y ∈ iota k ∧ y ≠ 0 ∧ y ≠ b := by
  have hn := iota_nodup k
  refine ⟨nodup_rev (hn.filter _), fun y hy => ?_⟩
  have hy' := List.mem_filter.1 (List.mem_reverse.1 hy)
  refine ⟨hy'.1, fun h => ?_, fun h => ?_⟩
  · have := iota_mem.1 hy'.1; omega
  · rw [h, hs] at hy'
    exact absurd hy'.2 (by simp)

theorem splices_all {sel : Int → Bool} {k : Nat} {b : Int} (hs : sel b = false) (hb : b = 0 ∨ b ∈ iota k) : spliced (iota k) (picked sel k) b = wantOf (stays sel k) b (picked sel k) ++ (if b = 0 then picked sel k else []) := by
  have hn := iota_nodup k
  have h0 : (0 : Int) ∉ iota k := fun h => by have := iota_mem.1 h; omega
  by_cases e : b = 0
  · subst e
    rw [if_pos rfl]
    exact splices_end hn h0
  · rw [if_neg e, List.append_nil]
    exact splices_mid hn h0 e (hb.resolve_left e) hs

end Go.Proofs.Ytelgbigpfiohfaa
