/-
  Plain: rows that are spliced stand in their order, right ahead of where they were asked to. Conditions: none.
-/
import Derived.Test.YtelgbigpfiohfaaSeqD
namespace Go.Proofs.Ytelgbigpfiohfaa
open Go.RowKit

theorem out_filter {L : List Int} (hn : L.Nodup) {y : Int} (hy : y ∈ L) : out L (L.idxOf y) = L.filter (fun q => q ≠ y) := by
  induction L with
  | nil => cases hy
  | cons a L ih =>
    obtain ⟨ha, hn'⟩ := List.nodup_cons.1 hn
    by_cases e : a = y
    · subst e
      have : L.filter (fun q => q ≠ a) = L := List.filter_eq_self.2 (fun q hq => by simp; rintro rfl; exact ha hq)
      rw [out, List.idxOf_cons_self]
      show L = _
      rw [List.filter_cons_of_neg (by simp), this]
    · have hy' : y ∈ L := by
        rcases List.mem_cons.1 hy with h | h
        · exact absurd h.symm e
        · exact h
      have e' : (a == y) = false := by simp [e]
      have h := ih hn' hy'
      unfold out at h ⊢
      rw [List.idxOf_cons, e']
      simp only [cond_false, List.take_succ_cons, List.drop_succ_cons, List.cons_append]
      rw [h, List.filter_cons_of_pos (by simp [e])]

/-- Which of L is not in p. -/
def less (L p : List Int) : List Int := L.filter (fun q => !p.contains q)

theorem less_snoc (L p : List Int) (y : Int) : (less L p).filter (fun q => q ≠ y) = less L (p ++ [y]) := by
  unfold less
  rw [List.filter_filter]
  congr 1
  funext q
  by_cases h : q = y <;> simp [h]

theorem less_nil (L : List Int) : less L [] = L := by simp [less]

theorem filter_not {p : List Int} {y : Int} (h : y ∉ p) : p.filter (fun q => q ≠ y) = p := List.filter_eq_self.2 (fun q hq => by simp; rintro rfl; exact h hq)

theorem spliced_mid {A C : List Int} {z : Int} (hn : (A ++ z :: C).Nodup) (hz : z ≠ 0) : ∀ (n : Nat) (p : List Int), p.length = n → p.Nodup → (∀ y ∈ p, y ∈ A ++ z :: C ∧ y ≠ z ∧ y ≠ 0) → spliced (A ++ z :: C) p z = less A p ++ p ++ z :: less C p
  | 0, p, hl, _, _ => by
    have : p = [] := List.length_eq_zero_iff.1 hl
    subst this
    simp [spliced, less_nil]
  | n + 1, p, hl, hp, hm => by
    obtain ⟨p, y, rfl⟩ : ∃ q y, p = q ++ [y] := by
      rcases List.eq_nil_or_concat p with h | ⟨q, y, h⟩
      · rw [h] at hl; cases hl
      · exact ⟨q, y, by rw [h, List.concat_eq_append]⟩
    have hl' : p.length = n := by simpa using hl
    obtain ⟨hp1, _, hp2⟩ := List.nodup_append.1 hp
    have hyp : y ∉ p := fun h => hp2 y h y (by simp) rfl
    obtain ⟨hy, hyz, _⟩ := hm y (by simp)
    have ih := spliced_mid hn hz n p hl' hp1 (fun q hq => hm q (by simp [hq]))
    obtain ⟨hA, hzC, hAC⟩ := List.nodup_append.1 hn
    obtain ⟨hzC', hC⟩ := List.nodup_cons.1 hzC
    have hzA : z ∉ A := fun h => hAC z h z (by simp) rfl
    have hzp : z ∉ p := fun h => (hm z (by simp [h])).2.1 rfl
    rw [spliced_snoc, ih]
    have hzl : z ∉ less A p ++ p := by
      simp only [List.mem_append, not_or]
      exact ⟨fun h => hzA ((List.mem_filter.1 h).1), hzp⟩
    have hnd : (less A p ++ p ++ z :: less C p).Nodup := by
      rw [← ih]
      exact (spliced_facts hn (Or.inr (by simp)) p (fun q hq => ⟨(hm q (by simp [hq])).1, (hm q (by simp [hq])).2.2⟩) _ rfl hn (fun q => Iff.rfl)).2.1
    have hin : y ∈ less A p ++ p ++ z :: less C p := by
      simp only [List.mem_append, List.mem_cons] at hy ⊢
      rcases hy with h | h | h
      · exact Or.inl (Or.inl (List.mem_filter.2 ⟨h, by simp [hyp]⟩))
      · exact absurd h hyz
      · exact Or.inr (Or.inr (List.mem_filter.2 ⟨h, by simp [hyp]⟩))
    rw [movedB_eq hyz, out_filter hnd hin]
    have hf : (less A p ++ p ++ z :: less C p).filter (fun q => q ≠ y) = (less A (p ++ [y]) ++ p) ++ z :: less C (p ++ [y]) := by
      rw [List.filter_append, List.filter_append, List.filter_cons_of_pos (by simp; exact fun e => hyz e.symm), less_snoc, less_snoc, filter_not hyp]
    rw [hf]
    have hz2 : z ∉ less A (p ++ [y]) ++ p := by
      simp only [List.mem_append, not_or]
      exact ⟨fun h => hzA ((List.mem_filter.1 h).1), hzp⟩
    have hidx : ((less A (p ++ [y]) ++ p) ++ z :: less C (p ++ [y])).idxOf z = (less A (p ++ [y]) ++ p).length := by
      rw [List.idxOf_append, if_neg hz2]; simp
    rw [aheadOf, if_neg hz, hidx, ins, List.take_left', List.drop_left'] <;> simp

theorem spliced_end {L : List Int} (hn : L.Nodup) : ∀ (n : Nat) (p : List Int), p.length = n → p.Nodup → (∀ y ∈ p, y ∈ L ∧ y ≠ 0) → spliced L p 0 = less L p ++ p
  | 0, p, hl, _, _ => by
    have : p = [] := List.length_eq_zero_iff.1 hl
    subst this
    simp [spliced, less_nil]
  | n + 1, p, hl, hp, hm => by
    obtain ⟨p, y, rfl⟩ : ∃ q y, p = q ++ [y] := by
      rcases List.eq_nil_or_concat p with h | ⟨q, y, h⟩
      · rw [h] at hl; cases hl
      · exact ⟨q, y, by rw [h, List.concat_eq_append]⟩
    have hl' : p.length = n := by simpa using hl
    obtain ⟨hp1, _, hp2⟩ := List.nodup_append.1 hp
    have hyp : y ∉ p := fun h => hp2 y h y (by simp) rfl
    obtain ⟨hy, hy0⟩ := hm y (by simp)
    have ih := spliced_end hn n p hl' hp1 (fun q hq => hm q (by simp [hq]))
    rw [spliced_snoc, ih]
    have hnd : (less L p ++ p).Nodup := by
      rw [← ih]
      exact (spliced_facts hn (Or.inl rfl) p (fun q hq => hm q (by simp [hq])) _ rfl hn (fun q => Iff.rfl)).2.1
    have hin : y ∈ less L p ++ p := List.mem_append_left _ (List.mem_filter.2 ⟨hy, by simp [hyp]⟩)
    rw [movedB_eq hy0, out_filter hnd hin, List.filter_append, less_snoc, filter_not hyp, aheadOf, if_pos rfl, ins, List.take_of_length_le (Nat.le_refl _), List.drop_of_length_le (Nat.le_refl _)]
    simp

end Go.Proofs.Ytelgbigpfiohfaa
