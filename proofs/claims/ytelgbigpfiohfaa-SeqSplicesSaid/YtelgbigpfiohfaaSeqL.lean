/-
  Plain: what a move turns in a list of rows. Conditions: none.
-/
import Derived.Test.YtelgbigpfiohfaaSeqKnown
namespace Go.Proofs.Ytelgbigpfiohfaa
open Go.RowKit

theorem ins_at {M : List Int} {u : Nat} {y : Int} (hu : u ≤ M.length) (t : Nat) : (ins M u y)[t]? = if t < u then M[t]? else if t = u then some y else M[t - 1]? := by
  have e : (M.take u).length = u := by rw [List.length_take]; omega
  by_cases h1 : t < u
  · rw [if_pos h1, ins, List.getElem?_append_left (by omega), List.getElem?_take, if_pos h1]
  · rw [if_neg h1]
    by_cases h2 : t = u
    · rw [if_pos h2, h2]; exact ins_get hu
    · rw [if_neg h2, ins, List.getElem?_append_right (by omega), e]
      obtain ⟨d, rfl⟩ : ∃ d, t = u + 1 + d := ⟨t - u - 1, by omega⟩
      rw [show u + 1 + d - u = d + 1 by omega, List.getElem?_cons_succ, List.getElem?_drop, show u + 1 + d - 1 = u + d by omega]

/-- What stands where, behind a move. -/
theorem movedB_facts {L : List Int} {y z : Int} (hn : L.Nodup) (hy : y ∈ L) (hy0 : y ≠ 0) (hz : z = 0 ∨ z ∈ L) :
    (movedB L y z).length = L.length ∧ (movedB L y z).Nodup ∧ (∀ q, q ∈ movedB L y z ↔ q ∈ L) ∧ (z = 0 → (movedB L y z).idxOf y = L.length - 1) ∧ (z ≠ 0 → z ≠ y → (movedB L y z)[(movedB L y z).idxOf y + 1]? = some z) ∧ out (movedB L y z) ((movedB L y z).idxOf y) = out L (L.idxOf y) := by
  have hi : L.idxOf y < L.length := List.idxOf_lt_length_iff.2 hy
  by_cases hyz : y = z
  · subst hyz
    have e : movedB L y y = L := by simp [movedB]
    rw [e]
    exact ⟨rfl, hn, fun q => Iff.rfl, fun h => absurd h hy0, fun _ h => absurd rfl h, rfl⟩
  · rw [movedB_eq hyz]
    have hol := out_length hi
    have hnot := out_not hn hy
    have hzo : z = 0 ∨ z ∈ out L (L.idxOf y) := by
      rcases hz with h | h
      · exact Or.inl h
      · exact Or.inr ((out_mem hn hy z).2 ⟨fun e => hyz e.symm, h⟩)
    have hle := aheadOf_le hzo
    have hidx := ins_idx hle hnot
    refine ⟨by rw [ins_length, hol]; omega, insert_nodup _ (erase_nodup _ hn) hnot, fun q => ?_, fun h => ?_, fun hz0 hzy => ?_, by rw [hidx]; exact out_ins hle⟩
    · show q ∈ ins _ _ _ ↔ _
      unfold ins
      rw [insert_mem, out_mem hn hy]
      constructor
      · rintro (rfl | ⟨_, h⟩)
        · exact hy
        · exact h
      · intro h
        by_cases e : q = y
        · exact Or.inl e
        · exact Or.inr ⟨e, h⟩
    · rw [hidx, aheadOf, if_pos h, hol]
    · rw [hidx, ins_at hle, if_neg (by omega), if_neg (by omega), Nat.add_sub_cancel]
      rw [aheadOf, if_neg hz0]
      exact idxOf_get (hzo.resolve_left hz0)

end Go.Proofs.Ytelgbigpfiohfaa
