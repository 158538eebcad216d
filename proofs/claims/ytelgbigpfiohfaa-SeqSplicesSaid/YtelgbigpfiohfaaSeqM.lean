/-
  Plain: a walk over the rows behind a move, the moved one left out. Conditions: none.
-/
import Derived.Test.YtelgbigpfiohfaaSeqL
namespace Go.Proofs.Ytelgbigpfiohfaa
open Go.RowKit

/-- How many of the first m rows are not the i-th. -/
def seen (i m : Nat) : Nat := if m ≤ i then m else m - 1
/-- Where the next one stands, behind m that were seen, in a list whose a-th is left out. -/
def skip (a m : Nat) : Nat := if m ≤ a then m else m + 1

theorem out_at {L : List Int} {i : Nat} (hi : i < L.length) (t : Nat) : (out L i)[t]? = if t < i then L[t]? else L[t + 1]? := by
  have e : (L.take i).length = i := by rw [List.length_take]; omega
  by_cases h : t < i
  · rw [if_pos h, out, List.getElem?_append_left (by omega), List.getElem?_take, if_pos h]
  · rw [if_neg h, out, List.getElem?_append_right (by omega), e, List.getElem?_drop, show i + 1 + (t - i) = t + 1 by omega]

theorem skip_step {L M : List Int} {i a m : Nat} (hi : i < L.length) (ha : a < M.length) (hl : M.length = L.length) (ho : out M a = out L i) (hm : m < L.length) (hne : m ≠ i) :
    ∃ jj c, skip a (seen i m) + c = jj ∧ c ≤ 1 ∧ (c = 1 → skip a (seen i m) = a) ∧ M[jj]? = L[m]? ∧ skip a (seen i (m + 1)) = jj + 1 ∧ jj < M.length := by
  have hs : seen i (m + 1) = seen i m + 1 := by unfold seen; split <;> split <;> omega
  have hsl : seen i m + 1 < L.length := by unfold seen; split <;> omega
  have hL : (out L i)[seen i m]? = L[m]? := by
    rw [out_at hi]
    unfold seen
    by_cases h : m ≤ i
    · rw [if_pos h, if_pos (by omega)]
    · rw [if_neg h, if_neg (by omega), show m - 1 + 1 = m by omega]
  have hM := out_at ha (seen i m)
  rw [ho, hL] at hM
  rw [hs]
  by_cases h1 : seen i m < a
  · rw [if_pos h1] at hM
    exact ⟨seen i m, 0, by unfold skip; rw [if_pos (by omega)]; rfl, by omega, fun h => by omega, hM.symm, by unfold skip; rw [if_pos (by omega)], by omega⟩
  · rw [if_neg h1] at hM
    by_cases h2 : seen i m = a
    · exact ⟨seen i m + 1, 1, by unfold skip; rw [if_pos (by omega)], by omega, fun _ => by unfold skip; rw [if_pos (by omega)]; exact h2, hM.symm, by unfold skip; rw [if_neg (by omega)], by omega⟩
    · exact ⟨seen i m + 1, 0, by unfold skip; rw [if_neg (by omega)], by omega, fun h => by omega, hM.symm, by unfold skip; rw [if_neg (by omega)], by omega⟩

theorem seen_same (i : Nat) : seen i (i + 1) = seen i i := by unfold seen; rw [if_neg (by omega), if_pos (by omega)]; rfl

theorem seen_zero (i : Nat) : seen i 0 = 0 := by simp [seen]
theorem skip_zero (a : Nat) : skip a 0 = 0 := by simp [skip]

end Go.Proofs.Ytelgbigpfiohfaa
