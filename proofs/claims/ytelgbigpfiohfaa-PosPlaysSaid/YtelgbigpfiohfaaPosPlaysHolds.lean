/-
  PosPlays answers true for every input, and leaves what it was handed as it was. Conditions: none.
-/
import Derived.Test.YtelgbigpfiohfaaPosPlays
import Derived.Test.YtelgbigpfiohfaaStpOpen
import Derived.Test.YtelgbigpfiohfaaLaw
namespace Go.Proofs.Ytelgbigpfiohfaa
open Go.ChangeShapes Go.WideShapes Go.ChangeAt Go.RowKit

set_option maxRecDepth 100000 in
theorem posPlays_lifted (os : Os) (started : os.Started) (H : Type) (enc : TypeId × Value → H) :
    ReturnsInHanded {} Try.checked os 6 .any (Rows.posPlaysSpec.pre6 enc Try.prog Try.f6 Rows.posPlaysRow.domain false) (Rows.posPlaysSpec.post enc Try.prog Try.f6 false true false false) := by
  refine law_lifted started (by kernel_rfl) Try.func6 rfl rfl ?_ ?_
    (ChangeSpec.witness6 (enc := enc) (C := Try.checked) false ⟨#[], #[.slice none 0 0], []⟩ 8 (by kernel_rfl) (by kernel_rfl) (by kernel_rfl) (by kernel_rfl)) ?_
  · intro ds hl
    match ds, hl with
    | [_], _ => exact ⟨rfl, rfl, rfl⟩
  · rw [Try.params6]
    exact fun t ht => by
      simp only [List.mem_cons, List.not_mem_nil, or_false] at ht
      rcases ht with rfl
      · exact ⟨by kernel_rfl, of_decide_eq_true (by kernel_rfl)⟩
  · intro W base args ds p hval hA hlt hsz
    rw [Try.params6] at hA hval
    obtain ⟨v0, d0, rfl, rfl, h0⟩ := trodAll_one hA
    obtain ⟨l, rl, kl⟩ := open_steps (hval 0 43 v0 rfl rfl) h0
    refine (posPlays_any W rl kl).mono ?_
    rintro e W1 ⟨rfl, hs⟩
    exact ⟨rfl, hs.os, hs.tape, hs.output, hs.size, fun k hk => hs.block k hk id⟩

theorem posPlays_holds : Rows.PosPlaysSaid :=
  OpenClaim.holds_of_wide 6 Try.f6 rfl rfl rfl rfl rfl rfl rfl ⟨rfl, rfl, rfl, rfl, rfl⟩ rfl rfl rfl rfl rfl (by kernel_rfl) Try.func6 (by kernel_rfl)
    (of_decide_eq_true (by kernel_rfl)) (by unfold Func.isWrapper; first | (rw [if_pos (by decide +kernel)]; kernel_rfl) | (rw [if_neg (by decide +kernel)]; exact ⟨rfl, rfl⟩))
    (fun os started H enc _ => posPlays_lifted os started H enc)

#print axioms posPlays_holds

end Go.Proofs.Ytelgbigpfiohfaa
