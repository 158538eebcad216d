/-
  PosSwaps answers true for every input, and leaves what it was handed as it was. Conditions: none.
-/
import Derived.Test.YtelgbigpfiohfaaPosSwaps
import Derived.Test.YtelgbigpfiohfaaLaw
namespace Go.Proofs.Ytelgbigpfiohfaa
open Go.ChangeShapes Go.WideShapes Go.ChangeAt Go.RowKit

set_option maxRecDepth 100000 in
theorem posSwaps_lifted (os : Os) (started : os.Started) (H : Type) (enc : TypeId × Value → H) :
    ReturnsInHanded {} Try.checked os 5 .any (Rows.posSwapsSpec.pre6 enc Try.prog Try.f5 Rows.posSwapsRow.domain false) (Rows.posSwapsSpec.post enc Try.prog Try.f5 false true false false) := by
  refine law_lifted started (by kernel_rfl) Try.func5 rfl rfl ?_ ?_
    (ChangeSpec.witness6 (enc := enc) (C := Try.checked) false ⟨#[], #[.int .u8 0, .slice none 0 0], []⟩ 8 (by kernel_rfl) (by kernel_rfl) (by kernel_rfl) (by kernel_rfl)) ?_
  · intro ds hl
    match ds, hl with
    | [_, _], _ => exact ⟨rfl, rfl, rfl⟩
  · rw [Try.params5]
    exact fun t ht => by
      simp only [List.mem_cons, List.not_mem_nil, or_false] at ht
      rcases ht with rfl | rfl
      · exact ⟨by kernel_rfl, of_decide_eq_true (by kernel_rfl)⟩
      · exact ⟨by kernel_rfl, of_decide_eq_true (by kernel_rfl)⟩
  · intro W base args ds p hval hA hlt hsz
    rw [Try.params5] at hA hval
    obtain ⟨v0, v1, d0, d1, p0, p1, rfl, rfl, rfl, h0, h1⟩ := trodAll_two hA
    obtain ⟨a, rfl, rfl, rfl, ba⟩ := open_int Try.underlying5 (hval 0 5 v0 rfl rfl) h0
    obtain ⟨bs, rbs, bbs⟩ := open_bytes (hval 1 34 v1 rfl rfl) h1
    have wa := bounds_u8 ba
    refine (posSwaps_any W wa.1 wa.2 rbs bbs).mono ?_
    rintro e W1 ⟨rfl, hs⟩
    exact ⟨rfl, hs.os, hs.tape, hs.output, hs.size, fun k hk => hs.block k hk id⟩

theorem posSwaps_holds : Rows.PosSwapsSaid :=
  OpenClaim.holds_of_wide 5 Try.f5 rfl rfl rfl rfl rfl rfl rfl ⟨rfl, rfl, rfl, rfl, rfl⟩ rfl rfl rfl rfl rfl (by kernel_rfl) Try.func5 (by kernel_rfl)
    (of_decide_eq_true (by kernel_rfl)) (by unfold Func.isWrapper; first | (rw [if_pos (by decide +kernel)]; kernel_rfl) | (rw [if_neg (by decide +kernel)]; exact ⟨rfl, rfl⟩))
    (fun os started H enc _ => posSwaps_lifted os started H enc)

#print axioms posSwaps_holds

end Go.Proofs.Ytelgbigpfiohfaa
