/-
  SeqSplices answers true for every input, and leaves what it was handed as it was. Conditions: none.
-/
import Derived.Test.YtelgbigpfiohfaaSeqSplices
import Derived.Test.YtelgbigpfiohfaaLaw
namespace Go.Proofs.Ytelgbigpfiohfaa
open Go.ChangeShapes Go.WideShapes Go.ChangeAt Go.RowKit

set_option maxRecDepth 100000 in
theorem seqSplices_lifted (os : Os) (started : os.Started) (H : Type) (enc : TypeId × Value → H) :
    ReturnsInHanded {} Try.checked os 7 .any (Rows.seqSplicesSpec.pre6 enc Try.prog Try.f7 Rows.seqSplicesRow.domain false) (Rows.seqSplicesSpec.post enc Try.prog Try.f7 false true false false) := by
  refine law_lifted started (by kernel_rfl) Try.func7 rfl rfl ?_ ?_
    (ChangeSpec.witness6 (enc := enc) (C := Try.checked) false ⟨#[], #[.int .u8 0, .int .u16 0, .int .u8 0], []⟩ 8 (by kernel_rfl) (by kernel_rfl) (by kernel_rfl) (by kernel_rfl)) ?_
  · intro ds hl
    match ds, hl with
    | [_, _, _], _ => exact ⟨rfl, rfl, rfl⟩
  · rw [Try.params7]
    exact fun t ht => by
      simp only [List.mem_cons, List.not_mem_nil, or_false] at ht
      rcases ht with rfl | rfl | rfl
      · exact ⟨by kernel_rfl, of_decide_eq_true (by kernel_rfl)⟩
      · exact ⟨by kernel_rfl, of_decide_eq_true (by kernel_rfl)⟩
      · exact ⟨by kernel_rfl, of_decide_eq_true (by kernel_rfl)⟩
  · intro W base args ds p hval hA hlt hsz
    rw [Try.params7] at hA hval
    obtain ⟨v0, v1, v2, d0, d1, d2, p0, p1, p2, rfl, rfl, rfl, h0, h1, h2⟩ := trodAll_three hA
    obtain ⟨a, rfl, rfl, rfl, ba⟩ := open_int Try.underlying5 (hval 0 5 v0 rfl rfl) h0
    obtain ⟨b, rfl, rfl, rfl, bb⟩ := open_int Try.underlying55 (hval 1 55 v1 rfl rfl) h1
    obtain ⟨c, rfl, rfl, rfl, bc⟩ := open_int Try.underlying5 (hval 2 5 v2 rfl rfl) h2
    have wa := bounds_u8 ba; have wb := bounds_u16 bb; have wc := bounds_u8 bc
    refine (seqSplices_any W wa.1 wa.2 wb.1 wb.2 wc.1 wc.2).mono ?_
    rintro e W1 ⟨rfl, hs⟩
    exact ⟨rfl, hs.os, hs.tape, hs.output, hs.size, fun k hk => hs.block k hk id⟩

theorem seqSplices_holds : Rows.SeqSplicesSaid :=
  OpenClaim.holds_of_wide 7 Try.f7 rfl rfl rfl rfl rfl rfl rfl ⟨rfl, rfl, rfl, rfl, rfl⟩ rfl rfl rfl rfl rfl (by kernel_rfl) Try.func7 (by kernel_rfl)
    (of_decide_eq_true (by kernel_rfl)) (by unfold Func.isWrapper; first | (rw [if_pos (by decide +kernel)]; kernel_rfl) | (rw [if_neg (by decide +kernel)]; exact ⟨rfl, rfl⟩))
    (fun os started H enc _ => seqSplices_lifted os started H enc)

#print axioms seqSplices_holds

end Go.Proofs.Ytelgbigpfiohfaa
