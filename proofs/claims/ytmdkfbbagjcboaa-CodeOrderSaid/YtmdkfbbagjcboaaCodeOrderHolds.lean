/-
  CodeOrder answers true for every input, and leaves what it was handed as it was. Conditions: none.
-/
import Derived.Test.YtmdkfbbagjcboaaCodeOrder
import Derived.Test.YtmdkfbbagjcboaaLaw
namespace Go.Proofs.Ytmdkfbbagjcboaa
open Go.ChangeShapes Go.WideShapes Go.ChangeAt Go.RowKit

set_option maxRecDepth 100000 in
theorem codeOrder_lifted (os : Os) (started : os.Started) (H : Type) (enc : TypeId × Value → H) :
    ReturnsInHanded {} Try.checked os 4 .any (Rows.codeOrderSpec.pre6 enc Try.prog Try.f4 Rows.codeOrderRow.domain false) (Rows.codeOrderSpec.post enc Try.prog Try.f4 false true false false) := by
  refine law_lifted started (by kernel_rfl) Try.func4 rfl rfl ?_ ?_
    (ChangeSpec.witness6 (enc := enc) (C := Try.checked) false ⟨#[], #[.slice none 0 0, .slice none 0 0], []⟩ 8 (by kernel_rfl) (by kernel_rfl) (by kernel_rfl) (by kernel_rfl)) ?_
  · intro ds hl
    match ds, hl with
    | [_, _], _ => exact ⟨rfl, rfl, rfl⟩
  · rw [Try.params4]
    exact fun t ht => by
      simp only [List.mem_cons, List.not_mem_nil, or_false, or_self] at ht
      subst ht
      exact ⟨by kernel_rfl, of_decide_eq_true (by kernel_rfl)⟩
  · intro W base args ds p hval hA hlt hsz
    rw [Try.params4] at hA hval
    obtain ⟨v0, v1, d0, d1, p0, p1, rfl, rfl, rfl, h0, h1⟩ := trodAll_two hA
    obtain ⟨A, hr, hok, hn, _⟩ := open_values (hval 0 22 v0 rfl rfl) h0
    obtain ⟨B, gr, gok, gn, _⟩ := open_values (hval 1 22 v1 rfl rfl) h1
    exact codeOrder_any hr gr hok gok hn gn

theorem codeOrder_holds : Rows.CodeOrderSaid :=
  OpenClaim.holds_of_wide 4 Try.f4 rfl rfl rfl rfl rfl rfl rfl ⟨rfl, rfl, rfl, rfl, rfl⟩ rfl rfl rfl rfl rfl (by kernel_rfl) Try.func4 (by kernel_rfl)
    (of_decide_eq_true (by kernel_rfl)) (by unfold Func.isWrapper; first | (rw [if_pos (by decide +kernel)]; kernel_rfl) | (rw [if_neg (by decide +kernel)]; exact ⟨rfl, rfl⟩))
    (fun os started H enc _ => codeOrder_lifted os started H enc)

#print axioms codeOrder_holds

end Go.Proofs.Ytmdkfbbagjcboaa
