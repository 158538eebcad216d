/-
  HookValues answers true for every input, and leaves what it was handed as it was; its card, tied. Conditions: none.
-/
import Derived.Test.YtcbapmkipcffgaaDoorHookValuesW
import Derived.Test.YtcbapmkipcffgaaDoorOpenV
import Derived.Test.YtcbapmkipcffgaaDoorLawH
import Derived.Test.YtcbapmkipcffgaaDoorCards
import Derived.Test.YtcbapmkipcffgaaDoorTie
import Derived.SevenTiedAt
namespace Go.Proofs.YtcbapmkipcffgaaDoor
open Go.ChangeShapes Go.WideShapes Go.ChangeAt Go.RowKit

set_option maxRecDepth 100000 in
theorem hookValues_lifted (os : Os) (started : os.Started) (H : Type) (enc : TypeId × Value → H) :
    ReturnsInHanded {} Tryd.checked os 6 .any (fun w args => (Rows.hookValuesSpec.pre enc Tryd.prog Tryd.f6 [] false w args ∧ laidMetH Tryd.prog laidRow w) ∧ sizedMet enc Tryd.prog Tryd.f6 (OpenSpec.ofChange Rows.hookValuesSpec) false w args)
      (Rows.hookValuesSpec.post enc Tryd.prog Tryd.f6 false true false false) := by
  refine law_lifted_laid started (by kernel_rfl) Tryd.func6 rfl rfl ?_ ?_
    (ChangeSpec.witness_at (enc := enc) (C := Tryd.checked) (os := os) (X := fun w _ => laidMetH Tryd.prog laidRow w) false (laidWorld os) #[.agg #[.int .i64 0, .int .i64 0, .string ⟨#[]⟩, .float .f64 0], .slice none 0 0] 8 rfl (by kernel_rfl) (by kernel_rfl) (by kernel_rfl) (by kernel_rfl) (by kernel_rfl) (laidWorld_met os _)) ?_
  · intro ds hl
    match ds, hl with
    | [_, _], _ => exact ⟨rfl, rfl, rfl⟩
  · rw [Tryd.params6]
    exact fun t ht => by
      simp only [List.mem_cons, List.not_mem_nil, or_false] at ht
      rcases ht with rfl | rfl
      · exact ⟨by kernel_rfl, of_decide_eq_true (by kernel_rfl)⟩
      · exact ⟨by kernel_rfl, of_decide_eq_true (by kernel_rfl)⟩
  · intro W base args ds p hval hA hg
    rw [Tryd.params6] at hA hval
    obtain ⟨v0, v1, d0, d1, p0, p1, rfl, rfl, rfl, h0, h1⟩ := trodAll_two hA
    obtain ⟨y, oky, rfl⟩ := open_value (hval 0 38 v0 rfl rfl) h0
    obtain ⟨L, rL, okL, nL, _⟩ := open_values (hval 1 29 v1 rfl rfl) h1
    exact hookValues_any oky rL okL nL hg

theorem hookValues_row : Rows.HookValuesSaid :=
  OpenClaim.holds_of_wide 6 Tryd.f6 rfl rfl rfl rfl rfl rfl rfl ⟨rfl, rfl, rfl, rfl, rfl⟩ rfl rfl rfl rfl rfl (by kernel_rfl) Tryd.func6 (by kernel_rfl)
    (of_decide_eq_true (by kernel_rfl)) (by unfold Func.isWrapper; first | (rw [if_pos (by decide +kernel)]; kernel_rfl) | (rw [if_neg (by decide +kernel)]; exact ⟨rfl, rfl⟩))
    (fun os started H enc _ => hookValues_lifted os started H enc)

theorem hookValues_holds : Rows.HookValuesCardSaid :=
  Claim7.holds_tied_plain_at .later [] [.handle] true Rows.hookValuesCard.stood.harness true
    hookValues_row (fun _ h => by cases h) (by kernel_rfl) (fun _ h => by cases h) hookValues_row_tie rfl ⟨rfl, rfl⟩ (by kernel_rfl) rfl
    (fun f fn hf hfn => by
      obtain rfl : f = 6 := Option.some.inj ((show Tryd.prog.funcNamed "rialto/rialtolaw6.HookValues" = some 6 by kernel_rfl).symm.trans hf) |>.symm
      obtain rfl : fn = Tryd.f6 := (Option.some.inj (Tryd.func6.symm.trans hfn)).symm
      exact ⟨by kernel_rfl, fun j t ht => by
        rw [Tryd.params6] at ht
        have h3 : t = 38 ∨ t = 29 := by
          rcases j with _ | _ | j
          · exact Or.inl (by simpa using ht.symm)
          · exact Or.inr (by simpa using ht.symm)
          · simp at ht
        rcases h3 with rfl | rfl
        · exact (show Tryd.prog.wantsStandIn 38 = false by kernel_rfl)
        · exact (show Tryd.prog.wantsStandIn 29 = false by kernel_rfl)⟩)
    (by kernel_rfl)

#print axioms hookValues_holds

end Go.Proofs.YtcbapmkipcffgaaDoor
