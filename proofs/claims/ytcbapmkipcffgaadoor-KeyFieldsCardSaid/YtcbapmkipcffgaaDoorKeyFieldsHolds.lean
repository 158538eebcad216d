/-
  KeyFields answers true for every input, and leaves what it was handed as it was; its card, tied. Conditions: none.
-/
import Derived.Test.YtcbapmkipcffgaaDoorKeyFieldsW
import Derived.Test.YtcbapmkipcffgaaDoorLawH
import Derived.Test.YtcbapmkipcffgaaDoorCards
import Derived.Test.YtcbapmkipcffgaaDoorTie
import Derived.SevenTiedAt
namespace Go.Proofs.YtcbapmkipcffgaaDoor
open Go.ChangeShapes Go.WideShapes Go.ChangeAt Go.RowKit

set_option maxRecDepth 100000 in
theorem keyFields_lifted (os : Os) (started : os.Started) (H : Type) (enc : TypeId × Value → H) :
    ReturnsInHanded {} Tryd.checked os 8 .any (fun w args => (Rows.keyFieldsSpec.pre enc Tryd.prog Tryd.f8 [] false w args ∧ laidMetH Tryd.prog laidRow w) ∧ sizedMet enc Tryd.prog Tryd.f8 (OpenSpec.ofChange Rows.keyFieldsSpec) false w args)
      (Rows.keyFieldsSpec.post enc Tryd.prog Tryd.f8 false true false false) := by
  refine law_lifted_laid started (by kernel_rfl) Tryd.func8 rfl rfl ?_ ?_
    (ChangeSpec.witness_at (enc := enc) (C := Tryd.checked) (os := os) (X := fun w _ => laidMetH Tryd.prog laidRow w) false (laidWorld os) #[.slice none 0 0, .slice none 0 0] 8 rfl (by kernel_rfl) (by kernel_rfl) (by kernel_rfl) (by kernel_rfl) (by kernel_rfl) (laidWorld_met os _)) ?_
  · intro ds hl
    match ds, hl with
    | [_, _], _ => exact ⟨rfl, rfl, rfl⟩
  · rw [Tryd.params8]
    exact fun t ht => by
      simp only [List.mem_cons, List.not_mem_nil, or_false] at ht
      rcases ht with rfl | rfl
      · exact ⟨by kernel_rfl, of_decide_eq_true (by kernel_rfl)⟩
      · exact ⟨by kernel_rfl, of_decide_eq_true (by kernel_rfl)⟩
  · intro W base args ds p hval hA hg
    rw [Tryd.params8] at hA hval
    obtain ⟨v0, v1, d0, d1, p0, p1, rfl, rfl, rfl, h0, h1⟩ := trodAll_two hA
    obtain ⟨L, rL, okL, nL, _⟩ := open_values (hval 0 29 v0 rfl rfl) h0
    obtain ⟨l, rl, nl⟩ := open_bytes (hval 1 86 v1 rfl rfl) h1
    exact keyFields_any rL okL nL rl nl hg

theorem keyFields_row : Rows.KeyFieldsSaid :=
  OpenClaim.holds_of_wide 8 Tryd.f8 rfl rfl rfl rfl rfl rfl rfl ⟨rfl, rfl, rfl, rfl, rfl⟩ rfl rfl rfl rfl rfl (by kernel_rfl) Tryd.func8 (by kernel_rfl)
    (of_decide_eq_true (by kernel_rfl)) (by unfold Func.isWrapper; first | (rw [if_pos (by decide +kernel)]; kernel_rfl) | (rw [if_neg (by decide +kernel)]; exact ⟨rfl, rfl⟩))
    (fun os started H enc _ => keyFields_lifted os started H enc)

theorem keyFields_holds : Rows.KeyFieldsCardSaid :=
  Claim7.holds_tied_plain_at .later [] [.handle] true Rows.keyFieldsCard.stood.harness true
    keyFields_row (fun _ h => by cases h) (by kernel_rfl) (fun _ h => by cases h) keyFields_row_tie rfl ⟨rfl, rfl⟩ (by kernel_rfl) rfl
    (fun f fn hf hfn => by
      obtain rfl : f = 8 := Option.some.inj ((show Tryd.prog.funcNamed "rialto/rialtolaw7.KeyFields" = some 8 by kernel_rfl).symm.trans hf) |>.symm
      obtain rfl : fn = Tryd.f8 := (Option.some.inj (Tryd.func8.symm.trans hfn)).symm
      exact ⟨by kernel_rfl, fun j t ht => by
        rw [Tryd.params8] at ht
        have h3 : t = 29 ∨ t = 86 := by
          rcases j with _ | _ | j
          · exact Or.inl (by simpa using ht.symm)
          · exact Or.inr (by simpa using ht.symm)
          · simp at ht
        rcases h3 with rfl | rfl
        · exact (show Tryd.prog.wantsStandIn 29 = false by kernel_rfl)
        · exact (show Tryd.prog.wantsStandIn 86 = false by kernel_rfl)⟩)
    (by kernel_rfl)

#print axioms keyFields_holds

end Go.Proofs.YtcbapmkipcffgaaDoor
