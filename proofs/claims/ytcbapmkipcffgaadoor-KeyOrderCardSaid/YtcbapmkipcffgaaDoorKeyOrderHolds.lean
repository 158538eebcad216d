/-
  KeyOrder answers true for every input, and leaves what it was handed as it was; its card, tied. Conditions: none.
-/
import Derived.Test.YtcbapmkipcffgaaDoorKeyOrderW
import Derived.Test.YtcbapmkipcffgaaDoorLawH
import Derived.Test.YtcbapmkipcffgaaDoorCards
import Derived.Test.YtcbapmkipcffgaaDoorTie
import Derived.SevenTiedAt
namespace Go.Proofs.YtcbapmkipcffgaaDoor
open Go.ChangeShapes Go.WideShapes Go.ChangeAt Go.RowKit

set_option maxRecDepth 100000 in
theorem keyOrder_lifted (os : Os) (started : os.Started) (H : Type) (enc : TypeId × Value → H) :
    ReturnsInHanded {} Tryd.checked os 9 .any (fun w args => (Rows.keyOrderSpec.pre enc Tryd.prog Tryd.f9 [] false w args ∧ laidMetH Tryd.prog laidRow w) ∧ sizedMet enc Tryd.prog Tryd.f9 (OpenSpec.ofChange Rows.keyOrderSpec) false w args)
      (Rows.keyOrderSpec.post enc Tryd.prog Tryd.f9 false true false false) := by
  refine law_lifted_laid started (by kernel_rfl) Tryd.func9 rfl rfl ?_ ?_
    (ChangeSpec.witness_at (enc := enc) (C := Tryd.checked) (os := os) (X := fun w _ => laidMetH Tryd.prog laidRow w) false (laidWorld os) #[.agg #[.slice none 0 0, .int .i64 0], .agg #[.slice none 0 0, .int .i64 0], .agg #[.slice none 0 0, .int .i64 0]] 8 rfl (by kernel_rfl) (by kernel_rfl) (by kernel_rfl) (by kernel_rfl) (by kernel_rfl) (laidWorld_met os _)) ?_
  · intro ds hl
    match ds, hl with
    | [_, _, _], _ => exact ⟨rfl, rfl, rfl⟩
  · rw [Tryd.params9]
    exact fun t ht => by
      simp only [List.mem_cons, List.not_mem_nil, or_false] at ht
      rcases ht with rfl | rfl | rfl
      · exact ⟨by kernel_rfl, of_decide_eq_true (by kernel_rfl)⟩
      · exact ⟨by kernel_rfl, of_decide_eq_true (by kernel_rfl)⟩
      · exact ⟨by kernel_rfl, of_decide_eq_true (by kernel_rfl)⟩
  · intro W base args ds p hval hA hg
    rw [Tryd.params9] at hA hval
    obtain ⟨v0, v1, v2, d0, d1, d2, p0, p1, p2, rfl, rfl, rfl, h0, h1, h2⟩ := trodAll_three hA
    obtain ⟨vA, iA, A, rfl, bA, rA, okA, nA⟩ := open_entry (hval 0 89 v0 rfl rfl) h0
    obtain ⟨vB, iB, B, rfl, bB, rB, okB, nB⟩ := open_entry (hval 1 89 v1 rfl rfl) h1
    obtain ⟨vC, iC, C, rfl, bC, rC, okC, nC⟩ := open_entry (hval 2 89 v2 rfl rfl) h2
    exact keyOrder_any rA rB rC okA okB okC nA nB nC hg

theorem keyOrder_row : Rows.KeyOrderSaid :=
  OpenClaim.holds_of_wide 9 Tryd.f9 rfl rfl rfl rfl rfl rfl rfl ⟨rfl, rfl, rfl, rfl, rfl⟩ rfl rfl rfl rfl rfl (by kernel_rfl) Tryd.func9 (by kernel_rfl)
    (of_decide_eq_true (by kernel_rfl)) (by unfold Func.isWrapper; first | (rw [if_pos (by decide +kernel)]; kernel_rfl) | (rw [if_neg (by decide +kernel)]; exact ⟨rfl, rfl⟩))
    (fun os started H enc _ => keyOrder_lifted os started H enc)

theorem keyOrder_holds : Rows.KeyOrderCardSaid :=
  Claim7.holds_tied_plain_at .later [] [.handle] true Rows.keyOrderCard.stood.harness true
    keyOrder_row (fun _ h => by cases h) (by kernel_rfl) (fun _ h => by cases h) keyOrder_row_tie rfl ⟨rfl, rfl⟩ (by kernel_rfl) rfl
    (fun f fn hf hfn => by
      obtain rfl : f = 9 := Option.some.inj ((show Tryd.prog.funcNamed "rialto/rialtolaw7.KeyOrder" = some 9 by kernel_rfl).symm.trans hf) |>.symm
      obtain rfl : fn = Tryd.f9 := (Option.some.inj (Tryd.func9.symm.trans hfn)).symm
      exact ⟨by kernel_rfl, fun j t ht => by
        rw [Tryd.params9] at ht
        have h3 : t = 89 := by
          rcases j with _ | _ | _ | j
          · exact by simpa using ht.symm
          · exact by simpa using ht.symm
          · exact by simpa using ht.symm
          · simp at ht
        rcases h3 with rfl
        · exact (show Tryd.prog.wantsStandIn 89 = false by kernel_rfl)⟩)
    (by kernel_rfl)

#print axioms keyOrder_holds

end Go.Proofs.YtcbapmkipcffgaaDoor
