/-
  OrdFails answers true for every input, and leaves what it was handed as it was; its card, tied. Conditions: none.
-/
import Derived.Test.YtgfmemggfbgjeaaGreatDoorM58
import Derived.Test.YtgfmemggfbgjeaaGreatDoorM45
import Derived.Test.YtgfmemggfbgjeaaGreatDoorCards
import Derived.Test.YtgfmemggfbgjeaaGreatDoorTie
import Derived.SevenTiedAt
namespace Go.Proofs.YtgfmemggfbgjeaaGreatDoor
open Go.ChangeShapes Go.WideShapes Go.ChangeAt Go.RowKit

set_option maxRecDepth 100000 in
theorem ordFails_lifted (os : Os) (started : os.Started) (H : Type) (enc : TypeId × Value → H) :
    ReturnsInHanded {} Tryz.checked os 5 .any (fun w args => (Rows.ordFailsSpec.pre enc Tryz.prog Tryz.f5 [] false w args ∧ laidMetH Tryz.prog laidRow w) ∧ sizedMet enc Tryz.prog Tryz.f5 (OpenSpec.ofChange Rows.ordFailsSpec) false w args)
      (Rows.ordFailsSpec.post enc Tryz.prog Tryz.f5 false true false false) := by
  refine law_lifted_laid started (by kernel_rfl) Tryz.func5 rfl rfl ?_ ?_
    (ChangeSpec.witness_at (enc := enc) (C := Tryz.checked) (os := os) (X := fun w _ => laidMetH Tryz.prog laidRow w) false (laidWorld os) #[.slice none 0 0, .int .i8 0, .int .u8 0] 8 rfl (by kernel_rfl) (by kernel_rfl) (by kernel_rfl) (by kernel_rfl) (by kernel_rfl) (laidWorld_met os _)) ?_
  · intro ds hl
    match ds, hl with
    | [_, _, _], _ => exact ⟨rfl, rfl, rfl⟩
  · rw [Tryz.params5]
    exact fun t ht => by
      simp only [List.mem_cons, List.not_mem_nil, or_false] at ht
      rcases ht with rfl | rfl | rfl
      · exact ⟨by kernel_rfl, of_decide_eq_true (by kernel_rfl)⟩
      · exact ⟨by kernel_rfl, of_decide_eq_true (by kernel_rfl)⟩
      · exact ⟨by kernel_rfl, of_decide_eq_true (by kernel_rfl)⟩
  · intro W base args ds p hval hA hg
    rw [Tryz.params5] at hA hval
    obtain ⟨v0, v1, v2, d0, d1, d2, p0, p1, p2, rfl, rfl, rfl, h0, h1, h2⟩ := trodAll_three hA
    obtain ⟨l, rl, bl⟩ := open_i8s (hval 0 22 v0 rfl rfl) h0
    obtain ⟨vv, rfl, rfl, rfl, bvv⟩ := open_int Tryz.underlying36 (hval 1 36 v1 rfl rfl) h1
    obtain ⟨aa, rfl, rfl, rfl, baa⟩ := open_int Tryz.underlying5 (hval 2 5 v2 rfl rfl) h2
    refine (ordFails_any hg rl bl (bounds_i8 bvv) (bounds_u8 baa)).mono ?_
    rintro e W1 ⟨rfl, hs⟩
    exact ⟨rfl, hs.os, hs.tape, hs.output, hs.size, fun k hk => hs.block k hk id⟩

theorem ordFails_row : Rows.OrdFailsSaid :=
  OpenClaim.holds_of_wide 5 Tryz.f5 rfl rfl rfl rfl rfl rfl rfl ⟨rfl, rfl, rfl, rfl, rfl⟩ rfl rfl rfl rfl rfl (by kernel_rfl) Tryz.func5 (by kernel_rfl)
    (of_decide_eq_true (by kernel_rfl)) (by unfold Func.isWrapper; first | (rw [if_pos (by decide +kernel)]; kernel_rfl) | (rw [if_neg (by decide +kernel)]; exact ⟨rfl, rfl⟩))
    (fun os started H enc _ => ordFails_lifted os started H enc)

theorem ordFails_holds : Rows.OrdFailsCardSaid :=
  Claim7.holds_tied_plain_at .later [] [.handle] true Rows.ordFailsCard.stood.harness true
    ordFails_row (fun _ h => by cases h) (by kernel_rfl) (fun _ h => by cases h) ordFails_row_tie rfl ⟨rfl, rfl⟩ (by kernel_rfl) rfl
    (fun f fn hf hfn => by
      obtain rfl : f = 5 := Option.some.inj ((show Tryz.prog.funcNamed "rialto/rialtolaw12.OrdFails" = some 5 by kernel_rfl).symm.trans hf) |>.symm
      obtain rfl : fn = Tryz.f5 := (Option.some.inj (Tryz.func5.symm.trans hfn)).symm
      exact ⟨by kernel_rfl, fun j t ht => by
        rw [Tryz.params5] at ht
        have h3 : t = 22 ∨ t = 36 ∨ t = 5 := by
          rcases j with _ | _ | _ | j
          · exact Or.inl (by simpa using ht.symm)
          · exact Or.inr (Or.inl (by simpa using ht.symm))
          · exact Or.inr (Or.inr (by simpa using ht.symm))
          · simp at ht
        rcases h3 with rfl | rfl | rfl
        · exact (show Tryz.prog.wantsStandIn 22 = false by kernel_rfl)
        · exact (show Tryz.prog.wantsStandIn 36 = false by kernel_rfl)
        · exact (show Tryz.prog.wantsStandIn 5 = false by kernel_rfl)⟩)
    (by kernel_rfl)

#print axioms ordFails_holds

end Go.Proofs.YtgfmemggfbgjeaaGreatDoor
