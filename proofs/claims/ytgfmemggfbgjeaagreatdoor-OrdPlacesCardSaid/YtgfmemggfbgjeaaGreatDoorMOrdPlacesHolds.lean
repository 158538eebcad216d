/-
  OrdPlaces answers true for every input, and leaves what it was handed as it was; its card, tied. Conditions: none.
-/
import Derived.Test.YtgfmemggfbgjeaaGreatDoorM55
import Derived.Test.YtgfmemggfbgjeaaGreatDoorM45
import Derived.Test.YtgfmemggfbgjeaaGreatDoorCards
import Derived.Test.YtgfmemggfbgjeaaGreatDoorTie
import Derived.SevenTiedAt
namespace Go.Proofs.YtgfmemggfbgjeaaGreatDoor
open Go.ChangeShapes Go.WideShapes Go.ChangeAt Go.RowKit

set_option maxRecDepth 100000 in
theorem ordPlaces_lifted (os : Os) (started : os.Started) (H : Type) (enc : TypeId × Value → H) :
    ReturnsInHanded {} Tryz.checked os 6 .any (fun w args => (Rows.ordPlacesSpec.pre enc Tryz.prog Tryz.f6 [] false w args ∧ laidMetH Tryz.prog laidRow w) ∧ sizedMet enc Tryz.prog Tryz.f6 (OpenSpec.ofChange Rows.ordPlacesSpec) false w args)
      (Rows.ordPlacesSpec.post enc Tryz.prog Tryz.f6 false true false false) := by
  refine law_lifted_laid started (by kernel_rfl) Tryz.func6 rfl rfl ?_ ?_
    (ChangeSpec.witness_at (enc := enc) (C := Tryz.checked) (os := os) (X := fun w _ => laidMetH Tryz.prog laidRow w) false (laidWorld os) #[.slice none 0 0, .slice none 0 0] 8 rfl (by kernel_rfl) (by kernel_rfl) (by kernel_rfl) (by kernel_rfl) (by kernel_rfl) (laidWorld_met os _)) ?_
  · intro ds hl
    match ds, hl with
    | [_, _], _ => exact ⟨rfl, rfl, rfl⟩
  · rw [Tryz.params6]
    exact fun t ht => by
      simp only [List.mem_cons, List.not_mem_nil, or_false] at ht
      rcases ht with rfl | rfl
      · exact ⟨by kernel_rfl, of_decide_eq_true (by kernel_rfl)⟩
      · exact ⟨by kernel_rfl, of_decide_eq_true (by kernel_rfl)⟩
  · intro W base args ds p hval hA hg
    rw [Tryz.params6] at hA hval
    obtain ⟨v0, v1, d0, d1, p0, p1, rfl, rfl, rfl, h0, h1⟩ := trodAll_two hA
    obtain ⟨l, rl, bl⟩ := open_i8s (hval 0 22 v0 rfl rfl) h0
    obtain ⟨m, rm, bm⟩ := open_bytes (hval 1 69 v1 rfl rfl) h1
    refine (ordPlaces_any hg rl bl rm bm).mono ?_
    rintro e W1 ⟨rfl, hs⟩
    exact ⟨rfl, hs.os, hs.tape, hs.output, hs.size, fun k hk => hs.block k hk id⟩

theorem ordPlaces_row : Rows.OrdPlacesSaid :=
  OpenClaim.holds_of_wide 6 Tryz.f6 rfl rfl rfl rfl rfl rfl rfl ⟨rfl, rfl, rfl, rfl, rfl⟩ rfl rfl rfl rfl rfl (by kernel_rfl) Tryz.func6 (by kernel_rfl)
    (of_decide_eq_true (by kernel_rfl)) (by unfold Func.isWrapper; first | (rw [if_pos (by decide +kernel)]; kernel_rfl) | (rw [if_neg (by decide +kernel)]; exact ⟨rfl, rfl⟩))
    (fun os started H enc _ => ordPlaces_lifted os started H enc)

theorem ordPlaces_holds : Rows.OrdPlacesCardSaid :=
  Claim7.holds_tied_plain_at .later [] [.handle] true Rows.ordPlacesCard.stood.harness true
    ordPlaces_row (fun _ h => by cases h) (by kernel_rfl) (fun _ h => by cases h) ordPlaces_row_tie rfl ⟨rfl, rfl⟩ (by kernel_rfl) rfl
    (fun f fn hf hfn => by
      obtain rfl : f = 6 := Option.some.inj ((show Tryz.prog.funcNamed "rialto/rialtolaw12.OrdPlaces" = some 6 by kernel_rfl).symm.trans hf) |>.symm
      obtain rfl : fn = Tryz.f6 := (Option.some.inj (Tryz.func6.symm.trans hfn)).symm
      exact ⟨by kernel_rfl, fun j t ht => by
        rw [Tryz.params6] at ht
        have h3 : t = 22 ∨ t = 69 := by
          rcases j with _ | _ | j
          · exact Or.inl (by simpa using ht.symm)
          · exact Or.inr (by simpa using ht.symm)
          · simp at ht
        rcases h3 with rfl | rfl
        · exact (show Tryz.prog.wantsStandIn 22 = false by kernel_rfl)
        · exact (show Tryz.prog.wantsStandIn 69 = false by kernel_rfl)⟩)
    (by kernel_rfl)

#print axioms ordPlaces_holds

end Go.Proofs.YtgfmemggfbgjeaaGreatDoor
