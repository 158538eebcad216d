/-
  OrdRanks answers true for every input, and leaves what it was handed as it was; its card, tied. Conditions: none.
-/
import Derived.Test.YtgfmemggfbgjeaaGreatDoorM46
import Derived.Test.YtgfmemggfbgjeaaGreatDoorM45
import Derived.Test.YtgfmemggfbgjeaaGreatDoorCards
import Derived.Test.YtgfmemggfbgjeaaGreatDoorTie
import Derived.SevenTiedAt
namespace Go.Proofs.YtgfmemggfbgjeaaGreatDoor
open Go.ChangeShapes Go.WideShapes Go.ChangeAt Go.RowKit

set_option maxRecDepth 100000 in
theorem ordRanks_lifted (os : Os) (started : os.Started) (H : Type) (enc : TypeId × Value → H) :
    ReturnsInHanded {} Tryz.checked os 4 .any (fun w args => (Rows.ordRanksSpec.pre enc Tryz.prog Tryz.f4 [] false w args ∧ laidMetH Tryz.prog laidRow w) ∧ sizedMet enc Tryz.prog Tryz.f4 (OpenSpec.ofChange Rows.ordRanksSpec) false w args)
      (Rows.ordRanksSpec.post enc Tryz.prog Tryz.f4 false true false false) := by
  refine law_lifted_laid started (by kernel_rfl) Tryz.func4 rfl rfl ?_ ?_
    (ChangeSpec.witness_at (enc := enc) (C := Tryz.checked) (os := os) (X := fun w _ => laidMetH Tryz.prog laidRow w) false (laidWorld os) #[.slice none 0 0] 8 rfl (by kernel_rfl) (by kernel_rfl) (by kernel_rfl) (by kernel_rfl) (by kernel_rfl) (laidWorld_met os _)) ?_
  · intro ds hl
    match ds, hl with
    | [_], _ => exact ⟨rfl, rfl, rfl⟩
  · rw [Tryz.params4]
    exact fun t ht => by
      simp only [List.mem_cons, List.not_mem_nil, or_false] at ht
      rcases ht with rfl
      · exact ⟨by kernel_rfl, of_decide_eq_true (by kernel_rfl)⟩
  · intro W base args ds p hval hA hg
    rw [Tryz.params4] at hA hval
    obtain ⟨v0, d0, rfl, rfl, h0⟩ := trodAll_one hA
    obtain ⟨l, rl, bl⟩ := open_i8s (hval 0 22 v0 rfl rfl) h0
    refine (ordRanks_any hg rl bl).mono ?_
    rintro e W1 ⟨rfl, hs⟩
    exact ⟨rfl, hs.os, hs.tape, hs.output, hs.size, fun k hk => hs.block k hk id⟩

theorem ordRanks_row : Rows.OrdRanksSaid :=
  OpenClaim.holds_of_wide 4 Tryz.f4 rfl rfl rfl rfl rfl rfl rfl ⟨rfl, rfl, rfl, rfl, rfl⟩ rfl rfl rfl rfl rfl (by kernel_rfl) Tryz.func4 (by kernel_rfl)
    (of_decide_eq_true (by kernel_rfl)) (by unfold Func.isWrapper; first | (rw [if_pos (by decide +kernel)]; kernel_rfl) | (rw [if_neg (by decide +kernel)]; exact ⟨rfl, rfl⟩))
    (fun os started H enc _ => ordRanks_lifted os started H enc)

theorem ordRanks_holds : Rows.OrdRanksCardSaid :=
  Claim7.holds_tied_plain_at .later [] [.handle] true Rows.ordRanksCard.stood.harness true
    ordRanks_row (fun _ h => by cases h) (by kernel_rfl) (fun _ h => by cases h) ordRanks_row_tie rfl ⟨rfl, rfl⟩ (by kernel_rfl) rfl
    (fun f fn hf hfn => by
      obtain rfl : f = 4 := Option.some.inj ((show Tryz.prog.funcNamed "rialto/rialtolaw12.OrdRanks" = some 4 by kernel_rfl).symm.trans hf) |>.symm
      obtain rfl : fn = Tryz.f4 := (Option.some.inj (Tryz.func4.symm.trans hfn)).symm
      exact ⟨by kernel_rfl, fun j t ht => by
        rw [Tryz.params4] at ht
        have h3 : t = 22 := by
          rcases j with _ | j
          · exact by simpa using ht.symm
          · simp at ht
        rcases h3 with rfl
        · exact (show Tryz.prog.wantsStandIn 22 = false by kernel_rfl)⟩)
    (by kernel_rfl)

#print axioms ordRanks_holds

end Go.Proofs.YtgfmemggfbgjeaaGreatDoor
