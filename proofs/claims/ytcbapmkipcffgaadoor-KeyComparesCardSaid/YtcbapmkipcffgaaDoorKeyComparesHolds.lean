/-
  KeyCompares answers true for every input, and leaves what it was handed as it was; its card, tied. Conditions: none.
-/
import Derived.Test.YtcbapmkipcffgaaDoorKeyComparesW
import Derived.Test.YtcbapmkipcffgaaDoorLawH
import Derived.Test.YtcbapmkipcffgaaDoorCards
import Derived.Test.YtcbapmkipcffgaaDoorTie
import Derived.SevenTiedAt
namespace Go.Proofs.YtcbapmkipcffgaaDoor
open Go.ChangeShapes Go.WideShapes Go.ChangeAt Go.RowKit

set_option maxRecDepth 100000 in
theorem keyCompares_lifted (os : Os) (started : os.Started) (H : Type) (enc : TypeId × Value → H) :
    ReturnsInHanded {} Tryd.checked os 11 .any (fun w args => (Rows.keyComparesSpec.pre enc Tryd.prog Tryd.f11 [] false w args ∧ laidMetH Tryd.prog laidRow w) ∧ sizedMet enc Tryd.prog Tryd.f11 (OpenSpec.ofChange Rows.keyComparesSpec) false w args)
      (Rows.keyComparesSpec.post enc Tryd.prog Tryd.f11 false true false false) := by
  refine law_lifted_laid started (by kernel_rfl) Tryd.func11 rfl rfl ?_ ?_
    (ChangeSpec.witness_at (enc := enc) (C := Tryd.checked) (os := os) (X := fun w _ => laidMetH Tryd.prog laidRow w) false (laidWorld os) #[.agg #[.string ⟨#[]⟩, .int .i64 0, .slice none 0 0, .int .i64 0], .slice none 0 0, .slice none 0 0, .int .i64 0, .int .i64 0, .int .i64 0, .int .i64 0] 8 rfl (by kernel_rfl) (by kernel_rfl) (by kernel_rfl) (by kernel_rfl) (by kernel_rfl) (laidWorld_met os _)) ?_
  · intro ds hl
    match ds, hl with
    | [_, _, _, _, _, _, _], _ => exact ⟨rfl, rfl, rfl⟩
  · rw [Tryd.params11]
    exact fun t ht => by
      simp only [List.mem_cons, List.not_mem_nil, or_false] at ht
      rcases ht with rfl | rfl | rfl | rfl | rfl | rfl | rfl
      · exact ⟨by kernel_rfl, of_decide_eq_true (by kernel_rfl)⟩
      · exact ⟨by kernel_rfl, of_decide_eq_true (by kernel_rfl)⟩
      · exact ⟨by kernel_rfl, of_decide_eq_true (by kernel_rfl)⟩
      · exact ⟨by kernel_rfl, of_decide_eq_true (by kernel_rfl)⟩
      · exact ⟨by kernel_rfl, of_decide_eq_true (by kernel_rfl)⟩
      · exact ⟨by kernel_rfl, of_decide_eq_true (by kernel_rfl)⟩
      · exact ⟨by kernel_rfl, of_decide_eq_true (by kernel_rfl)⟩
  · intro W base args ds p hval hA hg
    rw [Tryd.params11] at hA hval
    obtain ⟨v0, v1, v2, v3, v4, v5, v6, d0, d1, d2, d3, d4, d5, d6, p0, p1, p2, p3, p4, p5, p6, rfl, rfl, rfl, h0, h1, h2, h3, h4, h5, h6⟩ := trodAll_seven' hA
    obtain ⟨name, kind, parts, cmp, P, rfl, bname, bkind, bcmp, rP, bP, nP⟩ := open_def (hval 0 68 v0 rfl rfl) h0
    obtain ⟨A, rA, okA, nA, cA⟩ := open_values (hval 1 29 v1 rfl rfl) h1
    obtain ⟨B, rB, okB, nB, cB⟩ := open_values (hval 2 29 v2 rfl rfl) h2
    obtain ⟨i, rfl, rfl, rfl, bi⟩ := open_int Tryd.underlying2 (hval 3 2 v3 rfl rfl) h3
    obtain ⟨k, rfl, rfl, rfl, bk⟩ := open_int Tryd.underlying2 (hval 4 2 v4 rfl rfl) h4
    obtain ⟨a0, rfl, rfl, rfl, ba0⟩ := open_int Tryd.underlying3 (hval 5 3 v5 rfl rfl) h5
    obtain ⟨how, rfl, rfl, rfl, bhow⟩ := open_int Tryd.underlying3 (hval 6 3 v6 rfl rfl) h6
    exact keyCompares_any bname rP nP rA rB okA okB nA nB cA cB hg

theorem keyCompares_row : Rows.KeyComparesSaid :=
  OpenClaim.holds_of_wide 11 Tryd.f11 rfl rfl rfl rfl rfl rfl rfl ⟨rfl, rfl, rfl, rfl, rfl⟩ rfl rfl rfl rfl rfl (by kernel_rfl) Tryd.func11 (by kernel_rfl)
    (of_decide_eq_true (by kernel_rfl)) (by unfold Func.isWrapper; first | (rw [if_pos (by decide +kernel)]; kernel_rfl) | (rw [if_neg (by decide +kernel)]; exact ⟨rfl, rfl⟩))
    (fun os started H enc _ => keyCompares_lifted os started H enc)

theorem keyCompares_holds : Rows.KeyComparesCardSaid :=
  Claim7.holds_tied_plain_at .later [] [.handle] true Rows.keyComparesCard.stood.harness true
    keyCompares_row (fun _ h => by cases h) (by kernel_rfl) (fun _ h => by cases h) keyCompares_row_tie rfl ⟨rfl, rfl⟩ (by kernel_rfl) rfl
    (fun f fn hf hfn => by
      obtain rfl : f = 11 := Option.some.inj ((show Tryd.prog.funcNamed "rialto/rialtolaw7.KeyCompares" = some 11 by kernel_rfl).symm.trans hf) |>.symm
      obtain rfl : fn = Tryd.f11 := (Option.some.inj (Tryd.func11.symm.trans hfn)).symm
      exact ⟨by kernel_rfl, fun j t ht => by
        rw [Tryd.params11] at ht
        have h3 : t = 68 ∨ t = 29 ∨ t = 2 ∨ t = 3 := by
          rcases j with _ | _ | _ | _ | _ | _ | _ | j
          · exact Or.inl (by simpa using ht.symm)
          · exact Or.inr (Or.inl (by simpa using ht.symm))
          · exact Or.inr (Or.inl (by simpa using ht.symm))
          · exact Or.inr (Or.inr (Or.inl (by simpa using ht.symm)))
          · exact Or.inr (Or.inr (Or.inl (by simpa using ht.symm)))
          · exact Or.inr (Or.inr (Or.inr (by simpa using ht.symm)))
          · exact Or.inr (Or.inr (Or.inr (by simpa using ht.symm)))
          · simp at ht
        rcases h3 with rfl | rfl | rfl | rfl
        · exact (show Tryd.prog.wantsStandIn 68 = false by kernel_rfl)
        · exact (show Tryd.prog.wantsStandIn 29 = false by kernel_rfl)
        · exact (show Tryd.prog.wantsStandIn 2 = false by kernel_rfl)
        · exact (show Tryd.prog.wantsStandIn 3 = false by kernel_rfl)⟩)
    (by kernel_rfl)

#print axioms keyCompares_holds

end Go.Proofs.YtcbapmkipcffgaaDoor
