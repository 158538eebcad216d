/-
  UndoNests answers true for every input, and leaves what it was handed as it was. Conditions: none.
-/
import Derived.Test.YthofmccpfknjnaaUndoNestsW
import Derived.Test.YthofmccpfknjnaaLaw
import Derived.Deep.Grids
namespace Go.Proofs.Ythofmccpfknjnaa
open Go.ChangeShapes Go.WideShapes Go.ChangeAt Go.RowKit

set_option maxRecDepth 100000 in
theorem undoNests_lifted (os : Os) (started : os.Started) (H : Type) (enc : TypeId × Value → H) :
    ReturnsInHanded {} Try.checked os 5 .any (Rows.undoNestsSpec.pre6 enc Try.prog Try.f5 Rows.undoNestsRow.domain false) (Rows.undoNestsSpec.post enc Try.prog Try.f5 false true false false) := by
  refine law_lifted started (by kernel_rfl) Try.func5 rfl rfl ?_ ?_
    (ChangeSpec.witness6 (enc := enc) (C := Try.checked) false ⟨#[], #[.slice none 0 0, .bool false], []⟩ 8 (by kernel_rfl) (by kernel_rfl) (by kernel_rfl) (by kernel_rfl)) ?_
  · intro ds hl
    match ds, hl with
    | [_, _], _ => exact ⟨rfl, rfl, rfl⟩
  · rw [Try.params5]
    exact fun t ht => by
      simp only [List.mem_cons, List.not_mem_nil, or_false] at ht
      rcases ht with rfl | rfl
      · exact ⟨by kernel_rfl, of_decide_eq_true (by kernel_rfl)⟩
      · exact ⟨by kernel_rfl, of_decide_eq_true (by kernel_rfl)⟩
  · intro W base args ds p hval hA hlt hsz
    rw [Try.params5] at hA hval
    obtain ⟨v0, v1, d0, d1, p0, p1, rfl, rfl, rfl, h0, h1⟩ := trodAll_two hA
    obtain ⟨outer, rfl, rfl, rfl⟩ := open_bool Try.underlying4 (hval 1 4 v1 rfl rfl) h1
    obtain ⟨a0, len, cap, rfl⟩ := okWide_slice Try.underlying34 (hval 0 34 v0 rfl rfl)
    obtain ⟨fuel, hf⟩ := h0
    rcases Deep.open_bools Try.underlying34 Try.underlying4 (by kernel_rfl) hf with ⟨hcs, hx⟩ | ⟨a, len', cap', zs, hcs, _, hl, hm, hx, hcell⟩
    · simp [Value.cells] at hcs
      obtain ⟨rfl, rfl, rfl⟩ := hcs
      exact undoNests_any none 0 0 outer W (fun h => absurd h (Nat.lt_irrefl _))
    · simp [Value.cells] at hcs
      obtain ⟨rfl, rfl, rfl⟩ := hcs
      simp only [Prod.mk.injEq] at hx
      obtain ⟨rfl, rfl⟩ := hx
      refine undoNests_any (some a) len cap outer W (fun h0 => ?_)
      obtain ⟨b, off, spot⟩ := a
      have hspot : spot = none := by simpa [Addr.add] using World.cell?_spot (hcell 0 (by omega))
      subst hspot
      refine ⟨b, off, rfl, hlt (.cell b off) (by
        simp only [List.mem_append]
        exact Or.inl (MemPlace.mem_row.2 ⟨0, by omega, by simp⟩)), fun k hk => ⟨zs k, ?_⟩⟩
      rw [← add_plain]; exact hcell k (by omega)

theorem undoNests_holds : Rows.UndoNestsSaid :=
  OpenClaim.holds_of_wide 5 Try.f5 rfl rfl rfl rfl rfl rfl rfl ⟨rfl, rfl, rfl, rfl, rfl⟩ rfl rfl rfl rfl rfl (by kernel_rfl) Try.func5 (by kernel_rfl)
    (of_decide_eq_true (by kernel_rfl)) (by unfold Func.isWrapper; first | (rw [if_pos (by decide +kernel)]; kernel_rfl) | (rw [if_neg (by decide +kernel)]; exact ⟨rfl, rfl⟩))
    (fun os started H enc _ => undoNests_lifted os started H enc)

#print axioms undoNests_holds

end Go.Proofs.Ythofmccpfknjnaa
