/-
  An argument that is a value, opened. Conditions: none.
-/
import Derived.Test.YtcbapmkipcffgaaDoorHVals
namespace Go.Proofs.YtcbapmkipcffgaaDoor
open Go.RowKit Go.ChangeShapes Go.WideShapes

set_option maxRecDepth 1000000 in
theorem open_value {H : Type} {enc : TypeId × Value → H} {w : World} {base : Nat} {spare : Nat → Bool} {held : Bool} {r : Reach} {b0 : Nat} {v : Value} {d : DataW H} {ps : List MemPlace} (hval : Value.okWide Tryd.prog w r b0 38 v) (hd : DataW.Trod enc Tryd.prog w base spare held 38 v d ps) : ∃ y : V, y.ok ∧ v = y.val := by
  obtain ⟨cs, rfl, _⟩ := okWide_struct Tryd.underlying38 hval
  obtain ⟨fuel, hf⟩ := hd
  obtain ⟨l⟩ := cs
  have hf' : DataW.trod enc Tryd.prog w base spare held fuel 38 l = some (d, ps) := by
    simpa only [Value.cells] using hf
  obtain ⟨y, hy, e⟩ := open_elem hf'
  refine ⟨y, hy, ?_⟩
  subst e
  rfl

end Go.Proofs.YtcbapmkipcffgaaDoor
