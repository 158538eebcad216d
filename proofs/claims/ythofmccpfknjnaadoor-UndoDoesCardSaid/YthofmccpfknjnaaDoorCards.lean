/-
  DERIVED. GIVEN WITH THE SEED: THE CARDS: each row of YthofmccpfknjnaaDoorRows.lean that lists a variable, with what it lists TIED to the program's text (the seventh form; the later family's looks); each row that meets fmt, with fmt's text TOLD by the authors' own Lean function (tested against real Go, not proved from fmt's source: count such statements apart). THE CARD IS WHAT COUNTS. Prove the row's statement (the work); the ties are given (YthofmccpfknjnaaDoorTie.lean); close each card by the builder's one call (the guide's Derived/Test/ToyasCard.lean, 'card_holds'). Laid BY PROGRAM, IN A SANDBOX (cutbox-door.mjs). By AI agents, Wed Nov 11 2026. No macro, syntax, notation, axiom, sorry.
-/
import Derived.Test.YthofmccpfknjnaaDoorRows
import GoSem.ClaimSeven
namespace Go.Proofs.YthofmccpfknjnaaDoor
namespace Rows

/-- THE TIED CARD OF 'rialtolaw16.UndoDoes'. -/
def undoDoesCard : Claim7 := { stood := { row := undoDoesRow, standIns := [], harness := (true, "a2a070482ea0f828962ec18afd07ecec27cdf1b7bef8ed91502c0f0dcf431a36"), looks := true }, kinds := [], alts := [], laidByText := true, laidKinds := [.handle], laidTests := true, laidLooks := .later }
def UndoDoesCardSaid : Prop := Claim7.holds Tryd.pinned (.plain (OpenSpec.ofChange undoDoesSpec)) undoDoesCard

/-- THE SECOND FORM's CARD OF 'rialtolaw16.UndoDoes'. -/
def undoDoesUptoCard : Claim7 := { stood := { row := undoDoesUptoRow, standIns := [], harness := (true, "a2a070482ea0f828962ec18afd07ecec27cdf1b7bef8ed91502c0f0dcf431a36"), looks := true }, kinds := [], alts := [], laidByText := true, laidKinds := [.handle], laidTests := true, laidLooks := .later }
def UndoDoesUptoCardSaid : Prop := Claim7.holds Tryd.pinned (.plain (OpenSpec.upto undoDoesSpec)) undoDoesUptoCard
end Rows
end Go.Proofs.YthofmccpfknjnaaDoor
