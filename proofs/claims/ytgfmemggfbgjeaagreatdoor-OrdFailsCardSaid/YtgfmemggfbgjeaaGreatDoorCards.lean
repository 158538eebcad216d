/-
  DERIVED. GIVEN WITH THE SEED: THE CARDS: each row of YtgfmemggfbgjeaaGreatDoorRows.lean that lists a variable, with what it lists TIED to the program's text (the seventh form; the later family's looks); each row that meets fmt, with fmt's text TOLD by the authors' own Lean function (tested against real Go, not proved from fmt's source: count such statements apart). THE CARD IS WHAT COUNTS. Prove the row's statement (the work); the ties are given (YtgfmemggfbgjeaaGreatDoorTie.lean); close each card by the builder's one call (the guide's Derived/Test/ToyasCard.lean, 'card_holds'). Laid BY PROGRAM, IN A SANDBOX (cutbox-door.mjs). By AI agents, Wed Nov 11 2026. No macro, syntax, notation, axiom, sorry.
-/
import Derived.Test.YtgfmemggfbgjeaaGreatDoorRows
import GoSem.ClaimSeven
namespace Go.Proofs.YtgfmemggfbgjeaaGreatDoor
namespace Rows

/-- THE TIED CARD OF 'rialtolaw12.OrdUnique'. -/
def ordUniqueCard : Claim7 := { stood := { row := ordUniqueRow, standIns := [], harness := (true, "021d67eb708ab0c025f760215cc3608590cad45d69ef7685fd700deeb534a549"), looks := true }, kinds := [], alts := [], laidByText := true, laidKinds := [.handle], laidTests := true, laidLooks := .later }
def OrdUniqueCardSaid : Prop := Claim7.holds Tryz.pinned (.plain (OpenSpec.ofChange ordUniqueSpec)) ordUniqueCard

/-- THE TIED CARD OF 'rialtolaw12.OrdRanks'. -/
def ordRanksCard : Claim7 := { stood := { row := ordRanksRow, standIns := [], harness := (true, "021d67eb708ab0c025f760215cc3608590cad45d69ef7685fd700deeb534a549"), looks := true }, kinds := [], alts := [], laidByText := true, laidKinds := [.handle], laidTests := true, laidLooks := .later }
def OrdRanksCardSaid : Prop := Claim7.holds Tryz.pinned (.plain (OpenSpec.ofChange ordRanksSpec)) ordRanksCard

/-- THE TIED CARD OF 'rialtolaw12.OrdFails'. -/
def ordFailsCard : Claim7 := { stood := { row := ordFailsRow, standIns := [], harness := (true, "021d67eb708ab0c025f760215cc3608590cad45d69ef7685fd700deeb534a549"), looks := true }, kinds := [], alts := [], laidByText := true, laidKinds := [.handle], laidTests := true, laidLooks := .later }
def OrdFailsCardSaid : Prop := Claim7.holds Tryz.pinned (.plain (OpenSpec.ofChange ordFailsSpec)) ordFailsCard

/-- THE TIED CARD OF 'rialtolaw12.OrdPlaces'. -/
def ordPlacesCard : Claim7 := { stood := { row := ordPlacesRow, standIns := [], harness := (true, "021d67eb708ab0c025f760215cc3608590cad45d69ef7685fd700deeb534a549"), looks := true }, kinds := [], alts := [], laidByText := true, laidKinds := [.handle], laidTests := true, laidLooks := .later }
def OrdPlacesCardSaid : Prop := Claim7.holds Tryz.pinned (.plain (OpenSpec.ofChange ordPlacesSpec)) ordPlacesCard

/-- THE TIED CARD OF 'rialtolaw12.OrdPlays'. -/
def ordPlaysCard : Claim7 := { stood := { row := ordPlaysRow, standIns := [], harness := (true, "021d67eb708ab0c025f760215cc3608590cad45d69ef7685fd700deeb534a549"), looks := true }, kinds := [], alts := [], laidByText := true, laidKinds := [.handle], laidTests := true, laidLooks := .later }
def OrdPlaysCardSaid : Prop := Claim7.holds Tryz.pinned (.plain (OpenSpec.ofChange ordPlaysSpec)) ordPlaysCard

/-- THE SECOND FORM's CARD OF 'rialtolaw12.OrdUnique'. -/
def ordUniqueUptoCard : Claim7 := { stood := { row := ordUniqueUptoRow, standIns := [], harness := (true, "021d67eb708ab0c025f760215cc3608590cad45d69ef7685fd700deeb534a549"), looks := true }, kinds := [], alts := [], laidByText := true, laidKinds := [.handle], laidTests := true, laidLooks := .later }
def OrdUniqueUptoCardSaid : Prop := Claim7.holds Tryz.pinned (.plain (OpenSpec.upto ordUniqueSpec)) ordUniqueUptoCard

/-- THE SECOND FORM's CARD OF 'rialtolaw12.OrdRanks'. -/
def ordRanksUptoCard : Claim7 := { stood := { row := ordRanksUptoRow, standIns := [], harness := (true, "021d67eb708ab0c025f760215cc3608590cad45d69ef7685fd700deeb534a549"), looks := true }, kinds := [], alts := [], laidByText := true, laidKinds := [.handle], laidTests := true, laidLooks := .later }
def OrdRanksUptoCardSaid : Prop := Claim7.holds Tryz.pinned (.plain (OpenSpec.upto ordRanksSpec)) ordRanksUptoCard

/-- THE SECOND FORM's CARD OF 'rialtolaw12.OrdFails'. -/
def ordFailsUptoCard : Claim7 := { stood := { row := ordFailsUptoRow, standIns := [], harness := (true, "021d67eb708ab0c025f760215cc3608590cad45d69ef7685fd700deeb534a549"), looks := true }, kinds := [], alts := [], laidByText := true, laidKinds := [.handle], laidTests := true, laidLooks := .later }
def OrdFailsUptoCardSaid : Prop := Claim7.holds Tryz.pinned (.plain (OpenSpec.upto ordFailsSpec)) ordFailsUptoCard

/-- THE SECOND FORM's CARD OF 'rialtolaw12.OrdPlaces'. -/
def ordPlacesUptoCard : Claim7 := { stood := { row := ordPlacesUptoRow, standIns := [], harness := (true, "021d67eb708ab0c025f760215cc3608590cad45d69ef7685fd700deeb534a549"), looks := true }, kinds := [], alts := [], laidByText := true, laidKinds := [.handle], laidTests := true, laidLooks := .later }
def OrdPlacesUptoCardSaid : Prop := Claim7.holds Tryz.pinned (.plain (OpenSpec.upto ordPlacesSpec)) ordPlacesUptoCard

/-- THE SECOND FORM's CARD OF 'rialtolaw12.OrdPlays'. -/
def ordPlaysUptoCard : Claim7 := { stood := { row := ordPlaysUptoRow, standIns := [], harness := (true, "021d67eb708ab0c025f760215cc3608590cad45d69ef7685fd700deeb534a549"), looks := true }, kinds := [], alts := [], laidByText := true, laidKinds := [.handle], laidTests := true, laidLooks := .later }
def OrdPlaysUptoCardSaid : Prop := Claim7.holds Tryz.pinned (.plain (OpenSpec.upto ordPlaysSpec)) ordPlaysUptoCard
end Rows
end Go.Proofs.YtgfmemggfbgjeaaGreatDoor
