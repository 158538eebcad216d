/-
  DERIVED. GIVEN WITH THE SEED: THE CARDS: each row of YtcbapmkipcffgaaDoorRows.lean that lists a variable, with what it lists TIED to the program's text (the seventh form; the later family's looks); each row that meets fmt, with fmt's text TOLD by the authors' own Lean function (tested against real Go, not proved from fmt's source: count such statements apart). THE CARD IS WHAT COUNTS. Prove the row's statement (the work); the ties are given (YtcbapmkipcffgaaDoorTie.lean); close each card by the builder's one call (the guide's Derived/Test/ToyasCard.lean, 'card_holds'). Laid BY PROGRAM, IN A SANDBOX (cutbox-door.mjs). By AI agents, Wed Nov 11 2026. No macro, syntax, notation, axiom, sorry.
-/
import Derived.Test.YtcbapmkipcffgaaDoorRows
import GoSem.ClaimSeven
namespace Go.Proofs.YtcbapmkipcffgaaDoor
namespace Rows

/-- THE TIED CARD OF 'rialtolaw6.HookNests'. -/
def hookNestsCard : Claim7 := { stood := { row := hookNestsRow, standIns := [], harness := (true, "955edad4aa5e9c126cf5d847673ffac7a269a349fcae1000f1ea3a0da58f8769"), looks := true }, kinds := [], alts := [], laidByText := true, laidKinds := [.handle], laidTests := true, laidLooks := .later }
def HookNestsCardSaid : Prop := Claim7.holds Tryd.pinned (.plain (OpenSpec.ofChange hookNestsSpec)) hookNestsCard

/-- THE TIED CARD OF 'rialtolaw6.HookObserves'. -/
def hookObservesCard : Claim7 := { stood := { row := hookObservesRow, standIns := [], harness := (true, "955edad4aa5e9c126cf5d847673ffac7a269a349fcae1000f1ea3a0da58f8769"), looks := true }, kinds := [], alts := [], laidByText := true, laidKinds := [.handle], laidTests := true, laidLooks := .later }
def HookObservesCardSaid : Prop := Claim7.holds Tryd.pinned (.plain (OpenSpec.ofChange hookObservesSpec)) hookObservesCard

/-- THE TIED CARD OF 'rialtolaw6.HookRuns'. -/
def hookRunsCard : Claim7 := { stood := { row := hookRunsRow, standIns := [], harness := (true, "955edad4aa5e9c126cf5d847673ffac7a269a349fcae1000f1ea3a0da58f8769"), looks := true }, kinds := [], alts := [], laidByText := true, laidKinds := [.handle], laidTests := true, laidLooks := .later }
def HookRunsCardSaid : Prop := Claim7.holds Tryd.pinned (.plain (OpenSpec.ofChange hookRunsSpec)) hookRunsCard

/-- THE TIED CARD OF 'rialtolaw6.HookValues'. -/
def hookValuesCard : Claim7 := { stood := { row := hookValuesRow, standIns := [], harness := (true, "955edad4aa5e9c126cf5d847673ffac7a269a349fcae1000f1ea3a0da58f8769"), looks := true }, kinds := [], alts := [], laidByText := true, laidKinds := [.handle], laidTests := true, laidLooks := .later }
def HookValuesCardSaid : Prop := Claim7.holds Tryd.pinned (.plain (OpenSpec.ofChange hookValuesSpec)) hookValuesCard

/-- THE TIED CARD OF 'rialtolaw7.KeyTells'. -/
def keyTellsCard : Claim7 := { stood := { row := keyTellsRow, standIns := [], harness := (true, "955edad4aa5e9c126cf5d847673ffac7a269a349fcae1000f1ea3a0da58f8769"), looks := true }, kinds := [], alts := [], laidByText := true, laidKinds := [.handle], laidTests := true, laidLooks := .later }
def KeyTellsCardSaid : Prop := Claim7.holds Tryd.pinned (.plain (OpenSpec.ofChange keyTellsSpec)) keyTellsCard

/-- THE TIED CARD OF 'rialtolaw7.KeyFields'. -/
def keyFieldsCard : Claim7 := { stood := { row := keyFieldsRow, standIns := [], harness := (true, "955edad4aa5e9c126cf5d847673ffac7a269a349fcae1000f1ea3a0da58f8769"), looks := true }, kinds := [], alts := [], laidByText := true, laidKinds := [.handle], laidTests := true, laidLooks := .later }
def KeyFieldsCardSaid : Prop := Claim7.holds Tryd.pinned (.plain (OpenSpec.ofChange keyFieldsSpec)) keyFieldsCard

/-- THE TIED CARD OF 'rialtolaw7.KeyOrder'. -/
def keyOrderCard : Claim7 := { stood := { row := keyOrderRow, standIns := [], harness := (true, "955edad4aa5e9c126cf5d847673ffac7a269a349fcae1000f1ea3a0da58f8769"), looks := true }, kinds := [], alts := [], laidByText := true, laidKinds := [.handle], laidTests := true, laidLooks := .later }
def KeyOrderCardSaid : Prop := Claim7.holds Tryd.pinned (.plain (OpenSpec.ofChange keyOrderSpec)) keyOrderCard

/-- THE TIED CARD OF 'rialtolaw6.HookCalls'. -/
def hookCallsCard : Claim7 := { stood := { row := hookCallsRow, standIns := [], harness := (true, "955edad4aa5e9c126cf5d847673ffac7a269a349fcae1000f1ea3a0da58f8769"), looks := true }, kinds := [], alts := [], laidByText := true, laidKinds := [.handle], laidTests := true, laidLooks := .later }
def HookCallsCardSaid : Prop := Claim7.holds Tryd.pinned (.plain (OpenSpec.ofChange hookCallsSpec)) hookCallsCard

/-- THE TIED CARD OF 'rialtolaw7.KeyCompares'. -/
def keyComparesCard : Claim7 := { stood := { row := keyComparesRow, standIns := [], harness := (true, "955edad4aa5e9c126cf5d847673ffac7a269a349fcae1000f1ea3a0da58f8769"), looks := true }, kinds := [], alts := [], laidByText := true, laidKinds := [.handle], laidTests := true, laidLooks := .later }
def KeyComparesCardSaid : Prop := Claim7.holds Tryd.pinned (.plain (OpenSpec.ofChange keyComparesSpec)) keyComparesCard

/-- THE SECOND FORM's CARD OF 'rialtolaw6.HookNests'. -/
def hookNestsUptoCard : Claim7 := { stood := { row := hookNestsUptoRow, standIns := [], harness := (true, "955edad4aa5e9c126cf5d847673ffac7a269a349fcae1000f1ea3a0da58f8769"), looks := true }, kinds := [], alts := [], laidByText := true, laidKinds := [.handle], laidTests := true, laidLooks := .later }
def HookNestsUptoCardSaid : Prop := Claim7.holds Tryd.pinned (.plain (OpenSpec.upto hookNestsSpec)) hookNestsUptoCard

/-- THE SECOND FORM's CARD OF 'rialtolaw6.HookObserves'. -/
def hookObservesUptoCard : Claim7 := { stood := { row := hookObservesUptoRow, standIns := [], harness := (true, "955edad4aa5e9c126cf5d847673ffac7a269a349fcae1000f1ea3a0da58f8769"), looks := true }, kinds := [], alts := [], laidByText := true, laidKinds := [.handle], laidTests := true, laidLooks := .later }
def HookObservesUptoCardSaid : Prop := Claim7.holds Tryd.pinned (.plain (OpenSpec.upto hookObservesSpec)) hookObservesUptoCard

/-- THE SECOND FORM's CARD OF 'rialtolaw6.HookRuns'. -/
def hookRunsUptoCard : Claim7 := { stood := { row := hookRunsUptoRow, standIns := [], harness := (true, "955edad4aa5e9c126cf5d847673ffac7a269a349fcae1000f1ea3a0da58f8769"), looks := true }, kinds := [], alts := [], laidByText := true, laidKinds := [.handle], laidTests := true, laidLooks := .later }
def HookRunsUptoCardSaid : Prop := Claim7.holds Tryd.pinned (.plain (OpenSpec.upto hookRunsSpec)) hookRunsUptoCard

/-- THE SECOND FORM's CARD OF 'rialtolaw6.HookValues'. -/
def hookValuesUptoCard : Claim7 := { stood := { row := hookValuesUptoRow, standIns := [], harness := (true, "955edad4aa5e9c126cf5d847673ffac7a269a349fcae1000f1ea3a0da58f8769"), looks := true }, kinds := [], alts := [], laidByText := true, laidKinds := [.handle], laidTests := true, laidLooks := .later }
def HookValuesUptoCardSaid : Prop := Claim7.holds Tryd.pinned (.plain (OpenSpec.upto hookValuesSpec)) hookValuesUptoCard

/-- THE SECOND FORM's CARD OF 'rialtolaw7.KeyTells'. -/
def keyTellsUptoCard : Claim7 := { stood := { row := keyTellsUptoRow, standIns := [], harness := (true, "955edad4aa5e9c126cf5d847673ffac7a269a349fcae1000f1ea3a0da58f8769"), looks := true }, kinds := [], alts := [], laidByText := true, laidKinds := [.handle], laidTests := true, laidLooks := .later }
def KeyTellsUptoCardSaid : Prop := Claim7.holds Tryd.pinned (.plain (OpenSpec.upto keyTellsSpec)) keyTellsUptoCard

/-- THE SECOND FORM's CARD OF 'rialtolaw7.KeyFields'. -/
def keyFieldsUptoCard : Claim7 := { stood := { row := keyFieldsUptoRow, standIns := [], harness := (true, "955edad4aa5e9c126cf5d847673ffac7a269a349fcae1000f1ea3a0da58f8769"), looks := true }, kinds := [], alts := [], laidByText := true, laidKinds := [.handle], laidTests := true, laidLooks := .later }
def KeyFieldsUptoCardSaid : Prop := Claim7.holds Tryd.pinned (.plain (OpenSpec.upto keyFieldsSpec)) keyFieldsUptoCard

/-- THE SECOND FORM's CARD OF 'rialtolaw7.KeyOrder'. -/
def keyOrderUptoCard : Claim7 := { stood := { row := keyOrderUptoRow, standIns := [], harness := (true, "955edad4aa5e9c126cf5d847673ffac7a269a349fcae1000f1ea3a0da58f8769"), looks := true }, kinds := [], alts := [], laidByText := true, laidKinds := [.handle], laidTests := true, laidLooks := .later }
def KeyOrderUptoCardSaid : Prop := Claim7.holds Tryd.pinned (.plain (OpenSpec.upto keyOrderSpec)) keyOrderUptoCard

/-- THE SECOND FORM's CARD OF 'rialtolaw6.HookCalls'. -/
def hookCallsUptoCard : Claim7 := { stood := { row := hookCallsUptoRow, standIns := [], harness := (true, "955edad4aa5e9c126cf5d847673ffac7a269a349fcae1000f1ea3a0da58f8769"), looks := true }, kinds := [], alts := [], laidByText := true, laidKinds := [.handle], laidTests := true, laidLooks := .later }
def HookCallsUptoCardSaid : Prop := Claim7.holds Tryd.pinned (.plain (OpenSpec.upto hookCallsSpec)) hookCallsUptoCard

/-- THE SECOND FORM's CARD OF 'rialtolaw7.KeyCompares'. -/
def keyComparesUptoCard : Claim7 := { stood := { row := keyComparesUptoRow, standIns := [], harness := (true, "955edad4aa5e9c126cf5d847673ffac7a269a349fcae1000f1ea3a0da58f8769"), looks := true }, kinds := [], alts := [], laidByText := true, laidKinds := [.handle], laidTests := true, laidLooks := .later }
def KeyComparesUptoCardSaid : Prop := Claim7.holds Tryd.pinned (.plain (OpenSpec.upto keyComparesSpec)) keyComparesUptoCard
end Rows
end Go.Proofs.YtcbapmkipcffgaaDoor
