/-
  NARROWER THAN 'FOR EVERY INPUT', by the rows' own cells (each row's printed sentence says how): OrdUnique: laid · OrdRanks: laid · OrdFails: laid · OrdPlaces: laid · OrdPlays: laid.
  DERIVED. THE GIVEN ROWS OF THIS SEAT. 5 by the template 'for every input the law returns true; each argument reads behind the call as it read before'; 0 by the template 'total and deterministic' (their statements: YtgfmemggfbgjeaaGreatDoorTotals.lean).
  GIVEN WITH THE SEED: the statements are not yours to turn. If you find one false, say at which input.
  Laid BY PROGRAM, IN A SANDBOX (cutbox-rows.mjs): the forced cells as the released guide's own fill.sh prints them over the translation 7b30add29c22cc93… (all of the seat's roots in one cut). By AI agents, Wed Nov 11 2026. No macro, syntax, notation, axiom, sorry.
-/
import Derived.Test.YtgfmemggfbgjeaaGreatDoorChecked
import GoSem.Claim
import GoSem.ClaimJoined
import GoSem.ClaimMapViews
import Derived.JoinedTies
import Derived.KernelRfl
namespace Go.Proofs.YtgfmemggfbgjeaaGreatDoor
/- THE CELL 'sum', in the pinned program and in every row, IS THE sha256 OF THE DUMP (.gsa) THAT YtgfmemggfbgjeaaGreatDoorProg.lean LOADS. Nothing in Lean hashes anything: it is a label: what it is worth is what the hold of that sum in a sandbox is worth. -/
noncomputable def Tryz.pinned : Pinned := { name := "ytgfmemggfbgjeaagreatdoor", sum := "7b30add29c22cc937d8bd8a876ae8f105481c075d188ea230aac4bd8886fbda7", checked := Tryz.checked }
namespace Rows
def none {H : Type} : Left H := { results := [], args := [] }

/- WHAT THE LISTED PACKAGE-LEVEL VARIABLES READ AS WHEN THE CALL BEGINS. Each datum BY PROGRAM (the guide's laid-datum.mjs) off the statement by which the dump's own 'gosem.cut.vars' lays the variable. In a bare row this is a premise. The card (YtgfmemggfbgjeaaGreatDoorCards.lean) ties it to the program's text. -/
def laid_errors_errorType {H : Type} : DataW H := .iface "internal/reflectlite.rtype" (.agg [.ptr (.lit (.string [101, 114, 114, 111, 114]))])

/-- 'rialtolaw12.OrdUnique': WHATEVER THE INPUT: true; the input reads as it did. -/
def ordUniqueSpec : ChangeSpec := { name := "ordUnique", fn := fun _ => fun
  | [d1, d2] => { results := [.lit (.bool true)], args := [d1, d2] }
  | _ => none }
def ordUniqueRow : OpenClaim := { program := "ytgfmemggfbgjeaagreatdoor", sum := "7b30add29c22cc937d8bd8a876ae8f105481c075d188ea230aac4bd8886fbda7", func := "rialto/rialtolaw12.OrdUnique", spec := "ordUnique", inPlace := ["math.Float64bits", "math.Float64frombits", "internal/reflectlite.ValueOf", "(internal/reflectlite.Value).Type", "(internal/reflectlite.Value).IsNil", "internal/reflectlite.TypeOf", "(internal/reflectlite.Value).Elem", "(internal/reflectlite.Value).Set", "slices.overlaps[rialto/api.Entry]", "slices.overlaps[*rialto/tree.node[rialto/api.Entry]]"], unfollowed := true, recurses := true, named := ["errors.errorType"], apart := false, laid := [("errors.errorType", laid_errors_errorType)] }
def OrdUniqueSaid : Prop := ordUniqueRow.holds Tryz.pinned (OpenSpec.ofChange ordUniqueSpec)

/-- ITS FALSE NEIGHBOUR: 'it returns false'. Refute it at one input. -/
def ordUniqueWrong : ChangeSpec := { name := "ordUnique", fn := fun _ => fun
  | [d1, d2] => { results := [.lit (.bool false)], args := [d1, d2] }
  | _ => none }
def OrdUniqueWrongFalsely : Prop := ordUniqueRow.holds Tryz.pinned (OpenSpec.ofChange ordUniqueWrong)

/-- 'rialtolaw12.OrdRanks': WHATEVER THE INPUT: true; the input reads as it did. -/
def ordRanksSpec : ChangeSpec := { name := "ordRanks", fn := fun _ => fun
  | [d] => { results := [.lit (.bool true)], args := [d] }
  | _ => none }
def ordRanksRow : OpenClaim := { program := "ytgfmemggfbgjeaagreatdoor", sum := "7b30add29c22cc937d8bd8a876ae8f105481c075d188ea230aac4bd8886fbda7", func := "rialto/rialtolaw12.OrdRanks", spec := "ordRanks", inPlace := ["math.Float64bits", "math.Float64frombits", "internal/reflectlite.ValueOf", "(internal/reflectlite.Value).Type", "(internal/reflectlite.Value).IsNil", "internal/reflectlite.TypeOf", "(internal/reflectlite.Value).Elem", "(internal/reflectlite.Value).Set", "slices.overlaps[rialto/api.Entry]", "slices.overlaps[*rialto/tree.node[rialto/api.Entry]]"], unfollowed := true, recurses := true, named := ["errors.errorType"], apart := false, laid := [("errors.errorType", laid_errors_errorType)] }
def OrdRanksSaid : Prop := ordRanksRow.holds Tryz.pinned (OpenSpec.ofChange ordRanksSpec)

/-- ITS FALSE NEIGHBOUR: 'it returns false'. Refute it at one input. -/
def ordRanksWrong : ChangeSpec := { name := "ordRanks", fn := fun _ => fun
  | [d] => { results := [.lit (.bool false)], args := [d] }
  | _ => none }
def OrdRanksWrongFalsely : Prop := ordRanksRow.holds Tryz.pinned (OpenSpec.ofChange ordRanksWrong)

/-- 'rialtolaw12.OrdFails': WHATEVER THE INPUT: true; the input reads as it did. -/
def ordFailsSpec : ChangeSpec := { name := "ordFails", fn := fun _ => fun
  | [d1, d2, d3] => { results := [.lit (.bool true)], args := [d1, d2, d3] }
  | _ => none }
def ordFailsRow : OpenClaim := { program := "ytgfmemggfbgjeaagreatdoor", sum := "7b30add29c22cc937d8bd8a876ae8f105481c075d188ea230aac4bd8886fbda7", func := "rialto/rialtolaw12.OrdFails", spec := "ordFails", inPlace := ["math.Float64bits", "math.Float64frombits", "internal/reflectlite.ValueOf", "(internal/reflectlite.Value).Type", "(internal/reflectlite.Value).IsNil", "internal/reflectlite.TypeOf", "(internal/reflectlite.Value).Elem", "(internal/reflectlite.Value).Set", "slices.overlaps[rialto/api.Entry]", "slices.overlaps[*rialto/tree.node[rialto/api.Entry]]"], unfollowed := true, recurses := true, named := ["errors.errorType"], apart := false, laid := [("errors.errorType", laid_errors_errorType)] }
def OrdFailsSaid : Prop := ordFailsRow.holds Tryz.pinned (OpenSpec.ofChange ordFailsSpec)

/-- ITS FALSE NEIGHBOUR: 'it returns false'. Refute it at one input. -/
def ordFailsWrong : ChangeSpec := { name := "ordFails", fn := fun _ => fun
  | [d1, d2, d3] => { results := [.lit (.bool false)], args := [d1, d2, d3] }
  | _ => none }
def OrdFailsWrongFalsely : Prop := ordFailsRow.holds Tryz.pinned (OpenSpec.ofChange ordFailsWrong)

/-- 'rialtolaw12.OrdPlaces': WHATEVER THE INPUT: true; the input reads as it did. -/
def ordPlacesSpec : ChangeSpec := { name := "ordPlaces", fn := fun _ => fun
  | [d1, d2] => { results := [.lit (.bool true)], args := [d1, d2] }
  | _ => none }
def ordPlacesRow : OpenClaim := { program := "ytgfmemggfbgjeaagreatdoor", sum := "7b30add29c22cc937d8bd8a876ae8f105481c075d188ea230aac4bd8886fbda7", func := "rialto/rialtolaw12.OrdPlaces", spec := "ordPlaces", inPlace := ["math.Float64bits", "math.Float64frombits", "internal/reflectlite.ValueOf", "(internal/reflectlite.Value).Type", "(internal/reflectlite.Value).IsNil", "internal/reflectlite.TypeOf", "(internal/reflectlite.Value).Elem", "(internal/reflectlite.Value).Set", "slices.overlaps[rialto/api.Entry]", "slices.overlaps[*rialto/tree.node[rialto/api.Entry]]"], unfollowed := true, recurses := true, named := ["errors.errorType"], apart := false, laid := [("errors.errorType", laid_errors_errorType)] }
def OrdPlacesSaid : Prop := ordPlacesRow.holds Tryz.pinned (OpenSpec.ofChange ordPlacesSpec)

/-- ITS FALSE NEIGHBOUR: 'it returns false'. Refute it at one input. -/
def ordPlacesWrong : ChangeSpec := { name := "ordPlaces", fn := fun _ => fun
  | [d1, d2] => { results := [.lit (.bool false)], args := [d1, d2] }
  | _ => none }
def OrdPlacesWrongFalsely : Prop := ordPlacesRow.holds Tryz.pinned (OpenSpec.ofChange ordPlacesWrong)

/-- 'rialtolaw12.OrdPlays': WHATEVER THE INPUT: true; the input reads as it did. -/
def ordPlaysSpec : ChangeSpec := { name := "ordPlays", fn := fun _ => fun
  | [d1, d2, d3] => { results := [.lit (.bool true)], args := [d1, d2, d3] }
  | _ => none }
def ordPlaysRow : OpenClaim := { program := "ytgfmemggfbgjeaagreatdoor", sum := "7b30add29c22cc937d8bd8a876ae8f105481c075d188ea230aac4bd8886fbda7", func := "rialto/rialtolaw12.OrdPlays", spec := "ordPlays", inPlace := ["math.Float64bits", "math.Float64frombits", "internal/reflectlite.ValueOf", "(internal/reflectlite.Value).Type", "(internal/reflectlite.Value).IsNil", "internal/reflectlite.TypeOf", "(internal/reflectlite.Value).Elem", "(internal/reflectlite.Value).Set", "slices.overlaps[rialto/api.Entry]", "slices.overlaps[*rialto/tree.node[rialto/api.Entry]]"], unfollowed := true, recurses := true, named := ["errors.errorType"], apart := false, laid := [("errors.errorType", laid_errors_errorType)] }
def OrdPlaysSaid : Prop := ordPlaysRow.holds Tryz.pinned (OpenSpec.ofChange ordPlaysSpec)

/-- ITS FALSE NEIGHBOUR: 'it returns false'. Refute it at one input. -/
def ordPlaysWrong : ChangeSpec := { name := "ordPlays", fn := fun _ => fun
  | [d1, d2, d3] => { results := [.lit (.bool false)], args := [d1, d2, d3] }
  | _ => none }
def OrdPlaysWrongFalsely : Prop := ordPlaysRow.holds Tryz.pinned (OpenSpec.ofChange ordPlaysWrong)

/- THE SECOND FORM. 'bulk': how many values and letters a reading holds, each counted each time it is reached (what is shared counts as often as it is met; a slice's spare places count too). A statement '..UptoSaid' is the law's where the arguments, and the package variables that the reading takes, are together of bulk at most 1048576: NARROWER than '..Said'. Prove '..Said' where nothing that the law and all that it calls make is longer than what came in: it says more and counts as full. Else prove '..UptoSaid'. A law counts once. -/
mutual
def uptoBulk {H : Type} : DataW H → Nat
  | .lit (.string bytes) => bytes.length + 1
  | .lit _ => 1
  | .nil => 1
  | .ptr d => uptoBulk d + 1
  | .slice elems spare => uptoBulkAll elems + uptoBulkAll spare + 1
  | .agg parts => uptoBulkAll parts + 1
  | .iface _ d => uptoBulk d + 1
  | .map entries => uptoBulkEntries entries + 1
  | .held _ => 1
def uptoBulkAll {H : Type} : List (DataW H) → Nat
  | [] => 0
  | d :: r => uptoBulk d + uptoBulkAll r
def uptoBulkEntries {H : Type} : List (Lit × DataW H) → Nat
  | [] => 0
  | x :: r => uptoBulkEntry x + uptoBulkEntries r
def uptoBulkEntry {H : Type} : Lit × DataW H → Nat
  | (.string bytes, d) => bytes.length + uptoBulk d + 1
  | (_, d) => uptoBulk d + 1
 end
def uptoSmall : (H : Type) → List (DataW H) → Bool := fun _ ds => decide (uptoBulkAll ds ≤ 1048576)
def OpenSpec.upto (s : _root_.Go.ChangeSpec) : _root_.Go.OpenSpec := { _root_.Go.OpenSpec.ofChange s with cond := some uptoSmall }

/-- 'rialtolaw12.OrdUnique', WHERE WHAT IT READS IS OF BULK AT MOST 1048576: true; the input reads as it did. -/
def ordUniqueUptoRow : OpenClaim := { program := "ytgfmemggfbgjeaagreatdoor", sum := "7b30add29c22cc937d8bd8a876ae8f105481c075d188ea230aac4bd8886fbda7", func := "rialto/rialtolaw12.OrdUnique", spec := "ordUnique", inPlace := ["math.Float64bits", "math.Float64frombits", "internal/reflectlite.ValueOf", "(internal/reflectlite.Value).Type", "(internal/reflectlite.Value).IsNil", "internal/reflectlite.TypeOf", "(internal/reflectlite.Value).Elem", "(internal/reflectlite.Value).Set", "slices.overlaps[rialto/api.Entry]", "slices.overlaps[*rialto/tree.node[rialto/api.Entry]]"], unfollowed := true, recurses := true, named := ["errors.errorType"], apart := false, laid := [("errors.errorType", laid_errors_errorType)], narrowed := true }
def OrdUniqueUptoSaid : Prop := ordUniqueUptoRow.holds Tryz.pinned (OpenSpec.upto ordUniqueSpec)

/-- 'rialtolaw12.OrdRanks', WHERE WHAT IT READS IS OF BULK AT MOST 1048576: true; the input reads as it did. -/
def ordRanksUptoRow : OpenClaim := { program := "ytgfmemggfbgjeaagreatdoor", sum := "7b30add29c22cc937d8bd8a876ae8f105481c075d188ea230aac4bd8886fbda7", func := "rialto/rialtolaw12.OrdRanks", spec := "ordRanks", inPlace := ["math.Float64bits", "math.Float64frombits", "internal/reflectlite.ValueOf", "(internal/reflectlite.Value).Type", "(internal/reflectlite.Value).IsNil", "internal/reflectlite.TypeOf", "(internal/reflectlite.Value).Elem", "(internal/reflectlite.Value).Set", "slices.overlaps[rialto/api.Entry]", "slices.overlaps[*rialto/tree.node[rialto/api.Entry]]"], unfollowed := true, recurses := true, named := ["errors.errorType"], apart := false, laid := [("errors.errorType", laid_errors_errorType)], narrowed := true }
def OrdRanksUptoSaid : Prop := ordRanksUptoRow.holds Tryz.pinned (OpenSpec.upto ordRanksSpec)

/-- 'rialtolaw12.OrdFails', WHERE WHAT IT READS IS OF BULK AT MOST 1048576: true; the input reads as it did. -/
def ordFailsUptoRow : OpenClaim := { program := "ytgfmemggfbgjeaagreatdoor", sum := "7b30add29c22cc937d8bd8a876ae8f105481c075d188ea230aac4bd8886fbda7", func := "rialto/rialtolaw12.OrdFails", spec := "ordFails", inPlace := ["math.Float64bits", "math.Float64frombits", "internal/reflectlite.ValueOf", "(internal/reflectlite.Value).Type", "(internal/reflectlite.Value).IsNil", "internal/reflectlite.TypeOf", "(internal/reflectlite.Value).Elem", "(internal/reflectlite.Value).Set", "slices.overlaps[rialto/api.Entry]", "slices.overlaps[*rialto/tree.node[rialto/api.Entry]]"], unfollowed := true, recurses := true, named := ["errors.errorType"], apart := false, laid := [("errors.errorType", laid_errors_errorType)], narrowed := true }
def OrdFailsUptoSaid : Prop := ordFailsUptoRow.holds Tryz.pinned (OpenSpec.upto ordFailsSpec)

/-- 'rialtolaw12.OrdPlaces', WHERE WHAT IT READS IS OF BULK AT MOST 1048576: true; the input reads as it did. -/
def ordPlacesUptoRow : OpenClaim := { program := "ytgfmemggfbgjeaagreatdoor", sum := "7b30add29c22cc937d8bd8a876ae8f105481c075d188ea230aac4bd8886fbda7", func := "rialto/rialtolaw12.OrdPlaces", spec := "ordPlaces", inPlace := ["math.Float64bits", "math.Float64frombits", "internal/reflectlite.ValueOf", "(internal/reflectlite.Value).Type", "(internal/reflectlite.Value).IsNil", "internal/reflectlite.TypeOf", "(internal/reflectlite.Value).Elem", "(internal/reflectlite.Value).Set", "slices.overlaps[rialto/api.Entry]", "slices.overlaps[*rialto/tree.node[rialto/api.Entry]]"], unfollowed := true, recurses := true, named := ["errors.errorType"], apart := false, laid := [("errors.errorType", laid_errors_errorType)], narrowed := true }
def OrdPlacesUptoSaid : Prop := ordPlacesUptoRow.holds Tryz.pinned (OpenSpec.upto ordPlacesSpec)

/-- 'rialtolaw12.OrdPlays', WHERE WHAT IT READS IS OF BULK AT MOST 1048576: true; the input reads as it did. -/
def ordPlaysUptoRow : OpenClaim := { program := "ytgfmemggfbgjeaagreatdoor", sum := "7b30add29c22cc937d8bd8a876ae8f105481c075d188ea230aac4bd8886fbda7", func := "rialto/rialtolaw12.OrdPlays", spec := "ordPlays", inPlace := ["math.Float64bits", "math.Float64frombits", "internal/reflectlite.ValueOf", "(internal/reflectlite.Value).Type", "(internal/reflectlite.Value).IsNil", "internal/reflectlite.TypeOf", "(internal/reflectlite.Value).Elem", "(internal/reflectlite.Value).Set", "slices.overlaps[rialto/api.Entry]", "slices.overlaps[*rialto/tree.node[rialto/api.Entry]]"], unfollowed := true, recurses := true, named := ["errors.errorType"], apart := false, laid := [("errors.errorType", laid_errors_errorType)], narrowed := true }
def OrdPlaysUptoSaid : Prop := ordPlaysUptoRow.holds Tryz.pinned (OpenSpec.upto ordPlaysSpec)

end Rows
end Go.Proofs.YtgfmemggfbgjeaaGreatDoor
