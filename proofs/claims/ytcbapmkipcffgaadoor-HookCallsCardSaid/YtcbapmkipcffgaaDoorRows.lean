/-
  NARROWER THAN 'FOR EVERY INPUT', by the rows' own cells (each row's printed sentence says how): HookNests: laid · HookObserves: laid · HookRuns: laid · HookValues: laid · KeyTells: laid · KeyFields: laid · KeyOrder: laid · HookCalls: laid · KeyCompares: laid.
  DERIVED. THE GIVEN ROWS OF THIS SEAT. 9 by the template 'for every input the law returns true; each argument reads behind the call as it read before'; 0 by the template 'total and deterministic' (their statements: YtcbapmkipcffgaaDoorTotals.lean).
  GIVEN WITH THE SEED: the statements are not yours to turn. If you find one false, say at which input.
  Laid BY PROGRAM, IN A SANDBOX (cutbox-rows.mjs): the forced cells as the released guide's own fill.sh prints them over the translation 7ec7680d66a081e9… (all of the seat's roots in one cut). By AI agents, Wed Nov 11 2026. No macro, syntax, notation, axiom, sorry.
-/
import Derived.Test.YtcbapmkipcffgaaDoorChecked
import GoSem.Claim
import GoSem.ClaimJoined
import GoSem.ClaimMapViews
import Derived.JoinedTies
import Derived.KernelRfl
namespace Go.Proofs.YtcbapmkipcffgaaDoor
/- THE CELL 'sum', in the pinned program and in every row, IS THE sha256 OF THE DUMP (.gsa) THAT YtcbapmkipcffgaaDoorProg.lean LOADS. Nothing in Lean hashes anything: it is a label: what it is worth is what the hold of that sum in a sandbox is worth. -/
noncomputable def Tryd.pinned : Pinned := { name := "ytcbapmkipcffgaadoor", sum := "7ec7680d66a081e974fd10d00d328a91bca211376bab9ea907606569fde687f6", checked := Tryd.checked }
namespace Rows
def none {H : Type} : Left H := { results := [], args := [] }

/- WHAT THE LISTED PACKAGE-LEVEL VARIABLES READ AS WHEN THE CALL BEGINS. Each datum BY PROGRAM (the guide's laid-datum.mjs) off the statement by which the dump's own 'gosem.cut.vars' lays the variable. In a bare row this is a premise. The card (YtcbapmkipcffgaaDoorCards.lean) ties it to the program's text. -/
def laid_errors_errorType {H : Type} : DataW H := .iface "internal/reflectlite.rtype" (.agg [.ptr (.lit (.string [101, 114, 114, 111, 114]))])

/-- 'rialtolaw6.HookNests': WHATEVER THE INPUT: true; the input reads as it did. -/
def hookNestsSpec : ChangeSpec := { name := "hookNests", fn := fun _ => fun
  | [d1, d2] => { results := [.lit (.bool true)], args := [d1, d2] }
  | _ => none }
def hookNestsRow : OpenClaim := { program := "ytcbapmkipcffgaadoor", sum := "7ec7680d66a081e974fd10d00d328a91bca211376bab9ea907606569fde687f6", func := "rialto/rialtolaw6.HookNests", spec := "hookNests", inPlace := ["internal/reflectlite.ValueOf", "(internal/reflectlite.Value).Type", "(internal/reflectlite.Value).IsNil", "internal/reflectlite.TypeOf", "(internal/reflectlite.Value).Elem", "(internal/reflectlite.Value).Set"], unfollowed := true, recurses := true, named := ["errors.errorType"], apart := false, laid := [("errors.errorType", laid_errors_errorType)] }
def HookNestsSaid : Prop := hookNestsRow.holds Tryd.pinned (OpenSpec.ofChange hookNestsSpec)

/-- ITS FALSE NEIGHBOUR: 'it returns false'. Refute it at one input. -/
def hookNestsWrong : ChangeSpec := { name := "hookNests", fn := fun _ => fun
  | [d1, d2] => { results := [.lit (.bool false)], args := [d1, d2] }
  | _ => none }
def HookNestsWrongFalsely : Prop := hookNestsRow.holds Tryd.pinned (OpenSpec.ofChange hookNestsWrong)

/-- 'rialtolaw6.HookObserves': WHATEVER THE INPUT: true; the input reads as it did. -/
def hookObservesSpec : ChangeSpec := { name := "hookObserves", fn := fun _ => fun
  | [d1, d2, d3] => { results := [.lit (.bool true)], args := [d1, d2, d3] }
  | _ => none }
def hookObservesRow : OpenClaim := { program := "ytcbapmkipcffgaadoor", sum := "7ec7680d66a081e974fd10d00d328a91bca211376bab9ea907606569fde687f6", func := "rialto/rialtolaw6.HookObserves", spec := "hookObserves", inPlace := ["internal/reflectlite.ValueOf", "(internal/reflectlite.Value).Type", "(internal/reflectlite.Value).IsNil", "internal/reflectlite.TypeOf", "(internal/reflectlite.Value).Elem", "(internal/reflectlite.Value).Set", "math.Float64bits"], unfollowed := true, recurses := true, named := ["errors.errorType"], apart := false, laid := [("errors.errorType", laid_errors_errorType)] }
def HookObservesSaid : Prop := hookObservesRow.holds Tryd.pinned (OpenSpec.ofChange hookObservesSpec)

/-- ITS FALSE NEIGHBOUR: 'it returns false'. Refute it at one input. -/
def hookObservesWrong : ChangeSpec := { name := "hookObserves", fn := fun _ => fun
  | [d1, d2, d3] => { results := [.lit (.bool false)], args := [d1, d2, d3] }
  | _ => none }
def HookObservesWrongFalsely : Prop := hookObservesRow.holds Tryd.pinned (OpenSpec.ofChange hookObservesWrong)

/-- 'rialtolaw6.HookRuns': WHATEVER THE INPUT: true; the input reads as it did. -/
def hookRunsSpec : ChangeSpec := { name := "hookRuns", fn := fun _ => fun
  | [d1, d2, d3] => { results := [.lit (.bool true)], args := [d1, d2, d3] }
  | _ => none }
def hookRunsRow : OpenClaim := { program := "ytcbapmkipcffgaadoor", sum := "7ec7680d66a081e974fd10d00d328a91bca211376bab9ea907606569fde687f6", func := "rialto/rialtolaw6.HookRuns", spec := "hookRuns", inPlace := ["internal/reflectlite.ValueOf", "(internal/reflectlite.Value).Type", "(internal/reflectlite.Value).IsNil", "internal/reflectlite.TypeOf", "(internal/reflectlite.Value).Elem", "(internal/reflectlite.Value).Set"], unfollowed := true, recurses := true, named := ["errors.errorType"], apart := false, laid := [("errors.errorType", laid_errors_errorType)] }
def HookRunsSaid : Prop := hookRunsRow.holds Tryd.pinned (OpenSpec.ofChange hookRunsSpec)

/-- ITS FALSE NEIGHBOUR: 'it returns false'. Refute it at one input. -/
def hookRunsWrong : ChangeSpec := { name := "hookRuns", fn := fun _ => fun
  | [d1, d2, d3] => { results := [.lit (.bool false)], args := [d1, d2, d3] }
  | _ => none }
def HookRunsWrongFalsely : Prop := hookRunsRow.holds Tryd.pinned (OpenSpec.ofChange hookRunsWrong)

/-- 'rialtolaw6.HookValues': WHATEVER THE INPUT: true; the input reads as it did. -/
def hookValuesSpec : ChangeSpec := { name := "hookValues", fn := fun _ => fun
  | [d1, d2] => { results := [.lit (.bool true)], args := [d1, d2] }
  | _ => none }
def hookValuesRow : OpenClaim := { program := "ytcbapmkipcffgaadoor", sum := "7ec7680d66a081e974fd10d00d328a91bca211376bab9ea907606569fde687f6", func := "rialto/rialtolaw6.HookValues", spec := "hookValues", inPlace := ["internal/reflectlite.ValueOf", "(internal/reflectlite.Value).Type", "(internal/reflectlite.Value).IsNil", "internal/reflectlite.TypeOf", "(internal/reflectlite.Value).Elem", "(internal/reflectlite.Value).Set", "math.Float64bits"], unfollowed := true, recurses := true, named := ["errors.errorType"], apart := false, laid := [("errors.errorType", laid_errors_errorType)] }
def HookValuesSaid : Prop := hookValuesRow.holds Tryd.pinned (OpenSpec.ofChange hookValuesSpec)

/-- ITS FALSE NEIGHBOUR: 'it returns false'. Refute it at one input. -/
def hookValuesWrong : ChangeSpec := { name := "hookValues", fn := fun _ => fun
  | [d1, d2] => { results := [.lit (.bool false)], args := [d1, d2] }
  | _ => none }
def HookValuesWrongFalsely : Prop := hookValuesRow.holds Tryd.pinned (OpenSpec.ofChange hookValuesWrong)

/-- 'rialtolaw7.KeyTells': WHATEVER THE INPUT: true; the input reads as it did. -/
def keyTellsSpec : ChangeSpec := { name := "keyTells", fn := fun _ => fun
  | [d1, d2, d3, d4] => { results := [.lit (.bool true)], args := [d1, d2, d3, d4] }
  | _ => none }
def keyTellsRow : OpenClaim := { program := "ytcbapmkipcffgaadoor", sum := "7ec7680d66a081e974fd10d00d328a91bca211376bab9ea907606569fde687f6", func := "rialto/rialtolaw7.KeyTells", spec := "keyTells", inPlace := ["math.Float64bits", "math.Float64frombits", "internal/reflectlite.ValueOf", "(internal/reflectlite.Value).Type", "(internal/reflectlite.Value).IsNil", "internal/reflectlite.TypeOf", "(internal/reflectlite.Value).Elem", "(internal/reflectlite.Value).Set"], unfollowed := true, recurses := true, named := ["errors.errorType"], apart := false, laid := [("errors.errorType", laid_errors_errorType)] }
def KeyTellsSaid : Prop := keyTellsRow.holds Tryd.pinned (OpenSpec.ofChange keyTellsSpec)

/-- ITS FALSE NEIGHBOUR: 'it returns false'. Refute it at one input. -/
def keyTellsWrong : ChangeSpec := { name := "keyTells", fn := fun _ => fun
  | [d1, d2, d3, d4] => { results := [.lit (.bool false)], args := [d1, d2, d3, d4] }
  | _ => none }
def KeyTellsWrongFalsely : Prop := keyTellsRow.holds Tryd.pinned (OpenSpec.ofChange keyTellsWrong)

/-- 'rialtolaw7.KeyFields': WHATEVER THE INPUT: true; the input reads as it did. -/
def keyFieldsSpec : ChangeSpec := { name := "keyFields", fn := fun _ => fun
  | [d1, d2] => { results := [.lit (.bool true)], args := [d1, d2] }
  | _ => none }
def keyFieldsRow : OpenClaim := { program := "ytcbapmkipcffgaadoor", sum := "7ec7680d66a081e974fd10d00d328a91bca211376bab9ea907606569fde687f6", func := "rialto/rialtolaw7.KeyFields", spec := "keyFields", inPlace := ["math.Float64bits", "math.Float64frombits", "internal/reflectlite.ValueOf", "(internal/reflectlite.Value).Type", "(internal/reflectlite.Value).IsNil", "internal/reflectlite.TypeOf", "(internal/reflectlite.Value).Elem", "(internal/reflectlite.Value).Set"], unfollowed := true, recurses := true, named := ["errors.errorType"], apart := false, laid := [("errors.errorType", laid_errors_errorType)] }
def KeyFieldsSaid : Prop := keyFieldsRow.holds Tryd.pinned (OpenSpec.ofChange keyFieldsSpec)

/-- ITS FALSE NEIGHBOUR: 'it returns false'. Refute it at one input. -/
def keyFieldsWrong : ChangeSpec := { name := "keyFields", fn := fun _ => fun
  | [d1, d2] => { results := [.lit (.bool false)], args := [d1, d2] }
  | _ => none }
def KeyFieldsWrongFalsely : Prop := keyFieldsRow.holds Tryd.pinned (OpenSpec.ofChange keyFieldsWrong)

/-- 'rialtolaw7.KeyOrder': WHATEVER THE INPUT: true; the input reads as it did. -/
def keyOrderSpec : ChangeSpec := { name := "keyOrder", fn := fun _ => fun
  | [d1, d2, d3] => { results := [.lit (.bool true)], args := [d1, d2, d3] }
  | _ => none }
def keyOrderRow : OpenClaim := { program := "ytcbapmkipcffgaadoor", sum := "7ec7680d66a081e974fd10d00d328a91bca211376bab9ea907606569fde687f6", func := "rialto/rialtolaw7.KeyOrder", spec := "keyOrder", inPlace := ["math.Float64bits", "math.Float64frombits", "internal/reflectlite.ValueOf", "(internal/reflectlite.Value).Type", "(internal/reflectlite.Value).IsNil", "internal/reflectlite.TypeOf", "(internal/reflectlite.Value).Elem", "(internal/reflectlite.Value).Set", "internal/bytealg.abigen_runtime_cmpstring"], unfollowed := true, recurses := true, named := ["errors.errorType"], apart := false, laid := [("errors.errorType", laid_errors_errorType)] }
def KeyOrderSaid : Prop := keyOrderRow.holds Tryd.pinned (OpenSpec.ofChange keyOrderSpec)

/-- ITS FALSE NEIGHBOUR: 'it returns false'. Refute it at one input. -/
def keyOrderWrong : ChangeSpec := { name := "keyOrder", fn := fun _ => fun
  | [d1, d2, d3] => { results := [.lit (.bool false)], args := [d1, d2, d3] }
  | _ => none }
def KeyOrderWrongFalsely : Prop := keyOrderRow.holds Tryd.pinned (OpenSpec.ofChange keyOrderWrong)

/-- 'rialtolaw6.HookCalls': WHATEVER THE INPUT: true; the input reads as it did. -/
def hookCallsSpec : ChangeSpec := { name := "hookCalls", fn := fun _ => fun
  | [d1, d2, d3, d4, d5] => { results := [.lit (.bool true)], args := [d1, d2, d3, d4, d5] }
  | _ => none }
def hookCallsRow : OpenClaim := { program := "ytcbapmkipcffgaadoor", sum := "7ec7680d66a081e974fd10d00d328a91bca211376bab9ea907606569fde687f6", func := "rialto/rialtolaw6.HookCalls", spec := "hookCalls", inPlace := ["internal/reflectlite.ValueOf", "(internal/reflectlite.Value).Type", "(internal/reflectlite.Value).IsNil", "internal/reflectlite.TypeOf", "(internal/reflectlite.Value).Elem", "(internal/reflectlite.Value).Set", "math.Float64bits", "math.Float64frombits"], unfollowed := true, recurses := true, named := ["errors.errorType"], apart := false, laid := [("errors.errorType", laid_errors_errorType)] }
def HookCallsSaid : Prop := hookCallsRow.holds Tryd.pinned (OpenSpec.ofChange hookCallsSpec)

/-- ITS FALSE NEIGHBOUR: 'it returns false'. Refute it at one input. -/
def hookCallsWrong : ChangeSpec := { name := "hookCalls", fn := fun _ => fun
  | [d1, d2, d3, d4, d5] => { results := [.lit (.bool false)], args := [d1, d2, d3, d4, d5] }
  | _ => none }
def HookCallsWrongFalsely : Prop := hookCallsRow.holds Tryd.pinned (OpenSpec.ofChange hookCallsWrong)

/-- 'rialtolaw7.KeyCompares': WHATEVER THE INPUT: true; the input reads as it did. -/
def keyComparesSpec : ChangeSpec := { name := "keyCompares", fn := fun _ => fun
  | [d1, d2, d3, d4, d5, d6, d7] => { results := [.lit (.bool true)], args := [d1, d2, d3, d4, d5, d6, d7] }
  | _ => none }
def keyComparesRow : OpenClaim := { program := "ytcbapmkipcffgaadoor", sum := "7ec7680d66a081e974fd10d00d328a91bca211376bab9ea907606569fde687f6", func := "rialto/rialtolaw7.KeyCompares", spec := "keyCompares", inPlace := ["math.Float64bits", "math.Float64frombits", "internal/reflectlite.ValueOf", "(internal/reflectlite.Value).Type", "(internal/reflectlite.Value).IsNil", "internal/reflectlite.TypeOf", "(internal/reflectlite.Value).Elem", "(internal/reflectlite.Value).Set", "internal/bytealg.abigen_runtime_cmpstring"], unfollowed := true, recurses := true, named := ["errors.errorType"], apart := false, laid := [("errors.errorType", laid_errors_errorType)] }
def KeyComparesSaid : Prop := keyComparesRow.holds Tryd.pinned (OpenSpec.ofChange keyComparesSpec)

/-- ITS FALSE NEIGHBOUR: 'it returns false'. Refute it at one input. -/
def keyComparesWrong : ChangeSpec := { name := "keyCompares", fn := fun _ => fun
  | [d1, d2, d3, d4, d5, d6, d7] => { results := [.lit (.bool false)], args := [d1, d2, d3, d4, d5, d6, d7] }
  | _ => none }
def KeyComparesWrongFalsely : Prop := keyComparesRow.holds Tryd.pinned (OpenSpec.ofChange keyComparesWrong)

/- THE SECOND FORM. 'bulk': how many values and letters a reading holds, each counted each time it is reached (what is shared counts as often as it is met; a slice's spare places count too). A statement '..UptoSaid' is the law's where the arguments, and the package variables that the reading takes, are together of bulk at most 1048576: NARROWER than '..Said'. Prove '..Said' where nothing that the law and all that it calls make is longer than what came in: it says more and counts as full. Else prove '..UptoSaid'. A law counts once. -/
mutual
def uptoBulk {H : Type} : DataW H → Nat
  | .lit (.string bytes) => bytes.length + 1
  | .lit _ => 1
  | .nil => 1
  | .ptr d => uptoBulk d + 1
  | .slice elems spare => uptoBulkAll elems + uptoBulkAll spare + 1
  | .agg parts => uptoBulkAll parts + 1
  | .iface _ d => uptoBulk d + 1
  | .map entries => uptoBulkEntries entries + 1
  | .held _ => 1
def uptoBulkAll {H : Type} : List (DataW H) → Nat
  | [] => 0
  | d :: r => uptoBulk d + uptoBulkAll r
def uptoBulkEntries {H : Type} : List (Lit × DataW H) → Nat
  | [] => 0
  | x :: r => uptoBulkEntry x + uptoBulkEntries r
def uptoBulkEntry {H : Type} : Lit × DataW H → Nat
  | (.string bytes, d) => bytes.length + uptoBulk d + 1
  | (_, d) => uptoBulk d + 1
 end
def uptoSmall : (H : Type) → List (DataW H) → Bool := fun _ ds => decide (uptoBulkAll ds ≤ 1048576)
def OpenSpec.upto (s : _root_.Go.ChangeSpec) : _root_.Go.OpenSpec := { _root_.Go.OpenSpec.ofChange s with cond := some uptoSmall }

/-- 'rialtolaw6.HookNests', WHERE WHAT IT READS IS OF BULK AT MOST 1048576: true; the input reads as it did. -/
def hookNestsUptoRow : OpenClaim := { program := "ytcbapmkipcffgaadoor", sum := "7ec7680d66a081e974fd10d00d328a91bca211376bab9ea907606569fde687f6", func := "rialto/rialtolaw6.HookNests", spec := "hookNests", inPlace := ["internal/reflectlite.ValueOf", "(internal/reflectlite.Value).Type", "(internal/reflectlite.Value).IsNil", "internal/reflectlite.TypeOf", "(internal/reflectlite.Value).Elem", "(internal/reflectlite.Value).Set"], unfollowed := true, recurses := true, named := ["errors.errorType"], apart := false, laid := [("errors.errorType", laid_errors_errorType)], narrowed := true }
def HookNestsUptoSaid : Prop := hookNestsUptoRow.holds Tryd.pinned (OpenSpec.upto hookNestsSpec)

/-- 'rialtolaw6.HookObserves', WHERE WHAT IT READS IS OF BULK AT MOST 1048576: true; the input reads as it did. -/
def hookObservesUptoRow : OpenClaim := { program := "ytcbapmkipcffgaadoor", sum := "7ec7680d66a081e974fd10d00d328a91bca211376bab9ea907606569fde687f6", func := "rialto/rialtolaw6.HookObserves", spec := "hookObserves", inPlace := ["internal/reflectlite.ValueOf", "(internal/reflectlite.Value).Type", "(internal/reflectlite.Value).IsNil", "internal/reflectlite.TypeOf", "(internal/reflectlite.Value).Elem", "(internal/reflectlite.Value).Set", "math.Float64bits"], unfollowed := true, recurses := true, named := ["errors.errorType"], apart := false, laid := [("errors.errorType", laid_errors_errorType)], narrowed := true }
def HookObservesUptoSaid : Prop := hookObservesUptoRow.holds Tryd.pinned (OpenSpec.upto hookObservesSpec)

/-- 'rialtolaw6.HookRuns', WHERE WHAT IT READS IS OF BULK AT MOST 1048576: true; the input reads as it did. -/
def hookRunsUptoRow : OpenClaim := { program := "ytcbapmkipcffgaadoor", sum := "7ec7680d66a081e974fd10d00d328a91bca211376bab9ea907606569fde687f6", func := "rialto/rialtolaw6.HookRuns", spec := "hookRuns", inPlace := ["internal/reflectlite.ValueOf", "(internal/reflectlite.Value).Type", "(internal/reflectlite.Value).IsNil", "internal/reflectlite.TypeOf", "(internal/reflectlite.Value).Elem", "(internal/reflectlite.Value).Set"], unfollowed := true, recurses := true, named := ["errors.errorType"], apart := false, laid := [("errors.errorType", laid_errors_errorType)], narrowed := true }
def HookRunsUptoSaid : Prop := hookRunsUptoRow.holds Tryd.pinned (OpenSpec.upto hookRunsSpec)

/-- 'rialtolaw6.HookValues', WHERE WHAT IT READS IS OF BULK AT MOST 1048576: true; the input reads as it did. -/
def hookValuesUptoRow : OpenClaim := { program := "ytcbapmkipcffgaadoor", sum := "7ec7680d66a081e974fd10d00d328a91bca211376bab9ea907606569fde687f6", func := "rialto/rialtolaw6.HookValues", spec := "hookValues", inPlace := ["internal/reflectlite.ValueOf", "(internal/reflectlite.Value).Type", "(internal/reflectlite.Value).IsNil", "internal/reflectlite.TypeOf", "(internal/reflectlite.Value).Elem", "(internal/reflectlite.Value).Set", "math.Float64bits"], unfollowed := true, recurses := true, named := ["errors.errorType"], apart := false, laid := [("errors.errorType", laid_errors_errorType)], narrowed := true }
def HookValuesUptoSaid : Prop := hookValuesUptoRow.holds Tryd.pinned (OpenSpec.upto hookValuesSpec)

/-- 'rialtolaw7.KeyTells', WHERE WHAT IT READS IS OF BULK AT MOST 1048576: true; the input reads as it did. -/
def keyTellsUptoRow : OpenClaim := { program := "ytcbapmkipcffgaadoor", sum := "7ec7680d66a081e974fd10d00d328a91bca211376bab9ea907606569fde687f6", func := "rialto/rialtolaw7.KeyTells", spec := "keyTells", inPlace := ["math.Float64bits", "math.Float64frombits", "internal/reflectlite.ValueOf", "(internal/reflectlite.Value).Type", "(internal/reflectlite.Value).IsNil", "internal/reflectlite.TypeOf", "(internal/reflectlite.Value).Elem", "(internal/reflectlite.Value).Set"], unfollowed := true, recurses := true, named := ["errors.errorType"], apart := false, laid := [("errors.errorType", laid_errors_errorType)], narrowed := true }
def KeyTellsUptoSaid : Prop := keyTellsUptoRow.holds Tryd.pinned (OpenSpec.upto keyTellsSpec)

/-- 'rialtolaw7.KeyFields', WHERE WHAT IT READS IS OF BULK AT MOST 1048576: true; the input reads as it did. -/
def keyFieldsUptoRow : OpenClaim := { program := "ytcbapmkipcffgaadoor", sum := "7ec7680d66a081e974fd10d00d328a91bca211376bab9ea907606569fde687f6", func := "rialto/rialtolaw7.KeyFields", spec := "keyFields", inPlace := ["math.Float64bits", "math.Float64frombits", "internal/reflectlite.ValueOf", "(internal/reflectlite.Value).Type", "(internal/reflectlite.Value).IsNil", "internal/reflectlite.TypeOf", "(internal/reflectlite.Value).Elem", "(internal/reflectlite.Value).Set"], unfollowed := true, recurses := true, named := ["errors.errorType"], apart := false, laid := [("errors.errorType", laid_errors_errorType)], narrowed := true }
def KeyFieldsUptoSaid : Prop := keyFieldsUptoRow.holds Tryd.pinned (OpenSpec.upto keyFieldsSpec)

/-- 'rialtolaw7.KeyOrder', WHERE WHAT IT READS IS OF BULK AT MOST 1048576: true; the input reads as it did. -/
def keyOrderUptoRow : OpenClaim := { program := "ytcbapmkipcffgaadoor", sum := "7ec7680d66a081e974fd10d00d328a91bca211376bab9ea907606569fde687f6", func := "rialto/rialtolaw7.KeyOrder", spec := "keyOrder", inPlace := ["math.Float64bits", "math.Float64frombits", "internal/reflectlite.ValueOf", "(internal/reflectlite.Value).Type", "(internal/reflectlite.Value).IsNil", "internal/reflectlite.TypeOf", "(internal/reflectlite.Value).Elem", "(internal/reflectlite.Value).Set", "internal/bytealg.abigen_runtime_cmpstring"], unfollowed := true, recurses := true, named := ["errors.errorType"], apart := false, laid := [("errors.errorType", laid_errors_errorType)], narrowed := true }
def KeyOrderUptoSaid : Prop := keyOrderUptoRow.holds Tryd.pinned (OpenSpec.upto keyOrderSpec)

/-- 'rialtolaw6.HookCalls', WHERE WHAT IT READS IS OF BULK AT MOST 1048576: true; the input reads as it did. -/
def hookCallsUptoRow : OpenClaim := { program := "ytcbapmkipcffgaadoor", sum := "7ec7680d66a081e974fd10d00d328a91bca211376bab9ea907606569fde687f6", func := "rialto/rialtolaw6.HookCalls", spec := "hookCalls", inPlace := ["internal/reflectlite.ValueOf", "(internal/reflectlite.Value).Type", "(internal/reflectlite.Value).IsNil", "internal/reflectlite.TypeOf", "(internal/reflectlite.Value).Elem", "(internal/reflectlite.Value).Set", "math.Float64bits", "math.Float64frombits"], unfollowed := true, recurses := true, named := ["errors.errorType"], apart := false, laid := [("errors.errorType", laid_errors_errorType)], narrowed := true }
def HookCallsUptoSaid : Prop := hookCallsUptoRow.holds Tryd.pinned (OpenSpec.upto hookCallsSpec)

/-- 'rialtolaw7.KeyCompares', WHERE WHAT IT READS IS OF BULK AT MOST 1048576: true; the input reads as it did. -/
def keyComparesUptoRow : OpenClaim := { program := "ytcbapmkipcffgaadoor", sum := "7ec7680d66a081e974fd10d00d328a91bca211376bab9ea907606569fde687f6", func := "rialto/rialtolaw7.KeyCompares", spec := "keyCompares", inPlace := ["math.Float64bits", "math.Float64frombits", "internal/reflectlite.ValueOf", "(internal/reflectlite.Value).Type", "(internal/reflectlite.Value).IsNil", "internal/reflectlite.TypeOf", "(internal/reflectlite.Value).Elem", "(internal/reflectlite.Value).Set", "internal/bytealg.abigen_runtime_cmpstring"], unfollowed := true, recurses := true, named := ["errors.errorType"], apart := false, laid := [("errors.errorType", laid_errors_errorType)], narrowed := true }
def KeyComparesUptoSaid : Prop := keyComparesUptoRow.holds Tryd.pinned (OpenSpec.upto keyComparesSpec)

end Rows
end Go.Proofs.YtcbapmkipcffgaaDoor
