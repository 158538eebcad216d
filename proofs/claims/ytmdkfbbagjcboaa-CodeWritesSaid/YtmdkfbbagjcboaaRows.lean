/-
  No cell of these rows narrows 'for every input' (looked for: loops, veiled, ifaces, maps, wideKeys, modest, calm, conditions, laid).
  DERIVED. THE GIVEN ROWS OF THIS SEAT. 5 by the template 'for every input the law returns true; each argument reads behind the call as it read before'; 0 by the template 'total and deterministic' (their statements: YtmdkfbbagjcboaaTotals.lean).
  GIVEN WITH THE SEED: the statements are not yours to turn. If you find one false, say at which input.
  Laid BY PROGRAM, IN A SANDBOX (cutbox-rows.mjs): the forced cells as the released guide's own fill.sh prints them over the translation dc924bf318dcea4c… (all of the seat's roots in one cut). By AI agents, Wed Nov 11 2026. No macro, syntax, notation, axiom, sorry.
-/
import Derived.Test.YtmdkfbbagjcboaaChecked
import GoSem.Claim
import GoSem.ClaimJoined
import GoSem.ClaimMapViews
import Derived.JoinedTies
import Derived.KernelRfl
namespace Go.Proofs.Ytmdkfbbagjcboaa
/- THE CELL 'sum', in the pinned program and in every row, IS THE sha256 OF THE DUMP (.gsa) THAT YtmdkfbbagjcboaaProg.lean LOADS. Nothing in Lean hashes anything: it is a label: what it is worth is what the hold of that sum in a sandbox is worth. -/
noncomputable def Try.pinned : Pinned := { name := "ytmdkfbbagjcboaa", sum := "dc924bf318dcea4ccb4ff8a6f136daa8fabc18e3e50148c753347b74e2be27dd", checked := Try.checked }
namespace Rows
def none {H : Type} : Left H := { results := [], args := [] }

/-- 'rialtolaw3.CodeWrites': WHATEVER THE INPUT: true; the input reads as it did. -/
def codeWritesSpec : ChangeSpec := { name := "codeWrites", fn := fun _ => fun
  | [d1, d2] => { results := [.lit (.bool true)], args := [d1, d2] }
  | _ => none }
def codeWritesRow : OpenClaim := { program := "ytmdkfbbagjcboaa", sum := "dc924bf318dcea4ccb4ff8a6f136daa8fabc18e3e50148c753347b74e2be27dd", func := "rialto/rialtolaw3.CodeWrites", spec := "codeWrites", inPlace := ["math.Float64bits", "math.Float64frombits", "internal/bytealg.IndexByte"], apart := false }
def CodeWritesSaid : Prop := codeWritesRow.holds Try.pinned (OpenSpec.ofChange codeWritesSpec)

/-- ITS FALSE NEIGHBOUR: 'it returns false'. Refute it at one input. -/
def codeWritesWrong : ChangeSpec := { name := "codeWrites", fn := fun _ => fun
  | [d1, d2] => { results := [.lit (.bool false)], args := [d1, d2] }
  | _ => none }
def CodeWritesWrongFalsely : Prop := codeWritesRow.holds Try.pinned (OpenSpec.ofChange codeWritesWrong)

/-- 'rialtolaw3.CodeOrder': WHATEVER THE INPUT: true; the input reads as it did. -/
def codeOrderSpec : ChangeSpec := { name := "codeOrder", fn := fun _ => fun
  | [d1, d2] => { results := [.lit (.bool true)], args := [d1, d2] }
  | _ => none }
def codeOrderRow : OpenClaim := { program := "ytmdkfbbagjcboaa", sum := "dc924bf318dcea4ccb4ff8a6f136daa8fabc18e3e50148c753347b74e2be27dd", func := "rialto/rialtolaw3.CodeOrder", spec := "codeOrder", inPlace := ["math.Float64bits", "math.Float64frombits", "internal/bytealg.IndexByte"], apart := false }
def CodeOrderSaid : Prop := codeOrderRow.holds Try.pinned (OpenSpec.ofChange codeOrderSpec)

/-- ITS FALSE NEIGHBOUR: 'it returns false'. Refute it at one input. -/
def codeOrderWrong : ChangeSpec := { name := "codeOrder", fn := fun _ => fun
  | [d1, d2] => { results := [.lit (.bool false)], args := [d1, d2] }
  | _ => none }
def CodeOrderWrongFalsely : Prop := codeOrderRow.holds Try.pinned (OpenSpec.ofChange codeOrderWrong)

/-- 'rialtolaw3.CodeInts': WHATEVER THE INPUT: true; the input reads as it did. -/
def codeIntsSpec : ChangeSpec := { name := "codeInts", fn := fun _ => fun
  | [d1, d2] => { results := [.lit (.bool true)], args := [d1, d2] }
  | _ => none }
def codeIntsRow : OpenClaim := { program := "ytmdkfbbagjcboaa", sum := "dc924bf318dcea4ccb4ff8a6f136daa8fabc18e3e50148c753347b74e2be27dd", func := "rialto/rialtolaw3.CodeInts", spec := "codeInts", inPlace := ["math.Float64bits", "math.Float64frombits", "internal/bytealg.IndexByte"], apart := false }
def CodeIntsSaid : Prop := codeIntsRow.holds Try.pinned (OpenSpec.ofChange codeIntsSpec)

/-- ITS FALSE NEIGHBOUR: 'it returns false'. Refute it at one input. -/
def codeIntsWrong : ChangeSpec := { name := "codeInts", fn := fun _ => fun
  | [d1, d2] => { results := [.lit (.bool false)], args := [d1, d2] }
  | _ => none }
def CodeIntsWrongFalsely : Prop := codeIntsRow.holds Try.pinned (OpenSpec.ofChange codeIntsWrong)

/-- 'rialtolaw3.CodeTexts': WHATEVER THE INPUT: true; the input reads as it did. -/
def codeTextsSpec : ChangeSpec := { name := "codeTexts", fn := fun _ => fun
  | [d1, d2] => { results := [.lit (.bool true)], args := [d1, d2] }
  | _ => none }
def codeTextsRow : OpenClaim := { program := "ytmdkfbbagjcboaa", sum := "dc924bf318dcea4ccb4ff8a6f136daa8fabc18e3e50148c753347b74e2be27dd", func := "rialto/rialtolaw3.CodeTexts", spec := "codeTexts", inPlace := ["math.Float64bits", "math.Float64frombits", "internal/bytealg.IndexByte"], apart := false }
def CodeTextsSaid : Prop := codeTextsRow.holds Try.pinned (OpenSpec.ofChange codeTextsSpec)

/-- ITS FALSE NEIGHBOUR: 'it returns false'. Refute it at one input. -/
def codeTextsWrong : ChangeSpec := { name := "codeTexts", fn := fun _ => fun
  | [d1, d2] => { results := [.lit (.bool false)], args := [d1, d2] }
  | _ => none }
def CodeTextsWrongFalsely : Prop := codeTextsRow.holds Try.pinned (OpenSpec.ofChange codeTextsWrong)

/-- 'rialtolaw3.CodeCuts': WHATEVER THE INPUT: true; the input reads as it did. -/
def codeCutsSpec : ChangeSpec := { name := "codeCuts", fn := fun _ => fun
  | [d1, d2] => { results := [.lit (.bool true)], args := [d1, d2] }
  | _ => none }
def codeCutsRow : OpenClaim := { program := "ytmdkfbbagjcboaa", sum := "dc924bf318dcea4ccb4ff8a6f136daa8fabc18e3e50148c753347b74e2be27dd", func := "rialto/rialtolaw3.CodeCuts", spec := "codeCuts", inPlace := ["math.Float64bits", "math.Float64frombits", "internal/bytealg.IndexByte"], apart := false }
def CodeCutsSaid : Prop := codeCutsRow.holds Try.pinned (OpenSpec.ofChange codeCutsSpec)

/-- ITS FALSE NEIGHBOUR: 'it returns false'. Refute it at one input. -/
def codeCutsWrong : ChangeSpec := { name := "codeCuts", fn := fun _ => fun
  | [d1, d2] => { results := [.lit (.bool false)], args := [d1, d2] }
  | _ => none }
def CodeCutsWrongFalsely : Prop := codeCutsRow.holds Try.pinned (OpenSpec.ofChange codeCutsWrong)

/- THE SECOND FORM. 'bulk': how many values and letters a reading holds, each counted each time it is reached (what is shared counts as often as it is met; a slice's spare places count too). A statement '..UptoSaid' is the law's where the arguments, and the package variables that the reading takes, are together of bulk at most 1048576: NARROWER than '..Said'. Prove '..Said' where nothing that the law and all that it calls make is longer than what came in: it says more and counts as full. Else prove '..UptoSaid'. A law counts once. -/
mutual
def uptoBulk {H : Type} : DataW H → Nat
  | .lit (.string bytes) => bytes.length + 1
  | .lit _ => 1
  | .nil => 1
  | .ptr d => uptoBulk d + 1
  | .slice elems spare => uptoBulkAll elems + uptoBulkAll spare + 1
  | .agg parts => uptoBulkAll parts + 1
  | .iface _ d => uptoBulk d + 1
  | .map entries => uptoBulkEntries entries + 1
  | .held _ => 1
def uptoBulkAll {H : Type} : List (DataW H) → Nat
  | [] => 0
  | d :: r => uptoBulk d + uptoBulkAll r
def uptoBulkEntries {H : Type} : List (Lit × DataW H) → Nat
  | [] => 0
  | x :: r => uptoBulkEntry x + uptoBulkEntries r
def uptoBulkEntry {H : Type} : Lit × DataW H → Nat
  | (.string bytes, d) => bytes.length + uptoBulk d + 1
  | (_, d) => uptoBulk d + 1
 end
def uptoSmall : (H : Type) → List (DataW H) → Bool := fun _ ds => decide (uptoBulkAll ds ≤ 1048576)
def OpenSpec.upto (s : _root_.Go.ChangeSpec) : _root_.Go.OpenSpec := { _root_.Go.OpenSpec.ofChange s with cond := some uptoSmall }

/-- 'rialtolaw3.CodeWrites', WHERE WHAT IT READS IS OF BULK AT MOST 1048576: true; the input reads as it did. -/
def codeWritesUptoRow : OpenClaim := { program := "ytmdkfbbagjcboaa", sum := "dc924bf318dcea4ccb4ff8a6f136daa8fabc18e3e50148c753347b74e2be27dd", func := "rialto/rialtolaw3.CodeWrites", spec := "codeWrites", inPlace := ["math.Float64bits", "math.Float64frombits", "internal/bytealg.IndexByte"], apart := false, narrowed := true }
def CodeWritesUptoSaid : Prop := codeWritesUptoRow.holds Try.pinned (OpenSpec.upto codeWritesSpec)

/-- 'rialtolaw3.CodeOrder', WHERE WHAT IT READS IS OF BULK AT MOST 1048576: true; the input reads as it did. -/
def codeOrderUptoRow : OpenClaim := { program := "ytmdkfbbagjcboaa", sum := "dc924bf318dcea4ccb4ff8a6f136daa8fabc18e3e50148c753347b74e2be27dd", func := "rialto/rialtolaw3.CodeOrder", spec := "codeOrder", inPlace := ["math.Float64bits", "math.Float64frombits", "internal/bytealg.IndexByte"], apart := false, narrowed := true }
def CodeOrderUptoSaid : Prop := codeOrderUptoRow.holds Try.pinned (OpenSpec.upto codeOrderSpec)

/-- 'rialtolaw3.CodeInts', WHERE WHAT IT READS IS OF BULK AT MOST 1048576: true; the input reads as it did. -/
def codeIntsUptoRow : OpenClaim := { program := "ytmdkfbbagjcboaa", sum := "dc924bf318dcea4ccb4ff8a6f136daa8fabc18e3e50148c753347b74e2be27dd", func := "rialto/rialtolaw3.CodeInts", spec := "codeInts", inPlace := ["math.Float64bits", "math.Float64frombits", "internal/bytealg.IndexByte"], apart := false, narrowed := true }
def CodeIntsUptoSaid : Prop := codeIntsUptoRow.holds Try.pinned (OpenSpec.upto codeIntsSpec)

/-- 'rialtolaw3.CodeTexts', WHERE WHAT IT READS IS OF BULK AT MOST 1048576: true; the input reads as it did. -/
def codeTextsUptoRow : OpenClaim := { program := "ytmdkfbbagjcboaa", sum := "dc924bf318dcea4ccb4ff8a6f136daa8fabc18e3e50148c753347b74e2be27dd", func := "rialto/rialtolaw3.CodeTexts", spec := "codeTexts", inPlace := ["math.Float64bits", "math.Float64frombits", "internal/bytealg.IndexByte"], apart := false, narrowed := true }
def CodeTextsUptoSaid : Prop := codeTextsUptoRow.holds Try.pinned (OpenSpec.upto codeTextsSpec)

/-- 'rialtolaw3.CodeCuts', WHERE WHAT IT READS IS OF BULK AT MOST 1048576: true; the input reads as it did. -/
def codeCutsUptoRow : OpenClaim := { program := "ytmdkfbbagjcboaa", sum := "dc924bf318dcea4ccb4ff8a6f136daa8fabc18e3e50148c753347b74e2be27dd", func := "rialto/rialtolaw3.CodeCuts", spec := "codeCuts", inPlace := ["math.Float64bits", "math.Float64frombits", "internal/bytealg.IndexByte"], apart := false, narrowed := true }
def CodeCutsUptoSaid : Prop := codeCutsUptoRow.holds Try.pinned (OpenSpec.upto codeCutsSpec)

end Rows
end Go.Proofs.Ytmdkfbbagjcboaa
