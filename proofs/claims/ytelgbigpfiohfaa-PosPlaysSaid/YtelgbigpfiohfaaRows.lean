/-
  No cell of these rows narrows 'for every input' (looked for: loops, veiled, ifaces, maps, wideKeys, modest, calm, conditions, laid).
  DERIVED. THE GIVEN ROWS OF THIS SEAT. 5 by the template 'for every input the law returns true; each argument reads behind the call as it read before'; 0 by the template 'total and deterministic' (their statements: YtelgbigpfiohfaaTotals.lean).
  GIVEN WITH THE SEED: the statements are not yours to turn. If you find one false, say at which input.
  Laid BY PROGRAM, IN A SANDBOX (cutbox-rows.mjs): the forced cells as the released guide's own fill.sh prints them over the translation 784d390f4d05a07c… (all of the seat's roots in one cut). By AI agents, Wed Nov 11 2026. No macro, syntax, notation, axiom, sorry.
-/
import Derived.Test.YtelgbigpfiohfaaChecked
import GoSem.Claim
import GoSem.ClaimJoined
import GoSem.ClaimMapViews
import Derived.JoinedTies
import Derived.KernelRfl
namespace Go.Proofs.Ytelgbigpfiohfaa
/- THE CELL 'sum', in the pinned program and in every row, IS THE sha256 OF THE DUMP (.gsa) THAT YtelgbigpfiohfaaProg.lean LOADS. Nothing in Lean hashes anything: it is a label: what it is worth is what the hold of that sum in a sandbox is worth. -/
noncomputable def Try.pinned : Pinned := { name := "ytelgbigpfiohfaa", sum := "784d390f4d05a07cd5b9537f6c6517526fd9753f130f288bd5d2e21e07c65e30", checked := Try.checked }
namespace Rows
def none {H : Type} : Left H := { results := [], args := [] }

/-- 'rialtolaw14.PosMoves': WHATEVER THE INPUT: true; the input reads as it did. -/
def posMovesSpec : ChangeSpec := { name := "posMoves", fn := fun _ => fun
  | [d1, d2, d3] => { results := [.lit (.bool true)], args := [d1, d2, d3] }
  | _ => none }
def posMovesRow : OpenClaim := { program := "ytelgbigpfiohfaa", sum := "784d390f4d05a07cd5b9537f6c6517526fd9753f130f288bd5d2e21e07c65e30", func := "rialto/rialtolaw14.PosMoves", spec := "posMoves", inPlace := ["slices.overlaps[int64]", "slices.overlaps[*rialto/tree.node[int64]]"], recurses := true, apart := false }
def PosMovesSaid : Prop := posMovesRow.holds Try.pinned (OpenSpec.ofChange posMovesSpec)

/-- ITS FALSE NEIGHBOUR: 'it returns false'. Refute it at one input. -/
def posMovesWrong : ChangeSpec := { name := "posMoves", fn := fun _ => fun
  | [d1, d2, d3] => { results := [.lit (.bool false)], args := [d1, d2, d3] }
  | _ => none }
def PosMovesWrongFalsely : Prop := posMovesRow.holds Try.pinned (OpenSpec.ofChange posMovesWrong)

/-- 'rialtolaw13.SeqMoves': WHATEVER THE INPUT: true; the input reads as it did. -/
def seqMovesSpec : ChangeSpec := { name := "seqMoves", fn := fun _ => fun
  | [d1, d2] => { results := [.lit (.bool true)], args := [d1, d2] }
  | _ => none }
def seqMovesRow : OpenClaim := { program := "ytelgbigpfiohfaa", sum := "784d390f4d05a07cd5b9537f6c6517526fd9753f130f288bd5d2e21e07c65e30", func := "rialto/rialtolaw13.SeqMoves", spec := "seqMoves", inPlace := ["slices.overlaps[int64]", "slices.overlaps[*rialto/tree.node[int64]]"], recurses := true, apart := false }
def SeqMovesSaid : Prop := seqMovesRow.holds Try.pinned (OpenSpec.ofChange seqMovesSpec)

/-- ITS FALSE NEIGHBOUR: 'it returns false'. Refute it at one input. -/
def seqMovesWrong : ChangeSpec := { name := "seqMoves", fn := fun _ => fun
  | [d1, d2] => { results := [.lit (.bool false)], args := [d1, d2] }
  | _ => none }
def SeqMovesWrongFalsely : Prop := seqMovesRow.holds Try.pinned (OpenSpec.ofChange seqMovesWrong)

/-- 'rialtolaw14.PosSwaps': WHATEVER THE INPUT: true; the input reads as it did. -/
def posSwapsSpec : ChangeSpec := { name := "posSwaps", fn := fun _ => fun
  | [d1, d2] => { results := [.lit (.bool true)], args := [d1, d2] }
  | _ => none }
def posSwapsRow : OpenClaim := { program := "ytelgbigpfiohfaa", sum := "784d390f4d05a07cd5b9537f6c6517526fd9753f130f288bd5d2e21e07c65e30", func := "rialto/rialtolaw14.PosSwaps", spec := "posSwaps", inPlace := ["slices.overlaps[int64]", "slices.overlaps[*rialto/tree.node[int64]]"], recurses := true, apart := false }
def PosSwapsSaid : Prop := posSwapsRow.holds Try.pinned (OpenSpec.ofChange posSwapsSpec)

/-- ITS FALSE NEIGHBOUR: 'it returns false'. Refute it at one input. -/
def posSwapsWrong : ChangeSpec := { name := "posSwaps", fn := fun _ => fun
  | [d1, d2] => { results := [.lit (.bool false)], args := [d1, d2] }
  | _ => none }
def PosSwapsWrongFalsely : Prop := posSwapsRow.holds Try.pinned (OpenSpec.ofChange posSwapsWrong)

/-- 'rialtolaw14.PosPlays': WHATEVER THE INPUT: true; the input reads as it did. -/
def posPlaysSpec : ChangeSpec := { name := "posPlays", fn := fun _ => fun
  | [d] => { results := [.lit (.bool true)], args := [d] }
  | _ => none }
def posPlaysRow : OpenClaim := { program := "ytelgbigpfiohfaa", sum := "784d390f4d05a07cd5b9537f6c6517526fd9753f130f288bd5d2e21e07c65e30", func := "rialto/rialtolaw14.PosPlays", spec := "posPlays", inPlace := ["slices.overlaps[int64]", "slices.overlaps[*rialto/tree.node[int64]]"], recurses := true, apart := false }
def PosPlaysSaid : Prop := posPlaysRow.holds Try.pinned (OpenSpec.ofChange posPlaysSpec)

/-- ITS FALSE NEIGHBOUR: 'it returns false'. Refute it at one input. -/
def posPlaysWrong : ChangeSpec := { name := "posPlays", fn := fun _ => fun
  | [d] => { results := [.lit (.bool false)], args := [d] }
  | _ => none }
def PosPlaysWrongFalsely : Prop := posPlaysRow.holds Try.pinned (OpenSpec.ofChange posPlaysWrong)

/-- 'rialtolaw13.SeqSplices': WHATEVER THE INPUT: true; the input reads as it did. -/
def seqSplicesSpec : ChangeSpec := { name := "seqSplices", fn := fun _ => fun
  | [d1, d2, d3] => { results := [.lit (.bool true)], args := [d1, d2, d3] }
  | _ => none }
def seqSplicesRow : OpenClaim := { program := "ytelgbigpfiohfaa", sum := "784d390f4d05a07cd5b9537f6c6517526fd9753f130f288bd5d2e21e07c65e30", func := "rialto/rialtolaw13.SeqSplices", spec := "seqSplices", inPlace := ["slices.overlaps[int64]", "slices.overlaps[*rialto/tree.node[int64]]"], unfollowed := true, recurses := true, apart := false }
def SeqSplicesSaid : Prop := seqSplicesRow.holds Try.pinned (OpenSpec.ofChange seqSplicesSpec)

/-- ITS FALSE NEIGHBOUR: 'it returns false'. Refute it at one input. -/
def seqSplicesWrong : ChangeSpec := { name := "seqSplices", fn := fun _ => fun
  | [d1, d2, d3] => { results := [.lit (.bool false)], args := [d1, d2, d3] }
  | _ => none }
def SeqSplicesWrongFalsely : Prop := seqSplicesRow.holds Try.pinned (OpenSpec.ofChange seqSplicesWrong)

/- THE SECOND FORM. 'bulk': how many values and letters a reading holds, each counted each time it is reached (what is shared counts as often as it is met; a slice's spare places count too). A statement '..UptoSaid' is the law's where the arguments, and the package variables that the reading takes, are together of bulk at most 1048576: NARROWER than '..Said'. Prove '..Said' where nothing that the law and all that it calls make is longer than what came in: it says more and counts as full. Else prove '..UptoSaid'. A law counts once. -/
mutual
def uptoBulk {H : Type} : DataW H → Nat
  | .lit (.string bytes) => bytes.length + 1
  | .lit _ => 1
  | .nil => 1
  | .ptr d => uptoBulk d + 1
  | .slice elems spare => uptoBulkAll elems + uptoBulkAll spare + 1
  | .agg parts => uptoBulkAll parts + 1
  | .iface _ d => uptoBulk d + 1
  | .map entries => uptoBulkEntries entries + 1
  | .held _ => 1
def uptoBulkAll {H : Type} : List (DataW H) → Nat
  | [] => 0
  | d :: r => uptoBulk d + uptoBulkAll r
def uptoBulkEntries {H : Type} : List (Lit × DataW H) → Nat
  | [] => 0
  | x :: r => uptoBulkEntry x + uptoBulkEntries r
def uptoBulkEntry {H : Type} : Lit × DataW H → Nat
  | (.string bytes, d) => bytes.length + uptoBulk d + 1
  | (_, d) => uptoBulk d + 1
 end
def uptoSmall : (H : Type) → List (DataW H) → Bool := fun _ ds => decide (uptoBulkAll ds ≤ 1048576)
def OpenSpec.upto (s : _root_.Go.ChangeSpec) : _root_.Go.OpenSpec := { _root_.Go.OpenSpec.ofChange s with cond := some uptoSmall }

/-- 'rialtolaw14.PosMoves', WHERE WHAT IT READS IS OF BULK AT MOST 1048576: true; the input reads as it did. -/
def posMovesUptoRow : OpenClaim := { program := "ytelgbigpfiohfaa", sum := "784d390f4d05a07cd5b9537f6c6517526fd9753f130f288bd5d2e21e07c65e30", func := "rialto/rialtolaw14.PosMoves", spec := "posMoves", inPlace := ["slices.overlaps[int64]", "slices.overlaps[*rialto/tree.node[int64]]"], recurses := true, apart := false, narrowed := true }
def PosMovesUptoSaid : Prop := posMovesUptoRow.holds Try.pinned (OpenSpec.upto posMovesSpec)

/-- 'rialtolaw13.SeqMoves', WHERE WHAT IT READS IS OF BULK AT MOST 1048576: true; the input reads as it did. -/
def seqMovesUptoRow : OpenClaim := { program := "ytelgbigpfiohfaa", sum := "784d390f4d05a07cd5b9537f6c6517526fd9753f130f288bd5d2e21e07c65e30", func := "rialto/rialtolaw13.SeqMoves", spec := "seqMoves", inPlace := ["slices.overlaps[int64]", "slices.overlaps[*rialto/tree.node[int64]]"], recurses := true, apart := false, narrowed := true }
def SeqMovesUptoSaid : Prop := seqMovesUptoRow.holds Try.pinned (OpenSpec.upto seqMovesSpec)

/-- 'rialtolaw14.PosSwaps', WHERE WHAT IT READS IS OF BULK AT MOST 1048576: true; the input reads as it did. -/
def posSwapsUptoRow : OpenClaim := { program := "ytelgbigpfiohfaa", sum := "784d390f4d05a07cd5b9537f6c6517526fd9753f130f288bd5d2e21e07c65e30", func := "rialto/rialtolaw14.PosSwaps", spec := "posSwaps", inPlace := ["slices.overlaps[int64]", "slices.overlaps[*rialto/tree.node[int64]]"], recurses := true, apart := false, narrowed := true }
def PosSwapsUptoSaid : Prop := posSwapsUptoRow.holds Try.pinned (OpenSpec.upto posSwapsSpec)

/-- 'rialtolaw14.PosPlays', WHERE WHAT IT READS IS OF BULK AT MOST 1048576: true; the input reads as it did. -/
def posPlaysUptoRow : OpenClaim := { program := "ytelgbigpfiohfaa", sum := "784d390f4d05a07cd5b9537f6c6517526fd9753f130f288bd5d2e21e07c65e30", func := "rialto/rialtolaw14.PosPlays", spec := "posPlays", inPlace := ["slices.overlaps[int64]", "slices.overlaps[*rialto/tree.node[int64]]"], recurses := true, apart := false, narrowed := true }
def PosPlaysUptoSaid : Prop := posPlaysUptoRow.holds Try.pinned (OpenSpec.upto posPlaysSpec)

/-- 'rialtolaw13.SeqSplices', WHERE WHAT IT READS IS OF BULK AT MOST 1048576: true; the input reads as it did. -/
def seqSplicesUptoRow : OpenClaim := { program := "ytelgbigpfiohfaa", sum := "784d390f4d05a07cd5b9537f6c6517526fd9753f130f288bd5d2e21e07c65e30", func := "rialto/rialtolaw13.SeqSplices", spec := "seqSplices", inPlace := ["slices.overlaps[int64]", "slices.overlaps[*rialto/tree.node[int64]]"], unfollowed := true, recurses := true, apart := false, narrowed := true }
def SeqSplicesUptoSaid : Prop := seqSplicesUptoRow.holds Try.pinned (OpenSpec.upto seqSplicesSpec)

end Rows
end Go.Proofs.Ytelgbigpfiohfaa
