/-
  No cell of these rows narrows 'for every input' (looked for: loops, veiled, ifaces, maps, wideKeys, modest, calm, conditions, laid).
  DERIVED. THE GIVEN ROWS OF THIS SEAT. 5 by the template 'for every input the law returns true; each argument reads behind the call as it read before'; 0 by the template 'total and deterministic' (their statements: YtdefmjofnceckaaTotals.lean).
  GIVEN WITH THE SEED: the statements are not yours to turn. If you find one false, say at which input.
  Laid BY PROGRAM, IN A SANDBOX (cutbox-rows.mjs): the forced cells as the released guide's own fill.sh prints them over the translation b461a316f3cc520c… (all of the seat's roots in one cut). By AI agents, Wed Nov 11 2026. No macro, syntax, notation, axiom, sorry.
-/
import Derived.Test.YtdefmjofnceckaaChecked
import GoSem.Claim
import GoSem.ClaimJoined
import GoSem.ClaimMapViews
import Derived.JoinedTies
import Derived.KernelRfl
namespace Go.Proofs.Ytdefmjofnceckaa
/- THE CELL 'sum', in the pinned program and in every row, IS THE sha256 OF THE DUMP (.gsa) THAT YtdefmjofnceckaaProg.lean LOADS. Nothing in Lean hashes anything: it is a label: what it is worth is what the hold of that sum in a sandbox is worth. -/
noncomputable def Try.pinned : Pinned := { name := "ytdefmjofnceckaa", sum := "b461a316f3cc520ccea72e15d496ae2a8fd3bc75aeeba59524264b93b1c8203e", checked := Try.checked }
namespace Rows
def none {H : Type} : Left H := { results := [], args := [] }

/-- 'erasurelaw02.MatrixDoes': WHATEVER THE INPUT: true; the input reads as it did. -/
def matrixDoesSpec : ChangeSpec := { name := "matrixDoes", fn := fun _ => fun
  | [d1, d2, d3] => { results := [.lit (.bool true)], args := [d1, d2, d3] }
  | _ => none }
def matrixDoesRow : OpenClaim := { program := "ytdefmjofnceckaa", sum := "b461a316f3cc520ccea72e15d496ae2a8fd3bc75aeeba59524264b93b1c8203e", func := "erasure/erasurelaw02.MatrixDoes", spec := "matrixDoes", inPlace := ["math/bits.Add64", "math/bits.Sub64"], unfollowed := true, recurses := true, named := ["math/bits.divideError", "math/bits.overflowError"], apart := false }
def MatrixDoesSaid : Prop := matrixDoesRow.holds Try.pinned (OpenSpec.ofChange matrixDoesSpec)

/-- ITS FALSE NEIGHBOUR: 'it returns false'. Refute it at one input. -/
def matrixDoesWrong : ChangeSpec := { name := "matrixDoes", fn := fun _ => fun
  | [d1, d2, d3] => { results := [.lit (.bool false)], args := [d1, d2, d3] }
  | _ => none }
def MatrixDoesWrongFalsely : Prop := matrixDoesRow.holds Try.pinned (OpenSpec.ofChange matrixDoesWrong)

/-- 'erasurelaw02.MatrixMaps': WHATEVER THE INPUT: true; the input reads as it did. -/
def matrixMapsSpec : ChangeSpec := { name := "matrixMaps", fn := fun _ => fun
  | [d1, d2, d3] => { results := [.lit (.bool true)], args := [d1, d2, d3] }
  | _ => none }
def matrixMapsRow : OpenClaim := { program := "ytdefmjofnceckaa", sum := "b461a316f3cc520ccea72e15d496ae2a8fd3bc75aeeba59524264b93b1c8203e", func := "erasure/erasurelaw02.MatrixMaps", spec := "matrixMaps", inPlace := ["math/bits.Add64", "math/bits.Sub64"], unfollowed := true, recurses := true, named := ["math/bits.divideError", "math/bits.overflowError"], apart := false }
def MatrixMapsSaid : Prop := matrixMapsRow.holds Try.pinned (OpenSpec.ofChange matrixMapsSpec)

/-- ITS FALSE NEIGHBOUR: 'it returns false'. Refute it at one input. -/
def matrixMapsWrong : ChangeSpec := { name := "matrixMaps", fn := fun _ => fun
  | [d1, d2, d3] => { results := [.lit (.bool false)], args := [d1, d2, d3] }
  | _ => none }
def MatrixMapsWrongFalsely : Prop := matrixMapsRow.holds Try.pinned (OpenSpec.ofChange matrixMapsWrong)

/-- 'erasurelaw02.MatrixHolds': WHATEVER THE INPUT: true; the input reads as it did. -/
def matrixHoldsSpec : ChangeSpec := { name := "matrixHolds", fn := fun _ => fun
  | [d1, d2, d3] => { results := [.lit (.bool true)], args := [d1, d2, d3] }
  | _ => none }
def matrixHoldsRow : OpenClaim := { program := "ytdefmjofnceckaa", sum := "b461a316f3cc520ccea72e15d496ae2a8fd3bc75aeeba59524264b93b1c8203e", func := "erasure/erasurelaw02.MatrixHolds", spec := "matrixHolds", inPlace := ["math/bits.Add64", "math/bits.Sub64"], unfollowed := true, recurses := true, named := ["math/bits.divideError", "math/bits.overflowError"], apart := false }
def MatrixHoldsSaid : Prop := matrixHoldsRow.holds Try.pinned (OpenSpec.ofChange matrixHoldsSpec)

/-- ITS FALSE NEIGHBOUR: 'it returns false'. Refute it at one input. -/
def matrixHoldsWrong : ChangeSpec := { name := "matrixHolds", fn := fun _ => fun
  | [d1, d2, d3] => { results := [.lit (.bool false)], args := [d1, d2, d3] }
  | _ => none }
def MatrixHoldsWrongFalsely : Prop := matrixHoldsRow.holds Try.pinned (OpenSpec.ofChange matrixHoldsWrong)

/-- 'erasurelaw02.MatrixSteps': WHATEVER THE INPUT: true; the input reads as it did. -/
def matrixStepsSpec : ChangeSpec := { name := "matrixSteps", fn := fun _ => fun
  | [d1, d2, d3] => { results := [.lit (.bool true)], args := [d1, d2, d3] }
  | _ => none }
def matrixStepsRow : OpenClaim := { program := "ytdefmjofnceckaa", sum := "b461a316f3cc520ccea72e15d496ae2a8fd3bc75aeeba59524264b93b1c8203e", func := "erasure/erasurelaw02.MatrixSteps", spec := "matrixSteps", inPlace := ["math/bits.Add64", "math/bits.Sub64"], unfollowed := true, recurses := true, named := ["math/bits.divideError", "math/bits.overflowError"], apart := false }
def MatrixStepsSaid : Prop := matrixStepsRow.holds Try.pinned (OpenSpec.ofChange matrixStepsSpec)

/-- ITS FALSE NEIGHBOUR: 'it returns false'. Refute it at one input. -/
def matrixStepsWrong : ChangeSpec := { name := "matrixSteps", fn := fun _ => fun
  | [d1, d2, d3] => { results := [.lit (.bool false)], args := [d1, d2, d3] }
  | _ => none }
def MatrixStepsWrongFalsely : Prop := matrixStepsRow.holds Try.pinned (OpenSpec.ofChange matrixStepsWrong)

/-- 'erasurelaw02.MatrixAxes': WHATEVER THE INPUT: true; the input reads as it did. -/
def matrixAxesSpec : ChangeSpec := { name := "matrixAxes", fn := fun _ => fun
  | [d] => { results := [.lit (.bool true)], args := [d] }
  | _ => none }
def matrixAxesRow : OpenClaim := { program := "ytdefmjofnceckaa", sum := "b461a316f3cc520ccea72e15d496ae2a8fd3bc75aeeba59524264b93b1c8203e", func := "erasure/erasurelaw02.MatrixAxes", spec := "matrixAxes", inPlace := ["math/bits.Add64", "math/bits.Sub64"], unfollowed := true, recurses := true, named := ["math/bits.divideError", "math/bits.overflowError"], apart := false }
def MatrixAxesSaid : Prop := matrixAxesRow.holds Try.pinned (OpenSpec.ofChange matrixAxesSpec)

/-- ITS FALSE NEIGHBOUR: 'it returns false'. Refute it at one input. -/
def matrixAxesWrong : ChangeSpec := { name := "matrixAxes", fn := fun _ => fun
  | [d] => { results := [.lit (.bool false)], args := [d] }
  | _ => none }
def MatrixAxesWrongFalsely : Prop := matrixAxesRow.holds Try.pinned (OpenSpec.ofChange matrixAxesWrong)

/- THE SECOND FORM. 'bulk': how many values and letters a reading holds, each counted each time it is reached (what is shared counts as often as it is met; a slice's spare places count too). A statement '..UptoSaid' is the law's where the arguments, and the package variables that the reading takes, are together of bulk at most 1048576: NARROWER than '..Said'. Prove '..Said' where nothing that the law and all that it calls make is longer than what came in: it says more and counts as full. Else prove '..UptoSaid'. A law counts once. -/
mutual
def uptoBulk {H : Type} : DataW H → Nat
  | .lit (.string bytes) => bytes.length + 1
  | .lit _ => 1
  | .nil => 1
  | .ptr d => uptoBulk d + 1
  | .slice elems spare => uptoBulkAll elems + uptoBulkAll spare + 1
  | .agg parts => uptoBulkAll parts + 1
  | .iface _ d => uptoBulk d + 1
  | .map entries => uptoBulkEntries entries + 1
  | .held _ => 1
def uptoBulkAll {H : Type} : List (DataW H) → Nat
  | [] => 0
  | d :: r => uptoBulk d + uptoBulkAll r
def uptoBulkEntries {H : Type} : List (Lit × DataW H) → Nat
  | [] => 0
  | x :: r => uptoBulkEntry x + uptoBulkEntries r
def uptoBulkEntry {H : Type} : Lit × DataW H → Nat
  | (.string bytes, d) => bytes.length + uptoBulk d + 1
  | (_, d) => uptoBulk d + 1
 end
def uptoSmall : (H : Type) → List (DataW H) → Bool := fun _ ds => decide (uptoBulkAll ds ≤ 1048576)
def OpenSpec.upto (s : _root_.Go.ChangeSpec) : _root_.Go.OpenSpec := { _root_.Go.OpenSpec.ofChange s with cond := some uptoSmall }

/-- 'erasurelaw02.MatrixDoes', WHERE WHAT IT READS IS OF BULK AT MOST 1048576: true; the input reads as it did. -/
def matrixDoesUptoRow : OpenClaim := { program := "ytdefmjofnceckaa", sum := "b461a316f3cc520ccea72e15d496ae2a8fd3bc75aeeba59524264b93b1c8203e", func := "erasure/erasurelaw02.MatrixDoes", spec := "matrixDoes", inPlace := ["math/bits.Add64", "math/bits.Sub64"], unfollowed := true, recurses := true, named := ["math/bits.divideError", "math/bits.overflowError"], apart := false, narrowed := true }
def MatrixDoesUptoSaid : Prop := matrixDoesUptoRow.holds Try.pinned (OpenSpec.upto matrixDoesSpec)

/-- 'erasurelaw02.MatrixMaps', WHERE WHAT IT READS IS OF BULK AT MOST 1048576: true; the input reads as it did. -/
def matrixMapsUptoRow : OpenClaim := { program := "ytdefmjofnceckaa", sum := "b461a316f3cc520ccea72e15d496ae2a8fd3bc75aeeba59524264b93b1c8203e", func := "erasure/erasurelaw02.MatrixMaps", spec := "matrixMaps", inPlace := ["math/bits.Add64", "math/bits.Sub64"], unfollowed := true, recurses := true, named := ["math/bits.divideError", "math/bits.overflowError"], apart := false, narrowed := true }
def MatrixMapsUptoSaid : Prop := matrixMapsUptoRow.holds Try.pinned (OpenSpec.upto matrixMapsSpec)

/-- 'erasurelaw02.MatrixHolds', WHERE WHAT IT READS IS OF BULK AT MOST 1048576: true; the input reads as it did. -/
def matrixHoldsUptoRow : OpenClaim := { program := "ytdefmjofnceckaa", sum := "b461a316f3cc520ccea72e15d496ae2a8fd3bc75aeeba59524264b93b1c8203e", func := "erasure/erasurelaw02.MatrixHolds", spec := "matrixHolds", inPlace := ["math/bits.Add64", "math/bits.Sub64"], unfollowed := true, recurses := true, named := ["math/bits.divideError", "math/bits.overflowError"], apart := false, narrowed := true }
def MatrixHoldsUptoSaid : Prop := matrixHoldsUptoRow.holds Try.pinned (OpenSpec.upto matrixHoldsSpec)

/-- 'erasurelaw02.MatrixSteps', WHERE WHAT IT READS IS OF BULK AT MOST 1048576: true; the input reads as it did. -/
def matrixStepsUptoRow : OpenClaim := { program := "ytdefmjofnceckaa", sum := "b461a316f3cc520ccea72e15d496ae2a8fd3bc75aeeba59524264b93b1c8203e", func := "erasure/erasurelaw02.MatrixSteps", spec := "matrixSteps", inPlace := ["math/bits.Add64", "math/bits.Sub64"], unfollowed := true, recurses := true, named := ["math/bits.divideError", "math/bits.overflowError"], apart := false, narrowed := true }
def MatrixStepsUptoSaid : Prop := matrixStepsUptoRow.holds Try.pinned (OpenSpec.upto matrixStepsSpec)

/-- 'erasurelaw02.MatrixAxes', WHERE WHAT IT READS IS OF BULK AT MOST 1048576: true; the input reads as it did. -/
def matrixAxesUptoRow : OpenClaim := { program := "ytdefmjofnceckaa", sum := "b461a316f3cc520ccea72e15d496ae2a8fd3bc75aeeba59524264b93b1c8203e", func := "erasure/erasurelaw02.MatrixAxes", spec := "matrixAxes", inPlace := ["math/bits.Add64", "math/bits.Sub64"], unfollowed := true, recurses := true, named := ["math/bits.divideError", "math/bits.overflowError"], apart := false, narrowed := true }
def MatrixAxesUptoSaid : Prop := matrixAxesUptoRow.holds Try.pinned (OpenSpec.upto matrixAxesSpec)

end Rows
end Go.Proofs.Ytdefmjofnceckaa
