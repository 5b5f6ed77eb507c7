/-
  No cell of these rows narrows 'for every input' (looked for: loops, veiled, ifaces, maps, wideKeys, modest, calm, conditions, laid).
  DERIVED. THE GIVEN ROWS OF THIS SEAT. 4 by the template 'for every input the law returns true; each argument reads behind the call as it read before'; 0 by the template 'total and deterministic' (their statements: YtibeakoeoinkjaaTotals.lean).
  GIVEN WITH THE SEED: the statements are not yours to turn. If you find one false, say at which input.
  Laid BY PROGRAM, IN A SANDBOX (cutbox-rows.mjs): the forced cells as the released guide's own fill.sh prints them over the translation bd0d98077a859ff7… (all of the seat's roots in one cut). By AI agents, Wed Nov 11 2026. No macro, syntax, notation, axiom, sorry.
-/
import Derived.Test.YtibeakoeoinkjaaChecked
import GoSem.Claim
import GoSem.ClaimJoined
import GoSem.ClaimMapViews
import Derived.JoinedTies
import Derived.KernelRfl
namespace Go.Proofs.Ytibeakoeoinkjaa
/- THE CELL 'sum', in the pinned program and in every row, IS THE sha256 OF THE DUMP (.gsa) THAT YtibeakoeoinkjaaProg.lean LOADS. Nothing in Lean hashes anything: it is a label: what it is worth is what the hold of that sum in a sandbox is worth. -/
noncomputable def Try.pinned : Pinned := { name := "ytibeakoeoinkjaa", sum := "bd0d98077a859ff7e4f87479cea41ac3a8bf5c870394c36f197b39522e8ad0ed", checked := Try.checked }
namespace Rows
def none {H : Type} : Left H := { results := [], args := [] }

/-- 'erasurelaw06.InflateExpands': WHATEVER THE INPUT: true; the input reads as it did. -/
def inflateExpandsSpec : ChangeSpec := { name := "inflateExpands", fn := fun _ => fun
  | [d1, d2] => { results := [.lit (.bool true)], args := [d1, d2] }
  | _ => none }
def inflateExpandsRow : OpenClaim := { program := "ytibeakoeoinkjaa", sum := "bd0d98077a859ff7e4f87479cea41ac3a8bf5c870394c36f197b39522e8ad0ed", func := "erasure/erasurelaw06.InflateExpands", spec := "inflateExpands", unfollowed := true, recurses := true, apart := false }
def InflateExpandsSaid : Prop := inflateExpandsRow.holds Try.pinned (OpenSpec.ofChange inflateExpandsSpec)

/-- ITS FALSE NEIGHBOUR: 'it returns false'. Refute it at one input. -/
def inflateExpandsWrong : ChangeSpec := { name := "inflateExpands", fn := fun _ => fun
  | [d1, d2] => { results := [.lit (.bool false)], args := [d1, d2] }
  | _ => none }
def InflateExpandsWrongFalsely : Prop := inflateExpandsRow.holds Try.pinned (OpenSpec.ofChange inflateExpandsWrong)

/-- 'erasurelaw06.InflateRest': WHATEVER THE INPUT: true; the input reads as it did. -/
def inflateRestSpec : ChangeSpec := { name := "inflateRest", fn := fun _ => fun
  | [d1, d2, d3, d4] => { results := [.lit (.bool true)], args := [d1, d2, d3, d4] }
  | _ => none }
def inflateRestRow : OpenClaim := { program := "ytibeakoeoinkjaa", sum := "bd0d98077a859ff7e4f87479cea41ac3a8bf5c870394c36f197b39522e8ad0ed", func := "erasure/erasurelaw06.InflateRest", spec := "inflateRest", unfollowed := true, recurses := true, apart := false }
def InflateRestSaid : Prop := inflateRestRow.holds Try.pinned (OpenSpec.ofChange inflateRestSpec)

/-- ITS FALSE NEIGHBOUR: 'it returns false'. Refute it at one input. -/
def inflateRestWrong : ChangeSpec := { name := "inflateRest", fn := fun _ => fun
  | [d1, d2, d3, d4] => { results := [.lit (.bool false)], args := [d1, d2, d3, d4] }
  | _ => none }
def InflateRestWrongFalsely : Prop := inflateRestRow.holds Try.pinned (OpenSpec.ofChange inflateRestWrong)

/-- 'erasurelaw06.InflateStored': WHATEVER THE INPUT: true; the input reads as it did. -/
def inflateStoredSpec : ChangeSpec := { name := "inflateStored", fn := fun _ => fun
  | [d] => { results := [.lit (.bool true)], args := [d] }
  | _ => none }
def inflateStoredRow : OpenClaim := { program := "ytibeakoeoinkjaa", sum := "bd0d98077a859ff7e4f87479cea41ac3a8bf5c870394c36f197b39522e8ad0ed", func := "erasure/erasurelaw06.InflateStored", spec := "inflateStored", unfollowed := true, recurses := true, apart := false }
def InflateStoredSaid : Prop := inflateStoredRow.holds Try.pinned (OpenSpec.ofChange inflateStoredSpec)

/-- ITS FALSE NEIGHBOUR: 'it returns false'. Refute it at one input. -/
def inflateStoredWrong : ChangeSpec := { name := "inflateStored", fn := fun _ => fun
  | [d] => { results := [.lit (.bool false)], args := [d] }
  | _ => none }
def InflateStoredWrongFalsely : Prop := inflateStoredRow.holds Try.pinned (OpenSpec.ofChange inflateStoredWrong)

/-- 'erasurelaw06.InflateTokens': WHATEVER THE INPUT: true; the input reads as it did. -/
def inflateTokensSpec : ChangeSpec := { name := "inflateTokens", fn := fun _ => fun
  | [d1, d2] => { results := [.lit (.bool true)], args := [d1, d2] }
  | _ => none }
def inflateTokensRow : OpenClaim := { program := "ytibeakoeoinkjaa", sum := "bd0d98077a859ff7e4f87479cea41ac3a8bf5c870394c36f197b39522e8ad0ed", func := "erasure/erasurelaw06.InflateTokens", spec := "inflateTokens", unfollowed := true, recurses := true, apart := false }
def InflateTokensSaid : Prop := inflateTokensRow.holds Try.pinned (OpenSpec.ofChange inflateTokensSpec)

/-- ITS FALSE NEIGHBOUR: 'it returns false'. Refute it at one input. -/
def inflateTokensWrong : ChangeSpec := { name := "inflateTokens", fn := fun _ => fun
  | [d1, d2] => { results := [.lit (.bool false)], args := [d1, d2] }
  | _ => none }
def InflateTokensWrongFalsely : Prop := inflateTokensRow.holds Try.pinned (OpenSpec.ofChange inflateTokensWrong)

/- THE SECOND FORM. 'bulk': how many values and letters a reading holds, each counted each time it is reached (what is shared counts as often as it is met; a slice's spare places count too). A statement '..UptoSaid' is the law's where the arguments, and the package variables that the reading takes, are together of bulk at most 1048576: NARROWER than '..Said'. Prove '..Said' where nothing that the law and all that it calls make is longer than what came in: it says more and counts as full. Else prove '..UptoSaid'. A law counts once. -/
mutual
def uptoBulk {H : Type} : DataW H → Nat
  | .lit (.string bytes) => bytes.length + 1
  | .lit _ => 1
  | .nil => 1
  | .ptr d => uptoBulk d + 1
  | .slice elems spare => uptoBulkAll elems + uptoBulkAll spare + 1
  | .agg parts => uptoBulkAll parts + 1
  | .iface _ d => uptoBulk d + 1
  | .map entries => uptoBulkEntries entries + 1
  | .held _ => 1
def uptoBulkAll {H : Type} : List (DataW H) → Nat
  | [] => 0
  | d :: r => uptoBulk d + uptoBulkAll r
def uptoBulkEntries {H : Type} : List (Lit × DataW H) → Nat
  | [] => 0
  | x :: r => uptoBulkEntry x + uptoBulkEntries r
def uptoBulkEntry {H : Type} : Lit × DataW H → Nat
  | (.string bytes, d) => bytes.length + uptoBulk d + 1
  | (_, d) => uptoBulk d + 1
 end
def uptoSmall : (H : Type) → List (DataW H) → Bool := fun _ ds => decide (uptoBulkAll ds ≤ 1048576)
def OpenSpec.upto (s : _root_.Go.ChangeSpec) : _root_.Go.OpenSpec := { _root_.Go.OpenSpec.ofChange s with cond := some uptoSmall }

/-- 'erasurelaw06.InflateExpands', WHERE WHAT IT READS IS OF BULK AT MOST 1048576: true; the input reads as it did. -/
def inflateExpandsUptoRow : OpenClaim := { program := "ytibeakoeoinkjaa", sum := "bd0d98077a859ff7e4f87479cea41ac3a8bf5c870394c36f197b39522e8ad0ed", func := "erasure/erasurelaw06.InflateExpands", spec := "inflateExpands", unfollowed := true, recurses := true, apart := false, narrowed := true }
def InflateExpandsUptoSaid : Prop := inflateExpandsUptoRow.holds Try.pinned (OpenSpec.upto inflateExpandsSpec)

/-- 'erasurelaw06.InflateRest', WHERE WHAT IT READS IS OF BULK AT MOST 1048576: true; the input reads as it did. -/
def inflateRestUptoRow : OpenClaim := { program := "ytibeakoeoinkjaa", sum := "bd0d98077a859ff7e4f87479cea41ac3a8bf5c870394c36f197b39522e8ad0ed", func := "erasure/erasurelaw06.InflateRest", spec := "inflateRest", unfollowed := true, recurses := true, apart := false, narrowed := true }
def InflateRestUptoSaid : Prop := inflateRestUptoRow.holds Try.pinned (OpenSpec.upto inflateRestSpec)

/-- 'erasurelaw06.InflateStored', WHERE WHAT IT READS IS OF BULK AT MOST 1048576: true; the input reads as it did. -/
def inflateStoredUptoRow : OpenClaim := { program := "ytibeakoeoinkjaa", sum := "bd0d98077a859ff7e4f87479cea41ac3a8bf5c870394c36f197b39522e8ad0ed", func := "erasure/erasurelaw06.InflateStored", spec := "inflateStored", unfollowed := true, recurses := true, apart := false, narrowed := true }
def InflateStoredUptoSaid : Prop := inflateStoredUptoRow.holds Try.pinned (OpenSpec.upto inflateStoredSpec)

/-- 'erasurelaw06.InflateTokens', WHERE WHAT IT READS IS OF BULK AT MOST 1048576: true; the input reads as it did. -/
def inflateTokensUptoRow : OpenClaim := { program := "ytibeakoeoinkjaa", sum := "bd0d98077a859ff7e4f87479cea41ac3a8bf5c870394c36f197b39522e8ad0ed", func := "erasure/erasurelaw06.InflateTokens", spec := "inflateTokens", unfollowed := true, recurses := true, apart := false, narrowed := true }
def InflateTokensUptoSaid : Prop := inflateTokensUptoRow.holds Try.pinned (OpenSpec.upto inflateTokensSpec)

end Rows
end Go.Proofs.Ytibeakoeoinkjaa
