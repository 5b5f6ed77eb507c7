/-
  No cell of these rows narrows 'for every input' (looked for: loops, veiled, ifaces, maps, wideKeys, modest, calm, conditions, laid).
  DERIVED. THE GIVEN ROWS OF THIS SEAT. 4 by the template 'for every input the law returns true; each argument reads behind the call as it read before'; 0 by the template 'total and deterministic' (their statements: YtdakkfohpjjhkaaTotals.lean).
  GIVEN WITH THE SEED: the statements are not yours to turn. If you find one false, say at which input.
  Laid BY PROGRAM, IN A SANDBOX (cutbox-rows.mjs): the forced cells as the released guide's own fill.sh prints them over the translation 6cab6a06f7b9e2ea… (all of the seat's roots in one cut). By AI agents, Wed Nov 11 2026. No macro, syntax, notation, axiom, sorry.
-/
import Derived.Test.YtdakkfohpjjhkaaChecked
import GoSem.Claim
import GoSem.ClaimJoined
import GoSem.ClaimMapViews
import Derived.JoinedTies
import Derived.KernelRfl
namespace Go.Proofs.Ytdakkfohpjjhkaa
/- THE CELL 'sum', in the pinned program and in every row, IS THE sha256 OF THE DUMP (.gsa) THAT YtdakkfohpjjhkaaProg.lean LOADS. Nothing in Lean hashes anything: it is a label: what it is worth is what the hold of that sum in a sandbox is worth. -/
noncomputable def Try.pinned : Pinned := { name := "ytdakkfohpjjhkaa", sum := "6cab6a06f7b9e2ea7fa2a98eb6e8513270a0f8dfd2172b4125c3b62a86c6e996", checked := Try.checked }
namespace Rows
def none {H : Type} : Left H := { results := [], args := [] }

/-- 'erasurelaw03.BoxApart': WHATEVER THE INPUT: true; the input reads as it did. -/
def boxApartSpec : ChangeSpec := { name := "boxApart", fn := fun _ => fun
  | [d1, d2] => { results := [.lit (.bool true)], args := [d1, d2] }
  | _ => none }
def boxApartRow : OpenClaim := { program := "ytdakkfohpjjhkaa", sum := "6cab6a06f7b9e2ea7fa2a98eb6e8513270a0f8dfd2172b4125c3b62a86c6e996", func := "erasure/erasurelaw03.BoxApart", spec := "boxApart", inPlace := ["math/bits.Add64", "math/bits.Sub64"], unfollowed := true, recurses := true, named := ["math/bits.divideError", "math/bits.overflowError"], apart := false }
def BoxApartSaid : Prop := boxApartRow.holds Try.pinned (OpenSpec.ofChange boxApartSpec)

/-- ITS FALSE NEIGHBOUR: 'it returns false'. Refute it at one input. -/
def boxApartWrong : ChangeSpec := { name := "boxApart", fn := fun _ => fun
  | [d1, d2] => { results := [.lit (.bool false)], args := [d1, d2] }
  | _ => none }
def BoxApartWrongFalsely : Prop := boxApartRow.holds Try.pinned (OpenSpec.ofChange boxApartWrong)

/-- 'erasurelaw03.BoxDoes': WHATEVER THE INPUT: true; the input reads as it did. -/
def boxDoesSpec : ChangeSpec := { name := "boxDoes", fn := fun _ => fun
  | [d1, d2, d3, d4] => { results := [.lit (.bool true)], args := [d1, d2, d3, d4] }
  | _ => none }
def boxDoesRow : OpenClaim := { program := "ytdakkfohpjjhkaa", sum := "6cab6a06f7b9e2ea7fa2a98eb6e8513270a0f8dfd2172b4125c3b62a86c6e996", func := "erasure/erasurelaw03.BoxDoes", spec := "boxDoes", inPlace := ["math/bits.Add64", "math/bits.Sub64"], unfollowed := true, recurses := true, named := ["math/bits.divideError", "math/bits.overflowError"], apart := false }
def BoxDoesSaid : Prop := boxDoesRow.holds Try.pinned (OpenSpec.ofChange boxDoesSpec)

/-- ITS FALSE NEIGHBOUR: 'it returns false'. Refute it at one input. -/
def boxDoesWrong : ChangeSpec := { name := "boxDoes", fn := fun _ => fun
  | [d1, d2, d3, d4] => { results := [.lit (.bool false)], args := [d1, d2, d3, d4] }
  | _ => none }
def BoxDoesWrongFalsely : Prop := boxDoesRow.holds Try.pinned (OpenSpec.ofChange boxDoesWrong)

/-- 'erasurelaw03.BoxMeets': WHATEVER THE INPUT: true; the input reads as it did. -/
def boxMeetsSpec : ChangeSpec := { name := "boxMeets", fn := fun _ => fun
  | [d1, d2, d3] => { results := [.lit (.bool true)], args := [d1, d2, d3] }
  | _ => none }
def boxMeetsRow : OpenClaim := { program := "ytdakkfohpjjhkaa", sum := "6cab6a06f7b9e2ea7fa2a98eb6e8513270a0f8dfd2172b4125c3b62a86c6e996", func := "erasure/erasurelaw03.BoxMeets", spec := "boxMeets", inPlace := ["math/bits.Add64", "math/bits.Sub64"], unfollowed := true, recurses := true, named := ["math/bits.divideError", "math/bits.overflowError"], apart := false }
def BoxMeetsSaid : Prop := boxMeetsRow.holds Try.pinned (OpenSpec.ofChange boxMeetsSpec)

/-- ITS FALSE NEIGHBOUR: 'it returns false'. Refute it at one input. -/
def boxMeetsWrong : ChangeSpec := { name := "boxMeets", fn := fun _ => fun
  | [d1, d2, d3] => { results := [.lit (.bool false)], args := [d1, d2, d3] }
  | _ => none }
def BoxMeetsWrongFalsely : Prop := boxMeetsRow.holds Try.pinned (OpenSpec.ofChange boxMeetsWrong)

/-- 'erasurelaw03.BoxHolds': WHATEVER THE INPUT: true; the input reads as it did. -/
def boxHoldsSpec : ChangeSpec := { name := "boxHolds", fn := fun _ => fun
  | [d1, d2] => { results := [.lit (.bool true)], args := [d1, d2] }
  | _ => none }
def boxHoldsRow : OpenClaim := { program := "ytdakkfohpjjhkaa", sum := "6cab6a06f7b9e2ea7fa2a98eb6e8513270a0f8dfd2172b4125c3b62a86c6e996", func := "erasure/erasurelaw03.BoxHolds", spec := "boxHolds", inPlace := ["math/bits.Add64", "math/bits.Sub64"], unfollowed := true, recurses := true, named := ["math/bits.divideError", "math/bits.overflowError"], apart := false }
def BoxHoldsSaid : Prop := boxHoldsRow.holds Try.pinned (OpenSpec.ofChange boxHoldsSpec)

/-- ITS FALSE NEIGHBOUR: 'it returns false'. Refute it at one input. -/
def boxHoldsWrong : ChangeSpec := { name := "boxHolds", fn := fun _ => fun
  | [d1, d2] => { results := [.lit (.bool false)], args := [d1, d2] }
  | _ => none }
def BoxHoldsWrongFalsely : Prop := boxHoldsRow.holds Try.pinned (OpenSpec.ofChange boxHoldsWrong)

/- THE SECOND FORM. 'bulk': how many values and letters a reading holds, each counted each time it is reached (what is shared counts as often as it is met; a slice's spare places count too). A statement '..UptoSaid' is the law's where the arguments, and the package variables that the reading takes, are together of bulk at most 1048576: NARROWER than '..Said'. Prove '..Said' where nothing that the law and all that it calls make is longer than what came in: it says more and counts as full. Else prove '..UptoSaid'. A law counts once. -/
mutual
def uptoBulk {H : Type} : DataW H → Nat
  | .lit (.string bytes) => bytes.length + 1
  | .lit _ => 1
  | .nil => 1
  | .ptr d => uptoBulk d + 1
  | .slice elems spare => uptoBulkAll elems + uptoBulkAll spare + 1
  | .agg parts => uptoBulkAll parts + 1
  | .iface _ d => uptoBulk d + 1
  | .map entries => uptoBulkEntries entries + 1
  | .held _ => 1
def uptoBulkAll {H : Type} : List (DataW H) → Nat
  | [] => 0
  | d :: r => uptoBulk d + uptoBulkAll r
def uptoBulkEntries {H : Type} : List (Lit × DataW H) → Nat
  | [] => 0
  | x :: r => uptoBulkEntry x + uptoBulkEntries r
def uptoBulkEntry {H : Type} : Lit × DataW H → Nat
  | (.string bytes, d) => bytes.length + uptoBulk d + 1
  | (_, d) => uptoBulk d + 1
 end
def uptoSmall : (H : Type) → List (DataW H) → Bool := fun _ ds => decide (uptoBulkAll ds ≤ 1048576)
def OpenSpec.upto (s : _root_.Go.ChangeSpec) : _root_.Go.OpenSpec := { _root_.Go.OpenSpec.ofChange s with cond := some uptoSmall }

/-- 'erasurelaw03.BoxApart', WHERE WHAT IT READS IS OF BULK AT MOST 1048576: true; the input reads as it did. -/
def boxApartUptoRow : OpenClaim := { program := "ytdakkfohpjjhkaa", sum := "6cab6a06f7b9e2ea7fa2a98eb6e8513270a0f8dfd2172b4125c3b62a86c6e996", func := "erasure/erasurelaw03.BoxApart", spec := "boxApart", inPlace := ["math/bits.Add64", "math/bits.Sub64"], unfollowed := true, recurses := true, named := ["math/bits.divideError", "math/bits.overflowError"], apart := false, narrowed := true }
def BoxApartUptoSaid : Prop := boxApartUptoRow.holds Try.pinned (OpenSpec.upto boxApartSpec)

/-- 'erasurelaw03.BoxDoes', WHERE WHAT IT READS IS OF BULK AT MOST 1048576: true; the input reads as it did. -/
def boxDoesUptoRow : OpenClaim := { program := "ytdakkfohpjjhkaa", sum := "6cab6a06f7b9e2ea7fa2a98eb6e8513270a0f8dfd2172b4125c3b62a86c6e996", func := "erasure/erasurelaw03.BoxDoes", spec := "boxDoes", inPlace := ["math/bits.Add64", "math/bits.Sub64"], unfollowed := true, recurses := true, named := ["math/bits.divideError", "math/bits.overflowError"], apart := false, narrowed := true }
def BoxDoesUptoSaid : Prop := boxDoesUptoRow.holds Try.pinned (OpenSpec.upto boxDoesSpec)

/-- 'erasurelaw03.BoxMeets', WHERE WHAT IT READS IS OF BULK AT MOST 1048576: true; the input reads as it did. -/
def boxMeetsUptoRow : OpenClaim := { program := "ytdakkfohpjjhkaa", sum := "6cab6a06f7b9e2ea7fa2a98eb6e8513270a0f8dfd2172b4125c3b62a86c6e996", func := "erasure/erasurelaw03.BoxMeets", spec := "boxMeets", inPlace := ["math/bits.Add64", "math/bits.Sub64"], unfollowed := true, recurses := true, named := ["math/bits.divideError", "math/bits.overflowError"], apart := false, narrowed := true }
def BoxMeetsUptoSaid : Prop := boxMeetsUptoRow.holds Try.pinned (OpenSpec.upto boxMeetsSpec)

/-- 'erasurelaw03.BoxHolds', WHERE WHAT IT READS IS OF BULK AT MOST 1048576: true; the input reads as it did. -/
def boxHoldsUptoRow : OpenClaim := { program := "ytdakkfohpjjhkaa", sum := "6cab6a06f7b9e2ea7fa2a98eb6e8513270a0f8dfd2172b4125c3b62a86c6e996", func := "erasure/erasurelaw03.BoxHolds", spec := "boxHolds", inPlace := ["math/bits.Add64", "math/bits.Sub64"], unfollowed := true, recurses := true, named := ["math/bits.divideError", "math/bits.overflowError"], apart := false, narrowed := true }
def BoxHoldsUptoSaid : Prop := boxHoldsUptoRow.holds Try.pinned (OpenSpec.upto boxHoldsSpec)

end Rows
end Go.Proofs.Ytdakkfohpjjhkaa
