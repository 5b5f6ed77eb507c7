/-
  No cell of these rows narrows 'for every input' (looked for: loops, veiled, ifaces, maps, wideKeys, modest, calm, conditions, laid).
  DERIVED. THE GIVEN ROWS OF THIS SEAT. 4 by the template 'for every input the law returns true; each argument reads behind the call as it read before'; 0 by the template 'total and deterministic' (their statements: YtnnmploddnnamaaTotals.lean).
  GIVEN WITH THE SEED: the statements are not yours to turn. If you find one false, say at which input.
  Laid BY PROGRAM, IN A SANDBOX (cutbox-rows.mjs): the forced cells as the released guide's own fill.sh prints them over the translation 61611c2cf7df143e… (all of the seat's roots in one cut). By AI agents, Wed Nov 11 2026. No macro, syntax, notation, axiom, sorry.
-/
import Derived.Test.YtnnmploddnnamaaChecked
import GoSem.Claim
import GoSem.ClaimJoined
import GoSem.ClaimMapViews
import Derived.JoinedTies
import Derived.KernelRfl
namespace Go.Proofs.Ytnnmploddnnamaa
/- THE CELL 'sum', in the pinned program and in every row, IS THE sha256 OF THE DUMP (.gsa) THAT YtnnmploddnnamaaProg.lean LOADS. Nothing in Lean hashes anything: it is a label: what it is worth is what the hold of that sum in a sandbox is worth. -/
noncomputable def Try.pinned : Pinned := { name := "ytnnmploddnnamaa", sum := "61611c2cf7df143e7d448cfff4bbc336a2ff6e7dbb535a2affbef222b88b5923", checked := Try.checked }
namespace Rows
def none {H : Type} : Left H := { results := [], args := [] }

/-- 'erasurelaw09.PredictDoes': WHATEVER THE INPUT: true; the input reads as it did. -/
def predictDoesSpec : ChangeSpec := { name := "predictDoes", fn := fun _ => fun
  | [d1, d2, d3] => { results := [.lit (.bool true)], args := [d1, d2, d3] }
  | _ => none }
def predictDoesRow : OpenClaim := { program := "ytnnmploddnnamaa", sum := "61611c2cf7df143e7d448cfff4bbc336a2ff6e7dbb535a2affbef222b88b5923", func := "erasure/erasurelaw09.PredictDoes", spec := "predictDoes", unfollowed := true, recurses := true, apart := false }
def PredictDoesSaid : Prop := predictDoesRow.holds Try.pinned (OpenSpec.ofChange predictDoesSpec)

/-- ITS FALSE NEIGHBOUR: 'it returns false'. Refute it at one input. -/
def predictDoesWrong : ChangeSpec := { name := "predictDoes", fn := fun _ => fun
  | [d1, d2, d3] => { results := [.lit (.bool false)], args := [d1, d2, d3] }
  | _ => none }
def PredictDoesWrongFalsely : Prop := predictDoesRow.holds Try.pinned (OpenSpec.ofChange predictDoesWrong)

/-- 'erasurelaw09.PredictBack': WHATEVER THE INPUT: true; the input reads as it did. -/
def predictBackSpec : ChangeSpec := { name := "predictBack", fn := fun _ => fun
  | [d1, d2, d3] => { results := [.lit (.bool true)], args := [d1, d2, d3] }
  | _ => none }
def predictBackRow : OpenClaim := { program := "ytnnmploddnnamaa", sum := "61611c2cf7df143e7d448cfff4bbc336a2ff6e7dbb535a2affbef222b88b5923", func := "erasure/erasurelaw09.PredictBack", spec := "predictBack", unfollowed := true, recurses := true, apart := false }
def PredictBackSaid : Prop := predictBackRow.holds Try.pinned (OpenSpec.ofChange predictBackSpec)

/-- ITS FALSE NEIGHBOUR: 'it returns false'. Refute it at one input. -/
def predictBackWrong : ChangeSpec := { name := "predictBack", fn := fun _ => fun
  | [d1, d2, d3] => { results := [.lit (.bool false)], args := [d1, d2, d3] }
  | _ => none }
def PredictBackWrongFalsely : Prop := predictBackRow.holds Try.pinned (OpenSpec.ofChange predictBackWrong)

/-- 'erasurelaw09.PredictPlain': WHATEVER THE INPUT: true; the input reads as it did. -/
def predictPlainSpec : ChangeSpec := { name := "predictPlain", fn := fun _ => fun
  | [d1, d2, d3, d4] => { results := [.lit (.bool true)], args := [d1, d2, d3, d4] }
  | _ => none }
def predictPlainRow : OpenClaim := { program := "ytnnmploddnnamaa", sum := "61611c2cf7df143e7d448cfff4bbc336a2ff6e7dbb535a2affbef222b88b5923", func := "erasure/erasurelaw09.PredictPlain", spec := "predictPlain", unfollowed := true, recurses := true, apart := false }
def PredictPlainSaid : Prop := predictPlainRow.holds Try.pinned (OpenSpec.ofChange predictPlainSpec)

/-- ITS FALSE NEIGHBOUR: 'it returns false'. Refute it at one input. -/
def predictPlainWrong : ChangeSpec := { name := "predictPlain", fn := fun _ => fun
  | [d1, d2, d3, d4] => { results := [.lit (.bool false)], args := [d1, d2, d3, d4] }
  | _ => none }
def PredictPlainWrongFalsely : Prop := predictPlainRow.holds Try.pinned (OpenSpec.ofChange predictPlainWrong)

/-- 'erasurelaw09.PredictUp': WHATEVER THE INPUT: true; the input reads as it did. -/
def predictUpSpec : ChangeSpec := { name := "predictUp", fn := fun _ => fun
  | [d1, d2] => { results := [.lit (.bool true)], args := [d1, d2] }
  | _ => none }
def predictUpRow : OpenClaim := { program := "ytnnmploddnnamaa", sum := "61611c2cf7df143e7d448cfff4bbc336a2ff6e7dbb535a2affbef222b88b5923", func := "erasure/erasurelaw09.PredictUp", spec := "predictUp", unfollowed := true, recurses := true, apart := false }
def PredictUpSaid : Prop := predictUpRow.holds Try.pinned (OpenSpec.ofChange predictUpSpec)

/-- ITS FALSE NEIGHBOUR: 'it returns false'. Refute it at one input. -/
def predictUpWrong : ChangeSpec := { name := "predictUp", fn := fun _ => fun
  | [d1, d2] => { results := [.lit (.bool false)], args := [d1, d2] }
  | _ => none }
def PredictUpWrongFalsely : Prop := predictUpRow.holds Try.pinned (OpenSpec.ofChange predictUpWrong)

/- THE SECOND FORM. 'bulk': how many values and letters a reading holds, each counted each time it is reached (what is shared counts as often as it is met; a slice's spare places count too). A statement '..UptoSaid' is the law's where the arguments, and the package variables that the reading takes, are together of bulk at most 1048576: NARROWER than '..Said'. Prove '..Said' where nothing that the law and all that it calls make is longer than what came in: it says more and counts as full. Else prove '..UptoSaid'. A law counts once. -/
mutual
def uptoBulk {H : Type} : DataW H → Nat
  | .lit (.string bytes) => bytes.length + 1
  | .lit _ => 1
  | .nil => 1
  | .ptr d => uptoBulk d + 1
  | .slice elems spare => uptoBulkAll elems + uptoBulkAll spare + 1
  | .agg parts => uptoBulkAll parts + 1
  | .iface _ d => uptoBulk d + 1
  | .map entries => uptoBulkEntries entries + 1
  | .held _ => 1
def uptoBulkAll {H : Type} : List (DataW H) → Nat
  | [] => 0
  | d :: r => uptoBulk d + uptoBulkAll r
def uptoBulkEntries {H : Type} : List (Lit × DataW H) → Nat
  | [] => 0
  | x :: r => uptoBulkEntry x + uptoBulkEntries r
def uptoBulkEntry {H : Type} : Lit × DataW H → Nat
  | (.string bytes, d) => bytes.length + uptoBulk d + 1
  | (_, d) => uptoBulk d + 1
 end
def uptoSmall : (H : Type) → List (DataW H) → Bool := fun _ ds => decide (uptoBulkAll ds ≤ 1048576)
def OpenSpec.upto (s : _root_.Go.ChangeSpec) : _root_.Go.OpenSpec := { _root_.Go.OpenSpec.ofChange s with cond := some uptoSmall }

/-- 'erasurelaw09.PredictDoes', WHERE WHAT IT READS IS OF BULK AT MOST 1048576: true; the input reads as it did. -/
def predictDoesUptoRow : OpenClaim := { program := "ytnnmploddnnamaa", sum := "61611c2cf7df143e7d448cfff4bbc336a2ff6e7dbb535a2affbef222b88b5923", func := "erasure/erasurelaw09.PredictDoes", spec := "predictDoes", unfollowed := true, recurses := true, apart := false, narrowed := true }
def PredictDoesUptoSaid : Prop := predictDoesUptoRow.holds Try.pinned (OpenSpec.upto predictDoesSpec)

/-- 'erasurelaw09.PredictBack', WHERE WHAT IT READS IS OF BULK AT MOST 1048576: true; the input reads as it did. -/
def predictBackUptoRow : OpenClaim := { program := "ytnnmploddnnamaa", sum := "61611c2cf7df143e7d448cfff4bbc336a2ff6e7dbb535a2affbef222b88b5923", func := "erasure/erasurelaw09.PredictBack", spec := "predictBack", unfollowed := true, recurses := true, apart := false, narrowed := true }
def PredictBackUptoSaid : Prop := predictBackUptoRow.holds Try.pinned (OpenSpec.upto predictBackSpec)

/-- 'erasurelaw09.PredictPlain', WHERE WHAT IT READS IS OF BULK AT MOST 1048576: true; the input reads as it did. -/
def predictPlainUptoRow : OpenClaim := { program := "ytnnmploddnnamaa", sum := "61611c2cf7df143e7d448cfff4bbc336a2ff6e7dbb535a2affbef222b88b5923", func := "erasure/erasurelaw09.PredictPlain", spec := "predictPlain", unfollowed := true, recurses := true, apart := false, narrowed := true }
def PredictPlainUptoSaid : Prop := predictPlainUptoRow.holds Try.pinned (OpenSpec.upto predictPlainSpec)

/-- 'erasurelaw09.PredictUp', WHERE WHAT IT READS IS OF BULK AT MOST 1048576: true; the input reads as it did. -/
def predictUpUptoRow : OpenClaim := { program := "ytnnmploddnnamaa", sum := "61611c2cf7df143e7d448cfff4bbc336a2ff6e7dbb535a2affbef222b88b5923", func := "erasure/erasurelaw09.PredictUp", spec := "predictUp", unfollowed := true, recurses := true, apart := false, narrowed := true }
def PredictUpUptoSaid : Prop := predictUpUptoRow.holds Try.pinned (OpenSpec.upto predictUpSpec)

end Rows
end Go.Proofs.Ytnnmploddnnamaa
