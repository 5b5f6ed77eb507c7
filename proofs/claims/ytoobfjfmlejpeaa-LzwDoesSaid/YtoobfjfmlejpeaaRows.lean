/-
  No cell of these rows narrows 'for every input' (looked for: loops, veiled, ifaces, maps, wideKeys, modest, calm, conditions, laid).
  DERIVED. THE GIVEN ROWS OF THIS SEAT. 4 by the template 'for every input the law returns true; each argument reads behind the call as it read before'; 0 by the template 'total and deterministic' (their statements: YtoobfjfmlejpeaaTotals.lean).
  GIVEN WITH THE SEED: the statements are not yours to turn. If you find one false, say at which input.
  Laid BY PROGRAM, IN A SANDBOX (cutbox-rows.mjs): the forced cells as the released guide's own fill.sh prints them over the translation dbc5dc13b1774c9e… (all of the seat's roots in one cut). By AI agents, Wed Nov 11 2026. No macro, syntax, notation, axiom, sorry.
-/
import Derived.Test.YtoobfjfmlejpeaaChecked
import GoSem.Claim
import GoSem.ClaimJoined
import GoSem.ClaimMapViews
import Derived.JoinedTies
import Derived.KernelRfl
namespace Go.Proofs.Ytoobfjfmlejpeaa
/- THE CELL 'sum', in the pinned program and in every row, IS THE sha256 OF THE DUMP (.gsa) THAT YtoobfjfmlejpeaaProg.lean LOADS. Nothing in Lean hashes anything: it is a label: what it is worth is what the hold of that sum in a sandbox is worth. -/
noncomputable def Try.pinned : Pinned := { name := "ytoobfjfmlejpeaa", sum := "dbc5dc13b1774c9e20dda2492555b8b2d64e9f6f5fe23261875d8244563485ca", checked := Try.checked }
namespace Rows
def none {H : Type} : Left H := { results := [], args := [] }

/-- 'erasurelaw12.LzwDoes': WHATEVER THE INPUT: true; the input reads as it did. -/
def lzwDoesSpec : ChangeSpec := { name := "lzwDoes", fn := fun _ => fun
  | [d1, d2] => { results := [.lit (.bool true)], args := [d1, d2] }
  | _ => none }
def lzwDoesRow : OpenClaim := { program := "ytoobfjfmlejpeaa", sum := "dbc5dc13b1774c9e20dda2492555b8b2d64e9f6f5fe23261875d8244563485ca", func := "erasure/erasurelaw12.LzwDoes", spec := "lzwDoes", apart := false }
def LzwDoesSaid : Prop := lzwDoesRow.holds Try.pinned (OpenSpec.ofChange lzwDoesSpec)

/-- ITS FALSE NEIGHBOUR: 'it returns false'. Refute it at one input. -/
def lzwDoesWrong : ChangeSpec := { name := "lzwDoes", fn := fun _ => fun
  | [d1, d2] => { results := [.lit (.bool false)], args := [d1, d2] }
  | _ => none }
def LzwDoesWrongFalsely : Prop := lzwDoesRow.holds Try.pinned (OpenSpec.ofChange lzwDoesWrong)

/-- 'erasurelaw12.LzwBack': WHATEVER THE INPUT: true; the input reads as it did. -/
def lzwBackSpec : ChangeSpec := { name := "lzwBack", fn := fun _ => fun
  | [d1, d2, d3] => { results := [.lit (.bool true)], args := [d1, d2, d3] }
  | _ => none }
def lzwBackRow : OpenClaim := { program := "ytoobfjfmlejpeaa", sum := "dbc5dc13b1774c9e20dda2492555b8b2d64e9f6f5fe23261875d8244563485ca", func := "erasure/erasurelaw12.LzwBack", spec := "lzwBack", apart := false }
def LzwBackSaid : Prop := lzwBackRow.holds Try.pinned (OpenSpec.ofChange lzwBackSpec)

/-- ITS FALSE NEIGHBOUR: 'it returns false'. Refute it at one input. -/
def lzwBackWrong : ChangeSpec := { name := "lzwBack", fn := fun _ => fun
  | [d1, d2, d3] => { results := [.lit (.bool false)], args := [d1, d2, d3] }
  | _ => none }
def LzwBackWrongFalsely : Prop := lzwBackRow.holds Try.pinned (OpenSpec.ofChange lzwBackWrong)

/-- 'erasurelaw12.LzwOften': WHATEVER THE INPUT: true; the input reads as it did. -/
def lzwOftenSpec : ChangeSpec := { name := "lzwOften", fn := fun _ => fun
  | [d1, d2] => { results := [.lit (.bool true)], args := [d1, d2] }
  | _ => none }
def lzwOftenRow : OpenClaim := { program := "ytoobfjfmlejpeaa", sum := "dbc5dc13b1774c9e20dda2492555b8b2d64e9f6f5fe23261875d8244563485ca", func := "erasure/erasurelaw12.LzwOften", spec := "lzwOften", apart := false }
def LzwOftenSaid : Prop := lzwOftenRow.holds Try.pinned (OpenSpec.ofChange lzwOftenSpec)

/-- ITS FALSE NEIGHBOUR: 'it returns false'. Refute it at one input. -/
def lzwOftenWrong : ChangeSpec := { name := "lzwOften", fn := fun _ => fun
  | [d1, d2] => { results := [.lit (.bool false)], args := [d1, d2] }
  | _ => none }
def LzwOftenWrongFalsely : Prop := lzwOftenRow.holds Try.pinned (OpenSpec.ofChange lzwOftenWrong)

/-- 'erasurelaw12.LzwPlain': WHATEVER THE INPUT: true; the input reads as it did. -/
def lzwPlainSpec : ChangeSpec := { name := "lzwPlain", fn := fun _ => fun
  | [d] => { results := [.lit (.bool true)], args := [d] }
  | _ => none }
def lzwPlainRow : OpenClaim := { program := "ytoobfjfmlejpeaa", sum := "dbc5dc13b1774c9e20dda2492555b8b2d64e9f6f5fe23261875d8244563485ca", func := "erasure/erasurelaw12.LzwPlain", spec := "lzwPlain", apart := false }
def LzwPlainSaid : Prop := lzwPlainRow.holds Try.pinned (OpenSpec.ofChange lzwPlainSpec)

/-- ITS FALSE NEIGHBOUR: 'it returns false'. Refute it at one input. -/
def lzwPlainWrong : ChangeSpec := { name := "lzwPlain", fn := fun _ => fun
  | [d] => { results := [.lit (.bool false)], args := [d] }
  | _ => none }
def LzwPlainWrongFalsely : Prop := lzwPlainRow.holds Try.pinned (OpenSpec.ofChange lzwPlainWrong)

/- THE SECOND FORM. 'bulk': how many values and letters a reading holds, each counted each time it is reached (what is shared counts as often as it is met; a slice's spare places count too). A statement '..UptoSaid' is the law's where the arguments, and the package variables that the reading takes, are together of bulk at most 1048576: NARROWER than '..Said'. Prove '..Said' where nothing that the law and all that it calls make is longer than what came in: it says more and counts as full. Else prove '..UptoSaid'. A law counts once. -/
mutual
def uptoBulk {H : Type} : DataW H → Nat
  | .lit (.string bytes) => bytes.length + 1
  | .lit _ => 1
  | .nil => 1
  | .ptr d => uptoBulk d + 1
  | .slice elems spare => uptoBulkAll elems + uptoBulkAll spare + 1
  | .agg parts => uptoBulkAll parts + 1
  | .iface _ d => uptoBulk d + 1
  | .map entries => uptoBulkEntries entries + 1
  | .held _ => 1
def uptoBulkAll {H : Type} : List (DataW H) → Nat
  | [] => 0
  | d :: r => uptoBulk d + uptoBulkAll r
def uptoBulkEntries {H : Type} : List (Lit × DataW H) → Nat
  | [] => 0
  | x :: r => uptoBulkEntry x + uptoBulkEntries r
def uptoBulkEntry {H : Type} : Lit × DataW H → Nat
  | (.string bytes, d) => bytes.length + uptoBulk d + 1
  | (_, d) => uptoBulk d + 1
 end
def uptoSmall : (H : Type) → List (DataW H) → Bool := fun _ ds => decide (uptoBulkAll ds ≤ 1048576)
def OpenSpec.upto (s : _root_.Go.ChangeSpec) : _root_.Go.OpenSpec := { _root_.Go.OpenSpec.ofChange s with cond := some uptoSmall }

/-- 'erasurelaw12.LzwDoes', WHERE WHAT IT READS IS OF BULK AT MOST 1048576: true; the input reads as it did. -/
def lzwDoesUptoRow : OpenClaim := { program := "ytoobfjfmlejpeaa", sum := "dbc5dc13b1774c9e20dda2492555b8b2d64e9f6f5fe23261875d8244563485ca", func := "erasure/erasurelaw12.LzwDoes", spec := "lzwDoes", apart := false, narrowed := true }
def LzwDoesUptoSaid : Prop := lzwDoesUptoRow.holds Try.pinned (OpenSpec.upto lzwDoesSpec)

/-- 'erasurelaw12.LzwBack', WHERE WHAT IT READS IS OF BULK AT MOST 1048576: true; the input reads as it did. -/
def lzwBackUptoRow : OpenClaim := { program := "ytoobfjfmlejpeaa", sum := "dbc5dc13b1774c9e20dda2492555b8b2d64e9f6f5fe23261875d8244563485ca", func := "erasure/erasurelaw12.LzwBack", spec := "lzwBack", apart := false, narrowed := true }
def LzwBackUptoSaid : Prop := lzwBackUptoRow.holds Try.pinned (OpenSpec.upto lzwBackSpec)

/-- 'erasurelaw12.LzwOften', WHERE WHAT IT READS IS OF BULK AT MOST 1048576: true; the input reads as it did. -/
def lzwOftenUptoRow : OpenClaim := { program := "ytoobfjfmlejpeaa", sum := "dbc5dc13b1774c9e20dda2492555b8b2d64e9f6f5fe23261875d8244563485ca", func := "erasure/erasurelaw12.LzwOften", spec := "lzwOften", apart := false, narrowed := true }
def LzwOftenUptoSaid : Prop := lzwOftenUptoRow.holds Try.pinned (OpenSpec.upto lzwOftenSpec)

/-- 'erasurelaw12.LzwPlain', WHERE WHAT IT READS IS OF BULK AT MOST 1048576: true; the input reads as it did. -/
def lzwPlainUptoRow : OpenClaim := { program := "ytoobfjfmlejpeaa", sum := "dbc5dc13b1774c9e20dda2492555b8b2d64e9f6f5fe23261875d8244563485ca", func := "erasure/erasurelaw12.LzwPlain", spec := "lzwPlain", apart := false, narrowed := true }
def LzwPlainUptoSaid : Prop := lzwPlainUptoRow.holds Try.pinned (OpenSpec.upto lzwPlainSpec)

end Rows
end Go.Proofs.Ytoobfjfmlejpeaa
