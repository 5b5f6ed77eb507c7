/-
  No cell of these rows narrows 'for every input' (looked for: loops, veiled, ifaces, maps, wideKeys, modest, calm, conditions, laid).
  DERIVED. THE GIVEN ROWS OF THIS SEAT. 5 by the template 'for every input the law returns true; each argument reads behind the call as it read before'; 0 by the template 'total and deterministic' (their statements: YtbgbplacpjcmfaaTotals.lean).
  GIVEN WITH THE SEED: the statements are not yours to turn. If you find one false, say at which input.
  Laid BY PROGRAM, IN A SANDBOX (cutbox-rows.mjs): the forced cells as the released guide's own fill.sh prints them over the translation b8b6e253aab19e65… (all of the seat's roots in one cut). By AI agents, Wed Nov 11 2026. No macro, syntax, notation, axiom, sorry.
-/
import Derived.Test.YtbgbplacpjcmfaaChecked
import GoSem.Claim
import GoSem.ClaimJoined
import GoSem.ClaimMapViews
import Derived.JoinedTies
import Derived.KernelRfl
namespace Go.Proofs.Ytbgbplacpjcmfaa
/- THE CELL 'sum', in the pinned program and in every row, IS THE sha256 OF THE DUMP (.gsa) THAT YtbgbplacpjcmfaaProg.lean LOADS. Nothing in Lean hashes anything: it is a label: what it is worth is what the hold of that sum in a sandbox is worth. -/
noncomputable def Try.pinned : Pinned := { name := "ytbgbplacpjcmfaa", sum := "b8b6e253aab19e656fa8821415f4641ecdc5c4e86412f797685a75fcc1fbe0d4", checked := Try.checked }
namespace Rows
def none {H : Type} : Left H := { results := [], args := [] }

/-- 'erasurelaw10.AsciiPuts': WHATEVER THE INPUT: true; the input reads as it did. -/
def asciiPutsSpec : ChangeSpec := { name := "asciiPuts", fn := fun _ => fun
  | [d] => { results := [.lit (.bool true)], args := [d] }
  | _ => none }
def asciiPutsRow : OpenClaim := { program := "ytbgbplacpjcmfaa", sum := "b8b6e253aab19e656fa8821415f4641ecdc5c4e86412f797685a75fcc1fbe0d4", func := "erasure/erasurelaw10.AsciiPuts", spec := "asciiPuts", inPlace := ["internal/bytealg.IndexByteString", "internal/bytealg.IndexString", "internal/abi.NoEscape"], unfollowed := true, recurses := true, named := ["internal/bytealg.MaxLen"], apart := false }
def AsciiPutsSaid : Prop := asciiPutsRow.holds Try.pinned (OpenSpec.ofChange asciiPutsSpec)

/-- ITS FALSE NEIGHBOUR: 'it returns false'. Refute it at one input. -/
def asciiPutsWrong : ChangeSpec := { name := "asciiPuts", fn := fun _ => fun
  | [d] => { results := [.lit (.bool false)], args := [d] }
  | _ => none }
def AsciiPutsWrongFalsely : Prop := asciiPutsRow.holds Try.pinned (OpenSpec.ofChange asciiPutsWrong)

/-- 'erasurelaw10.AsciiGets': WHATEVER THE INPUT: true; the input reads as it did. -/
def asciiGetsSpec : ChangeSpec := { name := "asciiGets", fn := fun _ => fun
  | [d1, d2] => { results := [.lit (.bool true)], args := [d1, d2] }
  | _ => none }
def asciiGetsRow : OpenClaim := { program := "ytbgbplacpjcmfaa", sum := "b8b6e253aab19e656fa8821415f4641ecdc5c4e86412f797685a75fcc1fbe0d4", func := "erasure/erasurelaw10.AsciiGets", spec := "asciiGets", inPlace := ["internal/bytealg.IndexByteString", "internal/bytealg.IndexString", "internal/abi.NoEscape"], unfollowed := true, recurses := true, named := ["internal/bytealg.MaxLen"], apart := false }
def AsciiGetsSaid : Prop := asciiGetsRow.holds Try.pinned (OpenSpec.ofChange asciiGetsSpec)

/-- ITS FALSE NEIGHBOUR: 'it returns false'. Refute it at one input. -/
def asciiGetsWrong : ChangeSpec := { name := "asciiGets", fn := fun _ => fun
  | [d1, d2] => { results := [.lit (.bool false)], args := [d1, d2] }
  | _ => none }
def AsciiGetsWrongFalsely : Prop := asciiGetsRow.holds Try.pinned (OpenSpec.ofChange asciiGetsWrong)

/-- 'erasurelaw10.AsciiBack': WHATEVER THE INPUT: true; the input reads as it did. -/
def asciiBackSpec : ChangeSpec := { name := "asciiBack", fn := fun _ => fun
  | [d1, d2, d3] => { results := [.lit (.bool true)], args := [d1, d2, d3] }
  | _ => none }
def asciiBackRow : OpenClaim := { program := "ytbgbplacpjcmfaa", sum := "b8b6e253aab19e656fa8821415f4641ecdc5c4e86412f797685a75fcc1fbe0d4", func := "erasure/erasurelaw10.AsciiBack", spec := "asciiBack", inPlace := ["internal/abi.NoEscape", "internal/bytealg.IndexByteString", "internal/bytealg.IndexString"], unfollowed := true, recurses := true, named := ["internal/bytealg.MaxLen"], apart := false }
def AsciiBackSaid : Prop := asciiBackRow.holds Try.pinned (OpenSpec.ofChange asciiBackSpec)

/-- ITS FALSE NEIGHBOUR: 'it returns false'. Refute it at one input. -/
def asciiBackWrong : ChangeSpec := { name := "asciiBack", fn := fun _ => fun
  | [d1, d2, d3] => { results := [.lit (.bool false)], args := [d1, d2, d3] }
  | _ => none }
def AsciiBackWrongFalsely : Prop := asciiBackRow.holds Try.pinned (OpenSpec.ofChange asciiBackWrong)

/-- 'erasurelaw10.AsciiSizes': WHATEVER THE INPUT: true; the input reads as it did. -/
def asciiSizesSpec : ChangeSpec := { name := "asciiSizes", fn := fun _ => fun
  | [d1, d2] => { results := [.lit (.bool true)], args := [d1, d2] }
  | _ => none }
def asciiSizesRow : OpenClaim := { program := "ytbgbplacpjcmfaa", sum := "b8b6e253aab19e656fa8821415f4641ecdc5c4e86412f797685a75fcc1fbe0d4", func := "erasure/erasurelaw10.AsciiSizes", spec := "asciiSizes", inPlace := ["internal/abi.NoEscape", "internal/bytealg.IndexByteString", "internal/bytealg.IndexString"], unfollowed := true, recurses := true, named := ["internal/bytealg.MaxLen"], apart := false }
def AsciiSizesSaid : Prop := asciiSizesRow.holds Try.pinned (OpenSpec.ofChange asciiSizesSpec)

/-- ITS FALSE NEIGHBOUR: 'it returns false'. Refute it at one input. -/
def asciiSizesWrong : ChangeSpec := { name := "asciiSizes", fn := fun _ => fun
  | [d1, d2] => { results := [.lit (.bool false)], args := [d1, d2] }
  | _ => none }
def AsciiSizesWrongFalsely : Prop := asciiSizesRow.holds Try.pinned (OpenSpec.ofChange asciiSizesWrong)

/-- 'erasurelaw10.AsciiNoughts': WHATEVER THE INPUT: true; the input reads as it did. -/
def asciiNoughtsSpec : ChangeSpec := { name := "asciiNoughts", fn := fun _ => fun
  | [d] => { results := [.lit (.bool true)], args := [d] }
  | _ => none }
def asciiNoughtsRow : OpenClaim := { program := "ytbgbplacpjcmfaa", sum := "b8b6e253aab19e656fa8821415f4641ecdc5c4e86412f797685a75fcc1fbe0d4", func := "erasure/erasurelaw10.AsciiNoughts", spec := "asciiNoughts", inPlace := ["internal/abi.NoEscape", "internal/bytealg.IndexByteString", "internal/bytealg.IndexString"], unfollowed := true, recurses := true, named := ["internal/bytealg.MaxLen"], apart := false }
def AsciiNoughtsSaid : Prop := asciiNoughtsRow.holds Try.pinned (OpenSpec.ofChange asciiNoughtsSpec)

/-- ITS FALSE NEIGHBOUR: 'it returns false'. Refute it at one input. -/
def asciiNoughtsWrong : ChangeSpec := { name := "asciiNoughts", fn := fun _ => fun
  | [d] => { results := [.lit (.bool false)], args := [d] }
  | _ => none }
def AsciiNoughtsWrongFalsely : Prop := asciiNoughtsRow.holds Try.pinned (OpenSpec.ofChange asciiNoughtsWrong)

/- THE SECOND FORM. 'bulk': how many values and letters a reading holds, each counted each time it is reached (what is shared counts as often as it is met; a slice's spare places count too). A statement '..UptoSaid' is the law's where the arguments, and the package variables that the reading takes, are together of bulk at most 1048576: NARROWER than '..Said'. Prove '..Said' where nothing that the law and all that it calls make is longer than what came in: it says more and counts as full. Else prove '..UptoSaid'. A law counts once. -/
mutual
def uptoBulk {H : Type} : DataW H → Nat
  | .lit (.string bytes) => bytes.length + 1
  | .lit _ => 1
  | .nil => 1
  | .ptr d => uptoBulk d + 1
  | .slice elems spare => uptoBulkAll elems + uptoBulkAll spare + 1
  | .agg parts => uptoBulkAll parts + 1
  | .iface _ d => uptoBulk d + 1
  | .map entries => uptoBulkEntries entries + 1
  | .held _ => 1
def uptoBulkAll {H : Type} : List (DataW H) → Nat
  | [] => 0
  | d :: r => uptoBulk d + uptoBulkAll r
def uptoBulkEntries {H : Type} : List (Lit × DataW H) → Nat
  | [] => 0
  | x :: r => uptoBulkEntry x + uptoBulkEntries r
def uptoBulkEntry {H : Type} : Lit × DataW H → Nat
  | (.string bytes, d) => bytes.length + uptoBulk d + 1
  | (_, d) => uptoBulk d + 1
 end
def uptoSmall : (H : Type) → List (DataW H) → Bool := fun _ ds => decide (uptoBulkAll ds ≤ 1048576)
def OpenSpec.upto (s : _root_.Go.ChangeSpec) : _root_.Go.OpenSpec := { _root_.Go.OpenSpec.ofChange s with cond := some uptoSmall }

/-- 'erasurelaw10.AsciiPuts', WHERE WHAT IT READS IS OF BULK AT MOST 1048576: true; the input reads as it did. -/
def asciiPutsUptoRow : OpenClaim := { program := "ytbgbplacpjcmfaa", sum := "b8b6e253aab19e656fa8821415f4641ecdc5c4e86412f797685a75fcc1fbe0d4", func := "erasure/erasurelaw10.AsciiPuts", spec := "asciiPuts", inPlace := ["internal/bytealg.IndexByteString", "internal/bytealg.IndexString", "internal/abi.NoEscape"], unfollowed := true, recurses := true, named := ["internal/bytealg.MaxLen"], apart := false, narrowed := true }
def AsciiPutsUptoSaid : Prop := asciiPutsUptoRow.holds Try.pinned (OpenSpec.upto asciiPutsSpec)

/-- 'erasurelaw10.AsciiGets', WHERE WHAT IT READS IS OF BULK AT MOST 1048576: true; the input reads as it did. -/
def asciiGetsUptoRow : OpenClaim := { program := "ytbgbplacpjcmfaa", sum := "b8b6e253aab19e656fa8821415f4641ecdc5c4e86412f797685a75fcc1fbe0d4", func := "erasure/erasurelaw10.AsciiGets", spec := "asciiGets", inPlace := ["internal/bytealg.IndexByteString", "internal/bytealg.IndexString", "internal/abi.NoEscape"], unfollowed := true, recurses := true, named := ["internal/bytealg.MaxLen"], apart := false, narrowed := true }
def AsciiGetsUptoSaid : Prop := asciiGetsUptoRow.holds Try.pinned (OpenSpec.upto asciiGetsSpec)

/-- 'erasurelaw10.AsciiBack', WHERE WHAT IT READS IS OF BULK AT MOST 1048576: true; the input reads as it did. -/
def asciiBackUptoRow : OpenClaim := { program := "ytbgbplacpjcmfaa", sum := "b8b6e253aab19e656fa8821415f4641ecdc5c4e86412f797685a75fcc1fbe0d4", func := "erasure/erasurelaw10.AsciiBack", spec := "asciiBack", inPlace := ["internal/abi.NoEscape", "internal/bytealg.IndexByteString", "internal/bytealg.IndexString"], unfollowed := true, recurses := true, named := ["internal/bytealg.MaxLen"], apart := false, narrowed := true }
def AsciiBackUptoSaid : Prop := asciiBackUptoRow.holds Try.pinned (OpenSpec.upto asciiBackSpec)

/-- 'erasurelaw10.AsciiSizes', WHERE WHAT IT READS IS OF BULK AT MOST 1048576: true; the input reads as it did. -/
def asciiSizesUptoRow : OpenClaim := { program := "ytbgbplacpjcmfaa", sum := "b8b6e253aab19e656fa8821415f4641ecdc5c4e86412f797685a75fcc1fbe0d4", func := "erasure/erasurelaw10.AsciiSizes", spec := "asciiSizes", inPlace := ["internal/abi.NoEscape", "internal/bytealg.IndexByteString", "internal/bytealg.IndexString"], unfollowed := true, recurses := true, named := ["internal/bytealg.MaxLen"], apart := false, narrowed := true }
def AsciiSizesUptoSaid : Prop := asciiSizesUptoRow.holds Try.pinned (OpenSpec.upto asciiSizesSpec)

/-- 'erasurelaw10.AsciiNoughts', WHERE WHAT IT READS IS OF BULK AT MOST 1048576: true; the input reads as it did. -/
def asciiNoughtsUptoRow : OpenClaim := { program := "ytbgbplacpjcmfaa", sum := "b8b6e253aab19e656fa8821415f4641ecdc5c4e86412f797685a75fcc1fbe0d4", func := "erasure/erasurelaw10.AsciiNoughts", spec := "asciiNoughts", inPlace := ["internal/abi.NoEscape", "internal/bytealg.IndexByteString", "internal/bytealg.IndexString"], unfollowed := true, recurses := true, named := ["internal/bytealg.MaxLen"], apart := false, narrowed := true }
def AsciiNoughtsUptoSaid : Prop := asciiNoughtsUptoRow.holds Try.pinned (OpenSpec.upto asciiNoughtsSpec)

end Rows
end Go.Proofs.Ytbgbplacpjcmfaa
