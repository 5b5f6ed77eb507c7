/-
  No cell of these rows narrows 'for every input' (looked for: loops, veiled, ifaces, maps, wideKeys, modest, calm, conditions, laid).
  DERIVED. THE GIVEN ROWS OF THIS SEAT. 5 by the template 'for every input the law returns true; each argument reads behind the call as it read before'; 0 by the template 'total and deterministic' (their statements: YtjbkmodcnfffiaaTotals.lean).
  GIVEN WITH THE SEED: the statements are not yours to turn. If you find one false, say at which input.
  Laid BY PROGRAM, IN A SANDBOX (cutbox-rows.mjs): the forced cells as the released guide's own fill.sh prints them over the translation c193f622ec9dad12… (all of the seat's roots in one cut). By AI agents, Wed Nov 11 2026. No macro, syntax, notation, axiom, sorry.
-/
import Derived.Test.YtjbkmodcnfffiaaChecked
import GoSem.Claim
import GoSem.ClaimJoined
import GoSem.ClaimMapViews
import Derived.JoinedTies
import Derived.KernelRfl
namespace Go.Proofs.Ytjbkmodcnfffiaa
/- THE CELL 'sum', in the pinned program and in every row, IS THE sha256 OF THE DUMP (.gsa) THAT YtjbkmodcnfffiaaProg.lean LOADS. Nothing in Lean hashes anything: it is a label: what it is worth is what the hold of that sum in a sandbox is worth. -/
noncomputable def Try.pinned : Pinned := { name := "ytjbkmodcnfffiaa", sum := "c193f622ec9dad12a7e774df91950d4b695aabe407c2eba08b0d4d2d67cd7ffd", checked := Try.checked }
namespace Rows
def none {H : Type} : Left H := { results := [], args := [] }

/-- 'erasurelaw07.DeflateDoes': WHATEVER THE INPUT: true; the input reads as it did. -/
def deflateDoesSpec : ChangeSpec := { name := "deflateDoes", fn := fun _ => fun
  | [d1, d2] => { results := [.lit (.bool true)], args := [d1, d2] }
  | _ => none }
def deflateDoesRow : OpenClaim := { program := "ytjbkmodcnfffiaa", sum := "c193f622ec9dad12a7e774df91950d4b695aabe407c2eba08b0d4d2d67cd7ffd", func := "erasure/erasurelaw07.DeflateDoes", spec := "deflateDoes", unfollowed := true, recurses := true, apart := false }
def DeflateDoesSaid : Prop := deflateDoesRow.holds Try.pinned (OpenSpec.ofChange deflateDoesSpec)

/-- ITS FALSE NEIGHBOUR: 'it returns false'. Refute it at one input. -/
def deflateDoesWrong : ChangeSpec := { name := "deflateDoes", fn := fun _ => fun
  | [d1, d2] => { results := [.lit (.bool false)], args := [d1, d2] }
  | _ => none }
def DeflateDoesWrongFalsely : Prop := deflateDoesRow.holds Try.pinned (OpenSpec.ofChange deflateDoesWrong)

/-- 'erasurelaw07.DeflateLong': WHATEVER THE INPUT: true; the input reads as it did. -/
def deflateLongSpec : ChangeSpec := { name := "deflateLong", fn := fun _ => fun
  | [d] => { results := [.lit (.bool true)], args := [d] }
  | _ => none }
def deflateLongRow : OpenClaim := { program := "ytjbkmodcnfffiaa", sum := "c193f622ec9dad12a7e774df91950d4b695aabe407c2eba08b0d4d2d67cd7ffd", func := "erasure/erasurelaw07.DeflateLong", spec := "deflateLong", unfollowed := true, recurses := true, apart := false }
def DeflateLongSaid : Prop := deflateLongRow.holds Try.pinned (OpenSpec.ofChange deflateLongSpec)

/-- ITS FALSE NEIGHBOUR: 'it returns false'. Refute it at one input. -/
def deflateLongWrong : ChangeSpec := { name := "deflateLong", fn := fun _ => fun
  | [d] => { results := [.lit (.bool false)], args := [d] }
  | _ => none }
def DeflateLongWrongFalsely : Prop := deflateLongRow.holds Try.pinned (OpenSpec.ofChange deflateLongWrong)

/-- 'erasurelaw07.DeflateRun': WHATEVER THE INPUT: true; the input reads as it did. -/
def deflateRunSpec : ChangeSpec := { name := "deflateRun", fn := fun _ => fun
  | [d1, d2] => { results := [.lit (.bool true)], args := [d1, d2] }
  | _ => none }
def deflateRunRow : OpenClaim := { program := "ytjbkmodcnfffiaa", sum := "c193f622ec9dad12a7e774df91950d4b695aabe407c2eba08b0d4d2d67cd7ffd", func := "erasure/erasurelaw07.DeflateRun", spec := "deflateRun", unfollowed := true, recurses := true, apart := false }
def DeflateRunSaid : Prop := deflateRunRow.holds Try.pinned (OpenSpec.ofChange deflateRunSpec)

/-- ITS FALSE NEIGHBOUR: 'it returns false'. Refute it at one input. -/
def deflateRunWrong : ChangeSpec := { name := "deflateRun", fn := fun _ => fun
  | [d1, d2] => { results := [.lit (.bool false)], args := [d1, d2] }
  | _ => none }
def DeflateRunWrongFalsely : Prop := deflateRunRow.holds Try.pinned (OpenSpec.ofChange deflateRunWrong)

/-- 'erasurelaw07.DeflatePuts': WHATEVER THE INPUT: true; the input reads as it did. -/
def deflatePutsSpec : ChangeSpec := { name := "deflatePuts", fn := fun _ => fun
  | [d] => { results := [.lit (.bool true)], args := [d] }
  | _ => none }
def deflatePutsRow : OpenClaim := { program := "ytjbkmodcnfffiaa", sum := "c193f622ec9dad12a7e774df91950d4b695aabe407c2eba08b0d4d2d67cd7ffd", func := "erasure/erasurelaw07.DeflatePuts", spec := "deflatePuts", unfollowed := true, recurses := true, apart := false }
def DeflatePutsSaid : Prop := deflatePutsRow.holds Try.pinned (OpenSpec.ofChange deflatePutsSpec)

/-- ITS FALSE NEIGHBOUR: 'it returns false'. Refute it at one input. -/
def deflatePutsWrong : ChangeSpec := { name := "deflatePuts", fn := fun _ => fun
  | [d] => { results := [.lit (.bool false)], args := [d] }
  | _ => none }
def DeflatePutsWrongFalsely : Prop := deflatePutsRow.holds Try.pinned (OpenSpec.ofChange deflatePutsWrong)

/-- 'erasurelaw07.DeflateBack': WHATEVER THE INPUT: true; the input reads as it did. -/
def deflateBackSpec : ChangeSpec := { name := "deflateBack", fn := fun _ => fun
  | [d] => { results := [.lit (.bool true)], args := [d] }
  | _ => none }
def deflateBackRow : OpenClaim := { program := "ytjbkmodcnfffiaa", sum := "c193f622ec9dad12a7e774df91950d4b695aabe407c2eba08b0d4d2d67cd7ffd", func := "erasure/erasurelaw07.DeflateBack", spec := "deflateBack", unfollowed := true, recurses := true, apart := false }
def DeflateBackSaid : Prop := deflateBackRow.holds Try.pinned (OpenSpec.ofChange deflateBackSpec)

/-- ITS FALSE NEIGHBOUR: 'it returns false'. Refute it at one input. -/
def deflateBackWrong : ChangeSpec := { name := "deflateBack", fn := fun _ => fun
  | [d] => { results := [.lit (.bool false)], args := [d] }
  | _ => none }
def DeflateBackWrongFalsely : Prop := deflateBackRow.holds Try.pinned (OpenSpec.ofChange deflateBackWrong)

/- THE SECOND FORM. 'bulk': how many values and letters a reading holds, each counted each time it is reached (what is shared counts as often as it is met; a slice's spare places count too). A statement '..UptoSaid' is the law's where the arguments, and the package variables that the reading takes, are together of bulk at most 1048576: NARROWER than '..Said'. Prove '..Said' where nothing that the law and all that it calls make is longer than what came in: it says more and counts as full. Else prove '..UptoSaid'. A law counts once. -/
mutual
def uptoBulk {H : Type} : DataW H → Nat
  | .lit (.string bytes) => bytes.length + 1
  | .lit _ => 1
  | .nil => 1
  | .ptr d => uptoBulk d + 1
  | .slice elems spare => uptoBulkAll elems + uptoBulkAll spare + 1
  | .agg parts => uptoBulkAll parts + 1
  | .iface _ d => uptoBulk d + 1
  | .map entries => uptoBulkEntries entries + 1
  | .held _ => 1
def uptoBulkAll {H : Type} : List (DataW H) → Nat
  | [] => 0
  | d :: r => uptoBulk d + uptoBulkAll r
def uptoBulkEntries {H : Type} : List (Lit × DataW H) → Nat
  | [] => 0
  | x :: r => uptoBulkEntry x + uptoBulkEntries r
def uptoBulkEntry {H : Type} : Lit × DataW H → Nat
  | (.string bytes, d) => bytes.length + uptoBulk d + 1
  | (_, d) => uptoBulk d + 1
 end
def uptoSmall : (H : Type) → List (DataW H) → Bool := fun _ ds => decide (uptoBulkAll ds ≤ 1048576)
def OpenSpec.upto (s : _root_.Go.ChangeSpec) : _root_.Go.OpenSpec := { _root_.Go.OpenSpec.ofChange s with cond := some uptoSmall }

/-- 'erasurelaw07.DeflateDoes', WHERE WHAT IT READS IS OF BULK AT MOST 1048576: true; the input reads as it did. -/
def deflateDoesUptoRow : OpenClaim := { program := "ytjbkmodcnfffiaa", sum := "c193f622ec9dad12a7e774df91950d4b695aabe407c2eba08b0d4d2d67cd7ffd", func := "erasure/erasurelaw07.DeflateDoes", spec := "deflateDoes", unfollowed := true, recurses := true, apart := false, narrowed := true }
def DeflateDoesUptoSaid : Prop := deflateDoesUptoRow.holds Try.pinned (OpenSpec.upto deflateDoesSpec)

/-- 'erasurelaw07.DeflateLong', WHERE WHAT IT READS IS OF BULK AT MOST 1048576: true; the input reads as it did. -/
def deflateLongUptoRow : OpenClaim := { program := "ytjbkmodcnfffiaa", sum := "c193f622ec9dad12a7e774df91950d4b695aabe407c2eba08b0d4d2d67cd7ffd", func := "erasure/erasurelaw07.DeflateLong", spec := "deflateLong", unfollowed := true, recurses := true, apart := false, narrowed := true }
def DeflateLongUptoSaid : Prop := deflateLongUptoRow.holds Try.pinned (OpenSpec.upto deflateLongSpec)

/-- 'erasurelaw07.DeflateRun', WHERE WHAT IT READS IS OF BULK AT MOST 1048576: true; the input reads as it did. -/
def deflateRunUptoRow : OpenClaim := { program := "ytjbkmodcnfffiaa", sum := "c193f622ec9dad12a7e774df91950d4b695aabe407c2eba08b0d4d2d67cd7ffd", func := "erasure/erasurelaw07.DeflateRun", spec := "deflateRun", unfollowed := true, recurses := true, apart := false, narrowed := true }
def DeflateRunUptoSaid : Prop := deflateRunUptoRow.holds Try.pinned (OpenSpec.upto deflateRunSpec)

/-- 'erasurelaw07.DeflatePuts', WHERE WHAT IT READS IS OF BULK AT MOST 1048576: true; the input reads as it did. -/
def deflatePutsUptoRow : OpenClaim := { program := "ytjbkmodcnfffiaa", sum := "c193f622ec9dad12a7e774df91950d4b695aabe407c2eba08b0d4d2d67cd7ffd", func := "erasure/erasurelaw07.DeflatePuts", spec := "deflatePuts", unfollowed := true, recurses := true, apart := false, narrowed := true }
def DeflatePutsUptoSaid : Prop := deflatePutsUptoRow.holds Try.pinned (OpenSpec.upto deflatePutsSpec)

/-- 'erasurelaw07.DeflateBack', WHERE WHAT IT READS IS OF BULK AT MOST 1048576: true; the input reads as it did. -/
def deflateBackUptoRow : OpenClaim := { program := "ytjbkmodcnfffiaa", sum := "c193f622ec9dad12a7e774df91950d4b695aabe407c2eba08b0d4d2d67cd7ffd", func := "erasure/erasurelaw07.DeflateBack", spec := "deflateBack", unfollowed := true, recurses := true, apart := false, narrowed := true }
def DeflateBackUptoSaid : Prop := deflateBackUptoRow.holds Try.pinned (OpenSpec.upto deflateBackSpec)

end Rows
end Go.Proofs.Ytjbkmodcnfffiaa
