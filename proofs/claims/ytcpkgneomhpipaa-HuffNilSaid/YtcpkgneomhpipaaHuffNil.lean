/- Part of a proof about the given program: HuffNil. -/
import Derived.Test.YtcpkgneomhpipaaEvBB
import Derived.Test.YtcpkgneomhpipaaHuffAwake
namespace Go.Ev.Huff
set_option maxRecDepth 100000 in
theorem huffNil_pure (s : Int) : f6 (s, ()) = some (true, ()) := by kernel_rfl
end Go.Ev.Huff
