/- Part of a proof about the given program: HuffAwake. -/
import Derived.Test.YtcpkgneomhpipaaF
import Derived.KernelRfl
namespace Go.Ev.Huff
set_option maxRecDepth 100000 in
theorem awake_true : f12 () = some (true, ()) := by kernel_rfl
set_option maxRecDepth 100000 in
theorem fixed_eq : f15 () = f16 () := by kernel_rfl
end Go.Ev.Huff
