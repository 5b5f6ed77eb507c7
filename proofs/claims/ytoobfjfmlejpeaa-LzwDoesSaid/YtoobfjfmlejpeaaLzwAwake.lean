/- Part of a proof about the given program: LzwAwake. -/
import Derived.Test.YtoobfjfmlejpeaaRule
import Derived.Test.YtoobfjfmlejpeaaF
namespace Go.Ev.Lzw
set_option maxRecDepth 100000
theorem awake_true : f12 () = some (true, ()) := by kernel_rfl
end Go.Ev.Lzw
