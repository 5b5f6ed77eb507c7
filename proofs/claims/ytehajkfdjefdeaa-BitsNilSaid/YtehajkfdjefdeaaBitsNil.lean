/- Part of a proof about the given program: BitsNil. -/
import Derived.Test.YtehajkfdjefdeaaBitsBack
namespace Go.Ev.Bits

theorem bitsNil_pure (n : Int) : f7 (n, ()) = some (true, ()) := by
  unfold f7 f13_n f23_n f21_n f14_n f10_n f16_n f11_n
  rw [awake_true]
  simp
end Go.Ev.Bits
