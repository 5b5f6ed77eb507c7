/- Part of a proof about the given program: Big2. -/
import Derived.Test.YtaofodieeepobaaBig
namespace Go.Ev
end Go.Ev
