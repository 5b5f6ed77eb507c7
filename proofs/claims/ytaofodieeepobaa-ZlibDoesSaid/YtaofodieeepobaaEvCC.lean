/- Part of a proof about the given program: EvCC. -/
import Derived.Test.YtaofodieeepobaaEvBB
namespace Go.Ev
open Go.RowKit Go.WideShapes Go.ChangeShapes
end Go.Ev
