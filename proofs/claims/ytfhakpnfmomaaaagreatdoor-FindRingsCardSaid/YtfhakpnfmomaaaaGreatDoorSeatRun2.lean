/- For rank 2 the law FindRings runs to true. -/
import Derived.Test.YtfhakpnfmomaaaaGreatDoorSeatRunA
namespace Go.Proofs
open Go.Ev
set_option maxRecDepth 1000000
theorem run2 : runs [(0, 3, 2)] 4 [.sym 0] = true := by decide +kernel
end Go.Proofs
