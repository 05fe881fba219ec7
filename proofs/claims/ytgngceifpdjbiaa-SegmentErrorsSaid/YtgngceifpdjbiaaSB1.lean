/- Runs of SegmentErrors, by the kernel. -/
import Derived.Test.YtgngceifpdjbiaaSF3
set_option maxRecDepth 100000
namespace Go.ScX
open Go.ScE
theorem runB2 (c : List CV) : runB 2 c = (pbool true, [], true) := by kernel_rfl
theorem runB3 (c : List CV) : runB 3 c = (pbool true, [], true) := by kernel_rfl
end Go.ScX
