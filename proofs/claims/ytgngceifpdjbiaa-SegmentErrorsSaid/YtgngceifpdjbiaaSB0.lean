/- Runs of SegmentErrors, by the kernel. -/
import Derived.Test.YtgngceifpdjbiaaSF3
set_option maxRecDepth 100000
namespace Go.ScX
open Go.ScE
theorem runB0 (c : List CV) : runB 0 c = (pbool true, [], true) := by kernel_rfl
theorem runB1 (c : List CV) : runB 1 c = (pbool true, [], true) := by kernel_rfl
end Go.ScX
