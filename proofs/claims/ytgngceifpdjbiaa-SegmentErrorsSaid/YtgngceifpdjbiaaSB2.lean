/- Runs of SegmentErrors, by the kernel. -/
import Derived.Test.YtgngceifpdjbiaaSF3
set_option maxRecDepth 100000
namespace Go.ScX
open Go.ScE
theorem runB4 (c : List CV) : runB 4 c = (pbool true, [], true) := by kernel_rfl
theorem runB5 (c : List CV) : runB 5 c = (pbool true, [], true) := by kernel_rfl
end Go.ScX
