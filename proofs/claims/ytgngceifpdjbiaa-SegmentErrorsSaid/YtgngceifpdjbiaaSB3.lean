/- Runs of SegmentErrors, by the kernel. -/
import Derived.Test.YtgngceifpdjbiaaSF3
set_option maxRecDepth 100000
namespace Go.ScX
open Go.ScE
theorem runB6 (c : List CV) : runB 6 c = (pbool true, [], true) := by kernel_rfl
theorem fixedOk : C23 7 [] [] = (pbool true, [], true) := by kernel_rfl
end Go.ScX
