/- Runs of SegmentErrors, by the kernel. -/
import Derived.Test.YtgngceifpdjbiaaSF3
set_option maxRecDepth 100000
namespace Go.ScX
open Go.ScE
theorem runA10 (b : Int) : chk (runA 90 b) = some (.c (.p (.lit (.int .i64 b)))) := by kernel_rfl
theorem runA11 (b : Int) : chk (runA 91 b) = some (.c (.p (.lit (.int .i64 b)))) := by kernel_rfl
end Go.ScX
