/- Runs of SegmentErrors, by the kernel. -/
import Derived.Test.YtgngceifpdjbiaaSF3
set_option maxRecDepth 100000
namespace Go.ScX
open Go.ScE
theorem runA8 (b : Int) : chk (runA 88 b) = some (.c (.p (.lit (.int .i64 b)))) := by kernel_rfl
theorem runA9 (b : Int) : chk (runA 89 b) = some (.c (.p (.lit (.int .i64 b)))) := by kernel_rfl
end Go.ScX
