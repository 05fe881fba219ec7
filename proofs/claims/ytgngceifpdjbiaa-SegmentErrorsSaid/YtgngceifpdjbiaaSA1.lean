/- Runs of SegmentErrors, by the kernel. -/
import Derived.Test.YtgngceifpdjbiaaSF3
set_option maxRecDepth 100000
namespace Go.ScX
open Go.ScE
theorem runA2 (b : Int) : chk (runA 82 b) = some (.c (.p (.lit (.int .i64 b)))) := by kernel_rfl
theorem runA3 (b : Int) : chk (runA 83 b) = some (.c (.p (.lit (.int .i64 b)))) := by kernel_rfl
end Go.ScX
