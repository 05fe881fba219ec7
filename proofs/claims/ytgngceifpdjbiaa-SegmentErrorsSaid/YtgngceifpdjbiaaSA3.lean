/- Runs of SegmentErrors, by the kernel. -/
import Derived.Test.YtgngceifpdjbiaaSF3
set_option maxRecDepth 100000
namespace Go.ScX
open Go.ScE
theorem runA6 (b : Int) : chk (runA 86 b) = some (.c (.p (.lit (.int .i64 b)))) := by kernel_rfl
theorem runA7 (b : Int) : chk (runA 87 b) = some (.c (.p (.lit (.int .i64 b)))) := by kernel_rfl
end Go.ScX
