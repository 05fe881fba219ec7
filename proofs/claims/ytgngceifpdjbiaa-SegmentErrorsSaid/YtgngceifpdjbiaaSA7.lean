/- Runs of SegmentErrors, by the kernel. -/
import Derived.Test.YtgngceifpdjbiaaSF3
set_option maxRecDepth 100000
namespace Go.ScX
open Go.ScE
theorem runA14 (b : Int) : chk (runA 94 b) = some (.c (.p (.lit (.int .i64 b)))) := by kernel_rfl
theorem runA15 (b : Int) : chk (runA 95 b) = some (.c (.p (.lit (.int .i64 b)))) := by kernel_rfl
end Go.ScX
