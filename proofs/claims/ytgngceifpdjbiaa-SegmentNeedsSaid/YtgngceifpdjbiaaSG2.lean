/- G2: SegmentStarts' program, assembled by the kernel. -/
import Derived.Test.YtgngceifpdjbiaaSG1
set_option maxRecDepth 100000
namespace Go.ScX
open Go.ScE
theorem asmS_eq : evSF SN stb1 ext1 3000 44 [.c (.own 8 itemsS)] [] = (asmS, [], true) := by kernel_rfl
end Go.ScX
