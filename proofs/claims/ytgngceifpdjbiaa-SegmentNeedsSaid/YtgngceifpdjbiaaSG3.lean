/- G3: SegmentNeeds' program, assembled by the kernel: a number in it has a name. -/
import Derived.Test.YtgngceifpdjbiaaSG1
set_option maxRecDepth 100000
namespace Go.ScX
open Go.ScE
theorem asmN_eq : evSF BN stb1 ext1 3000 44 [.c (.own 8 itemsN)] [] = (asmN, [], true) := by kernel_rfl
end Go.ScX
