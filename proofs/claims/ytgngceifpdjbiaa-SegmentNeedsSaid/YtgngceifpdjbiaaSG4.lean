/- G4: the fixed call. -/
import Derived.Test.YtgngceifpdjbiaaSG1
set_option maxRecDepth 100000
namespace Go.ScX
open Go.ScE
theorem fixedOk : evSF SN stb1 ext1 3000 7 [] [] = (pbool true, [], true) := by kernel_rfl
end Go.ScX
