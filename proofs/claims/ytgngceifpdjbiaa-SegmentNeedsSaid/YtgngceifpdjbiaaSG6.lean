/- G6: the runs of SegmentStarts and SegmentNeeds, by the kernel, with names for the numbers. -/
import Derived.Test.YtgngceifpdjbiaaSG5
set_option maxRecDepth 100000
set_option linter.unusedVariables false
namespace Go.ScX
open Go.ScE Go.Proofs
abbrev mn : Int := -9223372036854775808
abbrev mxx : Int := 9223372036854775807
theorem st_a : evSF ⟨[mn, mn], [0, mxx], []⟩ stb2 extS 3000 4 [s0, s1] [] = (pbool true, [], true) := by kernel_rfl
theorem st_b : evSF ⟨[301, mn], [mxx, mxx], []⟩ stb2 extS 3000 4 [s0, s1] [] = (pbool true, [], true) := by kernel_rfl
theorem st_c : evSF ⟨[1, mn], [300, -1], []⟩ stb2 extS 3000 4 [s0, s1] [] = (pbool true, [], true) := by kernel_rfl
theorem st_d : evSF ⟨[1, 301], [300, mxx], []⟩ stb2 extS 3000 4 [s0, s1] [] = (pbool true, [], true) := by kernel_rfl
theorem st_e : evSF ⟨[1, 0], [300, 1], []⟩ stb2 extS 3000 4 [s0, s1] [] = (pbool true, [], true) := by kernel_rfl
theorem st_f : evSF ⟨[1, 2], [300, 300], []⟩ stb2 extS 3000 4 [s0, s1] [] = (pbool true, [], true) := by kernel_rfl
theorem nd_a : evSF ⟨[mn, mn], [-1, mxx], []⟩ stb2 extS 3000 6 [s0, s1] [] = (pbool true, [], true) := by kernel_rfl
theorem nd_b : evSF ⟨[1001, mn], [mxx, mxx], []⟩ stb2 extS 3000 6 [s0, s1] [] = (pbool true, [], true) := by kernel_rfl
theorem nd_c : evSF ⟨[0, mn], [1000, 1], []⟩ stb2 extS 3000 6 [s0, s1] [] = (pbool true, [], true) := by kernel_rfl
theorem nd_d : evSF ⟨[0, 1001], [1000, mxx], []⟩ stb2 extS 3000 6 [s0, s1] [] = (pbool true, [], true) := by kernel_rfl
theorem nd_e : evSF ⟨[0, 2], [1000, 1000], [(-2, [-1, 1])]⟩ stb2 extN 3000 6 [s0, s1] [] = (pbool true, [], true) := by kernel_rfl
theorem nd_f : evSF ⟨[0, 2], [1000, 1000], [(1, [1, -1])]⟩ stb2 extN 3000 6 [s0, s1] [] = (pbool true, [], true) := by kernel_rfl
end Go.ScX
