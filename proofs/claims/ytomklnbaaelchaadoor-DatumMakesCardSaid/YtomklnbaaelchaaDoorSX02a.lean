/- The small code agrees with the program. -/
import Derived.Test.YtomklnbaaelchaaDoorSX02
import Derived.Test.YtomklnbaaelchaaDoorProg
set_option maxRecDepth 100000
namespace Go.Sc2
open Go.ScE Go.Proofs
theorem ag3 : agF Tryd.prog 3 x3 = true := by kernel_rfl
theorem ag4 : agF Tryd.prog 4 x4 = true := by kernel_rfl
theorem ag5 : agF Tryd.prog 5 x5 = true := by kernel_rfl
theorem ag6 : agF Tryd.prog 6 x6 = true := by kernel_rfl
theorem ag7 : agF Tryd.prog 7 x7 = true := by kernel_rfl
theorem ag8 : agF Tryd.prog 8 x8 = true := by kernel_rfl
theorem ag9 : agF Tryd.prog 9 x9 = true := by kernel_rfl
theorem ag10 : agF Tryd.prog 10 x10 = true := by kernel_rfl
theorem ag11 : agF Tryd.prog 11 x11 = true := by kernel_rfl
theorem ag12 : agF Tryd.prog 12 x12 = true := by kernel_rfl
theorem ag13 : agF Tryd.prog 13 x13 = true := by kernel_rfl
theorem ag14 : agF Tryd.prog 14 x14 = true := by kernel_rfl
theorem ag15 : agF Tryd.prog 15 x15 = true := by kernel_rfl
theorem ag16 : agF Tryd.prog 16 x16 = true := by kernel_rfl
theorem ag17 : agF Tryd.prog 17 x17 = true := by kernel_rfl
theorem ag18 : agF Tryd.prog 18 x18 = true := by kernel_rfl
theorem ag19 : agF Tryd.prog 19 x19 = true := by kernel_rfl
theorem ag20 : agF Tryd.prog 20 x20 = true := by kernel_rfl
theorem ag21 : agF Tryd.prog 21 x21 = true := by kernel_rfl
theorem ag22 : agF Tryd.prog 22 x22 = true := by kernel_rfl
theorem ag23 : agF Tryd.prog 23 x23 = true := by kernel_rfl
theorem ag24 : agF Tryd.prog 24 x24 = true := by kernel_rfl
theorem ag25 : agF Tryd.prog 25 x25 = true := by kernel_rfl
theorem ag26 : agF Tryd.prog 26 x26 = true := by kernel_rfl
theorem ag27 : agF Tryd.prog 27 x27 = true := by kernel_rfl
theorem ag28 : agF Tryd.prog 28 x28 = true := by kernel_rfl
theorem ag29 : agF Tryd.prog 29 x29 = true := by kernel_rfl
theorem ag30 : agF Tryd.prog 30 x30 = true := by kernel_rfl
theorem ag31 : agF Tryd.prog 31 x31 = true := by kernel_rfl
theorem ag32 : agF Tryd.prog 32 x32 = true := by kernel_rfl
theorem ag33 : agF Tryd.prog 33 x33 = true := by kernel_rfl
theorem ag34 : agF Tryd.prog 34 x34 = true := by kernel_rfl
theorem ag36 : agF Tryd.prog 36 x36 = true := by kernel_rfl
theorem ag38 : agF Tryd.prog 38 x38 = true := by kernel_rfl
theorem ag39 : agF Tryd.prog 39 x39 = true := by kernel_rfl
end Go.Sc2
