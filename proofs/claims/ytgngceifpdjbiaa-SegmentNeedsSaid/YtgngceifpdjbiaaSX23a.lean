/- The small code agrees with the program. -/
import Derived.Test.YtgngceifpdjbiaaSX23
import Derived.Test.YtgngceifpdjbiaaSE26
import Derived.Test.YtgngceifpdjbiaaProg
set_option maxRecDepth 100000
namespace Go.ScX
open Go.ScE Go.Proofs
theorem ag3 : agF Try.prog 3 x3 = true := by kernel_rfl
theorem ag4 : agF Try.prog 4 x4 = true := by kernel_rfl
theorem ag5 : agF Try.prog 5 x5 = true := by kernel_rfl
theorem ag6 : agF Try.prog 6 x6 = true := by kernel_rfl
theorem ag7 : agF Try.prog 7 x7 = true := by kernel_rfl
theorem ag8 : agF Try.prog 8 x8 = true := by kernel_rfl
theorem ag9 : agF Try.prog 9 x9 = true := by kernel_rfl
theorem ag10 : agF Try.prog 10 x10 = true := by kernel_rfl
theorem ag11 : agF Try.prog 11 x11 = true := by kernel_rfl
theorem ag12 : agF Try.prog 12 x12 = true := by kernel_rfl
theorem ag13 : agF Try.prog 13 x13 = true := by kernel_rfl
theorem ag14 : agF Try.prog 14 x14 = true := by kernel_rfl
theorem ag15 : agF Try.prog 15 x15 = true := by kernel_rfl
theorem ag16 : agF Try.prog 16 x16 = true := by kernel_rfl
theorem ag17 : agF Try.prog 17 x17 = true := by kernel_rfl
theorem ag18 : agF Try.prog 18 x18 = true := by kernel_rfl
theorem ag19 : agF Try.prog 19 x19 = true := by kernel_rfl
theorem ag20 : agF Try.prog 20 x20 = true := by kernel_rfl
theorem ag21 : agF Try.prog 21 x21 = true := by kernel_rfl
theorem ag22 : agF Try.prog 22 x22 = true := by kernel_rfl
theorem ag23 : agF Try.prog 23 x23 = true := by kernel_rfl
theorem ag24 : agF Try.prog 24 x24 = true := by kernel_rfl
theorem ag25 : agF Try.prog 25 x25 = true := by kernel_rfl
theorem ag26 : agF Try.prog 26 x26 = true := by kernel_rfl
theorem ag27 : agF Try.prog 27 x27 = true := by kernel_rfl
theorem ag28 : agF Try.prog 28 x28 = true := by kernel_rfl
theorem ag29 : agF Try.prog 29 x29 = true := by kernel_rfl
theorem ag30 : agF Try.prog 30 x30 = true := by kernel_rfl
theorem ag31 : agF Try.prog 31 x31 = true := by kernel_rfl
theorem ag32 : agF Try.prog 32 x32 = true := by kernel_rfl
theorem ag33 : agF Try.prog 33 x33 = true := by kernel_rfl
theorem ag34 : agF Try.prog 34 x34 = true := by kernel_rfl
theorem ag35 : agF Try.prog 35 x35 = true := by kernel_rfl
theorem ag36 : agF Try.prog 36 x36 = true := by kernel_rfl
theorem ag37 : agF Try.prog 37 x37 = true := by kernel_rfl
theorem ag38 : agF Try.prog 38 x38 = true := by kernel_rfl
theorem ag39 : agF Try.prog 39 x39 = true := by kernel_rfl
theorem ag40 : agF Try.prog 40 x40 = true := by kernel_rfl
theorem ag41 : agF Try.prog 41 x41 = true := by kernel_rfl
theorem ag42 : agF Try.prog 42 x42 = true := by kernel_rfl
theorem ag43 : agF Try.prog 43 x43 = true := by kernel_rfl
theorem ag44 : agF Try.prog 44 x44 = true := by kernel_rfl
theorem ag45 : agF Try.prog 45 x45 = true := by kernel_rfl
theorem ag46 : agF Try.prog 46 x46 = true := by kernel_rfl
theorem ag47 : agF Try.prog 47 x47 = true := by kernel_rfl
theorem ag48 : agF Try.prog 48 x48 = true := by kernel_rfl
theorem ag49 : agF Try.prog 49 x49 = true := by kernel_rfl
theorem ag50 : agF Try.prog 50 x50 = true := by kernel_rfl
theorem ag51 : agF Try.prog 51 x51 = true := by kernel_rfl
theorem ag52 : agF Try.prog 52 x52 = true := by kernel_rfl
theorem ag53 : agF Try.prog 53 x53 = true := by kernel_rfl
theorem ag54 : agF Try.prog 54 x54 = true := by kernel_rfl
theorem ag55 : agF Try.prog 55 x55 = true := by kernel_rfl
theorem ag56 : agF Try.prog 56 x56 = true := by kernel_rfl
theorem ag57 : agF Try.prog 57 x57 = true := by kernel_rfl
theorem ag58 : agF Try.prog 58 x58 = true := by kernel_rfl
theorem ag59 : agF Try.prog 59 x59 = true := by kernel_rfl
theorem ag60 : agF Try.prog 60 x60 = true := by kernel_rfl
theorem ag61 : agF Try.prog 61 x61 = true := by kernel_rfl
theorem ag62 : agF Try.prog 62 x62 = true := by kernel_rfl
theorem ag63 : agF Try.prog 63 x63 = true := by kernel_rfl
theorem ag64 : agF Try.prog 64 x64 = true := by kernel_rfl
theorem ag65 : agF Try.prog 65 x65 = true := by kernel_rfl
theorem ag66 : agF Try.prog 66 x66 = true := by kernel_rfl
end Go.ScX
