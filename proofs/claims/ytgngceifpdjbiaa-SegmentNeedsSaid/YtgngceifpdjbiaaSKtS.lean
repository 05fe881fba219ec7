/- The table for values with names, and that each function in it is as it should be. -/
import Derived.Test.YtgngceifpdjbiaaSX23a
import Derived.Test.YtgngceifpdjbiaaSHSa
import Derived.Test.YtgngceifpdjbiaaSHSb
set_option maxRecDepth 100000
namespace Go.ScX
open Go.ScE Go.Proofs
theorem cl3 : clC x3.body = true := by kernel_rfl
theorem cl4 : clC x4.body = true := by kernel_rfl
theorem cl5 : clC x5.body = true := by kernel_rfl
theorem cl6 : clC x6.body = true := by kernel_rfl
theorem cl7 : clC x7.body = true := by kernel_rfl
theorem cl8 : clC x8.body = true := by kernel_rfl
theorem cl9 : clC x9.body = true := by kernel_rfl
theorem cl10 : clC x10.body = true := by kernel_rfl
theorem cl11 : clC x11.body = true := by kernel_rfl
theorem cl12 : clC x12.body = true := by kernel_rfl
theorem cl13 : clC x13.body = true := by kernel_rfl
theorem cl14 : clC x14.body = true := by kernel_rfl
theorem cl15 : clC x15.body = true := by kernel_rfl
theorem cl16 : clC x16.body = true := by kernel_rfl
theorem cl17 : clC x17.body = true := by kernel_rfl
theorem cl18 : clC x18.body = true := by kernel_rfl
theorem cl19 : clC x19.body = true := by kernel_rfl
theorem cl20 : clC x20.body = true := by kernel_rfl
theorem cl21 : clC x21.body = true := by kernel_rfl
theorem cl22 : clC x22.body = true := by kernel_rfl
theorem cl23 : clC x23.body = true := by kernel_rfl
theorem cl24 : clC x24.body = true := by kernel_rfl
theorem cl25 : clC x25.body = true := by kernel_rfl
theorem cl26 : clC x26.body = true := by kernel_rfl
theorem cl27 : clC x27.body = true := by kernel_rfl
theorem cl28 : clC x28.body = true := by kernel_rfl
theorem cl29 : clC x29.body = true := by kernel_rfl
theorem cl30 : clC x30.body = true := by kernel_rfl
theorem cl31 : clC x31.body = true := by kernel_rfl
theorem cl32 : clC x32.body = true := by kernel_rfl
theorem cl33 : clC x33.body = true := by kernel_rfl
theorem cl34 : clC x34.body = true := by kernel_rfl
theorem cl35 : clC x35.body = true := by kernel_rfl
theorem cl36 : clC x36.body = true := by kernel_rfl
theorem cl37 : clC x37.body = true := by kernel_rfl
theorem cl38 : clC x38.body = true := by kernel_rfl
theorem cl39 : clC x39.body = true := by kernel_rfl
theorem cl40 : clC x40.body = true := by kernel_rfl
theorem cl41 : clC x41.body = true := by kernel_rfl
theorem cl42 : clC x42.body = true := by kernel_rfl
theorem cl43 : clC x43.body = true := by kernel_rfl
theorem cl44 : clC x44.body = true := by kernel_rfl
theorem cl45 : clC x45.body = true := by kernel_rfl
theorem cl46 : clC x46.body = true := by kernel_rfl
theorem cl47 : clC x47.body = true := by kernel_rfl
theorem cl48 : clC x48.body = true := by kernel_rfl
theorem cl49 : clC x49.body = true := by kernel_rfl
theorem cl50 : clC x50.body = true := by kernel_rfl
theorem cl51 : clC x51.body = true := by kernel_rfl
theorem cl52 : clC x52.body = true := by kernel_rfl
theorem cl53 : clC x53.body = true := by kernel_rfl
theorem cl54 : clC x54.body = true := by kernel_rfl
theorem cl55 : clC x55.body = true := by kernel_rfl
theorem cl56 : clC x56.body = true := by kernel_rfl
theorem cl57 : clC x57.body = true := by kernel_rfl
theorem cl58 : clC x58.body = true := by kernel_rfl
theorem cl59 : clC x59.body = true := by kernel_rfl
theorem cl60 : clC x60.body = true := by kernel_rfl
theorem cl61 : clC x61.body = true := by kernel_rfl
theorem cl62 : clC x62.body = true := by kernel_rfl
theorem cl63 : clC x63.body = true := by kernel_rfl
theorem cl64 : clC x64.body = true := by kernel_rfl
theorem cl65 : clC x65.body = true := by kernel_rfl
theorem cl66 : clC x66.body = true := by kernel_rfl
noncomputable def stb (f : FuncId) : Option (XFunc × KS) := (bif Nat.blt f 35 then (bif Nat.blt f 19 then (bif Nat.blt f 11 then (bif Nat.blt f 7 then (bif Nat.blt f 5 then (bif Nat.blt f 4 then (bif Nat.beq f 3 then some (x3, s3) else none) else (bif Nat.beq f 4 then some (x4, s4) else none)) else (bif Nat.blt f 6 then (bif Nat.beq f 5 then some (x5, s5) else none) else (bif Nat.beq f 6 then some (x6, s6) else none))) else (bif Nat.blt f 9 then (bif Nat.blt f 8 then (bif Nat.beq f 7 then some (x7, s7) else none) else (bif Nat.beq f 8 then some (x8, s8) else none)) else (bif Nat.blt f 10 then (bif Nat.beq f 9 then some (x9, s9) else none) else (bif Nat.beq f 10 then some (x10, s10) else none)))) else (bif Nat.blt f 15 then (bif Nat.blt f 13 then (bif Nat.blt f 12 then (bif Nat.beq f 11 then some (x11, s11) else none) else (bif Nat.beq f 12 then some (x12, s12) else none)) else (bif Nat.blt f 14 then (bif Nat.beq f 13 then some (x13, s13) else none) else (bif Nat.beq f 14 then some (x14, s14) else none))) else (bif Nat.blt f 17 then (bif Nat.blt f 16 then (bif Nat.beq f 15 then some (x15, s15) else none) else (bif Nat.beq f 16 then some (x16, s16) else none)) else (bif Nat.blt f 18 then (bif Nat.beq f 17 then some (x17, s17) else none) else (bif Nat.beq f 18 then some (x18, s18) else none))))) else (bif Nat.blt f 27 then (bif Nat.blt f 23 then (bif Nat.blt f 21 then (bif Nat.blt f 20 then (bif Nat.beq f 19 then some (x19, s19) else none) else (bif Nat.beq f 20 then some (x20, s20) else none)) else (bif Nat.blt f 22 then (bif Nat.beq f 21 then some (x21, s21) else none) else (bif Nat.beq f 22 then some (x22, s22) else none))) else (bif Nat.blt f 25 then (bif Nat.blt f 24 then (bif Nat.beq f 23 then some (x23, s23) else none) else (bif Nat.beq f 24 then some (x24, s24) else none)) else (bif Nat.blt f 26 then (bif Nat.beq f 25 then some (x25, s25) else none) else (bif Nat.beq f 26 then some (x26, s26) else none)))) else (bif Nat.blt f 31 then (bif Nat.blt f 29 then (bif Nat.blt f 28 then (bif Nat.beq f 27 then some (x27, s27) else none) else (bif Nat.beq f 28 then some (x28, s28) else none)) else (bif Nat.blt f 30 then (bif Nat.beq f 29 then some (x29, s29) else none) else (bif Nat.beq f 30 then some (x30, s30) else none))) else (bif Nat.blt f 33 then (bif Nat.blt f 32 then (bif Nat.beq f 31 then some (x31, s31) else none) else (bif Nat.beq f 32 then some (x32, s32) else none)) else (bif Nat.blt f 34 then (bif Nat.beq f 33 then some (x33, s33) else none) else (bif Nat.beq f 34 then some (x34, s34) else none)))))) else (bif Nat.blt f 51 then (bif Nat.blt f 43 then (bif Nat.blt f 39 then (bif Nat.blt f 37 then (bif Nat.blt f 36 then (bif Nat.beq f 35 then some (x35, s35) else none) else (bif Nat.beq f 36 then some (x36, s36) else none)) else (bif Nat.blt f 38 then (bif Nat.beq f 37 then some (x37, s37) else none) else (bif Nat.beq f 38 then some (x38, s38) else none))) else (bif Nat.blt f 41 then (bif Nat.blt f 40 then (bif Nat.beq f 39 then some (x39, s39) else none) else (bif Nat.beq f 40 then some (x40, s40) else none)) else (bif Nat.blt f 42 then (bif Nat.beq f 41 then some (x41, s41) else none) else (bif Nat.beq f 42 then some (x42, s42) else none)))) else (bif Nat.blt f 47 then (bif Nat.blt f 45 then (bif Nat.blt f 44 then (bif Nat.beq f 43 then some (x43, s43) else none) else (bif Nat.beq f 44 then some (x44, s44) else none)) else (bif Nat.blt f 46 then (bif Nat.beq f 45 then some (x45, s45) else none) else (bif Nat.beq f 46 then some (x46, s46) else none))) else (bif Nat.blt f 49 then (bif Nat.blt f 48 then (bif Nat.beq f 47 then some (x47, s47) else none) else (bif Nat.beq f 48 then some (x48, s48) else none)) else (bif Nat.blt f 50 then (bif Nat.beq f 49 then some (x49, s49) else none) else (bif Nat.beq f 50 then some (x50, s50) else none))))) else (bif Nat.blt f 59 then (bif Nat.blt f 55 then (bif Nat.blt f 53 then (bif Nat.blt f 52 then (bif Nat.beq f 51 then some (x51, s51) else none) else (bif Nat.beq f 52 then some (x52, s52) else none)) else (bif Nat.blt f 54 then (bif Nat.beq f 53 then some (x53, s53) else none) else (bif Nat.beq f 54 then some (x54, s54) else none))) else (bif Nat.blt f 57 then (bif Nat.blt f 56 then (bif Nat.beq f 55 then some (x55, s55) else none) else (bif Nat.beq f 56 then some (x56, s56) else none)) else (bif Nat.blt f 58 then (bif Nat.beq f 57 then some (x57, s57) else none) else (bif Nat.beq f 58 then some (x58, s58) else none)))) else (bif Nat.blt f 63 then (bif Nat.blt f 61 then (bif Nat.blt f 60 then (bif Nat.beq f 59 then some (x59, s59) else none) else (bif Nat.beq f 60 then some (x60, s60) else none)) else (bif Nat.blt f 62 then (bif Nat.beq f 61 then some (x61, s61) else none) else (bif Nat.beq f 62 then some (x62, s62) else none))) else (bif Nat.blt f 65 then (bif Nat.blt f 64 then (bif Nat.beq f 63 then some (x63, s63) else none) else (bif Nat.beq f 64 then some (x64, s64) else none)) else (bif Nat.blt f 66 then (bif Nat.beq f 65 then some (x65, s65) else none) else (bif Nat.beq f 66 then some (x66, s66) else none)))))))
noncomputable def tbl (f : FuncId) : Option XFunc := (stb f).map (·.1)
def ext0 : Go.ScE.Callee := fun _ _ _ => (deadA, [], false)
def GoodS (f : Nat) (x : XFunc × KS) : Prop := agF Try.prog f x.1 = true ∧ clC x.1.body = true ∧ ∀ (B : Sy) (C : Go.ScE.Callee) (n : Nat), x.2 B C n = evS B C n x.1.body
theorem stb_good : ∀ f x, stb f = some x → GoodS f x := (tnode (tnode (tnode (tnode (tnode (tnode (tleaf (Q := GoodS) ⟨ag3, cl3, s3_eq⟩) (tleaf (Q := GoodS) ⟨ag4, cl4, s4_eq⟩)) (tnode (tleaf (Q := GoodS) ⟨ag5, cl5, s5_eq⟩) (tleaf (Q := GoodS) ⟨ag6, cl6, s6_eq⟩))) (tnode (tnode (tleaf (Q := GoodS) ⟨ag7, cl7, s7_eq⟩) (tleaf (Q := GoodS) ⟨ag8, cl8, s8_eq⟩)) (tnode (tleaf (Q := GoodS) ⟨ag9, cl9, s9_eq⟩) (tleaf (Q := GoodS) ⟨ag10, cl10, s10_eq⟩)))) (tnode (tnode (tnode (tleaf (Q := GoodS) ⟨ag11, cl11, s11_eq⟩) (tleaf (Q := GoodS) ⟨ag12, cl12, s12_eq⟩)) (tnode (tleaf (Q := GoodS) ⟨ag13, cl13, s13_eq⟩) (tleaf (Q := GoodS) ⟨ag14, cl14, s14_eq⟩))) (tnode (tnode (tleaf (Q := GoodS) ⟨ag15, cl15, s15_eq⟩) (tleaf (Q := GoodS) ⟨ag16, cl16, s16_eq⟩)) (tnode (tleaf (Q := GoodS) ⟨ag17, cl17, s17_eq⟩) (tleaf (Q := GoodS) ⟨ag18, cl18, s18_eq⟩))))) (tnode (tnode (tnode (tnode (tleaf (Q := GoodS) ⟨ag19, cl19, s19_eq⟩) (tleaf (Q := GoodS) ⟨ag20, cl20, s20_eq⟩)) (tnode (tleaf (Q := GoodS) ⟨ag21, cl21, s21_eq⟩) (tleaf (Q := GoodS) ⟨ag22, cl22, s22_eq⟩))) (tnode (tnode (tleaf (Q := GoodS) ⟨ag23, cl23, s23_eq⟩) (tleaf (Q := GoodS) ⟨ag24, cl24, s24_eq⟩)) (tnode (tleaf (Q := GoodS) ⟨ag25, cl25, s25_eq⟩) (tleaf (Q := GoodS) ⟨ag26, cl26, s26_eq⟩)))) (tnode (tnode (tnode (tleaf (Q := GoodS) ⟨ag27, cl27, s27_eq⟩) (tleaf (Q := GoodS) ⟨ag28, cl28, s28_eq⟩)) (tnode (tleaf (Q := GoodS) ⟨ag29, cl29, s29_eq⟩) (tleaf (Q := GoodS) ⟨ag30, cl30, s30_eq⟩))) (tnode (tnode (tleaf (Q := GoodS) ⟨ag31, cl31, s31_eq⟩) (tleaf (Q := GoodS) ⟨ag32, cl32, s32_eq⟩)) (tnode (tleaf (Q := GoodS) ⟨ag33, cl33, s33_eq⟩) (tleaf (Q := GoodS) ⟨ag34, cl34, s34_eq⟩)))))) (tnode (tnode (tnode (tnode (tnode (tleaf (Q := GoodS) ⟨ag35, cl35, s35_eq⟩) (tleaf (Q := GoodS) ⟨ag36, cl36, s36_eq⟩)) (tnode (tleaf (Q := GoodS) ⟨ag37, cl37, s37_eq⟩) (tleaf (Q := GoodS) ⟨ag38, cl38, s38_eq⟩))) (tnode (tnode (tleaf (Q := GoodS) ⟨ag39, cl39, s39_eq⟩) (tleaf (Q := GoodS) ⟨ag40, cl40, s40_eq⟩)) (tnode (tleaf (Q := GoodS) ⟨ag41, cl41, s41_eq⟩) (tleaf (Q := GoodS) ⟨ag42, cl42, s42_eq⟩)))) (tnode (tnode (tnode (tleaf (Q := GoodS) ⟨ag43, cl43, s43_eq⟩) (tleaf (Q := GoodS) ⟨ag44, cl44, s44_eq⟩)) (tnode (tleaf (Q := GoodS) ⟨ag45, cl45, s45_eq⟩) (tleaf (Q := GoodS) ⟨ag46, cl46, s46_eq⟩))) (tnode (tnode (tleaf (Q := GoodS) ⟨ag47, cl47, s47_eq⟩) (tleaf (Q := GoodS) ⟨ag48, cl48, s48_eq⟩)) (tnode (tleaf (Q := GoodS) ⟨ag49, cl49, s49_eq⟩) (tleaf (Q := GoodS) ⟨ag50, cl50, s50_eq⟩))))) (tnode (tnode (tnode (tnode (tleaf (Q := GoodS) ⟨ag51, cl51, s51_eq⟩) (tleaf (Q := GoodS) ⟨ag52, cl52, s52_eq⟩)) (tnode (tleaf (Q := GoodS) ⟨ag53, cl53, s53_eq⟩) (tleaf (Q := GoodS) ⟨ag54, cl54, s54_eq⟩))) (tnode (tnode (tleaf (Q := GoodS) ⟨ag55, cl55, s55_eq⟩) (tleaf (Q := GoodS) ⟨ag56, cl56, s56_eq⟩)) (tnode (tleaf (Q := GoodS) ⟨ag57, cl57, s57_eq⟩) (tleaf (Q := GoodS) ⟨ag58, cl58, s58_eq⟩)))) (tnode (tnode (tnode (tleaf (Q := GoodS) ⟨ag59, cl59, s59_eq⟩) (tleaf (Q := GoodS) ⟨ag60, cl60, s60_eq⟩)) (tnode (tleaf (Q := GoodS) ⟨ag61, cl61, s61_eq⟩) (tleaf (Q := GoodS) ⟨ag62, cl62, s62_eq⟩))) (tnode (tnode (tleaf (Q := GoodS) ⟨ag63, cl63, s63_eq⟩) (tleaf (Q := GoodS) ⟨ag64, cl64, s64_eq⟩)) (tnode (tleaf (Q := GoodS) ⟨ag65, cl65, s65_eq⟩) (tleaf (Q := GoodS) ⟨ag66, cl66, s66_eq⟩)))))))
end Go.ScX
