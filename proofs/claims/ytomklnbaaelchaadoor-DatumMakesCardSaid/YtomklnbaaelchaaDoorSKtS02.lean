/- The table for values with names, and that each function in it is as it should be. -/
import Derived.Test.YtomklnbaaelchaaDoorSX02a
import Derived.Test.YtomklnbaaelchaaDoorSHS02
import Derived.Test.YtomklnbaaelchaaDoorSS6
set_option maxRecDepth 100000
namespace Go.Sc2
open Go.ScE Go.Proofs
theorem cl3 : clC x3.body = true := by kernel_rfl
theorem cl4 : clC x4.body = true := by kernel_rfl
theorem cl5 : clC x5.body = true := by kernel_rfl
theorem cl6 : clC x6.body = true := by kernel_rfl
theorem cl7 : clC x7.body = true := by kernel_rfl
theorem cl8 : clC x8.body = true := by kernel_rfl
theorem cl9 : clC x9.body = true := by kernel_rfl
theorem cl10 : clC x10.body = true := by kernel_rfl
theorem cl11 : clC x11.body = true := by kernel_rfl
theorem cl12 : clC x12.body = true := by kernel_rfl
theorem cl13 : clC x13.body = true := by kernel_rfl
theorem cl14 : clC x14.body = true := by kernel_rfl
theorem cl15 : clC x15.body = true := by kernel_rfl
theorem cl16 : clC x16.body = true := by kernel_rfl
theorem cl17 : clC x17.body = true := by kernel_rfl
theorem cl18 : clC x18.body = true := by kernel_rfl
theorem cl19 : clC x19.body = true := by kernel_rfl
theorem cl20 : clC x20.body = true := by kernel_rfl
theorem cl21 : clC x21.body = true := by kernel_rfl
theorem cl22 : clC x22.body = true := by kernel_rfl
theorem cl23 : clC x23.body = true := by kernel_rfl
theorem cl24 : clC x24.body = true := by kernel_rfl
theorem cl25 : clC x25.body = true := by kernel_rfl
theorem cl26 : clC x26.body = true := by kernel_rfl
theorem cl27 : clC x27.body = true := by kernel_rfl
theorem cl28 : clC x28.body = true := by kernel_rfl
theorem cl29 : clC x29.body = true := by kernel_rfl
theorem cl30 : clC x30.body = true := by kernel_rfl
theorem cl31 : clC x31.body = true := by kernel_rfl
theorem cl32 : clC x32.body = true := by kernel_rfl
theorem cl33 : clC x33.body = true := by kernel_rfl
theorem cl34 : clC x34.body = true := by kernel_rfl
theorem cl36 : clC x36.body = true := by kernel_rfl
theorem cl38 : clC x38.body = true := by kernel_rfl
theorem cl39 : clC x39.body = true := by kernel_rfl
noncomputable def s39 : KS := fun B C n => evS B C n x39.body
theorem s39_eq (B : Sy) (C : Go.ScE.Callee) (n : Nat) : s39 B C n = evS B C n x39.body := rfl
noncomputable def stb (f : FuncId) : Option (XFunc × KS) := (bif Nat.blt f 20 then (bif Nat.blt f 11 then (bif Nat.blt f 7 then (bif Nat.blt f 5 then (bif Nat.blt f 4 then (bif Nat.beq f 3 then some (x3, s3) else none) else (bif Nat.beq f 4 then some (x4, s4) else none)) else (bif Nat.blt f 6 then (bif Nat.beq f 5 then some (x5, s5) else none) else (bif Nat.beq f 6 then some (x6, s6) else none))) else (bif Nat.blt f 9 then (bif Nat.blt f 8 then (bif Nat.beq f 7 then some (x7, s7) else none) else (bif Nat.beq f 8 then some (x8, s8) else none)) else (bif Nat.blt f 10 then (bif Nat.beq f 9 then some (x9, s9) else none) else (bif Nat.beq f 10 then some (x10, s10) else none)))) else (bif Nat.blt f 15 then (bif Nat.blt f 13 then (bif Nat.blt f 12 then (bif Nat.beq f 11 then some (x11, s11) else none) else (bif Nat.beq f 12 then some (x12, s12) else none)) else (bif Nat.blt f 14 then (bif Nat.beq f 13 then some (x13, s13) else none) else (bif Nat.beq f 14 then some (x14, s14) else none))) else (bif Nat.blt f 17 then (bif Nat.blt f 16 then (bif Nat.beq f 15 then some (x15, s15) else none) else (bif Nat.beq f 16 then some (x16, s16) else none)) else (bif Nat.blt f 18 then (bif Nat.beq f 17 then some (x17, s17) else none) else (bif Nat.blt f 19 then (bif Nat.beq f 18 then some (x18, s18) else none) else (bif Nat.beq f 19 then some (x19, s19) else none)))))) else (bif Nat.blt f 29 then (bif Nat.blt f 24 then (bif Nat.blt f 22 then (bif Nat.blt f 21 then (bif Nat.beq f 20 then some (x20, s20) else none) else (bif Nat.beq f 21 then some (x21, s21) else none)) else (bif Nat.blt f 23 then (bif Nat.beq f 22 then some (x22, s22) else none) else (bif Nat.beq f 23 then some (x23, s23) else none))) else (bif Nat.blt f 26 then (bif Nat.blt f 25 then (bif Nat.beq f 24 then some (x24, s24) else none) else (bif Nat.beq f 25 then some (x25, s25) else none)) else (bif Nat.blt f 27 then (bif Nat.beq f 26 then some (x26, s26) else none) else (bif Nat.blt f 28 then (bif Nat.beq f 27 then some (x27, s27) else none) else (bif Nat.beq f 28 then some (x28, s28) else none))))) else (bif Nat.blt f 33 then (bif Nat.blt f 31 then (bif Nat.blt f 30 then (bif Nat.beq f 29 then some (x29, s29) else none) else (bif Nat.beq f 30 then some (x30, s30) else none)) else (bif Nat.blt f 32 then (bif Nat.beq f 31 then some (x31, s31) else none) else (bif Nat.beq f 32 then some (x32, s32) else none))) else (bif Nat.blt f 36 then (bif Nat.blt f 34 then (bif Nat.beq f 33 then some (x33, s33) else none) else (bif Nat.beq f 34 then some (x34, s34) else none)) else (bif Nat.blt f 38 then (bif Nat.beq f 36 then some (x36, s36) else none) else (bif Nat.blt f 39 then (bif Nat.beq f 38 then some (x38, s38) else none) else (bif Nat.beq f 39 then some (x39, s39) else none)))))))
noncomputable def tbl (f : FuncId) : Option XFunc := (stb f).map (·.1)
def ext0 : Go.ScE.Callee := fun _ _ _ => (deadA, [], false)
def GoodS (f : Nat) (x : XFunc × KS) : Prop := agF Tryd.prog f x.1 = true ∧ clC x.1.body = true ∧ ∀ (B : Sy) (C : Go.ScE.Callee) (n : Nat), x.2 B C n = evS B C n x.1.body
theorem stb_good : ∀ f x, stb f = some x → GoodS f x := (tnode (tnode (tnode (tnode (tnode (tleaf (Q := GoodS) ⟨ag3, cl3, s3_eq⟩) (tleaf (Q := GoodS) ⟨ag4, cl4, s4_eq⟩)) (tnode (tleaf (Q := GoodS) ⟨ag5, cl5, s5_eq⟩) (tleaf (Q := GoodS) ⟨ag6, cl6, s6_eq⟩))) (tnode (tnode (tleaf (Q := GoodS) ⟨ag7, cl7, s7_eq⟩) (tleaf (Q := GoodS) ⟨ag8, cl8, s8_eq⟩)) (tnode (tleaf (Q := GoodS) ⟨ag9, cl9, s9_eq⟩) (tleaf (Q := GoodS) ⟨ag10, cl10, s10_eq⟩)))) (tnode (tnode (tnode (tleaf (Q := GoodS) ⟨ag11, cl11, s11_eq⟩) (tleaf (Q := GoodS) ⟨ag12, cl12, s12_eq⟩)) (tnode (tleaf (Q := GoodS) ⟨ag13, cl13, s13_eq⟩) (tleaf (Q := GoodS) ⟨ag14, cl14, s14_eq⟩))) (tnode (tnode (tleaf (Q := GoodS) ⟨ag15, cl15, s15_eq⟩) (tleaf (Q := GoodS) ⟨ag16, cl16, s16_eq⟩)) (tnode (tleaf (Q := GoodS) ⟨ag17, cl17, s17_eq⟩) (tnode (tleaf (Q := GoodS) ⟨ag18, cl18, s18_eq⟩) (tleaf (Q := GoodS) ⟨ag19, cl19, s19_eq⟩)))))) (tnode (tnode (tnode (tnode (tleaf (Q := GoodS) ⟨ag20, cl20, s20_eq⟩) (tleaf (Q := GoodS) ⟨ag21, cl21, s21_eq⟩)) (tnode (tleaf (Q := GoodS) ⟨ag22, cl22, s22_eq⟩) (tleaf (Q := GoodS) ⟨ag23, cl23, s23_eq⟩))) (tnode (tnode (tleaf (Q := GoodS) ⟨ag24, cl24, s24_eq⟩) (tleaf (Q := GoodS) ⟨ag25, cl25, s25_eq⟩)) (tnode (tleaf (Q := GoodS) ⟨ag26, cl26, s26_eq⟩) (tnode (tleaf (Q := GoodS) ⟨ag27, cl27, s27_eq⟩) (tleaf (Q := GoodS) ⟨ag28, cl28, s28_eq⟩))))) (tnode (tnode (tnode (tleaf (Q := GoodS) ⟨ag29, cl29, s29_eq⟩) (tleaf (Q := GoodS) ⟨ag30, cl30, s30_eq⟩)) (tnode (tleaf (Q := GoodS) ⟨ag31, cl31, s31_eq⟩) (tleaf (Q := GoodS) ⟨ag32, cl32, s32_eq⟩))) (tnode (tnode (tleaf (Q := GoodS) ⟨ag33, cl33, s33_eq⟩) (tleaf (Q := GoodS) ⟨ag34, cl34, s34_eq⟩)) (tnode (tleaf (Q := GoodS) ⟨ag36, cl36, s36_eq⟩) (tnode (tleaf (Q := GoodS) ⟨ag38, cl38, s38_eq⟩) (tleaf (Q := GoodS) ⟨ag39, cl39, s39_eq⟩)))))))
end Go.Sc2
