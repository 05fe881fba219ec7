/- The small code of the functions reached, as a program printed it. -/
import Derived.Test.YtomklnbaaelchaaDoorSE17
set_option maxRecDepth 100000
namespace Go.Sc2
open Go.ScE
/-- scrimshaw/scrimshawlaw02.DatumEquals -/
def x3 : XFunc := ⟨2, [.tmp 4],
  (.seq (.region false [
  ⟨some 2, none, .box 0, [.tk 0]⟩,
  ⟨some 3, none, .box 1, [.tk 1]⟩,
  ⟨some 4, none, .mv, [.k (pB false)]⟩] [2, 3])
  (.seq (.seq (.region false [
  ⟨some 5, none, .ld true 4 false, [.t 2]⟩,
  ⟨some 6, none, .ld true 4 false, [.t 3]⟩,
  ⟨some 7, none, .blds 4 [(pI 0), (pI 0), (pS []), (.sl 4 [])] 2 [0, 1], [.tk 5, .tk 6]⟩,
  ⟨some 8, none, .call 5, [.tk 7]⟩] [2, 3, 8])
  (.cond (.t 8)
  (.seq (.region false [
  ⟨some 9, none, .call 6, []⟩,
  ⟨some 4, none, .mv, [.t 9]⟩] [4])
  .ret)
  .skip))
  (.seq (.regionD [
  ⟨⟨some 10, none, .call 6, []⟩, [], false⟩,
  ⟨⟨some 11, none, .mv, [.t 10]⟩, [], false⟩,
  ⟨⟨some 12, (some (11, true)), .ld true 4 false, [.t 2]⟩, [], false⟩,
  ⟨⟨some 13, (some (11, true)), .ld true 4 false, [.t 3]⟩, [], false⟩,
  ⟨⟨some 14, (some (11, true)), .call 7, [.t 12, .t 13]⟩, [], false⟩,
  ⟨⟨some 15, (some (11, true)), .ld true 4 false, [.t 2]⟩, [], false⟩,
  ⟨⟨some 16, (some (11, true)), .ld true 4 false, [.t 3]⟩, [], false⟩,
  ⟨⟨some 17, (some (11, true)), .call 8, [.t 15, .t 16]⟩, [], false⟩,
  ⟨⟨some 18, (some (11, true)), .bin .eql true, [.t 14, .t 17]⟩, [], false⟩,
  ⟨⟨some 19, none, .pick, [.t 11, .t 18, .k (pB false)]⟩, [], false⟩,
  ⟨⟨some 20, none, .mv, [.t 19]⟩, [], false⟩,
  ⟨⟨some 21, (some (20, true)), .ld true 4 false, [.t 2]⟩, [], false⟩,
  ⟨⟨some 22, (some (20, true)), .ld true 4 false, [.t 2]⟩, [], false⟩,
  ⟨⟨some 23, (some (20, true)), .call 7, [.t 21, .t 22]⟩, [], false⟩,
  ⟨⟨some 24, none, .pick, [.t 20, .t 23, .k (pB false)]⟩, [], false⟩,
  ⟨⟨some 25, none, .mv, [.t 24]⟩, [], false⟩,
  ⟨⟨some 26, (some (25, true)), .ld true 4 false, [.t 3]⟩, [], false⟩,
  ⟨⟨some 27, (some (25, true)), .ld true 4 false, [.t 2]⟩, [], false⟩,
  ⟨⟨some 28, (some (25, true)), .call 7, [.t 26, .t 27]⟩, [], false⟩,
  ⟨⟨some 29, (some (25, true)), .ld true 4 false, [.t 2]⟩, [], false⟩,
  ⟨⟨some 30, (some (25, true)), .ld true 4 false, [.t 3]⟩, [], false⟩,
  ⟨⟨some 31, (some (25, true)), .call 7, [.t 29, .t 30]⟩, [], false⟩,
  ⟨⟨some 32, (some (25, true)), .bin .eql true, [.t 28, .t 31]⟩, [], false⟩,
  ⟨⟨some 33, none, .pick, [.t 25, .t 32, .k (pB false)]⟩, [], false⟩,
  ⟨⟨some 4, none, .mv, [.t 33]⟩, [], false⟩] [4])
  .ret)))⟩
/-- scrimshaw/scrimshawlaw02.DatumMakes -/
def x4 : XFunc := ⟨2, [.tmp 4],
  (.seq (.region false [
  ⟨some 3, none, .box 0, [.tk 1]⟩,
  ⟨some 4, none, .mv, [.k (pB false)]⟩] [0, 3])
  (.seq (.seq (.region false [
  ⟨some 10, none, .mv, [.t 0]⟩,
  ⟨some 11, none, .call 5, [.tk 10]⟩,
  ⟨some 12, none, .mv, [.t 11]⟩,
  ⟨some 13, (some (12, false)), .ld true 4 false, [.t 3]⟩,
  ⟨some 14, (some (12, false)), .blds 4 [(pI 0), (pI 0), (pS []), (.sl 4 [])] 1 [0], [.t 13]⟩,
  ⟨some 15, (some (12, false)), .call 5, [.t 14]⟩,
  ⟨some 16, none, .pick, [.t 12, .k (pB true), .t 15]⟩] [0, 3, 16])
  (.cond (.t 16)
  (.seq (.region false [
  ⟨some 17, none, .call 6, []⟩,
  ⟨some 4, none, .mv, [.t 17]⟩] [4])
  .ret)
  .skip))
  (.seq (.region false [
  ⟨some 18, none, .mv, [.t 0]⟩,
  ⟨some 19, none, .ld true 4 false, [.t 3]⟩,
  ⟨some 20, none, .call 9, [.tk 18, .tk 19]⟩,
  ⟨some 5, none, .alloc 1 true [(pI 0), (pI 0), (pS []), (.sl 4 [])], []⟩,
  ⟨none, none, .st 4, [.t 5, .tk 20]⟩] [0, 3, 5])
  (.seq (.region false [
  ⟨some 22, none, .ld true 4 false, [.t 3]⟩,
  ⟨some 23, none, .call 10, [.tk 22]⟩,
  ⟨some 21, none, .mv, [.tk 23]⟩,
  ⟨some 24, none, .ext 0, [.t 21]⟩,
  ⟨some 25, none, .ext 1, [.tk 21]⟩,
  ⟨some 7, none, .alloc 2 true [(pI 0), (pI 0), (pS []), (.sl 4 [])], []⟩,
  ⟨some 6, none, .mv, [.tk 24]⟩,
  ⟨none, none, .st 4, [.t 7, .tk 25]⟩] [0, 3, 5, 6, 7])
  (.seq (.region false [
  ⟨some 27, none, .ld true 4 false, [.t 3]⟩,
  ⟨some 28, none, .call 11, [.tk 27]⟩,
  ⟨some 26, none, .mv, [.tk 28]⟩,
  ⟨some 29, none, .ext 0, [.t 26]⟩,
  ⟨some 30, none, .ext 1, [.tk 26]⟩,
  ⟨some 9, none, .alloc 3 true [(pI 0), (pI 0), (pS []), (.sl 4 [])], []⟩,
  ⟨some 8, none, .mv, [.tk 29]⟩,
  ⟨none, none, .st 4, [.t 9, .tk 30]⟩] [0, 3, 5, 6, 7, 8, 9])
  (.seq (.regionD [
  ⟨⟨some 31, none, .call 6, []⟩, [], false⟩,
  ⟨⟨some 32, none, .mv, [.t 31]⟩, [], false⟩,
  ⟨⟨some 33, (some (32, true)), .ld true 4 false, [.t 5]⟩, [], false⟩,
  ⟨⟨some 34, (some (32, true)), .mv, [.t 0]⟩, [], false⟩,
  ⟨⟨some 35, (some (32, true)), .ld true 4 false, [.t 3]⟩, [], false⟩,
  ⟨⟨some 36, (some (32, true)), .call 12, [.t 34, .t 35]⟩, [], false⟩,
  ⟨⟨some 37, (some (32, true)), .call 8, [.t 33, .t 36]⟩, [], false⟩,
  ⟨⟨some 38, none, .pick, [.t 32, .t 37, .k (pB false)]⟩, [], false⟩,
  ⟨⟨some 39, none, .mv, [.t 38]⟩, [], false⟩,
  ⟨⟨some 40, (some (39, true)), .mv, [.t 6]⟩, [], false⟩,
  ⟨⟨some 41, (some (39, true)), .mv, [.t 8]⟩, [], false⟩,
  ⟨⟨some 42, (some (39, true)), .call 13, [.t 40, .t 41]⟩, [], false⟩,
  ⟨⟨some 43, none, .pick, [.t 39, .t 42, .k (pB false)]⟩, [], false⟩,
  ⟨⟨some 44, none, .mv, [.t 43]⟩, [], false⟩,
  ⟨⟨some 45, (some (44, true)), .ld true 4 false, [.t 7]⟩, [], false⟩,
  ⟨⟨some 46, (some (44, true)), .ld true 4 false, [.t 9]⟩, [], false⟩,
  ⟨⟨some 47, (some (44, true)), .call 8, [.t 45, .t 46]⟩, [], false⟩,
  ⟨⟨some 48, none, .pick, [.t 44, .t 47, .k (pB false)]⟩, [], false⟩,
  ⟨⟨some 4, none, .mv, [.t 48]⟩, [], false⟩] [4])
  .ret))))))⟩
/-- scrimshaw/scrimshawref02.Huge -/
def x5 : XFunc := ⟨1, [.tmp 2],
  (.seq (.region false [
  ⟨some 2, none, .mv, [.k (pB false)]⟩] [0])
  (.seq (.region false [
  ⟨some 3, none, .mv, [.k (pI 30001)]⟩] [0, 3])
  (.seq (.seq (.region false [
  ⟨some 4, none, .mv, [.k (pI 0)]⟩] [0, 3, 4])
  (.block 0 (.loop [0, 3, 4] [] (.seq (.seq (.region false [
  ⟨some 5, none, .mv, [.t 4]⟩,
  ⟨some 6, none, .mv, [.t 0]⟩,
  ⟨some 7, none, .lenL, [.t 6]⟩,
  ⟨some 8, none, .bin .lss false, [.t 5, .t 7]⟩,
  ⟨some 9, none, .mv, [.t 8]⟩,
  ⟨some 10, (some (9, true)), .mv, [.t 3]⟩,
  ⟨some 11, (some (9, true)), .bin .gtr false, [.t 10, .k (pI 0)]⟩,
  ⟨some 12, none, .pick, [.t 9, .t 11, .k (pB false)]⟩] [0, 3, 4, 12])
  (.cond (.t 12)
  .skip
  (.exit 0)))
  (.seq (.block 1 (.region false [
  ⟨some 15, none, .mv, [.t 0]⟩,
  ⟨some 16, none, .mv, [.t 4]⟩,
  ⟨some 17, none, .ia 4, [.t 15, .t 16]⟩,
  ⟨some 18, none, .ld true 4 false, [.t 17]⟩,
  ⟨some 19, none, .mv, [.t 3]⟩,
  ⟨some 20, none, .call 14, [.tk 18, .t 19]⟩,
  ⟨some 3, none, .mv, [.t 20]⟩] [0, 3, 4]))
  (.region false [
  ⟨some 13, none, .mv, [.t 4]⟩,
  ⟨some 14, none, .bin .add false, [.t 13, .k (pI 1)]⟩,
  ⟨some 4, none, .mv, [.t 14]⟩] [0, 3, 4]))))))
  (.seq (.region false [
  ⟨some 21, none, .mv, [.t 3]⟩,
  ⟨some 22, none, .bin .eql false, [.t 21, .k (pI 0)]⟩,
  ⟨some 2, none, .mv, [.t 22]⟩] [2])
  .ret))))⟩
/-- scrimshaw/scrimshawlaw02.fixed -/
def x6 : XFunc := ⟨0, [.tmp 0],
  (.seq (.region false [
  ⟨some 0, none, .mv, [.k (pB false)]⟩] [])
  (.seq (.region false [
  ⟨some 10, none, .bld [(pI 0), (pI 0), (pS []), (.sl 4 [])] [(0, 1), (2, 1)], [.k (pI 4), .k (pS [97])]⟩,
  ⟨some 1, none, .alloc 0 true [(pI 0), (pI 0), (pS []), (.sl 4 [])], []⟩,
  ⟨none, none, .st 4, [.t 1, .tk 10]⟩] [1])
  (.seq (.region false [
  ⟨some 11, none, .ld true 4 false, [.t 1]⟩,
  ⟨some 12, none, .bld [(pI 0), (pI 0), (pS []), (.sl 4 [])] [(0, 1), (2, 1)], [.k (pI 3), .k (pS [98, 34])]⟩,
  ⟨some 13, none, .bld [(pI 0), (pI 0), (pS []), (.sl 4 [])] [(0, 1), (1, 1)], [.k (pI 2), .k (pI 32)]⟩,
  ⟨some 14, none, .blds 4 [(pI 0), (pI 0), (pS []), (.sl 4 [])] 3 [0, 1, 2], [.tk 11, .tk 12, .tk 13]⟩,
  ⟨some 15, none, .bld [(pI 0), (pI 0), (pS []), (.sl 4 [])] [(0, 1), (3, 1)], [.k (pI 5), .tk 14]⟩,
  ⟨some 2, none, .alloc 1 true [(pI 0), (pI 0), (pS []), (.sl 4 [])], []⟩,
  ⟨none, none, .st 4, [.t 2, .tk 15]⟩] [2])
  (.seq (.region false [
  ⟨some 17, none, .ld true 4 false, [.t 2]⟩,
  ⟨some 18, none, .call 15, [.tk 17]⟩,
  ⟨some 16, none, .mv, [.t 18]⟩,
  ⟨some 19, none, .ext 0, [.t 16]⟩,
  ⟨some 20, none, .ext 1, [.t 16]⟩,
  ⟨some 3, none, .mv, [.t 19]⟩,
  ⟨some 4, none, .mv, [.t 20]⟩] [2, 3, 4])
  (.seq (.region false [
  ⟨some 22, none, .ld true 4 false, [.t 2]⟩,
  ⟨some 23, none, .call 16, [.tk 22]⟩,
  ⟨some 21, none, .mv, [.t 23]⟩,
  ⟨some 24, none, .ext 0, [.t 21]⟩,
  ⟨some 25, none, .ext 1, [.t 21]⟩,
  ⟨some 5, none, .mv, [.t 24]⟩,
  ⟨some 6, none, .mv, [.t 25]⟩] [3, 4, 5, 6])
  (.seq (.region false [
  ⟨some 27, none, .bld [(pI 0), (pI 0), (pS []), (.sl 4 [])] [(0, 1), (1, 1)], [.k (pI 1), .k (pI 1)]⟩,
  ⟨some 28, none, .bld [(pI 0), (pI 0), (pS []), (.sl 4 [])] [(0, 1), (1, 1)], [.k (pI 1), .k (pI (-2))]⟩,
  ⟨some 29, none, .blds 4 [(pI 0), (pI 0), (pS []), (.sl 4 [])] 2 [0, 1], [.tk 27, .tk 28]⟩,
  ⟨some 30, none, .bld [(pI 0), (pI 0), (pS []), (.sl 4 [])] [(0, 1), (3, 1)], [.k (pI 6), .tk 29]⟩,
  ⟨some 31, none, .call 15, [.tk 30]⟩,
  ⟨some 26, none, .mv, [.t 31]⟩,
  ⟨some 32, none, .ext 0, [.t 26]⟩,
  ⟨some 33, none, .ext 1, [.t 26]⟩,
  ⟨some 7, none, .mv, [.t 32]⟩,
  ⟨some 8, none, .mv, [.t 33]⟩] [3, 4, 5, 6, 7, 8])
  (.seq (.region false [
  ⟨some 34, none, .bld [(pI 0), (pI 0), (pS []), (.sl 4 [])] [(0, 1), (2, 1)], [.k (pI 1), .k (pS [120])]⟩,
  ⟨some 35, none, .call 17, [.tk 34]⟩,
  ⟨some 9, none, .mv, [.t 35]⟩] [3, 4, 5, 6, 7, 8, 9])
  (.seq (.region false [
  ⟨some 36, none, .mv, [.t 3]⟩,
  ⟨some 37, none, .bin .eql false, [.t 36, .k (pS [40, 97, 32, 34, 98, 92, 34, 34, 32, 35, 92, 115, 112, 97, 99, 101, 41])]⟩,
  ⟨some 38, none, .mv, [.t 37]⟩,
  ⟨some 39, (some (38, true)), .mv, [.t 4]⟩,
  ⟨some 40, (some (38, true)), .bin .eql false, [.t 39, .k (pI 0)]⟩,
  ⟨some 41, none, .pick, [.t 38, .t 40, .k (pB false)]⟩,
  ⟨some 42, none, .mv, [.t 41]⟩,
  ⟨some 43, (some (42, true)), .mv, [.t 5]⟩,
  ⟨some 44, (some (42, true)), .bin .eql false, [.t 43, .k (pS [40, 97, 32, 98, 34, 32, 32, 41])]⟩,
  ⟨some 45, none, .pick, [.t 42, .t 44, .k (pB false)]⟩,
  ⟨some 46, none, .mv, [.t 45]⟩,
  ⟨some 47, (some (46, true)), .mv, [.t 6]⟩,
  ⟨some 48, (some (46, true)), .bin .eql false, [.t 47, .k (pI 0)]⟩,
  ⟨some 49, none, .pick, [.t 46, .t 48, .k (pB false)]⟩,
  ⟨some 50, none, .mv, [.t 49]⟩,
  ⟨some 51, (some (50, true)), .mv, [.t 7]⟩,
  ⟨some 52, (some (50, true)), .bin .eql false, [.t 51, .k (pS [40, 49, 32, 46, 32, 45, 50, 41])]⟩,
  ⟨some 53, none, .pick, [.t 50, .t 52, .k (pB false)]⟩,
  ⟨some 54, none, .mv, [.t 53]⟩,
  ⟨some 55, (some (54, true)), .mv, [.t 8]⟩,
  ⟨some 56, (some (54, true)), .bin .eql false, [.t 55, .k (pI 0)]⟩,
  ⟨some 57, none, .pick, [.t 54, .t 56, .k (pB false)]⟩,
  ⟨some 58, none, .mv, [.t 57]⟩,
  ⟨some 59, (some (58, true)), .mv, [.t 9]⟩,
  ⟨some 60, (some (58, true)), .bin .eql false, [.t 59, .k (pI 20)]⟩,
  ⟨some 61, none, .pick, [.t 58, .t 60, .k (pB false)]⟩,
  ⟨some 62, none, .mv, [.t 61]⟩,
  ⟨some 63, (some (62, true)), .call 18, [.k (pS [49, 43])]⟩,
  ⟨some 64, none, .pick, [.t 62, .t 63, .k (pB false)]⟩,
  ⟨some 65, none, .mv, [.t 64]⟩,
  ⟨some 66, (some (65, true)), .call 18, [.k (pS [45, 53])]⟩,
  ⟨some 67, (some (65, true)), .un .not, [.t 66]⟩,
  ⟨some 68, none, .pick, [.t 65, .t 67, .k (pB false)]⟩,
  ⟨some 0, none, .mv, [.t 68]⟩] [0])
  .ret))))))))⟩
/-- scrimshaw/data.Equal -/
def x7 : XFunc := ⟨2, [.tmp 4],
  (.seq (.region false [
  ⟨some 2, none, .box 0, [.tk 0]⟩,
  ⟨some 3, none, .box 1, [.tk 1]⟩,
  ⟨some 4, none, .mv, [.k (pB false)]⟩] [2, 3])
  (.seq (.region false [
  ⟨some 5, none, .fa 0, [.t 2]⟩,
  ⟨some 6, none, .ld false 1 false, [.t 5]⟩,
  ⟨some 7, none, .fa 0, [.t 3]⟩,
  ⟨some 8, none, .ld false 1 false, [.t 7]⟩,
  ⟨some 9, none, .bin .eql false, [.t 6, .t 8]⟩,
  ⟨some 10, none, .mv, [.t 9]⟩,
  ⟨some 11, (some (10, true)), .fa 1, [.t 2]⟩,
  ⟨some 12, (some (10, true)), .ld false 1 false, [.t 11]⟩,
  ⟨some 13, (some (10, true)), .fa 1, [.t 3]⟩,
  ⟨some 14, (some (10, true)), .ld false 1 false, [.t 13]⟩,
  ⟨some 15, (some (10, true)), .bin .eql false, [.t 12, .t 14]⟩,
  ⟨some 16, none, .pick, [.t 10, .t 15, .k (pB false)]⟩,
  ⟨some 17, none, .mv, [.t 16]⟩,
  ⟨some 18, (some (17, true)), .fa 2, [.t 2]⟩,
  ⟨some 19, (some (17, true)), .ld false 1 false, [.t 18]⟩,
  ⟨some 20, (some (17, true)), .fa 2, [.t 3]⟩,
  ⟨some 21, (some (17, true)), .ld false 1 false, [.t 20]⟩,
  ⟨some 22, (some (17, true)), .bin .eql false, [.t 19, .t 21]⟩,
  ⟨some 23, none, .pick, [.t 17, .t 22, .k (pB false)]⟩,
  ⟨some 24, none, .mv, [.t 23]⟩,
  ⟨some 25, (some (24, true)), .fa 3, [.t 2]⟩,
  ⟨some 26, (some (24, true)), .ld false 1 false, [.t 25]⟩,
  ⟨some 27, (some (24, true)), .fa 3, [.t 3]⟩,
  ⟨some 28, (some (24, true)), .ld false 1 false, [.t 27]⟩,
  ⟨some 29, (some (24, true)), .call 19, [.t 26, .t 28, .k (pF 7)]⟩,
  ⟨some 30, none, .pick, [.t 24, .t 29, .k (pB false)]⟩,
  ⟨some 4, none, .mv, [.t 30]⟩] [4])
  .ret))⟩
/-- scrimshaw/scrimshawref02.Same -/
def x8 : XFunc := ⟨2, [.tmp 4],
  (.seq (.region false [
  ⟨some 2, none, .box 0, [.tk 0]⟩,
  ⟨some 3, none, .box 1, [.tk 1]⟩,
  ⟨some 4, none, .mv, [.k (pB false)]⟩] [2, 3])
  (.seq (.seq (.region false [
  ⟨some 6, none, .fa 0, [.t 2]⟩,
  ⟨some 7, none, .ld false 1 false, [.t 6]⟩,
  ⟨some 8, none, .fa 0, [.t 3]⟩,
  ⟨some 9, none, .ld false 1 false, [.t 8]⟩,
  ⟨some 10, none, .bin .neq false, [.t 7, .t 9]⟩,
  ⟨some 11, none, .mv, [.t 10]⟩,
  ⟨some 12, (some (11, false)), .fa 1, [.t 2]⟩,
  ⟨some 13, (some (11, false)), .ld false 1 false, [.t 12]⟩,
  ⟨some 14, (some (11, false)), .fa 1, [.t 3]⟩,
  ⟨some 15, (some (11, false)), .ld false 1 false, [.t 14]⟩,
  ⟨some 16, (some (11, false)), .bin .neq false, [.t 13, .t 15]⟩,
  ⟨some 17, none, .pick, [.t 11, .k (pB true), .t 16]⟩,
  ⟨some 18, none, .mv, [.t 17]⟩,
  ⟨some 19, (some (18, false)), .fa 2, [.t 2]⟩,
  ⟨some 20, (some (18, false)), .ld false 1 false, [.t 19]⟩,
  ⟨some 21, (some (18, false)), .fa 2, [.t 3]⟩,
  ⟨some 22, (some (18, false)), .ld false 1 false, [.t 21]⟩,
  ⟨some 23, (some (18, false)), .bin .neq false, [.t 20, .t 22]⟩,
  ⟨some 24, none, .pick, [.t 18, .k (pB true), .t 23]⟩,
  ⟨some 25, none, .mv, [.t 24]⟩,
  ⟨some 26, (some (25, false)), .fa 3, [.t 2]⟩,
  ⟨some 27, (some (25, false)), .ld false 1 false, [.t 26]⟩,
  ⟨some 28, (some (25, false)), .lenL, [.t 27]⟩,
  ⟨some 29, (some (25, false)), .fa 3, [.t 3]⟩,
  ⟨some 30, (some (25, false)), .ld false 1 false, [.t 29]⟩,
  ⟨some 31, (some (25, false)), .lenL, [.t 30]⟩,
  ⟨some 32, (some (25, false)), .bin .neq false, [.t 28, .t 31]⟩,
  ⟨some 33, none, .pick, [.t 25, .k (pB true), .t 32]⟩] [2, 3, 33])
  (.cond (.t 33)
  (.seq (.region false [
  ⟨some 4, none, .mv, [.k (pB false)]⟩] [4])
  .ret)
  .skip))
  (.seq (.seq (.region false [
  ⟨some 5, none, .mv, [.k (pI 0)]⟩] [2, 3, 5])
  (.block 0 (.loop [2, 3, 5] [0, 1] (.seq (.seq (.region false [
  ⟨some 34, none, .mv, [.t 5]⟩,
  ⟨some 35, none, .fa 3, [.t 2]⟩,
  ⟨some 36, none, .ld false 1 false, [.t 35]⟩,
  ⟨some 37, none, .lenL, [.t 36]⟩,
  ⟨some 38, none, .bin .lss false, [.t 34, .t 37]⟩] [2, 3, 5, 38])
  (.cond (.t 38)
  .skip
  (.exit 0)))
  (.seq (.block 1 (.seq (.regionD [
  ⟨⟨some 41, none, .fa 3, [.t 2]⟩, [], false⟩,
  ⟨⟨some 42, none, .ld false 1 false, [.t 41]⟩, [], false⟩,
  ⟨⟨some 43, none, .mv, [.t 5]⟩, [], false⟩,
  ⟨⟨some 44, none, .ia 4, [.t 42, .t 43]⟩, [], false⟩,
  ⟨⟨some 45, none, .ld true 4 false, [.t 44]⟩, [], false⟩,
  ⟨⟨some 46, none, .fa 3, [.t 3]⟩, [], false⟩,
  ⟨⟨some 47, none, .ld false 1 false, [.t 46]⟩, [], false⟩,
  ⟨⟨some 48, none, .mv, [.t 5]⟩, [], false⟩,
  ⟨⟨some 49, none, .ia 4, [.t 47, .t 48]⟩, [], false⟩,
  ⟨⟨some 50, none, .ld true 4 false, [.t 49]⟩, [], false⟩,
  ⟨⟨some 51, none, .call 8, [.tk 45, .tk 50]⟩, [], false⟩,
  ⟨⟨some 52, none, .un .not, [.t 51]⟩, [], false⟩] [2, 3, 5, 52])
  (.cond (.t 52)
  (.seq (.region false [
  ⟨some 4, none, .mv, [.k (pB false)]⟩] [4])
  .ret)
  .skip)))
  (.region false [
  ⟨some 39, none, .mv, [.t 5]⟩,
  ⟨some 40, none, .bin .add false, [.t 39, .k (pI 1)]⟩,
  ⟨some 5, none, .mv, [.t 40]⟩] [2, 3, 5]))))))
  (.seq (.region false [
  ⟨some 4, none, .mv, [.k (pB true)]⟩] [4])
  .ret))))⟩
/-- scrimshaw/data.Make -/
def x9 : XFunc := ⟨2, [.cell 4 true 4],
  (.seq (.region false [
  ⟨some 3, none, .box 0, [.tk 1]⟩,
  ⟨some 4, none, .alloc 1 true [(pI 0), (pI 0), (pS []), (.sl 4 [])], []⟩] [0, 3, 4])
  (.seq (.seq (.region false [
  ⟨some 5, none, .mv, [.t 0]⟩,
  ⟨some 6, none, .lenL, [.t 5]⟩,
  ⟨some 7, none, .bin .eql false, [.t 6, .k (pI 0)]⟩] [0, 3, 4, 7])
  (.cond (.t 7)
  (.seq (.region false [
  ⟨some 8, none, .ld true 4 false, [.t 3]⟩,
  ⟨some 9, none, .call 20, [.tk 8]⟩,
  ⟨none, none, .st 4, [.t 4, .tk 9]⟩] [4])
  .ret)
  .skip))
  (.seq (.seq (.region false [
  ⟨some 10, none, .fa 0, [.t 3]⟩,
  ⟨some 11, none, .ld false 1 false, [.t 10]⟩,
  ⟨some 12, none, .bin .eql false, [.t 11, .k (pI 5)]⟩,
  ⟨some 13, none, .mv, [.t 12]⟩,
  ⟨some 14, (some (13, false)), .fa 0, [.t 3]⟩,
  ⟨some 15, (some (13, false)), .ld false 1 false, [.t 14]⟩,
  ⟨some 16, (some (13, false)), .bin .eql false, [.t 15, .k (pI 6)]⟩,
  ⟨some 17, none, .pick, [.t 13, .k (pB true), .t 16]⟩] [0, 3, 4, 17])
  (.cond (.t 17)
  (.seq (.regionD [
  ⟨⟨some 18, none, .fa 0, [.t 3]⟩, [], false⟩,
  ⟨⟨some 19, none, .ld false 1 false, [.t 18]⟩, [], false⟩,
  ⟨⟨some 20, none, .mv, [.tk 0]⟩, [], false⟩,
  ⟨⟨some 21, none, .call 21, [.tk 20]⟩, [], false⟩,
  ⟨⟨some 22, none, .fa 3, [.t 3]⟩, [], false⟩,
  ⟨⟨some 23, none, .ld false 1 false, [.t 22]⟩, [], false⟩,
  ⟨⟨some 24, none, .call 21, [.tk 23]⟩, [], false⟩,
  ⟨⟨some 25, none, .app 4 56, [.tk 21, .t 24]⟩, [], false⟩,
  ⟨⟨some 26, none, .bld [(pI 0), (pI 0), (pS []), (.sl 4 [])] [(0, 1), (3, 1)], [.t 19, .tk 25]⟩, [], false⟩,
  ⟨⟨none, none, .st 4, [.t 4, .tk 26]⟩, [], false⟩] [4])
  .ret)
  .skip))
  (.seq (.regionD [
  ⟨⟨some 27, none, .mv, [.tk 0]⟩, [], false⟩,
  ⟨⟨some 28, none, .call 21, [.tk 27]⟩, [], false⟩,
  ⟨⟨some 29, none, .ld true 4 false, [.t 3]⟩, [], false⟩,
  ⟨⟨some 30, none, .call 20, [.tk 29]⟩, [], false⟩,
  ⟨⟨some 31, none, .blds 4 [(pI 0), (pI 0), (pS []), (.sl 4 [])] 1 [0], [.tk 30]⟩, [], false⟩,
  ⟨⟨some 32, none, .app 4 56, [.tk 28, .t 31]⟩, [], false⟩,
  ⟨⟨some 33, none, .bld [(pI 0), (pI 0), (pS []), (.sl 4 [])] [(0, 1), (3, 1)], [.k (pI 6), .tk 32]⟩, [], false⟩,
  ⟨⟨none, none, .st 4, [.t 4, .tk 33]⟩, [], false⟩] [4])
  .ret))))⟩
/-- scrimshaw/data.Items -/
def x10 : XFunc := ⟨1, [.tmp 2, .cell 3 true 4],
  (.seq (.region false [
  ⟨some 1, none, .box 0, [.tk 0]⟩,
  ⟨some 2, none, .mv, [.kn 4]⟩,
  ⟨some 3, none, .alloc 1 true [(pI 0), (pI 0), (pS []), (.sl 4 [])], []⟩] [1, 3])
  (.seq (.seq (.region false [
  ⟨some 5, none, .fa 0, [.t 1]⟩,
  ⟨some 6, none, .ld false 1 false, [.t 5]⟩,
  ⟨some 7, none, .bin .eql false, [.t 6, .k (pI 5)]⟩] [1, 3, 7])
  (.cond (.t 7)
  (.seq (.region false [
  ⟨some 8, none, .fa 3, [.t 1]⟩,
  ⟨some 9, none, .ld false 1 false, [.t 8]⟩,
  ⟨some 10, none, .call 21, [.tk 9]⟩,
  ⟨some 11, none, .bld [(pI 0), (pI 0), (pS []), (.sl 4 [])] [(0, 1)], [.k (pI 5)]⟩,
  ⟨some 2, none, .mv, [.tk 10]⟩,
  ⟨none, none, .st 4, [.t 3, .tk 11]⟩] [2, 3])
  .ret)
  .skip))
  (.seq (.seq (.region false [
  ⟨some 12, none, .fa 3, [.t 1]⟩,
  ⟨some 13, none, .ld false 1 false, [.t 12]⟩,
  ⟨some 14, none, .lenL, [.t 13]⟩,
  ⟨some 4, none, .mv, [.t 14]⟩] [1, 3, 4])
  (.seq (.region false [
  ⟨some 15, none, .fa 0, [.t 1]⟩,
  ⟨some 16, none, .ld false 1 false, [.t 15]⟩,
  ⟨some 17, none, .bin .eql false, [.t 16, .k (pI 6)]⟩,
  ⟨some 18, none, .mv, [.t 17]⟩,
  ⟨some 19, (some (18, true)), .mv, [.t 4]⟩,
  ⟨some 20, (some (18, true)), .bin .gtr false, [.t 19, .k (pI 0)]⟩,
  ⟨some 21, none, .pick, [.t 18, .t 20, .k (pB false)]⟩] [1, 3, 4, 21])
  (.cond (.t 21)
  (.seq (.regionD [
  ⟨⟨some 22, none, .fa 3, [.t 1]⟩, [], false⟩,
  ⟨⟨some 23, none, .ld false 1 false, [.t 22]⟩, [], false⟩,
  ⟨⟨some 24, none, .mv, [.t 4]⟩, [], false⟩,
  ⟨⟨some 25, none, .bin .sub false, [.t 24, .k (pI 1)]⟩, [], false⟩,
  ⟨⟨some 26, none, .slL 4 false true, [.t 23, .t 25]⟩, [], false⟩,
  ⟨⟨some 27, none, .call 21, [.tk 26]⟩, [], false⟩,
  ⟨⟨some 28, none, .fa 3, [.t 1]⟩, [], false⟩,
  ⟨⟨some 29, none, .ld false 1 false, [.t 28]⟩, [], false⟩,
  ⟨⟨some 30, none, .mv, [.t 4]⟩, [], false⟩,
  ⟨⟨some 31, none, .bin .sub false, [.t 30, .k (pI 1)]⟩, [], false⟩,
  ⟨⟨some 32, none, .ia 4, [.t 29, .t 31]⟩, [], false⟩,
  ⟨⟨some 33, none, .ld true 4 false, [.t 32]⟩, [], false⟩,
  ⟨⟨some 34, none, .call 20, [.tk 33]⟩, [], false⟩,
  ⟨⟨some 2, none, .mv, [.tk 27]⟩, [], false⟩,
  ⟨⟨none, none, .st 4, [.t 3, .tk 34]⟩, [], false⟩] [2, 3])
  .ret)
  .skip)))
  (.seq (.region false [
  ⟨some 35, none, .ld true 4 false, [.t 1]⟩,
  ⟨some 36, none, .call 20, [.tk 35]⟩,
  ⟨some 2, none, .mv, [.kn 4]⟩,
  ⟨none, none, .st 4, [.t 3, .tk 36]⟩] [2, 3])
  .ret))))⟩
/-- scrimshaw/scrimshawref02.Items -/
def x11 : XFunc := ⟨1, [.tmp 2, .cell 3 true 4],
  (.seq (.region false [
  ⟨some 1, none, .box 0, [.tk 0]⟩,
  ⟨some 2, none, .mv, [.kn 4]⟩,
  ⟨some 3, none, .alloc 1 true [(pI 0), (pI 0), (pS []), (.sl 4 [])], []⟩] [1, 3])
  (.seq (.region false [
  ⟨some 5, none, .fa 3, [.t 1]⟩,
  ⟨some 6, none, .ld false 1 false, [.t 5]⟩,
  ⟨some 7, none, .lenL, [.t 6]⟩,
  ⟨some 4, none, .mv, [.t 7]⟩] [1, 3, 4])
  (.seq (.seq (.region false [
  ⟨some 8, none, .fa 0, [.t 1]⟩,
  ⟨some 9, none, .ld false 1 false, [.t 8]⟩,
  ⟨some 10, none, .bin .eql false, [.t 9, .k (pI 5)]⟩] [1, 3, 4, 10])
  (.cond (.t 10)
  (.seq (.region false [
  ⟨some 11, none, .fa 3, [.t 1]⟩,
  ⟨some 12, none, .ld false 1 false, [.t 11]⟩,
  ⟨some 13, none, .bld [(pI 0), (pI 0), (pS []), (.sl 4 [])] [(0, 1)], [.k (pI 5)]⟩,
  ⟨some 2, none, .mv, [.tk 12]⟩,
  ⟨none, none, .st 4, [.t 3, .tk 13]⟩] [2, 3])
  .ret)
  .skip))
  (.seq (.seq (.region false [
  ⟨some 14, none, .fa 0, [.t 1]⟩,
  ⟨some 15, none, .ld false 1 false, [.t 14]⟩,
  ⟨some 16, none, .bin .eql false, [.t 15, .k (pI 6)]⟩,
  ⟨some 17, none, .mv, [.t 16]⟩,
  ⟨some 18, (some (17, true)), .mv, [.t 4]⟩,
  ⟨some 19, (some (17, true)), .bin .gtr false, [.t 18, .k (pI 0)]⟩,
  ⟨some 20, none, .pick, [.t 17, .t 19, .k (pB false)]⟩] [1, 3, 4, 20])
  (.cond (.t 20)
  (.seq (.regionD [
  ⟨⟨some 21, none, .fa 3, [.t 1]⟩, [], false⟩,
  ⟨⟨some 22, none, .ld false 1 false, [.t 21]⟩, [], false⟩,
  ⟨⟨some 23, none, .mv, [.t 4]⟩, [], false⟩,
  ⟨⟨some 24, none, .bin .sub false, [.t 23, .k (pI 1)]⟩, [], false⟩,
  ⟨⟨some 25, none, .slL 4 false true, [.t 22, .t 24]⟩, [], false⟩,
  ⟨⟨some 26, none, .fa 3, [.t 1]⟩, [], false⟩,
  ⟨⟨some 27, none, .ld false 1 false, [.t 26]⟩, [], false⟩,
  ⟨⟨some 28, none, .mv, [.t 4]⟩, [], false⟩,
  ⟨⟨some 29, none, .bin .sub false, [.t 28, .k (pI 1)]⟩, [], false⟩,
  ⟨⟨some 30, none, .ia 4, [.t 27, .t 29]⟩, [], false⟩,
  ⟨⟨some 31, none, .ld true 4 false, [.t 30]⟩, [], false⟩,
  ⟨⟨some 2, none, .mv, [.tk 25]⟩, [], false⟩,
  ⟨⟨none, none, .st 4, [.t 3, .tk 31]⟩, [], false⟩] [2, 3])
  .ret)
  .skip))
  (.seq (.regionD [
  ⟨⟨some 32, none, .ld true 4 false, [.t 1]⟩, [], false⟩,
  ⟨⟨some 2, none, .mv, [.kn 4]⟩, [], false⟩,
  ⟨⟨none, none, .st 4, [.t 3, .tk 32]⟩, [], false⟩] [2, 3])
  .ret)))))⟩
/-- scrimshaw/scrimshawref02.Make -/
def x12 : XFunc := ⟨2, [.cell 4 true 4],
  (.seq (.region false [
  ⟨some 3, none, .box 0, [.tk 1]⟩,
  ⟨some 4, none, .alloc 1 true [(pI 0), (pI 0), (pS []), (.sl 4 [])], []⟩] [0, 3, 4])
  (.seq (.seq (.region false [
  ⟨some 6, none, .mv, [.t 0]⟩,
  ⟨some 7, none, .lenL, [.t 6]⟩,
  ⟨some 8, none, .bin .eql false, [.t 7, .k (pI 0)]⟩] [0, 3, 4, 8])
  (.cond (.t 8)
  (.seq (.region false [
  ⟨some 9, none, .ld true 4 false, [.t 3]⟩,
  ⟨none, none, .st 4, [.t 4, .tk 9]⟩] [4])
  .ret)
  .skip))
  (.seq (.region false [
  ⟨some 10, none, .blds 4 [(pI 0), (pI 0), (pS []), (.sl 4 [])] 0 [], []⟩,
  ⟨some 11, none, .mv, [.tk 0]⟩,
  ⟨some 12, none, .app 4 56, [.tk 10, .t 11]⟩,
  ⟨some 5, none, .mv, [.tk 12]⟩] [3, 4, 5])
  (.seq (.seq (.region false [
  ⟨some 13, none, .fa 0, [.t 3]⟩,
  ⟨some 14, none, .ld false 1 false, [.t 13]⟩,
  ⟨some 15, none, .bin .eql false, [.t 14, .k (pI 5)]⟩,
  ⟨some 16, none, .mv, [.t 15]⟩,
  ⟨some 17, (some (16, false)), .fa 0, [.t 3]⟩,
  ⟨some 18, (some (16, false)), .ld false 1 false, [.t 17]⟩,
  ⟨some 19, (some (16, false)), .bin .eql false, [.t 18, .k (pI 6)]⟩,
  ⟨some 20, none, .pick, [.t 16, .k (pB true), .t 19]⟩] [3, 4, 5, 20])
  (.cond (.t 20)
  (.seq (.regionD [
  ⟨⟨some 21, none, .fa 0, [.t 3]⟩, [], false⟩,
  ⟨⟨some 22, none, .ld false 1 false, [.t 21]⟩, [], false⟩,
  ⟨⟨some 23, none, .mv, [.tk 5]⟩, [], false⟩,
  ⟨⟨some 24, none, .fa 3, [.t 3]⟩, [], false⟩,
  ⟨⟨some 25, none, .ld false 1 false, [.t 24]⟩, [], false⟩,
  ⟨⟨some 26, none, .app 4 56, [.tk 23, .t 25]⟩, [], false⟩,
  ⟨⟨some 27, none, .bld [(pI 0), (pI 0), (pS []), (.sl 4 [])] [(0, 1), (3, 1)], [.t 22, .tk 26]⟩, [], false⟩,
  ⟨⟨none, none, .st 4, [.t 4, .tk 27]⟩, [], false⟩] [4])
  .ret)
  .skip))
  (.seq (.region false [
  ⟨some 28, none, .mv, [.tk 5]⟩,
  ⟨some 29, none, .ld true 4 false, [.t 3]⟩,
  ⟨some 30, none, .blds 4 [(pI 0), (pI 0), (pS []), (.sl 4 [])] 1 [0], [.tk 29]⟩,
  ⟨some 31, none, .app 4 56, [.tk 28, .t 30]⟩,
  ⟨some 32, none, .bld [(pI 0), (pI 0), (pS []), (.sl 4 [])] [(0, 1), (3, 1)], [.k (pI 6), .tk 31]⟩,
  ⟨none, none, .st 4, [.t 4, .tk 32]⟩] [4])
  .ret)))))⟩
/-- scrimshaw/scrimshawref02.SameAll -/
def x13 : XFunc := ⟨2, [.tmp 4],
  (.seq (.region false [
  ⟨some 4, none, .mv, [.k (pB false)]⟩] [0, 1])
  (.seq (.region false [
  ⟨some 5, none, .mv, [.tk 0]⟩,
  ⟨some 6, none, .bld [(pI 0), (pI 0), (pS []), (.sl 4 [])] [(3, 1)], [.tk 5]⟩,
  ⟨some 7, none, .mv, [.tk 1]⟩,
  ⟨some 8, none, .bld [(pI 0), (pI 0), (pS []), (.sl 4 [])] [(3, 1)], [.tk 7]⟩,
  ⟨some 9, none, .call 8, [.tk 6, .tk 8]⟩,
  ⟨some 4, none, .mv, [.t 9]⟩] [4])
  .ret))⟩
/-- scrimshaw/scrimshawref02.left -/
def x14 : XFunc := ⟨2, [.tmp 4],
  (.seq (.region false [
  ⟨some 2, none, .box 0, [.tk 0]⟩,
  ⟨some 4, none, .mv, [.k (pI 0)]⟩] [1, 2])
  (.seq (.seq (.region false [
  ⟨some 6, none, .mv, [.t 1]⟩,
  ⟨some 7, none, .bin .gtr false, [.t 6, .k (pI 0)]⟩] [1, 2, 7])
  (.cond (.t 7)
  (.region false [
  ⟨some 8, none, .mv, [.t 1]⟩,
  ⟨some 9, none, .bin .sub false, [.t 8, .k (pI 1)]⟩,
  ⟨some 1, none, .mv, [.t 9]⟩] [1, 2])
  .skip))
  (.seq (.seq (.region false [
  ⟨some 5, none, .mv, [.k (pI 0)]⟩] [1, 2, 5])
  (.block 0 (.loop [1, 2, 5] [0] (.seq (.seq (.region false [
  ⟨some 10, none, .mv, [.t 5]⟩,
  ⟨some 11, none, .fa 3, [.t 2]⟩,
  ⟨some 12, none, .ld false 1 false, [.t 11]⟩,
  ⟨some 13, none, .lenL, [.t 12]⟩,
  ⟨some 14, none, .bin .lss false, [.t 10, .t 13]⟩,
  ⟨some 15, none, .mv, [.t 14]⟩,
  ⟨some 16, (some (15, true)), .mv, [.t 1]⟩,
  ⟨some 17, (some (15, true)), .bin .gtr false, [.t 16, .k (pI 0)]⟩,
  ⟨some 18, none, .pick, [.t 15, .t 17, .k (pB false)]⟩] [1, 2, 5, 18])
  (.cond (.t 18)
  .skip
  (.exit 0)))
  (.seq (.block 1 (.region false [
  ⟨some 21, none, .fa 3, [.t 2]⟩,
  ⟨some 22, none, .ld false 1 false, [.t 21]⟩,
  ⟨some 23, none, .mv, [.t 5]⟩,
  ⟨some 24, none, .ia 4, [.t 22, .t 23]⟩,
  ⟨some 25, none, .ld true 4 false, [.t 24]⟩,
  ⟨some 26, none, .mv, [.t 1]⟩,
  ⟨some 27, none, .call 14, [.tk 25, .t 26]⟩,
  ⟨some 1, none, .mv, [.t 27]⟩] [1, 2, 5]))
  (.region false [
  ⟨some 19, none, .mv, [.t 5]⟩,
  ⟨some 20, none, .bin .add false, [.t 19, .k (pI 1)]⟩,
  ⟨some 5, none, .mv, [.t 20]⟩] [1, 2, 5]))))))
  (.seq (.region false [
  ⟨some 28, none, .mv, [.t 1]⟩,
  ⟨some 4, none, .mv, [.t 28]⟩] [4])
  .ret))))⟩
/-- scrimshaw/data.Text -/
def x15 : XFunc := ⟨1, [.tmp 2, .tmp 3],
  (.seq (.region false [
  ⟨some 1, none, .box 0, [.tk 0]⟩,
  ⟨some 2, none, .mv, [.k (pS [])]⟩,
  ⟨some 3, none, .mv, [.k (pI 0)]⟩] [1])
  (.seq (.region false [
  ⟨some 4, none, .ld true 4 false, [.t 1]⟩,
  ⟨some 5, none, .call 22, [.tk 4, .k (pB false)]⟩,
  ⟨some 6, none, .ext 0, [.t 5]⟩,
  ⟨some 7, none, .ext 1, [.t 5]⟩,
  ⟨some 2, none, .mv, [.t 6]⟩,
  ⟨some 3, none, .mv, [.t 7]⟩] [2, 3])
  .ret))⟩
/-- scrimshaw/data.Show -/
def x16 : XFunc := ⟨1, [.tmp 2, .tmp 3],
  (.seq (.region false [
  ⟨some 1, none, .box 0, [.tk 0]⟩,
  ⟨some 2, none, .mv, [.k (pS [])]⟩,
  ⟨some 3, none, .mv, [.k (pI 0)]⟩] [1])
  (.seq (.region false [
  ⟨some 4, none, .ld true 4 false, [.t 1]⟩,
  ⟨some 5, none, .call 22, [.tk 4, .k (pB true)]⟩,
  ⟨some 6, none, .ext 0, [.t 5]⟩,
  ⟨some 7, none, .ext 1, [.t 5]⟩,
  ⟨some 2, none, .mv, [.t 6]⟩,
  ⟨some 3, none, .mv, [.t 7]⟩] [2, 3])
  .ret))⟩
/-- scrimshaw/data.Check -/
def x17 : XFunc := ⟨1, [.tmp 2],
  (.seq (.region false [
  ⟨some 1, none, .box 0, [.tk 0]⟩,
  ⟨some 2, none, .mv, [.k (pI 0)]⟩] [1])
  (.seq (.region false [
  ⟨some 3, none, .alloc 1 true [(pI 0)], []⟩,
  ⟨some 4, none, .ld true 4 false, [.t 1]⟩,
  ⟨some 5, none, .call 23, [.t 3, .tk 4, .k (pI 0)]⟩,
  ⟨some 2, none, .mv, [.t 5]⟩] [2])
  .ret))⟩
/-- scrimshaw/data.Name -/
def x18 : XFunc := ⟨1, [.tmp 2],
  (.seq (.region false [
  ⟨some 2, none, .mv, [.k (pB false)]⟩] [0])
  (.seq (.seq (.region false [
  ⟨some 4, none, .mv, [.t 0]⟩,
  ⟨some 5, none, .lenS, [.t 4]⟩,
  ⟨some 6, none, .mv, [.k (pI 0)]⟩] [0, 5, 6])
  (.block 0 (.loop [0, 5, 6] [] (.seq (.region false [
  ⟨some 7, none, .bin .lss false, [.t 6, .t 5]⟩] [0, 5, 6, 7])
  (.seq (.cond (.t 7)
  .skip
  (.exit 0))
  (.seq (.block 1 (.seq (.region false [
  ⟨some 8, none, .mv, [.t 6]⟩,
  ⟨some 3, none, .mv, [.t 8]⟩] [0, 3, 5, 6])
  (.seq (.region false [
  ⟨some 9, none, .mv, [.t 0]⟩,
  ⟨some 10, none, .mv, [.t 3]⟩,
  ⟨some 11, none, .ixs, [.t 9, .t 10]⟩,
  ⟨some 12, none, .call 24, [.t 11]⟩,
  ⟨some 13, none, .un .not, [.t 12]⟩] [0, 5, 6, 13])
  (.cond (.t 13)
  (.seq (.region false [
  ⟨some 2, none, .mv, [.k (pB false)]⟩] [2])
  .ret)
  .skip))))
  (.region false [
  ⟨some 14, none, .bin .add false, [.t 6, .k (pI 1)]⟩,
  ⟨some 6, none, .mv, [.t 14]⟩] [0, 5, 6])))))))
  (.seq (.region false [
  ⟨some 15, none, .mv, [.t 0]⟩,
  ⟨some 16, none, .bin .neq false, [.t 15, .k (pS [])]⟩,
  ⟨some 17, none, .mv, [.t 16]⟩,
  ⟨some 18, (some (17, true)), .mv, [.t 0]⟩,
  ⟨some 19, (some (17, true)), .lenS, [.t 18]⟩,
  ⟨some 20, (some (17, true)), .bin .leq false, [.t 19, .k (pI 64)]⟩,
  ⟨some 21, none, .pick, [.t 17, .t 20, .k (pB false)]⟩,
  ⟨some 22, none, .mv, [.t 21]⟩,
  ⟨some 23, (some (22, true)), .mv, [.t 0]⟩,
  ⟨some 24, (some (22, true)), .bin .neq false, [.t 23, .k (pS [46])]⟩,
  ⟨some 25, none, .pick, [.t 22, .t 24, .k (pB false)]⟩,
  ⟨some 26, none, .mv, [.t 25]⟩,
  ⟨some 27, (some (26, true)), .mv, [.t 0]⟩,
  ⟨some 28, (some (26, true)), .call 25, [.t 27]⟩,
  ⟨some 29, (some (26, true)), .un .not, [.t 28]⟩,
  ⟨some 30, none, .pick, [.t 26, .t 29, .k (pB false)]⟩,
  ⟨some 2, none, .mv, [.t 30]⟩] [2])
  .ret)))⟩
/-- slices.EqualFunc[[]scrimshaw/api.Datum,[]scrimshaw/api.Datum,scrimshaw/api.Datum,scrimshaw/api.Datum] -/
def x19 : XFunc := ⟨3, [.tmp 6],
  (.seq (.region false [
  ⟨some 6, none, .mv, [.k (pB false)]⟩] [0, 1, 2])
  (.seq (.seq (.region false [
  ⟨some 10, none, .mv, [.t 0]⟩,
  ⟨some 11, none, .lenL, [.t 10]⟩,
  ⟨some 12, none, .mv, [.t 1]⟩,
  ⟨some 13, none, .lenL, [.t 12]⟩,
  ⟨some 14, none, .bin .neq false, [.t 11, .t 13]⟩] [0, 1, 2, 14])
  (.cond (.t 14)
  (.seq (.region false [
  ⟨some 6, none, .mv, [.k (pB false)]⟩] [6])
  .ret)
  .skip))
  (.seq (.seq (.region false [
  ⟨some 15, none, .mv, [.tk 0]⟩,
  ⟨some 16, none, .lenL, [.t 15]⟩,
  ⟨some 17, none, .mv, [.k (pI 0)]⟩] [1, 2, 15, 16, 17])
  (.block 0 (.loop [1, 2, 15, 16, 17] [] (.seq (.region false [
  ⟨some 18, none, .bin .lss false, [.t 17, .t 16]⟩] [1, 2, 15, 16, 17, 18])
  (.seq (.cond (.t 18)
  .skip
  (.exit 0))
  (.seq (.block 1 (.seq (.region false [
  ⟨some 19, none, .mv, [.t 17]⟩,
  ⟨some 20, none, .ia 4, [.t 15, .t 17]⟩,
  ⟨some 21, none, .ld true 4 false, [.t 20]⟩,
  ⟨some 8, none, .alloc 0 true [(pI 0), (pI 0), (pS []), (.sl 4 [])], []⟩,
  ⟨some 7, none, .mv, [.t 19]⟩,
  ⟨none, none, .st 4, [.t 8, .tk 21]⟩] [1, 2, 7, 8, 15, 16, 17])
  (.seq (.region false [
  ⟨some 22, none, .mv, [.t 1]⟩,
  ⟨some 23, none, .mv, [.t 7]⟩,
  ⟨some 24, none, .ia 4, [.t 22, .t 23]⟩,
  ⟨some 25, none, .ld true 4 false, [.t 24]⟩,
  ⟨some 9, none, .alloc 1 true [(pI 0), (pI 0), (pS []), (.sl 4 [])], []⟩,
  ⟨none, none, .st 4, [.t 9, .tk 25]⟩] [1, 2, 8, 9, 15, 16, 17])
  (.seq (.region false [
  ⟨some 26, none, .mv, [.t 2]⟩,
  ⟨some 27, none, .ld true 4 false, [.t 8]⟩,
  ⟨some 28, none, .ld true 4 false, [.t 9]⟩,
  ⟨some 29, none, .callv, [.t 26, .tk 27, .tk 28]⟩,
  ⟨some 30, none, .un .not, [.t 29]⟩] [1, 2, 15, 16, 17, 30])
  (.cond (.t 30)
  (.seq (.region false [
  ⟨some 6, none, .mv, [.k (pB false)]⟩] [6])
  .ret)
  .skip)))))
  (.region false [
  ⟨some 31, none, .bin .add false, [.t 17, .k (pI 1)]⟩,
  ⟨some 17, none, .mv, [.t 31]⟩] [1, 2, 15, 16, 17])))))))
  (.seq (.region false [
  ⟨some 6, none, .mv, [.k (pB true)]⟩] [6])
  .ret))))⟩
/-- scrimshaw/data.copied -/
def x20 : XFunc := ⟨1, [.cell 2 true 4],
  (.seq (.region false [
  ⟨some 1, none, .box 0, [.tk 0]⟩,
  ⟨some 2, none, .alloc 1 true [(pI 0), (pI 0), (pS []), (.sl 4 [])], []⟩] [1, 2])
  (.seq (.region false [
  ⟨some 3, none, .fa 3, [.t 1]⟩,
  ⟨some 4, none, .ld false 1 false, [.t 3]⟩,
  ⟨some 5, none, .call 21, [.tk 4]⟩,
  ⟨some 6, none, .fa 3, [.t 1]⟩,
  ⟨none, none, .st 1, [.t 6, .tk 5]⟩] [1, 2])
  (.seq (.region false [
  ⟨some 7, none, .ld true 4 false, [.t 1]⟩,
  ⟨none, none, .st 4, [.t 2, .tk 7]⟩] [2])
  .ret)))⟩
/-- scrimshaw/data.all -/
def x21 : XFunc := ⟨1, [.tmp 2],
  (.seq (.region false [
  ⟨some 2, none, .mv, [.kn 4]⟩] [0])
  (.seq (.region false [
  ⟨some 3, none, .mv, [.kn 4]⟩] [0, 3])
  (.seq (.seq (.region false [
  ⟨some 6, none, .mv, [.tk 0]⟩,
  ⟨some 7, none, .lenL, [.t 6]⟩,
  ⟨some 8, none, .mv, [.k (pI 0)]⟩] [3, 6, 7, 8])
  (.block 0 (.loop [3, 6, 7, 8] [] (.seq (.region false [
  ⟨some 9, none, .bin .lss false, [.t 8, .t 7]⟩] [3, 6, 7, 8, 9])
  (.seq (.cond (.t 9)
  .skip
  (.exit 0))
  (.seq (.block 1 (.seq (.region false [
  ⟨some 10, none, .ia 4, [.t 6, .t 8]⟩,
  ⟨some 11, none, .ld true 4 false, [.t 10]⟩,
  ⟨some 5, none, .alloc 0 true [(pI 0), (pI 0), (pS []), (.sl 4 [])], []⟩,
  ⟨none, none, .st 4, [.t 5, .tk 11]⟩] [3, 5, 6, 7, 8])
  (.region false [
  ⟨some 12, none, .mv, [.tk 3]⟩,
  ⟨some 13, none, .ld true 4 false, [.t 5]⟩,
  ⟨some 14, none, .call 20, [.tk 13]⟩,
  ⟨some 15, none, .blds 4 [(pI 0), (pI 0), (pS []), (.sl 4 [])] 1 [0], [.tk 14]⟩,
  ⟨some 16, none, .app 4 56, [.tk 12, .t 15]⟩,
  ⟨some 3, none, .mv, [.tk 16]⟩] [3, 6, 7, 8])))
  (.region false [
  ⟨some 17, none, .bin .add false, [.t 8, .k (pI 1)]⟩,
  ⟨some 8, none, .mv, [.t 17]⟩] [3, 6, 7, 8])))))))
  (.seq (.region false [
  ⟨some 18, none, .mv, [.tk 3]⟩,
  ⟨some 2, none, .mv, [.tk 18]⟩] [2])
  .ret))))⟩
/-- scrimshaw/data.written -/
def x22 : XFunc := ⟨2, [.tmp 4, .tmp 5],
  (.seq (.region false [
  ⟨some 2, none, .box 0, [.tk 0]⟩,
  ⟨some 4, none, .mv, [.k (pS [])]⟩,
  ⟨some 5, none, .mv, [.k (pI 0)]⟩] [1, 2])
  (.seq (.seq (.region false [
  ⟨some 8, none, .ld true 4 false, [.t 2]⟩,
  ⟨some 9, none, .call 17, [.tk 8]⟩,
  ⟨some 6, none, .mv, [.t 9]⟩] [1, 2, 6])
  (.seq (.region false [
  ⟨some 10, none, .mv, [.t 6]⟩,
  ⟨some 11, none, .bin .neq false, [.t 10, .k (pI 0)]⟩] [1, 2, 6, 11])
  (.cond (.t 11)
  (.seq (.region false [
  ⟨some 12, none, .mv, [.t 6]⟩,
  ⟨some 4, none, .mv, [.k (pS [])]⟩,
  ⟨some 5, none, .mv, [.t 12]⟩] [4, 5])
  .ret)
  .skip)))
  (.seq (.region false [
  ⟨some 13, none, .mv, [.t 1]⟩,
  ⟨some 14, none, .bld [(.sl 1 []), (pB false)] [(1, 1)], [.t 13]⟩,
  ⟨some 15, none, .box 1, [.tk 14]⟩,
  ⟨some 7, none, .mv, [.t 15]⟩] [2, 7])
  (.seq (.region false [
  ⟨some 16, none, .mv, [.t 7]⟩,
  ⟨some 17, none, .ld true 4 false, [.t 2]⟩,
  ⟨some 18, none, .call 26, [.t 16, .tk 17]⟩] [7])
  (.seq (.region false [
  ⟨some 19, none, .mv, [.t 7]⟩,
  ⟨some 20, none, .nck, [.t 19]⟩,
  ⟨some 21, none, .fa 0, [.t 20]⟩,
  ⟨some 22, none, .ld false 1 false, [.t 21]⟩,
  ⟨some 23, none, .cbs, [.t 22]⟩,
  ⟨some 4, none, .mv, [.t 23]⟩,
  ⟨some 5, none, .mv, [.k (pI 0)]⟩] [4, 5])
  .ret)))))⟩
/-- (*scrimshaw/data.checker).check -/
def x23 : XFunc := ⟨3, [.tmp 6],
  (.seq (.region false [
  ⟨some 4, none, .box 0, [.tk 1]⟩,
  ⟨some 6, none, .mv, [.k (pI 0)]⟩] [0, 2, 4])
  (.seq (.seq (.region false [
  ⟨some 10, none, .mv, [.t 0]⟩,
  ⟨some 11, none, .nck, [.t 10]⟩,
  ⟨some 12, none, .fa 0, [.t 11]⟩,
  ⟨some 13, none, .ld false 1 false, [.t 12]⟩,
  ⟨some 14, none, .bin .eql false, [.t 13, .k (pI 4096)]⟩] [0, 2, 4, 14])
  (.cond (.t 14)
  (.seq (.region false [
  ⟨some 6, none, .mv, [.k (pI 22)]⟩] [6])
  .ret)
  .skip))
  (.seq (.region false [
  ⟨some 15, none, .mv, [.t 0]⟩,
  ⟨some 16, none, .nck, [.t 15]⟩,
  ⟨some 17, none, .fa 0, [.t 16]⟩,
  ⟨some 18, none, .ld false 1 false, [.t 17]⟩,
  ⟨some 19, none, .bin .add false, [.t 18, .k (pI 1)]⟩,
  ⟨some 20, none, .nck, [.t 15]⟩,
  ⟨some 21, none, .fa 0, [.t 20]⟩,
  ⟨none, none, .st 1, [.t 21, .t 19]⟩] [0, 2, 4])
  (.seq (.seq (.region false [
  ⟨some 22, none, .ld true 4 false, [.t 4]⟩,
  ⟨some 23, none, .call 27, [.tk 22]⟩,
  ⟨some 24, none, .mv, [.t 23]⟩,
  ⟨some 25, (some (24, true)), .mv, [.t 2]⟩,
  ⟨some 26, (some (24, true)), .bin .eql false, [.t 25, .k (pI 32)]⟩,
  ⟨some 27, none, .pick, [.t 24, .t 26, .k (pB false)]⟩] [0, 2, 4, 27])
  (.cond (.t 27)
  (.seq (.region false [
  ⟨some 6, none, .mv, [.k (pI 21)]⟩] [6])
  .ret)
  .skip))
  (.seq (.seq (.region false [
  ⟨some 28, none, .ld true 4 false, [.t 4]⟩,
  ⟨some 29, none, .call 28, [.tk 28]⟩,
  ⟨some 30, none, .un .not, [.t 29]⟩] [0, 2, 4, 30])
  (.cond (.t 30)
  (.seq (.region false [
  ⟨some 6, none, .mv, [.k (pI 20)]⟩] [6])
  .ret)
  .skip))
  (.seq (.seq (.region false [
  ⟨some 31, none, .fa 3, [.t 4]⟩,
  ⟨some 32, none, .ld false 1 false, [.t 31]⟩,
  ⟨some 33, none, .lenL, [.t 32]⟩,
  ⟨some 34, none, .mv, [.k (pI 0)]⟩] [0, 2, 32, 33, 34])
  (.block 0 (.loop [0, 2, 32, 33, 34] [0] (.seq (.region false [
  ⟨some 35, none, .bin .lss false, [.t 34, .t 33]⟩] [0, 2, 32, 33, 34, 35])
  (.seq (.cond (.t 35)
  .skip
  (.exit 0))
  (.seq (.block 1 (.seq (.region false [
  ⟨some 36, none, .ia 4, [.t 32, .t 34]⟩,
  ⟨some 37, none, .ld true 4 false, [.t 36]⟩,
  ⟨some 8, none, .alloc 1 true [(pI 0), (pI 0), (pS []), (.sl 4 [])], []⟩,
  ⟨none, none, .st 4, [.t 8, .tk 37]⟩] [0, 2, 8, 32, 33, 34])
  (.seq (.region false [
  ⟨some 38, none, .mv, [.t 0]⟩,
  ⟨some 39, none, .ld true 4 false, [.t 8]⟩,
  ⟨some 40, none, .mv, [.t 2]⟩,
  ⟨some 41, none, .bin .add false, [.t 40, .k (pI 1)]⟩,
  ⟨some 42, none, .call 23, [.t 38, .tk 39, .t 41]⟩,
  ⟨some 9, none, .mv, [.t 42]⟩] [0, 2, 9, 32, 33, 34])
  (.seq (.region false [
  ⟨some 43, none, .mv, [.t 9]⟩,
  ⟨some 44, none, .bin .neq false, [.t 43, .k (pI 0)]⟩] [0, 2, 9, 32, 33, 34, 44])
  (.cond (.t 44)
  (.seq (.region false [
  ⟨some 45, none, .mv, [.t 9]⟩,
  ⟨some 6, none, .mv, [.t 45]⟩] [6])
  .ret)
  .skip)))))
  (.region false [
  ⟨some 46, none, .bin .add false, [.t 34, .k (pI 1)]⟩,
  ⟨some 34, none, .mv, [.t 46]⟩] [0, 2, 32, 33, 34])))))))
  (.seq (.region false [
  ⟨some 6, none, .mv, [.k (pI 0)]⟩] [6])
  .ret)))))))⟩
/-- scrimshaw/data.isName -/
def x24 : XFunc := ⟨1, [.tmp 2],
  (.seq (.region false [
  ⟨some 2, none, .mv, [.k (pB false)]⟩] [0])
  (.seq (.region false [
  ⟨some 3, none, .mv, [.t 0]⟩,
  ⟨some 4, none, .call 29, [.t 3]⟩,
  ⟨some 5, none, .mv, [.t 4]⟩,
  ⟨some 6, (some (5, false)), .mv, [.t 0]⟩,
  ⟨some 7, (some (5, false)), .bin .geq false, [.t 6, .k (pK .u8 97)]⟩,
  ⟨some 8, (some (5, false)), .mv, [.t 7]⟩,
  ⟨some 9, (some (8, true)), .mv, [.t 0]⟩,
  ⟨some 10, (some (8, true)), .bin .leq false, [.t 9, .k (pK .u8 122)]⟩,
  ⟨some 11, (some (5, false)), .pick, [.t 8, .t 10, .k (pB false)]⟩,
  ⟨some 12, none, .pick, [.t 5, .k (pB true), .t 11]⟩,
  ⟨some 13, none, .mv, [.t 12]⟩,
  ⟨some 14, (some (13, false)), .mv, [.t 0]⟩,
  ⟨some 15, (some (13, false)), .bin .geq false, [.t 14, .k (pK .u8 65)]⟩,
  ⟨some 16, (some (13, false)), .mv, [.t 15]⟩,
  ⟨some 17, (some (16, true)), .mv, [.t 0]⟩,
  ⟨some 18, (some (16, true)), .bin .leq false, [.t 17, .k (pK .u8 90)]⟩,
  ⟨some 19, (some (13, false)), .pick, [.t 16, .t 18, .k (pB false)]⟩,
  ⟨some 20, none, .pick, [.t 13, .k (pB true), .t 19]⟩,
  ⟨some 21, none, .mv, [.t 20]⟩,
  ⟨some 22, (some (21, false)), .mv, [.t 0]⟩,
  ⟨some 23, (some (21, false)), .call 30, [.k (pS [33, 36, 37, 38, 42, 47, 58, 60, 61, 62, 63, 94, 95, 126, 43, 45, 46, 64]), .t 22]⟩,
  ⟨some 24, (some (21, false)), .bin .geq false, [.t 23, .k (pI 0)]⟩,
  ⟨some 25, none, .pick, [.t 21, .k (pB true), .t 24]⟩,
  ⟨some 2, none, .mv, [.t 25]⟩] [2])
  .ret))⟩
/-- scrimshaw/data.isNumber -/
def x25 : XFunc := ⟨1, [.tmp 2],
  (.seq (.region false [
  ⟨some 2, none, .mv, [.k (pB false)]⟩] [0])
  (.seq (.seq (.region false [
  ⟨some 4, none, .mv, [.t 0]⟩,
  ⟨some 5, none, .bin .neq false, [.t 4, .k (pS [])]⟩,
  ⟨some 6, none, .mv, [.t 5]⟩,
  ⟨some 7, (some (6, true)), .mv, [.t 0]⟩,
  ⟨some 8, (some (6, true)), .ixs, [.t 7, .k (pI 0)]⟩,
  ⟨some 9, (some (6, true)), .bin .eql false, [.t 8, .k (pK .u8 43)]⟩,
  ⟨some 10, (some (6, true)), .mv, [.t 9]⟩,
  ⟨some 11, (some (10, false)), .mv, [.t 0]⟩,
  ⟨some 12, (some (10, false)), .ixs, [.t 11, .k (pI 0)]⟩,
  ⟨some 13, (some (10, false)), .bin .eql false, [.t 12, .k (pK .u8 45)]⟩,
  ⟨some 14, (some (6, true)), .pick, [.t 10, .k (pB true), .t 13]⟩,
  ⟨some 15, none, .pick, [.t 6, .t 14, .k (pB false)]⟩] [0, 15])
  (.cond (.t 15)
  (.region false [
  ⟨some 16, none, .mv, [.t 0]⟩,
  ⟨some 17, none, .slS true false, [.t 16, .k (pI 1)]⟩,
  ⟨some 0, none, .mv, [.t 17]⟩] [0])
  .skip))
  (.seq (.seq (.region false [
  ⟨some 18, none, .mv, [.t 0]⟩,
  ⟨some 19, none, .lenS, [.t 18]⟩,
  ⟨some 20, none, .mv, [.k (pI 0)]⟩] [0, 19, 20])
  (.block 0 (.loop [0, 19, 20] [] (.seq (.region false [
  ⟨some 21, none, .bin .lss false, [.t 20, .t 19]⟩] [0, 19, 20, 21])
  (.seq (.cond (.t 21)
  .skip
  (.exit 0))
  (.seq (.block 1 (.seq (.region false [
  ⟨some 22, none, .mv, [.t 20]⟩,
  ⟨some 3, none, .mv, [.t 22]⟩] [0, 3, 19, 20])
  (.seq (.region false [
  ⟨some 23, none, .mv, [.t 0]⟩,
  ⟨some 24, none, .mv, [.t 3]⟩,
  ⟨some 25, none, .ixs, [.t 23, .t 24]⟩,
  ⟨some 26, none, .call 29, [.t 25]⟩,
  ⟨some 27, none, .un .not, [.t 26]⟩] [0, 19, 20, 27])
  (.cond (.t 27)
  (.seq (.region false [
  ⟨some 2, none, .mv, [.k (pB false)]⟩] [2])
  .ret)
  .skip))))
  (.region false [
  ⟨some 28, none, .bin .add false, [.t 20, .k (pI 1)]⟩,
  ⟨some 20, none, .mv, [.t 28]⟩] [0, 19, 20])))))))
  (.seq (.region false [
  ⟨some 29, none, .mv, [.t 0]⟩,
  ⟨some 30, none, .bin .neq false, [.t 29, .k (pS [])]⟩,
  ⟨some 2, none, .mv, [.t 30]⟩] [2])
  .ret))))⟩
/-- (*scrimshaw/data.writer).datum -/
def x26 : XFunc := ⟨2, [],
  (.seq (.region false [
  ⟨some 3, none, .box 0, [.tk 1]⟩] [0, 3])
  (.seq (.region false [
  ⟨some 4, none, .fa 0, [.t 3]⟩,
  ⟨some 5, none, .ld false 1 false, [.t 4]⟩] [0, 3, 5])
  (.block 0 (.seq (.region false [
  ⟨some 10, none, .bin .eql false, [.t 5, .k (pI 0)]⟩,
  ⟨some 9, none, .mv, [.t 10]⟩] [0, 3, 5, 9])
  (.cond (.t 9)
  (.regionD [
  ⟨⟨some 11, none, .mv, [.t 0]⟩, [], false⟩,
  ⟨⟨some 12, none, .mv, [.t 0]⟩, [], false⟩,
  ⟨⟨some 13, none, .nck, [.t 12]⟩, [], false⟩,
  ⟨⟨some 14, none, .fa 0, [.t 13]⟩, [], false⟩,
  ⟨⟨some 15, none, .ld false 1 true, [.t 14]⟩, [], false⟩,
  ⟨⟨some 16, none, .fa 1, [.t 3]⟩, [], false⟩,
  ⟨⟨some 17, none, .ld false 1 false, [.t 16]⟩, [], false⟩,
  ⟨⟨some 18, none, .ixs, [.k (pS [102, 116]), .t 17]⟩, [], false⟩,
  ⟨⟨some 19, none, .blds 1 [(pK .u8 0)] 2 [0, 1], [.k (pK .u8 35), .t 18]⟩, [], false⟩,
  ⟨⟨some 20, none, .app 1 1, [.tk 15, .t 19]⟩, [], false⟩,
  ⟨⟨some 21, none, .nck, [.t 11]⟩, [], false⟩,
  ⟨⟨some 22, none, .fa 0, [.t 21]⟩, [], false⟩,
  ⟨⟨none, none, .st 1, [.t 22, .tk 20]⟩, [], false⟩] [])
  (.seq (.region false [
  ⟨some 24, none, .bin .eql false, [.t 5, .k (pI 1)]⟩,
  ⟨some 23, none, .mv, [.t 24]⟩] [0, 3, 5, 23])
  (.cond (.t 23)
  (.regionD [
  ⟨⟨some 25, none, .mv, [.t 0]⟩, [], false⟩,
  ⟨⟨some 26, none, .mv, [.t 0]⟩, [], false⟩,
  ⟨⟨some 27, none, .nck, [.t 26]⟩, [], false⟩,
  ⟨⟨some 28, none, .fa 0, [.t 27]⟩, [], false⟩,
  ⟨⟨some 29, none, .ld false 1 true, [.t 28]⟩, [], false⟩,
  ⟨⟨some 30, none, .fa 1, [.t 3]⟩, [], false⟩,
  ⟨⟨some 31, none, .ld false 1 false, [.t 30]⟩, [], false⟩,
  ⟨⟨some 32, none, .call 31, [.tk 29, .t 31, .k (pI 10)]⟩, [], false⟩,
  ⟨⟨some 33, none, .nck, [.t 25]⟩, [], false⟩,
  ⟨⟨some 34, none, .fa 0, [.t 33]⟩, [], false⟩,
  ⟨⟨none, none, .st 1, [.t 34, .tk 32]⟩, [], false⟩] [])
  (.seq (.region false [
  ⟨some 36, none, .bin .eql false, [.t 5, .k (pI 2)]⟩,
  ⟨some 35, none, .mv, [.t 36]⟩] [0, 3, 5, 35])
  (.cond (.t 35)
  (.region false [
  ⟨some 37, none, .mv, [.t 0]⟩,
  ⟨some 38, none, .fa 1, [.t 3]⟩,
  ⟨some 39, none, .ld false 1 false, [.t 38]⟩,
  ⟨some 40, none, .cvi .u8, [.t 39]⟩,
  ⟨some 41, none, .call 32, [.t 37, .t 40]⟩] [])
  (.seq (.region false [
  ⟨some 43, none, .bin .eql false, [.t 5, .k (pI 3)]⟩,
  ⟨some 42, none, .mv, [.t 43]⟩] [0, 3, 5, 42])
  (.cond (.t 42)
  (.region false [
  ⟨some 44, none, .mv, [.t 0]⟩,
  ⟨some 45, none, .fa 2, [.t 3]⟩,
  ⟨some 46, none, .ld false 1 false, [.t 45]⟩,
  ⟨some 47, none, .call 33, [.t 44, .t 46]⟩] [])
  (.seq (.region false [
  ⟨some 49, none, .bin .eql false, [.t 5, .k (pI 4)]⟩,
  ⟨some 48, none, .mv, [.t 49]⟩] [0, 3, 5, 48])
  (.cond (.t 48)
  (.regionD [
  ⟨⟨some 50, none, .mv, [.t 0]⟩, [], false⟩,
  ⟨⟨some 51, none, .mv, [.t 0]⟩, [], false⟩,
  ⟨⟨some 52, none, .nck, [.t 51]⟩, [], false⟩,
  ⟨⟨some 53, none, .fa 0, [.t 52]⟩, [], false⟩,
  ⟨⟨some 54, none, .ld false 1 true, [.t 53]⟩, [], false⟩,
  ⟨⟨some 55, none, .fa 2, [.t 3]⟩, [], false⟩,
  ⟨⟨some 56, none, .ld false 1 false, [.t 55]⟩, [], false⟩,
  ⟨⟨some 57, none, .app 1 1, [.tk 54, .t 56]⟩, [], false⟩,
  ⟨⟨some 58, none, .nck, [.t 50]⟩, [], false⟩,
  ⟨⟨some 59, none, .fa 0, [.t 58]⟩, [], false⟩,
  ⟨⟨none, none, .st 1, [.t 59, .tk 57]⟩, [], false⟩] [])
  (.seq (.region false [
  ⟨some 61, none, .bin .eql false, [.t 5, .k (pI 7)]⟩,
  ⟨some 60, none, .mv, [.t 61]⟩] [0, 3, 60])
  (.cond (.t 60)
  (.seq (.region false [
  ⟨some 62, none, .mv, [.t 0]⟩,
  ⟨some 63, none, .mv, [.t 0]⟩,
  ⟨some 64, none, .nck, [.t 63]⟩,
  ⟨some 65, none, .fa 0, [.t 64]⟩,
  ⟨some 66, none, .ld false 1 true, [.t 65]⟩,
  ⟨some 67, none, .blds 1 [(pK .u8 0)] 1 [0], [.k (pK .u8 35)]⟩,
  ⟨some 68, none, .app 1 1, [.tk 66, .t 67]⟩,
  ⟨some 69, none, .nck, [.t 62]⟩,
  ⟨some 70, none, .fa 0, [.t 69]⟩,
  ⟨none, none, .st 1, [.t 70, .tk 68]⟩] [0, 3])
  (.region false [
  ⟨some 71, none, .mv, [.t 0]⟩,
  ⟨some 72, none, .ld true 4 false, [.t 3]⟩,
  ⟨some 73, none, .call 34, [.t 71, .tk 72]⟩] []))
  (.region false [
  ⟨some 6, none, .mv, [.t 0]⟩,
  ⟨some 7, none, .ld true 4 false, [.t 3]⟩,
  ⟨some 8, none, .call 34, [.t 6, .tk 7]⟩] []))))))))))))))))⟩
/-- scrimshaw/data.hasItems -/
def x27 : XFunc := ⟨1, [.tmp 2],
  (.seq (.region false [
  ⟨some 1, none, .box 0, [.tk 0]⟩,
  ⟨some 2, none, .mv, [.k (pB false)]⟩] [1])
  (.seq (.region false [
  ⟨some 3, none, .fa 0, [.t 1]⟩,
  ⟨some 4, none, .ld false 1 false, [.t 3]⟩,
  ⟨some 5, none, .bin .geq false, [.t 4, .k (pI 5)]⟩,
  ⟨some 6, none, .mv, [.t 5]⟩,
  ⟨some 7, (some (6, true)), .fa 0, [.t 1]⟩,
  ⟨some 8, (some (6, true)), .ld false 1 false, [.t 7]⟩,
  ⟨some 9, (some (6, true)), .bin .leq false, [.t 8, .k (pI 7)]⟩,
  ⟨some 10, none, .pick, [.t 6, .t 9, .k (pB false)]⟩,
  ⟨some 2, none, .mv, [.t 10]⟩] [2])
  .ret))⟩
/-- scrimshaw/data.form -/
def x28 : XFunc := ⟨1, [.tmp 2],
  (.seq (.region false [
  ⟨some 1, none, .box 0, [.tk 0]⟩,
  ⟨some 2, none, .mv, [.k (pB false)]⟩] [1])
  (.seq (.region false [
  ⟨some 3, none, .mv, [.k (pI 0)]⟩,
  ⟨some 4, none, .mv, [.k (pS [])]⟩] [1, 3, 4])
  (.seq (.seq (.region false [
  ⟨some 5, none, .fa 0, [.t 1]⟩,
  ⟨some 6, none, .ld false 1 false, [.t 5]⟩] [1, 3, 4, 6])
  (.block 0 (.seq (.region false [
  ⟨some 8, none, .bin .eql false, [.t 6, .k (pI 0)]⟩,
  ⟨some 7, none, .mv, [.t 8]⟩] [1, 3, 4, 6, 7])
  (.cond (.t 7)
  (.region false [
  ⟨some 9, none, .fa 1, [.t 1]⟩,
  ⟨some 10, none, .ld false 1 false, [.t 9]⟩,
  ⟨some 11, none, .bin .and false, [.t 10, .k (pI 1)]⟩,
  ⟨some 3, none, .mv, [.t 11]⟩] [1, 3, 4])
  (.seq (.region false [
  ⟨some 13, none, .bin .eql false, [.t 6, .k (pI 1)]⟩,
  ⟨some 12, none, .mv, [.t 13]⟩] [1, 3, 4, 6, 12])
  (.cond (.t 12)
  (.region false [
  ⟨some 14, none, .fa 1, [.t 1]⟩,
  ⟨some 15, none, .ld false 1 false, [.t 14]⟩,
  ⟨some 16, none, .mx, [.t 15, .k (pI (-1152921504606846976))]⟩,
  ⟨some 17, none, .mn, [.t 16, .k (pI 1152921504606846975)]⟩,
  ⟨some 3, none, .mv, [.t 17]⟩] [1, 3, 4])
  (.seq (.region false [
  ⟨some 19, none, .bin .eql false, [.t 6, .k (pI 2)]⟩,
  ⟨some 18, none, .mv, [.t 19]⟩] [1, 3, 4, 6, 18])
  (.cond (.t 18)
  (.region false [
  ⟨some 20, none, .fa 1, [.t 1]⟩,
  ⟨some 21, none, .ld false 1 false, [.t 20]⟩,
  ⟨some 22, none, .bin .and false, [.t 21, .k (pI 255)]⟩,
  ⟨some 3, none, .mv, [.t 22]⟩] [1, 3, 4])
  (.seq (.region false [
  ⟨some 24, none, .bin .eql false, [.t 6, .k (pI 3)]⟩,
  ⟨some 23, none, .mv, [.t 24]⟩] [1, 3, 4, 6, 23])
  (.cond (.t 23)
  (.region false [
  ⟨some 25, none, .fa 2, [.t 1]⟩,
  ⟨some 26, none, .ld false 1 false, [.t 25]⟩,
  ⟨some 27, none, .fa 2, [.t 1]⟩,
  ⟨some 28, none, .ld false 1 false, [.t 27]⟩,
  ⟨some 29, none, .lenS, [.t 28]⟩,
  ⟨some 30, none, .mn, [.t 29, .k (pI 4096)]⟩,
  ⟨some 31, none, .slS false true, [.t 26, .t 30]⟩,
  ⟨some 4, none, .mv, [.t 31]⟩] [1, 3, 4])
  (.seq (.region false [
  ⟨some 33, none, .bin .eql false, [.t 6, .k (pI 4)]⟩,
  ⟨some 32, none, .mv, [.t 33]⟩] [1, 3, 4, 32])
  (.cond (.t 32)
  (.region false [
  ⟨some 34, none, .fa 2, [.t 1]⟩,
  ⟨some 35, none, .ld false 1 false, [.t 34]⟩,
  ⟨some 4, none, .mv, [.t 35]⟩] [1, 3, 4])
  .skip))))))))))))
  (.seq (.seq (.region false [
  ⟨some 36, none, .fa 1, [.t 1]⟩,
  ⟨some 37, none, .ld false 1 false, [.t 36]⟩,
  ⟨some 38, none, .mv, [.t 3]⟩,
  ⟨some 39, none, .bin .neq false, [.t 37, .t 38]⟩,
  ⟨some 40, none, .mv, [.t 39]⟩,
  ⟨some 41, (some (40, false)), .fa 2, [.t 1]⟩,
  ⟨some 42, (some (40, false)), .ld false 1 false, [.t 41]⟩,
  ⟨some 43, (some (40, false)), .mv, [.t 4]⟩,
  ⟨some 44, (some (40, false)), .bin .neq false, [.t 42, .t 43]⟩,
  ⟨some 45, none, .pick, [.t 40, .k (pB true), .t 44]⟩,
  ⟨some 46, none, .mv, [.t 45]⟩,
  ⟨some 47, (some (46, false)), .fa 3, [.t 1]⟩,
  ⟨some 48, (some (46, false)), .ld false 1 false, [.t 47]⟩,
  ⟨some 49, (some (46, false)), .lenL, [.t 48]⟩,
  ⟨some 50, (some (46, false)), .bin .gtr false, [.t 49, .k (pI 0)]⟩,
  ⟨some 51, (some (46, false)), .mv, [.t 50]⟩,
  ⟨some 52, (some (51, true)), .ld true 4 false, [.t 1]⟩,
  ⟨some 53, (some (51, true)), .call 27, [.t 52]⟩,
  ⟨some 54, (some (51, true)), .un .not, [.t 53]⟩,
  ⟨some 55, (some (46, false)), .pick, [.t 51, .t 54, .k (pB false)]⟩,
  ⟨some 56, none, .pick, [.t 46, .k (pB true), .t 55]⟩] [1, 56])
  (.cond (.t 56)
  (.seq (.region false [
  ⟨some 2, none, .mv, [.k (pB false)]⟩] [2])
  .ret)
  .skip))
  (.seq (.seq (.region false [
  ⟨some 57, none, .fa 0, [.t 1]⟩,
  ⟨some 58, none, .ld false 1 false, [.t 57]⟩] [1, 58])
  (.block 1 (.seq (.region false [
  ⟨some 60, none, .bin .eql false, [.t 58, .k (pI 4)]⟩,
  ⟨some 59, none, .mv, [.t 60]⟩] [1, 58, 59])
  (.cond (.t 59)
  (.seq (.region false [
  ⟨some 61, none, .fa 2, [.t 1]⟩,
  ⟨some 62, none, .ld false 1 false, [.t 61]⟩,
  ⟨some 63, none, .call 18, [.t 62]⟩,
  ⟨some 2, none, .mv, [.t 63]⟩] [2])
  .ret)
  (.seq (.region false [
  ⟨some 65, none, .bin .eql false, [.t 58, .k (pI 6)]⟩,
  ⟨some 64, none, .mv, [.t 65]⟩] [1, 64])
  (.cond (.t 64)
  (.seq (.region false [
  ⟨some 66, none, .fa 3, [.t 1]⟩,
  ⟨some 67, none, .ld false 1 false, [.t 66]⟩,
  ⟨some 68, none, .lenL, [.t 67]⟩,
  ⟨some 69, none, .bin .gtr false, [.t 68, .k (pI 1)]⟩,
  ⟨some 70, none, .mv, [.t 69]⟩,
  ⟨some 71, (some (70, true)), .fa 3, [.t 1]⟩,
  ⟨some 72, (some (70, true)), .ld false 1 false, [.t 71]⟩,
  ⟨some 73, (some (70, true)), .fa 3, [.t 1]⟩,
  ⟨some 74, (some (70, true)), .ld false 1 false, [.t 73]⟩,
  ⟨some 75, (some (70, true)), .lenL, [.t 74]⟩,
  ⟨some 76, (some (70, true)), .bin .sub false, [.t 75, .k (pI 1)]⟩,
  ⟨some 77, (some (70, true)), .ia 4, [.t 72, .t 76]⟩,
  ⟨some 78, (some (70, true)), .fa 0, [.t 77]⟩,
  ⟨some 79, (some (70, true)), .ld false 1 false, [.t 78]⟩,
  ⟨some 80, (some (70, true)), .bin .neq false, [.t 79, .k (pI 5)]⟩,
  ⟨some 81, none, .pick, [.t 70, .t 80, .k (pB false)]⟩,
  ⟨some 82, none, .mv, [.t 81]⟩,
  ⟨some 83, (some (82, true)), .fa 3, [.t 1]⟩,
  ⟨some 84, (some (82, true)), .ld false 1 false, [.t 83]⟩,
  ⟨some 85, (some (82, true)), .fa 3, [.t 1]⟩,
  ⟨some 86, (some (82, true)), .ld false 1 false, [.t 85]⟩,
  ⟨some 87, (some (82, true)), .lenL, [.t 86]⟩,
  ⟨some 88, (some (82, true)), .bin .sub false, [.t 87, .k (pI 1)]⟩,
  ⟨some 89, (some (82, true)), .ia 4, [.t 84, .t 88]⟩,
  ⟨some 90, (some (82, true)), .fa 0, [.t 89]⟩,
  ⟨some 91, (some (82, true)), .ld false 1 false, [.t 90]⟩,
  ⟨some 92, (some (82, true)), .bin .neq false, [.t 91, .k (pI 6)]⟩,
  ⟨some 93, none, .pick, [.t 82, .t 92, .k (pB false)]⟩,
  ⟨some 2, none, .mv, [.t 93]⟩] [2])
  .ret)
  .skip))))))
  (.seq (.region false [
  ⟨some 94, none, .fa 0, [.t 1]⟩,
  ⟨some 95, none, .ld false 1 false, [.t 94]⟩,
  ⟨some 96, none, .bin .geq false, [.t 95, .k (pI 0)]⟩,
  ⟨some 97, none, .mv, [.t 96]⟩,
  ⟨some 98, (some (97, true)), .fa 0, [.t 1]⟩,
  ⟨some 99, (some (97, true)), .ld false 1 false, [.t 98]⟩,
  ⟨some 100, (some (97, true)), .bin .lss false, [.t 99, .k (pI 8)]⟩,
  ⟨some 101, none, .pick, [.t 97, .t 100, .k (pB false)]⟩,
  ⟨some 2, none, .mv, [.t 101]⟩] [2])
  .ret))))))⟩
/-- scrimshaw/data.isDigit -/
def x29 : XFunc := ⟨1, [.tmp 2],
  (.seq (.region false [
  ⟨some 2, none, .mv, [.k (pB false)]⟩] [0])
  (.seq (.region false [
  ⟨some 3, none, .mv, [.t 0]⟩,
  ⟨some 4, none, .bin .geq false, [.t 3, .k (pK .u8 48)]⟩,
  ⟨some 5, none, .mv, [.t 4]⟩,
  ⟨some 6, (some (5, true)), .mv, [.t 0]⟩,
  ⟨some 7, (some (5, true)), .bin .leq false, [.t 6, .k (pK .u8 57)]⟩,
  ⟨some 8, none, .pick, [.t 5, .t 7, .k (pB false)]⟩,
  ⟨some 2, none, .mv, [.t 8]⟩] [2])
  .ret))⟩
/-- strings.IndexByte -/
def x30 : XFunc := ⟨2, [.tmp 4],
  (.seq (.region false [
  ⟨some 4, none, .mv, [.k (pI 0)]⟩] [0, 1])
  (.seq (.region false [
  ⟨some 5, none, .mv, [.t 0]⟩,
  ⟨some 6, none, .mv, [.t 1]⟩,
  ⟨some 7, none, .call 35, [.t 5, .t 6]⟩,
  ⟨some 4, none, .mv, [.t 7]⟩] [4])
  .ret))⟩
/-- strconv.AppendInt -/
def x31 : XFunc := ⟨3, [.tmp 6],
  (.seq (.region false [
  ⟨some 6, none, .mv, [.kn 1]⟩] [0, 1, 2])
  (.seq (.region false [
  ⟨some 7, none, .mv, [.tk 0]⟩,
  ⟨some 8, none, .mv, [.t 1]⟩,
  ⟨some 9, none, .mv, [.t 2]⟩,
  ⟨some 10, none, .call 36, [.tk 7, .t 8, .t 9]⟩,
  ⟨some 6, none, .mv, [.tk 10]⟩] [6])
  .ret))⟩
/-- (*scrimshaw/data.writer).char -/
def x32 : XFunc := ⟨2, [],
  (.block 0 (.seq (.region false [
  ⟨some 20, none, .mv, [.t 0]⟩,
  ⟨some 21, none, .nck, [.t 20]⟩,
  ⟨some 22, none, .fa 1, [.t 21]⟩,
  ⟨some 23, none, .ld false 1 false, [.t 22]⟩,
  ⟨some 19, none, .mv, [.t 23]⟩] [0, 1, 19])
  (.cond (.t 19)
  (.region false [
  ⟨some 24, none, .mv, [.t 0]⟩,
  ⟨some 25, none, .mv, [.t 0]⟩,
  ⟨some 26, none, .nck, [.t 25]⟩,
  ⟨some 27, none, .fa 0, [.t 26]⟩,
  ⟨some 28, none, .ld false 1 true, [.t 27]⟩,
  ⟨some 29, none, .mv, [.t 1]⟩,
  ⟨some 30, none, .blds 1 [(pK .u8 0)] 1 [0], [.t 29]⟩,
  ⟨some 31, none, .app 1 1, [.tk 28, .t 30]⟩,
  ⟨some 32, none, .nck, [.t 24]⟩,
  ⟨some 33, none, .fa 0, [.t 32]⟩,
  ⟨none, none, .st 1, [.t 33, .tk 31]⟩] [])
  (.seq (.region false [
  ⟨some 35, none, .mv, [.t 1]⟩,
  ⟨some 36, none, .bin .eql false, [.t 35, .k (pK .u8 32)]⟩,
  ⟨some 34, none, .mv, [.t 36]⟩] [0, 1, 34])
  (.cond (.t 34)
  (.region false [
  ⟨some 37, none, .mv, [.t 0]⟩,
  ⟨some 38, none, .mv, [.t 0]⟩,
  ⟨some 39, none, .nck, [.t 38]⟩,
  ⟨some 40, none, .fa 0, [.t 39]⟩,
  ⟨some 41, none, .ld false 1 true, [.t 40]⟩,
  ⟨some 42, none, .app 1 1, [.tk 41, .k (pS [35, 92, 115, 112, 97, 99, 101])]⟩,
  ⟨some 43, none, .nck, [.t 37]⟩,
  ⟨some 44, none, .fa 0, [.t 43]⟩,
  ⟨none, none, .st 1, [.t 44, .tk 42]⟩] [])
  (.seq (.region false [
  ⟨some 46, none, .mv, [.t 1]⟩,
  ⟨some 47, none, .bin .eql false, [.t 46, .k (pK .u8 10)]⟩,
  ⟨some 45, none, .mv, [.t 47]⟩] [0, 1, 45])
  (.cond (.t 45)
  (.region false [
  ⟨some 48, none, .mv, [.t 0]⟩,
  ⟨some 49, none, .mv, [.t 0]⟩,
  ⟨some 50, none, .nck, [.t 49]⟩,
  ⟨some 51, none, .fa 0, [.t 50]⟩,
  ⟨some 52, none, .ld false 1 true, [.t 51]⟩,
  ⟨some 53, none, .app 1 1, [.tk 52, .k (pS [35, 92, 110, 101, 119, 108, 105, 110, 101])]⟩,
  ⟨some 54, none, .nck, [.t 48]⟩,
  ⟨some 55, none, .fa 0, [.t 54]⟩,
  ⟨none, none, .st 1, [.t 55, .tk 53]⟩] [])
  (.seq (.region false [
  ⟨some 57, none, .mv, [.t 1]⟩,
  ⟨some 58, none, .bin .gtr false, [.t 57, .k (pK .u8 32)]⟩,
  ⟨some 59, none, .mv, [.t 58]⟩,
  ⟨some 60, (some (59, true)), .mv, [.t 1]⟩,
  ⟨some 61, (some (59, true)), .bin .lss false, [.t 60, .k (pK .u8 127)]⟩,
  ⟨some 62, none, .pick, [.t 59, .t 61, .k (pB false)]⟩,
  ⟨some 56, none, .mv, [.t 62]⟩] [0, 1, 56])
  (.cond (.t 56)
  (.region false [
  ⟨some 63, none, .mv, [.t 0]⟩,
  ⟨some 64, none, .mv, [.t 0]⟩,
  ⟨some 65, none, .nck, [.t 64]⟩,
  ⟨some 66, none, .fa 0, [.t 65]⟩,
  ⟨some 67, none, .ld false 1 true, [.t 66]⟩,
  ⟨some 68, none, .mv, [.t 1]⟩,
  ⟨some 69, none, .blds 1 [(pK .u8 0)] 3 [0, 1, 2], [.k (pK .u8 35), .k (pK .u8 92), .t 68]⟩,
  ⟨some 70, none, .app 1 1, [.tk 67, .t 69]⟩,
  ⟨some 71, none, .nck, [.t 63]⟩,
  ⟨some 72, none, .fa 0, [.t 71]⟩,
  ⟨none, none, .st 1, [.t 72, .tk 70]⟩] [])
  (.regionD [
  ⟨⟨some 4, none, .mv, [.t 0]⟩, [], false⟩,
  ⟨⟨some 5, none, .mv, [.t 0]⟩, [], false⟩,
  ⟨⟨some 6, none, .nck, [.t 5]⟩, [], false⟩,
  ⟨⟨some 7, none, .fa 0, [.t 6]⟩, [], false⟩,
  ⟨⟨some 8, none, .ld false 1 true, [.t 7]⟩, [], false⟩,
  ⟨⟨some 9, none, .mv, [.t 1]⟩, [], false⟩,
  ⟨⟨some 10, none, .bin .shr false, [.t 9, .k (pK .u64 4)]⟩, [], false⟩,
  ⟨⟨some 11, none, .ixs, [.k (pS [48, 49, 50, 51, 52, 53, 54, 55, 56, 57, 97, 98, 99, 100, 101, 102]), .t 10]⟩, [], false⟩,
  ⟨⟨some 12, none, .mv, [.t 1]⟩, [], false⟩,
  ⟨⟨some 13, none, .bin .and false, [.t 12, .k (pK .u8 15)]⟩, [], false⟩,
  ⟨⟨some 14, none, .ixs, [.k (pS [48, 49, 50, 51, 52, 53, 54, 55, 56, 57, 97, 98, 99, 100, 101, 102]), .t 13]⟩, [], false⟩,
  ⟨⟨some 15, none, .blds 1 [(pK .u8 0)] 5 [0, 1, 2, 3, 4], [.k (pK .u8 35), .k (pK .u8 92), .k (pK .u8 120), .t 11, .t 14]⟩, [], false⟩,
  ⟨⟨some 16, none, .app 1 1, [.tk 8, .t 15]⟩, [], false⟩,
  ⟨⟨some 17, none, .nck, [.t 4]⟩, [], false⟩,
  ⟨⟨some 18, none, .fa 0, [.t 17]⟩, [], false⟩,
  ⟨⟨none, none, .st 1, [.t 18, .tk 16]⟩, [], false⟩] []))))))))))⟩
/-- (*scrimshaw/data.writer).text -/
def x33 : XFunc := ⟨2, [],
  (.seq (.seq (.region false [
  ⟨some 6, none, .mv, [.t 0]⟩,
  ⟨some 7, none, .nck, [.t 6]⟩,
  ⟨some 8, none, .fa 1, [.t 7]⟩,
  ⟨some 9, none, .ld false 1 false, [.t 8]⟩] [0, 1, 9])
  (.cond (.t 9)
  (.seq (.region false [
  ⟨some 10, none, .mv, [.t 0]⟩,
  ⟨some 11, none, .mv, [.t 0]⟩,
  ⟨some 12, none, .nck, [.t 11]⟩,
  ⟨some 13, none, .fa 0, [.t 12]⟩,
  ⟨some 14, none, .ld false 1 true, [.t 13]⟩,
  ⟨some 15, none, .mv, [.t 1]⟩,
  ⟨some 16, none, .app 1 1, [.tk 14, .t 15]⟩,
  ⟨some 17, none, .nck, [.t 10]⟩,
  ⟨some 18, none, .fa 0, [.t 17]⟩,
  ⟨none, none, .st 1, [.t 18, .tk 16]⟩] [])
  .ret)
  .skip))
  (.seq (.region false [
  ⟨some 19, none, .mv, [.t 0]⟩,
  ⟨some 20, none, .mv, [.t 0]⟩,
  ⟨some 21, none, .nck, [.t 20]⟩,
  ⟨some 22, none, .fa 0, [.t 21]⟩,
  ⟨some 23, none, .ld false 1 true, [.t 22]⟩,
  ⟨some 24, none, .blds 1 [(pK .u8 0)] 1 [0], [.k (pK .u8 34)]⟩,
  ⟨some 25, none, .app 1 1, [.tk 23, .t 24]⟩,
  ⟨some 26, none, .nck, [.t 19]⟩,
  ⟨some 27, none, .fa 0, [.t 26]⟩,
  ⟨none, none, .st 1, [.t 27, .tk 25]⟩] [0, 1])
  (.seq (.seq (.region false [
  ⟨some 28, none, .mv, [.t 1]⟩,
  ⟨some 29, none, .lenS, [.t 28]⟩,
  ⟨some 30, none, .mv, [.k (pI 0)]⟩] [0, 1, 29, 30])
  (.block 0 (.loop [0, 1, 29, 30] [] (.seq (.region false [
  ⟨some 31, none, .bin .lss false, [.t 30, .t 29]⟩] [0, 1, 29, 30, 31])
  (.seq (.cond (.t 31)
  .skip
  (.exit 0))
  (.seq (.block 1 (.seq (.region false [
  ⟨some 32, none, .mv, [.t 30]⟩,
  ⟨some 4, none, .mv, [.t 32]⟩] [0, 1, 4, 29, 30])
  (.seq (.region false [
  ⟨some 33, none, .mv, [.t 1]⟩,
  ⟨some 34, none, .mv, [.t 4]⟩,
  ⟨some 35, none, .ixs, [.t 33, .t 34]⟩,
  ⟨some 5, none, .mv, [.t 35]⟩] [0, 1, 5, 29, 30])
  (.block 2 (.seq (.region false [
  ⟨some 47, none, .mv, [.t 5]⟩,
  ⟨some 48, none, .bin .eql false, [.t 47, .k (pK .u8 34)]⟩,
  ⟨some 49, none, .mv, [.t 48]⟩,
  ⟨some 50, (some (49, false)), .mv, [.t 5]⟩,
  ⟨some 51, (some (49, false)), .bin .eql false, [.t 50, .k (pK .u8 92)]⟩,
  ⟨some 52, none, .pick, [.t 49, .k (pB true), .t 51]⟩,
  ⟨some 46, none, .mv, [.t 52]⟩] [0, 1, 5, 29, 30, 46])
  (.cond (.t 46)
  (.region false [
  ⟨some 53, none, .mv, [.t 0]⟩,
  ⟨some 54, none, .mv, [.t 0]⟩,
  ⟨some 55, none, .nck, [.t 54]⟩,
  ⟨some 56, none, .fa 0, [.t 55]⟩,
  ⟨some 57, none, .ld false 1 true, [.t 56]⟩,
  ⟨some 58, none, .mv, [.t 5]⟩,
  ⟨some 59, none, .blds 1 [(pK .u8 0)] 2 [0, 1], [.k (pK .u8 92), .t 58]⟩,
  ⟨some 60, none, .app 1 1, [.tk 57, .t 59]⟩,
  ⟨some 61, none, .nck, [.t 53]⟩,
  ⟨some 62, none, .fa 0, [.t 61]⟩,
  ⟨none, none, .st 1, [.t 62, .tk 60]⟩] [0, 1, 29, 30])
  (.seq (.region false [
  ⟨some 64, none, .mv, [.t 5]⟩,
  ⟨some 65, none, .bin .eql false, [.t 64, .k (pK .u8 10)]⟩,
  ⟨some 63, none, .mv, [.t 65]⟩] [0, 1, 5, 29, 30, 63])
  (.cond (.t 63)
  (.region false [
  ⟨some 66, none, .mv, [.t 0]⟩,
  ⟨some 67, none, .mv, [.t 0]⟩,
  ⟨some 68, none, .nck, [.t 67]⟩,
  ⟨some 69, none, .fa 0, [.t 68]⟩,
  ⟨some 70, none, .ld false 1 true, [.t 69]⟩,
  ⟨some 71, none, .blds 1 [(pK .u8 0)] 2 [0, 1], [.k (pK .u8 92), .k (pK .u8 110)]⟩,
  ⟨some 72, none, .app 1 1, [.tk 70, .t 71]⟩,
  ⟨some 73, none, .nck, [.t 66]⟩,
  ⟨some 74, none, .fa 0, [.t 73]⟩,
  ⟨none, none, .st 1, [.t 74, .tk 72]⟩] [0, 1, 29, 30])
  (.seq (.region false [
  ⟨some 76, none, .mv, [.t 5]⟩,
  ⟨some 77, none, .bin .lss false, [.t 76, .k (pK .u8 32)]⟩,
  ⟨some 78, none, .mv, [.t 77]⟩,
  ⟨some 79, (some (78, false)), .mv, [.t 5]⟩,
  ⟨some 80, (some (78, false)), .bin .gtr false, [.t 79, .k (pK .u8 126)]⟩,
  ⟨some 81, none, .pick, [.t 78, .k (pB true), .t 80]⟩,
  ⟨some 75, none, .mv, [.t 81]⟩] [0, 1, 5, 29, 30, 75])
  (.cond (.t 75)
  (.regionD [
  ⟨⟨some 82, none, .mv, [.t 0]⟩, [], false⟩,
  ⟨⟨some 83, none, .mv, [.t 0]⟩, [], false⟩,
  ⟨⟨some 84, none, .nck, [.t 83]⟩, [], false⟩,
  ⟨⟨some 85, none, .fa 0, [.t 84]⟩, [], false⟩,
  ⟨⟨some 86, none, .ld false 1 true, [.t 85]⟩, [], false⟩,
  ⟨⟨some 87, none, .mv, [.t 5]⟩, [], false⟩,
  ⟨⟨some 88, none, .bin .shr false, [.t 87, .k (pK .u64 4)]⟩, [], false⟩,
  ⟨⟨some 89, none, .ixs, [.k (pS [48, 49, 50, 51, 52, 53, 54, 55, 56, 57, 97, 98, 99, 100, 101, 102]), .t 88]⟩, [], false⟩,
  ⟨⟨some 90, none, .mv, [.t 5]⟩, [], false⟩,
  ⟨⟨some 91, none, .bin .and false, [.t 90, .k (pK .u8 15)]⟩, [], false⟩,
  ⟨⟨some 92, none, .ixs, [.k (pS [48, 49, 50, 51, 52, 53, 54, 55, 56, 57, 97, 98, 99, 100, 101, 102]), .t 91]⟩, [], false⟩,
  ⟨⟨some 93, none, .blds 1 [(pK .u8 0)] 4 [0, 1, 2, 3], [.k (pK .u8 92), .k (pK .u8 120), .t 89, .t 92]⟩, [], false⟩,
  ⟨⟨some 94, none, .app 1 1, [.tk 86, .t 93]⟩, [], false⟩,
  ⟨⟨some 95, none, .nck, [.t 82]⟩, [], false⟩,
  ⟨⟨some 96, none, .fa 0, [.t 95]⟩, [], false⟩,
  ⟨⟨none, none, .st 1, [.t 96, .tk 94]⟩, [], false⟩] [0, 1, 29, 30])
  (.region false [
  ⟨some 36, none, .mv, [.t 0]⟩,
  ⟨some 37, none, .mv, [.t 0]⟩,
  ⟨some 38, none, .nck, [.t 37]⟩,
  ⟨some 39, none, .fa 0, [.t 38]⟩,
  ⟨some 40, none, .ld false 1 true, [.t 39]⟩,
  ⟨some 41, none, .mv, [.t 5]⟩,
  ⟨some 42, none, .blds 1 [(pK .u8 0)] 1 [0], [.t 41]⟩,
  ⟨some 43, none, .app 1 1, [.tk 40, .t 42]⟩,
  ⟨some 44, none, .nck, [.t 36]⟩,
  ⟨some 45, none, .fa 0, [.t 44]⟩,
  ⟨none, none, .st 1, [.t 45, .tk 43]⟩] [0, 1, 29, 30])))))))))))
  (.region false [
  ⟨some 97, none, .bin .add false, [.t 30, .k (pI 1)]⟩,
  ⟨some 30, none, .mv, [.t 97]⟩] [0, 1, 29, 30])))))))
  (.region false [
  ⟨some 98, none, .mv, [.t 0]⟩,
  ⟨some 99, none, .mv, [.t 0]⟩,
  ⟨some 100, none, .nck, [.t 99]⟩,
  ⟨some 101, none, .fa 0, [.t 100]⟩,
  ⟨some 102, none, .ld false 1 true, [.t 101]⟩,
  ⟨some 103, none, .blds 1 [(pK .u8 0)] 1 [0], [.k (pK .u8 34)]⟩,
  ⟨some 104, none, .app 1 1, [.tk 102, .t 103]⟩,
  ⟨some 105, none, .nck, [.t 98]⟩,
  ⟨some 106, none, .fa 0, [.t 105]⟩,
  ⟨none, none, .st 1, [.t 106, .tk 104]⟩] []))))⟩
/-- (*scrimshaw/data.writer).items -/
def x34 : XFunc := ⟨2, [],
  (.seq (.region false [
  ⟨some 3, none, .box 0, [.tk 1]⟩] [0, 3])
  (.seq (.region false [
  ⟨some 6, none, .mv, [.t 0]⟩,
  ⟨some 7, none, .mv, [.t 0]⟩,
  ⟨some 8, none, .nck, [.t 7]⟩,
  ⟨some 9, none, .fa 0, [.t 8]⟩,
  ⟨some 10, none, .ld false 1 true, [.t 9]⟩,
  ⟨some 11, none, .blds 1 [(pK .u8 0)] 1 [0], [.k (pK .u8 40)]⟩,
  ⟨some 12, none, .app 1 1, [.tk 10, .t 11]⟩,
  ⟨some 13, none, .nck, [.t 6]⟩,
  ⟨some 14, none, .fa 0, [.t 13]⟩,
  ⟨none, none, .st 1, [.t 14, .tk 12]⟩] [0, 3])
  (.seq (.seq (.region false [
  ⟨some 15, none, .fa 3, [.t 3]⟩,
  ⟨some 16, none, .ld false 1 false, [.t 15]⟩,
  ⟨some 17, none, .lenL, [.t 16]⟩,
  ⟨some 18, none, .mv, [.k (pI 0)]⟩] [0, 3, 16, 17, 18])
  (.block 0 (.loop [0, 3, 16, 17, 18] [0] (.seq (.region false [
  ⟨some 19, none, .bin .lss false, [.t 18, .t 17]⟩] [0, 3, 16, 17, 18, 19])
  (.seq (.cond (.t 19)
  .skip
  (.exit 0))
  (.seq (.block 1 (.seq (.region false [
  ⟨some 20, none, .mv, [.t 18]⟩,
  ⟨some 21, none, .ia 4, [.t 16, .t 18]⟩,
  ⟨some 22, none, .ld true 4 false, [.t 21]⟩,
  ⟨some 5, none, .alloc 1 true [(pI 0), (pI 0), (pS []), (.sl 4 [])], []⟩,
  ⟨some 4, none, .mv, [.t 20]⟩,
  ⟨none, none, .st 4, [.t 5, .tk 22]⟩] [0, 3, 4, 5, 16, 17, 18])
  (.seq (.seq (.region false [
  ⟨some 23, none, .mv, [.t 4]⟩,
  ⟨some 24, none, .bin .gtr false, [.t 23, .k (pI 0)]⟩] [0, 3, 4, 5, 16, 17, 18, 24])
  (.cond (.t 24)
  (.seq (.region false [
  ⟨some 25, none, .mv, [.t 0]⟩,
  ⟨some 26, none, .mv, [.t 0]⟩,
  ⟨some 27, none, .nck, [.t 26]⟩,
  ⟨some 28, none, .fa 0, [.t 27]⟩,
  ⟨some 29, none, .ld false 1 true, [.t 28]⟩,
  ⟨some 30, none, .blds 1 [(pK .u8 0)] 1 [0], [.k (pK .u8 32)]⟩,
  ⟨some 31, none, .app 1 1, [.tk 29, .t 30]⟩,
  ⟨some 32, none, .nck, [.t 25]⟩,
  ⟨some 33, none, .fa 0, [.t 32]⟩,
  ⟨none, none, .st 1, [.t 33, .tk 31]⟩] [0, 3, 4, 5, 16, 17, 18])
  (.seq (.region false [
  ⟨some 34, none, .fa 0, [.t 3]⟩,
  ⟨some 35, none, .ld false 1 false, [.t 34]⟩,
  ⟨some 36, none, .bin .eql false, [.t 35, .k (pI 6)]⟩,
  ⟨some 37, none, .mv, [.t 36]⟩,
  ⟨some 38, (some (37, true)), .mv, [.t 4]⟩,
  ⟨some 39, (some (37, true)), .fa 3, [.t 3]⟩,
  ⟨some 40, (some (37, true)), .ld false 1 false, [.t 39]⟩,
  ⟨some 41, (some (37, true)), .lenL, [.t 40]⟩,
  ⟨some 42, (some (37, true)), .bin .sub false, [.t 41, .k (pI 1)]⟩,
  ⟨some 43, (some (37, true)), .bin .eql false, [.t 38, .t 42]⟩,
  ⟨some 44, none, .pick, [.t 37, .t 43, .k (pB false)]⟩] [0, 3, 5, 16, 17, 18, 44])
  (.cond (.t 44)
  (.region false [
  ⟨some 45, none, .mv, [.t 0]⟩,
  ⟨some 46, none, .mv, [.t 0]⟩,
  ⟨some 47, none, .nck, [.t 46]⟩,
  ⟨some 48, none, .fa 0, [.t 47]⟩,
  ⟨some 49, none, .ld false 1 true, [.t 48]⟩,
  ⟨some 50, none, .blds 1 [(pK .u8 0)] 2 [0, 1], [.k (pK .u8 46), .k (pK .u8 32)]⟩,
  ⟨some 51, none, .app 1 1, [.tk 49, .t 50]⟩,
  ⟨some 52, none, .nck, [.t 45]⟩,
  ⟨some 53, none, .fa 0, [.t 52]⟩,
  ⟨none, none, .st 1, [.t 53, .tk 51]⟩] [0, 3, 5, 16, 17, 18])
  .skip)))
  .skip))
  (.region false [
  ⟨some 54, none, .mv, [.t 0]⟩,
  ⟨some 55, none, .ld true 4 false, [.t 5]⟩,
  ⟨some 56, none, .call 26, [.t 54, .tk 55]⟩] [0, 3, 16, 17, 18]))))
  (.region false [
  ⟨some 57, none, .bin .add false, [.t 18, .k (pI 1)]⟩,
  ⟨some 18, none, .mv, [.t 57]⟩] [0, 3, 16, 17, 18])))))))
  (.region false [
  ⟨some 58, none, .mv, [.t 0]⟩,
  ⟨some 59, none, .mv, [.t 0]⟩,
  ⟨some 60, none, .nck, [.t 59]⟩,
  ⟨some 61, none, .fa 0, [.t 60]⟩,
  ⟨some 62, none, .ld false 1 true, [.t 61]⟩,
  ⟨some 63, none, .blds 1 [(pK .u8 0)] 1 [0], [.k (pK .u8 41)]⟩,
  ⟨some 64, none, .app 1 1, [.tk 62, .t 63]⟩,
  ⟨some 65, none, .nck, [.t 58]⟩,
  ⟨some 66, none, .fa 0, [.t 65]⟩,
  ⟨none, none, .st 1, [.t 66, .tk 64]⟩] []))))⟩
/-- internal/strconv.AppendInt -/
def x36 : XFunc := ⟨3, [.tmp 6],
  (.seq (.region false [
  ⟨some 6, none, .mv, [.kn 1]⟩] [0, 1, 2])
  (.seq (.region false [
  ⟨some 8, none, .mv, [.t 1]⟩,
  ⟨some 9, none, .cvi .u64, [.t 8]⟩,
  ⟨some 7, none, .mv, [.t 9]⟩] [0, 1, 2, 7])
  (.seq (.seq (.region false [
  ⟨some 10, none, .mv, [.t 1]⟩,
  ⟨some 11, none, .bin .lss false, [.t 10, .k (pI 0)]⟩] [0, 2, 7, 11])
  (.cond (.t 11)
  (.seq (.region false [
  ⟨some 12, none, .mv, [.tk 0]⟩,
  ⟨some 13, none, .blds 1 [(pK .u8 0)] 1 [0], [.k (pK .u8 45)]⟩,
  ⟨some 14, none, .app 1 1, [.tk 12, .t 13]⟩,
  ⟨some 0, none, .mv, [.tk 14]⟩] [0, 2, 7])
  (.region false [
  ⟨some 15, none, .mv, [.t 7]⟩,
  ⟨some 16, none, .un .neg, [.t 15]⟩,
  ⟨some 7, none, .mv, [.t 16]⟩] [0, 2, 7]))
  .skip))
  (.seq (.region false [
  ⟨some 17, none, .mv, [.tk 0]⟩,
  ⟨some 18, none, .mv, [.t 7]⟩,
  ⟨some 19, none, .mv, [.t 2]⟩,
  ⟨some 20, none, .call 38, [.tk 17, .t 18, .t 19]⟩,
  ⟨some 6, none, .mv, [.tk 20]⟩] [6])
  .ret))))⟩
/-- internal/strconv.AppendUint -/
def x38 : XFunc := ⟨3, [.tmp 6],
  (.seq (.region false [
  ⟨some 6, none, .mv, [.kn 1]⟩] [0, 1, 2])
  (.seq (.seq (.region false [
  ⟨some 9, none, .mv, [.t 2]⟩,
  ⟨some 10, none, .bin .eql false, [.t 9, .k (pI 10)]⟩] [0, 1, 2, 10])
  (.cond (.t 10)
  (.seq (.seq (.region false [
  ⟨some 11, none, .mv, [.t 1]⟩,
  ⟨some 12, none, .bin .lss false, [.t 11, .k (pK .u64 100)]⟩] [0, 1, 12])
  (.cond (.t 12)
  (.seq (.region false [
  ⟨some 13, none, .mv, [.tk 0]⟩,
  ⟨some 14, none, .mv, [.t 1]⟩,
  ⟨some 15, none, .cvi .i64, [.t 14]⟩,
  ⟨some 16, none, .call 39, [.t 15]⟩,
  ⟨some 17, none, .app 1 1, [.tk 13, .t 16]⟩,
  ⟨some 6, none, .mv, [.tk 17]⟩] [6])
  .ret)
  .skip))
  (.seq (.region false [
  ⟨some 7, none, .alloc 0 true [(pK .u8 0), (pK .u8 0), (pK .u8 0), (pK .u8 0), (pK .u8 0), (pK .u8 0), (pK .u8 0), (pK .u8 0), (pK .u8 0), (pK .u8 0), (pK .u8 0), (pK .u8 0), (pK .u8 0), (pK .u8 0), (pK .u8 0), (pK .u8 0), (pK .u8 0), (pK .u8 0), (pK .u8 0), (pK .u8 0), (pK .u8 0), (pK .u8 0), (pK .u8 0), (pK .u8 0)], []⟩] [0, 1, 7])
  (.seq (.region false [
  ⟨some 18, none, .mv, [.t 1]⟩,
  ⟨some 19, none, .call 40, [.t 18]⟩,
  ⟨some 8, none, .mv, [.t 19]⟩] [0, 1, 7, 8])
  (.seq (.region false [
  ⟨some 20, none, .mv, [.t 8]⟩,
  ⟨some 21, none, .csb, []⟩,
  ⟨some 22, none, .mv, [.t 1]⟩,
  ⟨some 23, none, .call 41, [.tk 21, .t 22]⟩] [0, 7, 8])
  (.seq (.region false [
  ⟨some 24, none, .mv, [.tk 0]⟩,
  ⟨some 25, none, .mv, [.t 8]⟩,
  ⟨some 26, none, .csb, []⟩,
  ⟨some 27, none, .app 1 1, [.tk 24, .t 26]⟩,
  ⟨some 6, none, .mv, [.tk 27]⟩] [6])
  .ret)))))
  .skip))
  (.seq (.region false [
  ⟨some 29, none, .mv, [.tk 0]⟩,
  ⟨some 30, none, .mv, [.t 1]⟩,
  ⟨some 31, none, .mv, [.t 2]⟩,
  ⟨some 32, none, .call 42, [.tk 29, .t 30, .t 31, .k (pB false), .k (pB true)]⟩,
  ⟨some 28, none, .mv, [.tk 32]⟩,
  ⟨some 33, none, .ext 0, [.t 28]⟩,
  ⟨some 34, none, .ext 1, [.tk 28]⟩,
  ⟨some 0, none, .mv, [.tk 33]⟩] [0])
  (.seq (.region false [
  ⟨some 35, none, .mv, [.tk 0]⟩,
  ⟨some 6, none, .mv, [.tk 35]⟩] [6])
  .ret))))⟩
/-- internal/strconv.small -/
def x39 : XFunc := ⟨1, [.tmp 2],
  (.seq (.region false [
  ⟨some 2, none, .mv, [.k (pS [])]⟩] [0])
  (.seq (.seq (.region false [
  ⟨some 3, none, .mv, [.t 0]⟩,
  ⟨some 4, none, .bin .lss false, [.t 3, .k (pI 10)]⟩] [0, 4])
  (.cond (.t 4)
  (.seq (.region false [
  ⟨some 5, none, .mv, [.t 0]⟩,
  ⟨some 6, none, .mv, [.t 0]⟩,
  ⟨some 7, none, .bin .add false, [.t 6, .k (pI 1)]⟩,
  ⟨some 8, none, .slS true true, [.k (pS [48, 49, 50, 51, 52, 53, 54, 55, 56, 57, 97, 98, 99, 100, 101, 102, 103, 104, 105, 106, 107, 108, 109, 110, 111, 112, 113, 114, 115, 116, 117, 118, 119, 120, 121, 122]), .t 5, .t 7]⟩,
  ⟨some 2, none, .mv, [.t 8]⟩] [2])
  .ret)
  .skip))
  (.seq (.region false [
  ⟨some 9, none, .mv, [.t 0]⟩,
  ⟨some 10, none, .bin .mul false, [.t 9, .k (pI 2)]⟩,
  ⟨some 11, none, .mv, [.t 0]⟩,
  ⟨some 12, none, .bin .mul false, [.t 11, .k (pI 2)]⟩,
  ⟨some 13, none, .bin .add false, [.t 12, .k (pI 2)]⟩,
  ⟨some 14, none, .slS true true, [.k (pS [48, 48, 48, 49, 48, 50, 48, 51, 48, 52, 48, 53, 48, 54, 48, 55, 48, 56, 48, 57, 49, 48, 49, 49, 49, 50, 49, 51, 49, 52, 49, 53, 49, 54, 49, 55, 49, 56, 49, 57, 50, 48, 50, 49, 50, 50, 50, 51, 50, 52, 50, 53, 50, 54, 50, 55, 50, 56, 50, 57, 51, 48, 51, 49, 51, 50, 51, 51, 51, 52, 51, 53, 51, 54, 51, 55, 51, 56, 51, 57, 52, 48, 52, 49, 52, 50, 52, 51, 52, 52, 52, 53, 52, 54, 52, 55, 52, 56, 52, 57, 53, 48, 53, 49, 53, 50, 53, 51, 53, 52, 53, 53, 53, 54, 53, 55, 53, 56, 53, 57, 54, 48, 54, 49, 54, 50, 54, 51, 54, 52, 54, 53, 54, 54, 54, 55, 54, 56, 54, 57, 55, 48, 55, 49, 55, 50, 55, 51, 55, 52, 55, 53, 55, 54, 55, 55, 55, 56, 55, 57, 56, 48, 56, 49, 56, 50, 56, 51, 56, 52, 56, 53, 56, 54, 56, 55, 56, 56, 56, 57, 57, 48, 57, 49, 57, 50, 57, 51, 57, 52, 57, 53, 57, 54, 57, 55, 57, 56, 57, 57]), .t 10, .t 13]⟩,
  ⟨some 2, none, .mv, [.t 14]⟩] [2])
  .ret)))⟩
end Go.Sc2
