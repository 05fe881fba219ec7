/- The small code of the functions reached, as a program printed it. -/
import Derived.Test.YtgngceifpdjbiaaSE17
set_option maxRecDepth 100000
namespace Go.ScX
open Go.ScE
/-- scrimshaw/scrimshawlaw23.SegmentSame -/
def x3 : XFunc := ⟨3, [.tmp 6],
  (.seq (.region false [
  ⟨some 6, none, .mv, [.k (pB false)]⟩] [0, 1, 2])
  (.seq (.seq (.region false [
  ⟨some 14, none, .mv, [.t 0]⟩,
  ⟨some 15, none, .lenL, [.t 14]⟩,
  ⟨some 16, none, .bin .gtr false, [.t 15, .k (pI 30)]⟩] [0, 1, 2, 16])
  (.cond (.t 16)
  (.region false [
  ⟨some 17, none, .mv, [.tk 0]⟩,
  ⟨some 18, none, .slL 3 false true, [.t 17, .k (pI 30)]⟩,
  ⟨some 0, none, .mv, [.tk 18]⟩] [0, 1, 2])
  .skip))
  (.seq (.seq (.region false [
  ⟨some 19, none, .call 7, []⟩,
  ⟨some 20, none, .un .not, [.t 19]⟩,
  ⟨some 21, none, .mv, [.t 20]⟩,
  ⟨some 22, (some (21, false)), .mv, [.t 1]⟩,
  ⟨some 23, (some (21, false)), .bin .lss false, [.t 22, .k (pI 0)]⟩,
  ⟨some 24, none, .pick, [.t 21, .k (pB true), .t 23]⟩,
  ⟨some 25, none, .mv, [.t 24]⟩,
  ⟨some 26, (some (25, false)), .mv, [.t 1]⟩,
  ⟨some 27, (some (25, false)), .mv, [.t 0]⟩,
  ⟨some 28, (some (25, false)), .lenL, [.t 27]⟩,
  ⟨some 29, (some (25, false)), .bin .gtr false, [.t 26, .t 28]⟩,
  ⟨some 30, none, .pick, [.t 25, .k (pB true), .t 29]⟩] [0, 1, 2, 30])
  (.cond (.t 30)
  (.seq (.region false [
  ⟨some 31, none, .call 7, []⟩,
  ⟨some 6, none, .mv, [.t 31]⟩] [6])
  .ret)
  .skip))
  (.seq (.region false [
  ⟨some 32, none, .blds 3 [(pI 0), (pI 0), (pI 0)] 0 [], []⟩,
  ⟨some 33, none, .mv, [.t 0]⟩,
  ⟨some 34, none, .mv, [.t 1]⟩,
  ⟨some 35, none, .slL 3 false true, [.t 33, .t 34]⟩,
  ⟨some 36, none, .app 3 24, [.tk 32, .t 35]⟩,
  ⟨some 7, none, .mv, [.tk 36]⟩] [0, 1, 2, 7])
  (.seq (.region false [
  ⟨some 37, none, .mv, [.tk 7]⟩,
  ⟨some 38, none, .mv, [.t 2]⟩,
  ⟨some 39, none, .bin .rem false, [.t 38, .k (pI 3)]⟩,
  ⟨some 40, none, .bin .add false, [.t 39, .k (pI 3)]⟩,
  ⟨some 41, none, .bin .rem false, [.t 40, .k (pI 3)]⟩,
  ⟨some 42, none, .bin .add false, [.k (pI 1), .t 41]⟩,
  ⟨some 43, none, .bld [(pI 0), (pI 0), (pI 0)] [(0, 1)], [.t 42]⟩,
  ⟨some 44, none, .blds 3 [(pI 0), (pI 0), (pI 0)] 1 [0], [.t 43]⟩,
  ⟨some 45, none, .app 3 24, [.tk 37, .t 44]⟩,
  ⟨some 7, none, .mv, [.tk 45]⟩] [0, 1, 7])
  (.seq (.region false [
  ⟨some 46, none, .mv, [.tk 7]⟩,
  ⟨some 47, none, .mv, [.t 0]⟩,
  ⟨some 48, none, .mv, [.t 1]⟩,
  ⟨some 49, none, .slL 3 true false, [.t 47, .t 48]⟩,
  ⟨some 50, none, .app 3 24, [.tk 46, .t 49]⟩,
  ⟨some 7, none, .mv, [.tk 50]⟩] [0, 7])
  (.seq (.region false [
  ⟨some 51, none, .mv, [.t 7]⟩,
  ⟨some 52, none, .call 8, [.tk 51]⟩,
  ⟨some 8, none, .mv, [.t 52]⟩] [0, 7, 8])
  (.seq (.region false [
  ⟨some 53, none, .mv, [.t 8]⟩,
  ⟨some 54, none, .bin .mul false, [.k (pI 8), .t 53]⟩,
  ⟨some 55, none, .bin .add false, [.t 54, .k (pI 80)]⟩,
  ⟨some 9, none, .mv, [.t 55]⟩] [0, 7, 8, 9])
  (.seq (.region false [
  ⟨some 57, none, .call 10, []⟩,
  ⟨some 58, none, .call 11, []⟩,
  ⟨some 59, none, .mv, [.tk 0]⟩,
  ⟨some 60, none, .mv, [.t 8]⟩,
  ⟨some 61, none, .bin .add false, [.k (pI 32), .t 60]⟩,
  ⟨some 62, none, .mv, [.t 9]⟩,
  ⟨some 63, none, .bin .mul false, [.k (pI 2), .t 62]⟩,
  ⟨some 64, none, .bin .add false, [.t 61, .t 63]⟩,
  ⟨some 65, none, .call 12, [.tk 59, .t 64]⟩,
  ⟨some 66, none, .mv, [.t 8]⟩,
  ⟨some 67, none, .mv, [.t 9]⟩,
  ⟨some 68, none, .call 9, [.tk 57, .tk 58, .tk 65, .t 66, .t 67, .k (pI 0)]⟩,
  ⟨some 56, none, .mv, [.tk 68]⟩,
  ⟨some 69, none, .ext 0, [.t 56]⟩,
  ⟨some 70, none, .ext 1, [.tk 56]⟩,
  ⟨some 10, none, .alloc 0 true [(pI 0), (pI 0), (pS []), (pI 0), (pI 0), (pI 0), (pI 0), (pI 0), (pI 0), (pI 0), (pI 0), (pI 0), (pI 0), (pI 0), (pI 0), (pI 0), (pI 0), (pI 0), (pI 0), (pI 0), (pI 0), (pI 0), (pI 0), (pI 0), (pI 0), (pI 0), (pI 0), (pI 0), (pI 0), (pI 0), (pI 0), (pI 0), (pI 0), (pI 0), (pI 0), (pI 0), (pI 0), (.sl 1 [])], []⟩,
  ⟨none, none, .st 38, [.t 10, .tk 69]⟩,
  ⟨some 11, none, .mv, [.t 70]⟩] [7, 8, 9, 10, 11])
  (.seq (.region false [
  ⟨some 72, none, .call 10, []⟩,
  ⟨some 73, none, .call 11, []⟩,
  ⟨some 74, none, .mv, [.tk 7]⟩,
  ⟨some 75, none, .mv, [.t 8]⟩,
  ⟨some 76, none, .bin .add false, [.k (pI 32), .t 75]⟩,
  ⟨some 77, none, .mv, [.t 9]⟩,
  ⟨some 78, none, .bin .mul false, [.k (pI 2), .t 77]⟩,
  ⟨some 79, none, .bin .add false, [.t 76, .t 78]⟩,
  ⟨some 80, none, .call 12, [.tk 74, .t 79]⟩,
  ⟨some 81, none, .mv, [.t 8]⟩,
  ⟨some 82, none, .mv, [.t 9]⟩,
  ⟨some 83, none, .call 9, [.tk 72, .tk 73, .tk 80, .t 81, .t 82, .k (pI 0)]⟩,
  ⟨some 71, none, .mv, [.tk 83]⟩,
  ⟨some 84, none, .ext 0, [.t 71]⟩,
  ⟨some 85, none, .ext 1, [.tk 71]⟩,
  ⟨some 12, none, .alloc 1 true [(pI 0), (pI 0), (pS []), (pI 0), (pI 0), (pI 0), (pI 0), (pI 0), (pI 0), (pI 0), (pI 0), (pI 0), (pI 0), (pI 0), (pI 0), (pI 0), (pI 0), (pI 0), (pI 0), (pI 0), (pI 0), (pI 0), (pI 0), (pI 0), (pI 0), (pI 0), (pI 0), (pI 0), (pI 0), (pI 0), (pI 0), (pI 0), (pI 0), (pI 0), (pI 0), (pI 0), (pI 0), (.sl 1 [])], []⟩,
  ⟨none, none, .st 38, [.t 12, .tk 84]⟩,
  ⟨some 13, none, .mv, [.t 85]⟩] [10, 11, 12, 13])
  (.seq (.region false [
  ⟨some 86, none, .mv, [.t 11]⟩,
  ⟨some 87, none, .mv, [.t 86]⟩,
  ⟨some 88, (some (87, true)), .mv, [.t 13]⟩,
  ⟨some 89, none, .pick, [.t 87, .t 88, .k (pB false)]⟩,
  ⟨some 90, none, .mv, [.t 89]⟩,
  ⟨some 91, (some (90, true)), .fa 0, [.t 10]⟩,
  ⟨some 92, (some (90, true)), .ld false 1 false, [.t 91]⟩,
  ⟨some 93, (some (90, true)), .bin .eql false, [.t 92, .k (pI 0)]⟩,
  ⟨some 94, none, .pick, [.t 90, .t 93, .k (pB false)]⟩,
  ⟨some 95, none, .mv, [.t 94]⟩,
  ⟨some 96, (some (95, true)), .fa 0, [.t 12]⟩,
  ⟨some 97, (some (95, true)), .ld false 1 false, [.t 96]⟩,
  ⟨some 98, (some (95, true)), .bin .eql false, [.t 97, .k (pI 0)]⟩,
  ⟨some 99, none, .pick, [.t 95, .t 98, .k (pB false)]⟩,
  ⟨some 100, none, .mv, [.t 99]⟩,
  ⟨some 101, (some (100, true)), .fa 1, [.t 10]⟩,
  ⟨some 102, (some (100, true)), .ld false 1 false, [.t 101]⟩,
  ⟨some 103, (some (100, true)), .bin .eql false, [.t 102, .k (pI 0)]⟩,
  ⟨some 104, none, .pick, [.t 100, .t 103, .k (pB false)]⟩,
  ⟨some 105, none, .mv, [.t 104]⟩,
  ⟨some 106, (some (105, true)), .fa 1, [.t 12]⟩,
  ⟨some 107, (some (105, true)), .ld false 1 false, [.t 106]⟩,
  ⟨some 108, (some (105, true)), .bin .eql false, [.t 107, .k (pI 0)]⟩,
  ⟨some 109, none, .pick, [.t 105, .t 108, .k (pB false)]⟩,
  ⟨some 110, none, .mv, [.t 109]⟩,
  ⟨some 111, (some (110, true)), .fa 2, [.t 10]⟩,
  ⟨some 112, (some (110, true)), .ld false 1 false, [.t 111]⟩,
  ⟨some 113, (some (110, true)), .fa 2, [.t 12]⟩,
  ⟨some 114, (some (110, true)), .ld false 1 false, [.t 113]⟩,
  ⟨some 115, (some (110, true)), .bin .eql false, [.t 112, .t 114]⟩,
  ⟨some 116, none, .pick, [.t 110, .t 115, .k (pB false)]⟩,
  ⟨some 6, none, .mv, [.t 116]⟩] [6])
  .ret)))))))))))⟩
/-- scrimshaw/scrimshawlaw23.SegmentStarts -/
def x4 : XFunc := ⟨2, [.tmp 4],
  (.seq (.region false [
  ⟨some 4, none, .mv, [.k (pB false)]⟩] [0, 1])
  (.seq (.seq (.region false [
  ⟨some 12, none, .call 7, []⟩,
  ⟨some 13, none, .un .not, [.t 12]⟩,
  ⟨some 14, none, .mv, [.t 13]⟩,
  ⟨some 15, (some (14, false)), .mv, [.t 0]⟩,
  ⟨some 16, (some (14, false)), .bin .lss false, [.t 15, .k (pI 1)]⟩,
  ⟨some 17, none, .pick, [.t 14, .k (pB true), .t 16]⟩,
  ⟨some 18, none, .mv, [.t 17]⟩,
  ⟨some 19, (some (18, false)), .mv, [.t 0]⟩,
  ⟨some 20, (some (18, false)), .bin .gtr false, [.t 19, .k (pI 300)]⟩,
  ⟨some 21, none, .pick, [.t 18, .k (pB true), .t 20]⟩,
  ⟨some 22, none, .mv, [.t 21]⟩,
  ⟨some 23, (some (22, false)), .mv, [.t 1]⟩,
  ⟨some 24, (some (22, false)), .bin .lss false, [.t 23, .k (pI 0)]⟩,
  ⟨some 25, none, .pick, [.t 22, .k (pB true), .t 24]⟩,
  ⟨some 26, none, .mv, [.t 25]⟩,
  ⟨some 27, (some (26, false)), .mv, [.t 1]⟩,
  ⟨some 28, (some (26, false)), .bin .gtr false, [.t 27, .k (pI 300)]⟩,
  ⟨some 29, none, .pick, [.t 26, .k (pB true), .t 28]⟩] [0, 1, 29])
  (.cond (.t 29)
  (.seq (.region false [
  ⟨some 30, none, .call 7, []⟩,
  ⟨some 4, none, .mv, [.t 30]⟩] [4])
  .ret)
  .skip))
  (.seq (.region false [
  ⟨some 32, none, .call 10, []⟩,
  ⟨some 33, none, .call 11, []⟩,
  ⟨some 34, none, .call 13, [.k (pI 10)]⟩,
  ⟨some 35, none, .call 14, [.k (pI 0), .k (pI 28), .k (pI 0), .k (pI 0)]⟩,
  ⟨some 36, none, .blds 8 [(pI 0), (pI 0), (pI 0), (pI 0), (pI 0), (pI 0), (pI 0), (pI 0)] 2 [0, 1], [.t 34, .t 35]⟩,
  ⟨some 37, none, .mv, [.t 0]⟩,
  ⟨some 38, none, .mv, [.t 1]⟩,
  ⟨some 39, none, .call 9, [.tk 32, .tk 33, .tk 36, .t 37, .t 38, .k (pI 0)]⟩,
  ⟨some 31, none, .mv, [.tk 39]⟩,
  ⟨some 40, none, .ext 0, [.t 31]⟩,
  ⟨some 41, none, .ext 1, [.tk 31]⟩,
  ⟨some 5, none, .alloc 0 true [(pI 0), (pI 0), (pS []), (pI 0), (pI 0), (pI 0), (pI 0), (pI 0), (pI 0), (pI 0), (pI 0), (pI 0), (pI 0), (pI 0), (pI 0), (pI 0), (pI 0), (pI 0), (pI 0), (pI 0), (pI 0), (pI 0), (pI 0), (pI 0), (pI 0), (pI 0), (pI 0), (pI 0), (pI 0), (pI 0), (pI 0), (pI 0), (pI 0), (pI 0), (pI 0), (pI 0), (pI 0), (.sl 1 [])], []⟩,
  ⟨none, none, .st 38, [.t 5, .tk 40]⟩,
  ⟨some 6, none, .mv, [.t 41]⟩] [0, 1, 5, 6])
  (.seq (.seq (.region false [
  ⟨some 42, none, .mv, [.t 1]⟩,
  ⟨some 43, none, .bin .lss false, [.t 42, .k (pI 2)]⟩] [0, 5, 6, 43])
  (.cond (.t 43)
  (.seq (.region false [
  ⟨some 44, none, .mv, [.t 6]⟩,
  ⟨some 45, none, .mv, [.t 44]⟩,
  ⟨some 46, (some (45, true)), .fa 0, [.t 5]⟩,
  ⟨some 47, (some (45, true)), .ld false 1 false, [.t 46]⟩,
  ⟨some 48, (some (45, true)), .bin .eql false, [.t 47, .k (pI 0)]⟩,
  ⟨some 49, none, .pick, [.t 45, .t 48, .k (pB false)]⟩,
  ⟨some 50, none, .mv, [.t 49]⟩,
  ⟨some 51, (some (50, true)), .fa 1, [.t 5]⟩,
  ⟨some 52, (some (50, true)), .ld false 1 false, [.t 51]⟩,
  ⟨some 53, (some (50, true)), .bin .eql false, [.t 52, .k (pI 95)]⟩,
  ⟨some 54, none, .pick, [.t 50, .t 53, .k (pB false)]⟩,
  ⟨some 4, none, .mv, [.t 54]⟩] [4])
  .ret)
  .skip))
  (.seq (.region false [
  ⟨some 7, none, .mv, [.k (pI 18)]⟩] [0, 5, 6, 7])
  (.seq (.region false [
  ⟨some 55, none, .fa 5, [.t 5]⟩,
  ⟨some 56, none, .iaa 1 32, [.t 55, .k (pI 25)]⟩,
  ⟨some 57, none, .ld false 1 false, [.t 56]⟩,
  ⟨some 58, none, .bin .shr false, [.t 57, .k (pK .u64 3)]⟩,
  ⟨some 8, none, .mv, [.t 58]⟩] [0, 5, 6, 7, 8])
  (.seq (.region false [
  ⟨some 59, none, .mv, [.t 0]⟩,
  ⟨some 60, none, .bin .add false, [.k (pI 32), .t 59]⟩,
  ⟨some 9, none, .mv, [.t 60]⟩] [5, 6, 7, 8, 9])
  (.seq (.regionD [
  ⟨⟨some 61, none, .mv, [.t 8]⟩, [], false⟩,
  ⟨⟨some 62, none, .mv, [.t 9]⟩, [], false⟩,
  ⟨⟨some 63, none, .bin .geq false, [.t 61, .t 62]⟩, [], false⟩,
  ⟨⟨some 64, none, .mv, [.t 63]⟩, [], false⟩,
  ⟨⟨some 65, (some (64, true)), .mv, [.t 8]⟩, [], false⟩,
  ⟨⟨some 66, (some (64, true)), .bin .add false, [.t 65, .k (pI 1)]⟩, [], false⟩,
  ⟨⟨some 67, (some (64, true)), .fa 37, [.t 5]⟩, [], false⟩,
  ⟨⟨some 68, (some (64, true)), .ld false 1 false, [.t 67]⟩, [], false⟩,
  ⟨⟨some 69, (some (64, true)), .lenL, [.t 68]⟩, [], false⟩,
  ⟨⟨some 70, (some (64, true)), .bin .lss false, [.t 66, .t 69]⟩, [], false⟩,
  ⟨⟨some 71, none, .pick, [.t 64, .t 70, .k (pB false)]⟩, [], false⟩,
  ⟨⟨some 72, none, .mv, [.t 71]⟩, [], false⟩,
  ⟨⟨some 73, (some (72, true)), .fa 5, [.t 5]⟩, [], false⟩,
  ⟨⟨some 74, (some (72, true)), .iaa 1 32, [.t 73, .k (pI 25)]⟩, [], false⟩,
  ⟨⟨some 75, (some (72, true)), .ld false 1 false, [.t 74]⟩, [], false⟩,
  ⟨⟨some 76, (some (72, true)), .bin .and false, [.t 75, .k (pI 7)]⟩, [], false⟩,
  ⟨⟨some 77, (some (72, true)), .bin .eql false, [.t 76, .k (pI 1)]⟩, [], false⟩,
  ⟨⟨some 78, none, .pick, [.t 72, .t 77, .k (pB false)]⟩, [], false⟩,
  ⟨⟨some 79, none, .mv, [.t 78]⟩, [], false⟩,
  ⟨⟨some 80, (some (79, true)), .fa 37, [.t 5]⟩, [], false⟩,
  ⟨⟨some 81, (some (79, true)), .ld false 1 false, [.t 80]⟩, [], false⟩,
  ⟨⟨some 82, (some (79, true)), .mv, [.t 8]⟩, [], false⟩,
  ⟨⟨some 83, (some (79, true)), .ia 1, [.t 81, .t 82]⟩, [], false⟩,
  ⟨⟨some 84, (some (79, true)), .ld false 1 false, [.t 83]⟩, [], false⟩,
  ⟨⟨some 85, (some (79, true)), .bin .eql false, [.t 84, .k (pI 111)]⟩, [], false⟩,
  ⟨⟨some 86, none, .pick, [.t 79, .t 85, .k (pB false)]⟩, [], false⟩,
  ⟨⟨some 87, none, .mv, [.t 86]⟩, [], false⟩,
  ⟨⟨some 88, (some (87, true)), .fa 37, [.t 5]⟩, [], false⟩,
  ⟨⟨some 89, (some (87, true)), .ld false 1 false, [.t 88]⟩, [], false⟩,
  ⟨⟨some 90, (some (87, true)), .mv, [.t 8]⟩, [], false⟩,
  ⟨⟨some 91, (some (87, true)), .bin .add false, [.t 90, .k (pI 1)]⟩, [], false⟩,
  ⟨⟨some 92, (some (87, true)), .ia 1, [.t 89, .t 91]⟩, [], false⟩,
  ⟨⟨some 93, (some (87, true)), .ld false 1 false, [.t 92]⟩, [], false⟩,
  ⟨⟨some 94, (some (87, true)), .fa 4, [.t 5]⟩, [], false⟩,
  ⟨⟨some 95, (some (87, true)), .ld false 1 false, [.t 94]⟩, [], false⟩,
  ⟨⟨some 96, (some (87, true)), .bin .mul false, [.k (pI 8), .t 95]⟩, [], false⟩,
  ⟨⟨some 97, (some (87, true)), .bin .eql false, [.t 93, .t 96]⟩, [], false⟩,
  ⟨⟨some 98, none, .pick, [.t 87, .t 97, .k (pB false)]⟩, [], false⟩,
  ⟨⟨some 10, none, .mv, [.t 98]⟩, [], false⟩] [5, 6, 7, 10])
  (.seq (.seq (.region false [
  ⟨some 11, none, .mv, [.k (pI 1)]⟩] [5, 6, 7, 10, 11])
  (.block 0 (.loop [5, 6, 7, 10, 11] [0] (.seq (.seq (.region false [
  ⟨some 99, none, .mv, [.t 11]⟩,
  ⟨some 100, none, .bin .lss false, [.t 99, .k (pI 25)]⟩] [5, 6, 7, 10, 11, 100])
  (.cond (.t 100)
  .skip
  (.exit 0)))
  (.seq (.block 1 (.seq (.region false [
  ⟨some 103, none, .mv, [.t 11]⟩,
  ⟨some 104, none, .fa 5, [.t 5]⟩,
  ⟨some 105, none, .iaa 1 32, [.t 104, .t 103]⟩,
  ⟨some 106, none, .ld false 1 false, [.t 105]⟩,
  ⟨some 107, none, .bin .and false, [.t 106, .k (pI 7)]⟩,
  ⟨some 108, none, .bin .neq false, [.t 107, .k (pI 0)]⟩] [5, 6, 7, 10, 11, 108])
  (.cond (.t 108)
  (.seq (.region false [
  ⟨some 4, none, .mv, [.k (pB false)]⟩] [4])
  .ret)
  .skip)))
  (.region false [
  ⟨some 101, none, .mv, [.t 11]⟩,
  ⟨some 102, none, .bin .add false, [.t 101, .k (pI 1)]⟩,
  ⟨some 11, none, .mv, [.t 102]⟩] [5, 6, 7, 10, 11]))))))
  (.seq (.regionD [
  ⟨⟨some 109, none, .mv, [.t 6]⟩, [], false⟩,
  ⟨⟨some 110, none, .mv, [.t 109]⟩, [], false⟩,
  ⟨⟨some 111, (some (110, true)), .fa 0, [.t 5]⟩, [], false⟩,
  ⟨⟨some 112, (some (110, true)), .ld false 1 false, [.t 111]⟩, [], false⟩,
  ⟨⟨some 113, (some (110, true)), .bin .eql false, [.t 112, .k (pI 0)]⟩, [], false⟩,
  ⟨⟨some 114, none, .pick, [.t 110, .t 113, .k (pB false)]⟩, [], false⟩,
  ⟨⟨some 115, none, .mv, [.t 114]⟩, [], false⟩,
  ⟨⟨some 116, (some (115, true)), .fa 1, [.t 5]⟩, [], false⟩,
  ⟨⟨some 117, (some (115, true)), .ld false 1 false, [.t 116]⟩, [], false⟩,
  ⟨⟨some 118, (some (115, true)), .bin .eql false, [.t 117, .k (pI 0)]⟩, [], false⟩,
  ⟨⟨some 119, none, .pick, [.t 115, .t 118, .k (pB false)]⟩, [], false⟩,
  ⟨⟨some 120, none, .mv, [.t 119]⟩, [], false⟩,
  ⟨⟨some 121, (some (120, true)), .mv, [.t 10]⟩, [], false⟩,
  ⟨⟨some 122, none, .pick, [.t 120, .t 121, .k (pB false)]⟩, [], false⟩,
  ⟨⟨some 123, none, .mv, [.t 122]⟩, [], false⟩,
  ⟨⟨some 124, (some (123, true)), .fa 5, [.t 5]⟩, [], false⟩,
  ⟨⟨some 125, (some (123, true)), .iaa 1 32, [.t 124, .k (pI 30)]⟩, [], false⟩,
  ⟨⟨some 126, (some (123, true)), .ld false 1 false, [.t 125]⟩, [], false⟩,
  ⟨⟨some 127, (some (123, true)), .bin .eql false, [.t 126, .k (pI 33)]⟩, [], false⟩,
  ⟨⟨some 128, none, .pick, [.t 123, .t 127, .k (pB false)]⟩, [], false⟩,
  ⟨⟨some 129, none, .mv, [.t 128]⟩, [], false⟩,
  ⟨⟨some 130, (some (129, true)), .fa 5, [.t 5]⟩, [], false⟩,
  ⟨⟨some 131, (some (129, true)), .iaa 1 32, [.t 130, .k (pI 29)]⟩, [], false⟩,
  ⟨⟨some 132, (some (129, true)), .ld false 1 false, [.t 131]⟩, [], false⟩,
  ⟨⟨some 133, (some (129, true)), .fa 37, [.t 5]⟩, [], false⟩,
  ⟨⟨some 134, (some (129, true)), .ld false 1 false, [.t 133]⟩, [], false⟩,
  ⟨⟨some 135, (some (129, true)), .ia 1, [.t 134, .k (pI 28)]⟩, [], false⟩,
  ⟨⟨some 136, (some (129, true)), .ld false 1 false, [.t 135]⟩, [], false⟩,
  ⟨⟨some 137, (some (129, true)), .bin .add false, [.t 136, .k (pI 2)]⟩, [], false⟩,
  ⟨⟨some 138, (some (129, true)), .bin .eql false, [.t 132, .t 137]⟩, [], false⟩,
  ⟨⟨some 139, none, .pick, [.t 129, .t 138, .k (pB false)]⟩, [], false⟩,
  ⟨⟨some 140, none, .mv, [.t 139]⟩, [], false⟩,
  ⟨⟨some 141, (some (140, true)), .fa 37, [.t 5]⟩, [], false⟩,
  ⟨⟨some 142, (some (140, true)), .ld false 1 false, [.t 141]⟩, [], false⟩,
  ⟨⟨some 143, (some (140, true)), .ia 1, [.t 142, .k (pI 25)]⟩, [], false⟩,
  ⟨⟨some 144, (some (140, true)), .ld false 1 false, [.t 143]⟩, [], false⟩,
  ⟨⟨some 145, (some (140, true)), .mv, [.t 7]⟩, [], false⟩,
  ⟨⟨some 146, (some (140, true)), .bin .eql false, [.t 144, .t 145]⟩, [], false⟩,
  ⟨⟨some 147, none, .pick, [.t 140, .t 146, .k (pB false)]⟩, [], false⟩,
  ⟨⟨some 148, none, .mv, [.t 147]⟩, [], false⟩,
  ⟨⟨some 149, (some (148, true)), .fa 37, [.t 5]⟩, [], false⟩,
  ⟨⟨some 150, (some (148, true)), .ld false 1 false, [.t 149]⟩, [], false⟩,
  ⟨⟨some 151, (some (148, true)), .ia 1, [.t 150, .k (pI 26)]⟩, [], false⟩,
  ⟨⟨some 152, (some (148, true)), .ld false 1 false, [.t 151]⟩, [], false⟩,
  ⟨⟨some 153, (some (148, true)), .mv, [.t 7]⟩, [], false⟩,
  ⟨⟨some 154, (some (148, true)), .bin .eql false, [.t 152, .t 153]⟩, [], false⟩,
  ⟨⟨some 155, none, .pick, [.t 148, .t 154, .k (pB false)]⟩, [], false⟩,
  ⟨⟨some 4, none, .mv, [.t 155]⟩, [], false⟩] [4])
  .ret))))))))))⟩
/-- scrimshaw/scrimshawlaw23.SegmentErrors -/
def x5 : XFunc := ⟨2, [.tmp 4],
  (.seq (.region false [
  ⟨some 4, none, .mv, [.k (pB false)]⟩] [0, 1])
  (.seq (.seq (.region false [
  ⟨some 13, none, .call 7, []⟩,
  ⟨some 14, none, .un .not, [.t 13]⟩] [0, 1, 14])
  (.cond (.t 14)
  (.seq (.region false [
  ⟨some 4, none, .mv, [.k (pB false)]⟩] [4])
  .ret)
  .skip))
  (.seq (.region false [
  ⟨some 15, none, .mv, [.t 0]⟩,
  ⟨some 16, none, .bin .rem false, [.t 15, .k (pI 16)]⟩,
  ⟨some 17, none, .bin .add false, [.t 16, .k (pI 16)]⟩,
  ⟨some 18, none, .bin .rem false, [.t 17, .k (pI 16)]⟩,
  ⟨some 19, none, .bin .add false, [.k (pI 80), .t 18]⟩,
  ⟨some 5, none, .mv, [.t 19]⟩] [1, 5])
  (.seq (.region false [
  ⟨some 21, none, .call 10, []⟩,
  ⟨some 22, none, .call 11, []⟩,
  ⟨some 23, none, .call 13, [.k (pI 10)]⟩,
  ⟨some 24, none, .mv, [.t 5]⟩,
  ⟨some 25, none, .bin .add false, [.k (pI (-69)), .t 24]⟩,
  ⟨some 26, none, .call 15, [.k (pI 0), .t 25]⟩,
  ⟨some 27, none, .blds 8 [(pI 0), (pI 0), (pI 0), (pI 0), (pI 0), (pI 0), (pI 0), (pI 0)] 2 [0, 1], [.t 23, .t 26]⟩,
  ⟨some 28, none, .call 9, [.tk 21, .tk 22, .tk 27, .k (pI 20), .k (pI 20), .k (pI 0)]⟩,
  ⟨some 20, none, .mv, [.tk 28]⟩,
  ⟨some 29, none, .ext 0, [.t 20]⟩,
  ⟨some 30, none, .ext 1, [.tk 20]⟩,
  ⟨some 6, none, .alloc 0 true [(pI 0), (pI 0), (pS []), (pI 0), (pI 0), (pI 0), (pI 0), (pI 0), (pI 0), (pI 0), (pI 0), (pI 0), (pI 0), (pI 0), (pI 0), (pI 0), (pI 0), (pI 0), (pI 0), (pI 0), (pI 0), (pI 0), (pI 0), (pI 0), (pI 0), (pI 0), (pI 0), (pI 0), (pI 0), (pI 0), (pI 0), (pI 0), (pI 0), (pI 0), (pI 0), (pI 0), (pI 0), (.sl 1 [])], []⟩,
  ⟨none, none, .st 38, [.t 6, .tk 29]⟩,
  ⟨some 7, none, .mv, [.t 30]⟩] [1, 5, 6, 7])
  (.seq (.seq (.region false [
  ⟨some 31, none, .mv, [.t 7]⟩,
  ⟨some 32, none, .un .not, [.t 31]⟩,
  ⟨some 33, none, .mv, [.t 32]⟩,
  ⟨some 34, (some (33, false)), .fa 0, [.t 6]⟩,
  ⟨some 35, (some (33, false)), .ld false 1 false, [.t 34]⟩,
  ⟨some 36, (some (33, false)), .bin .neq false, [.t 35, .k (pI 0)]⟩,
  ⟨some 37, none, .pick, [.t 33, .k (pB true), .t 36]⟩,
  ⟨some 38, none, .mv, [.t 37]⟩,
  ⟨some 39, (some (38, false)), .fa 1, [.t 6]⟩,
  ⟨some 40, (some (38, false)), .ld false 1 false, [.t 39]⟩,
  ⟨some 41, (some (38, false)), .mv, [.t 5]⟩,
  ⟨some 42, (some (38, false)), .bin .neq false, [.t 40, .t 41]⟩,
  ⟨some 43, none, .pick, [.t 38, .k (pB true), .t 42]⟩] [1, 43])
  (.cond (.t 43)
  (.seq (.region false [
  ⟨some 4, none, .mv, [.k (pB false)]⟩] [4])
  .ret)
  .skip))
  (.seq (.region false [
  ⟨some 44, none, .mv, [.t 1]⟩,
  ⟨some 45, none, .bin .rem false, [.t 44, .k (pI 7)]⟩,
  ⟨some 46, none, .bin .add false, [.t 45, .k (pI 7)]⟩,
  ⟨some 47, none, .bin .rem false, [.t 46, .k (pI 7)]⟩,
  ⟨some 8, none, .mv, [.t 47]⟩] [8])
  (.seq (.region false [
  ⟨some 48, none, .call 13, [.k (pI 10)]⟩,
  ⟨some 49, none, .call 16, [.k (pI 26), .k (pI 60)]⟩,
  ⟨some 50, none, .call 14, [.k (pI 18), .k (pI 26), .k (pI 26), .k (pI 3)]⟩,
  ⟨some 51, none, .call 14, [.k (pI 19), .k (pI 27), .k (pI 25), .k (pI 3)]⟩,
  ⟨some 52, none, .call 14, [.k (pI 23), .k (pI 26), .k (pI 27), .k (pI 1)]⟩,
  ⟨some 53, none, .call 15, [.k (pI 0), .k (pI 7)]⟩,
  ⟨some 54, none, .blds 8 [(pI 0), (pI 0), (pI 0), (pI 0), (pI 0), (pI 0), (pI 0), (pI 0)] 6 [0, 1, 2, 3, 4, 5], [.t 48, .t 49, .t 50, .t 51, .t 52, .t 53]⟩,
  ⟨some 9, none, .mv, [.tk 54]⟩] [8, 9])
  (.seq (.region false [
  ⟨some 55, none, .mv, [.tk 9]⟩,
  ⟨some 56, none, .call 13, [.k (pI 60)]⟩,
  ⟨some 57, none, .call 14, [.k (pI 15), .k (pI 25), .k (pI 1), .k (pI 0)]⟩,
  ⟨some 58, none, .mv, [.t 8]⟩,
  ⟨some 59, none, .call 17, [.k (pI 28), .t 58]⟩,
  ⟨some 60, none, .call 15, [.k (pI 0), .k (pI 3)]⟩,
  ⟨some 61, none, .blds 8 [(pI 0), (pI 0), (pI 0), (pI 0), (pI 0), (pI 0), (pI 0), (pI 0)] 4 [0, 1, 2, 3], [.t 56, .t 57, .t 59, .t 60]⟩,
  ⟨some 62, none, .app 8 64, [.tk 55, .t 61]⟩,
  ⟨some 9, none, .mv, [.tk 62]⟩] [8, 9])
  (.seq (.region false [
  ⟨some 64, none, .call 10, []⟩,
  ⟨some 65, none, .call 11, []⟩,
  ⟨some 66, none, .mv, [.tk 9]⟩,
  ⟨some 67, none, .call 9, [.tk 64, .tk 65, .tk 66, .k (pI 20), .k (pI 20), .k (pI 0)]⟩,
  ⟨some 63, none, .mv, [.tk 67]⟩,
  ⟨some 68, none, .ext 0, [.t 63]⟩,
  ⟨some 69, none, .ext 1, [.tk 63]⟩,
  ⟨some 10, none, .alloc 1 true [(pI 0), (pI 0), (pS []), (pI 0), (pI 0), (pI 0), (pI 0), (pI 0), (pI 0), (pI 0), (pI 0), (pI 0), (pI 0), (pI 0), (pI 0), (pI 0), (pI 0), (pI 0), (pI 0), (pI 0), (pI 0), (pI 0), (pI 0), (pI 0), (pI 0), (pI 0), (pI 0), (pI 0), (pI 0), (pI 0), (pI 0), (pI 0), (pI 0), (pI 0), (pI 0), (pI 0), (pI 0), (.sl 1 [])], []⟩,
  ⟨none, none, .st 38, [.t 10, .tk 68]⟩,
  ⟨some 11, none, .mv, [.t 69]⟩] [8, 10, 11])
  (.seq (.region false [
  ⟨some 12, none, .mv, [.k (pI 91)]⟩] [8, 10, 11, 12])
  (.seq (.seq (.region false [
  ⟨some 70, none, .mv, [.t 8]⟩,
  ⟨some 71, none, .bin .eql false, [.t 70, .k (pI 1)]⟩] [10, 11, 12, 71])
  (.cond (.t 71)
  (.region false [
  ⟨some 12, none, .mv, [.k (pI 0)]⟩] [10, 11, 12])
  .skip))
  (.seq (.region false [
  ⟨some 72, none, .mv, [.t 11]⟩,
  ⟨some 73, none, .mv, [.t 72]⟩,
  ⟨some 74, (some (73, true)), .fa 0, [.t 10]⟩,
  ⟨some 75, (some (73, true)), .ld false 1 false, [.t 74]⟩,
  ⟨some 76, (some (73, true)), .bin .eql false, [.t 75, .k (pI 0)]⟩,
  ⟨some 77, none, .pick, [.t 73, .t 76, .k (pB false)]⟩,
  ⟨some 78, none, .mv, [.t 77]⟩,
  ⟨some 79, (some (78, true)), .fa 1, [.t 10]⟩,
  ⟨some 80, (some (78, true)), .ld false 1 false, [.t 79]⟩,
  ⟨some 81, (some (78, true)), .mv, [.t 12]⟩,
  ⟨some 82, (some (78, true)), .bin .eql false, [.t 80, .t 81]⟩,
  ⟨some 83, none, .pick, [.t 78, .t 82, .k (pB false)]⟩,
  ⟨some 4, none, .mv, [.t 83]⟩] [4])
  .ret))))))))))))⟩
/-- scrimshaw/scrimshawlaw23.SegmentNeeds -/
def x6 : XFunc := ⟨2, [.tmp 4],
  (.seq (.region false [
  ⟨some 4, none, .mv, [.k (pB false)]⟩] [0, 1])
  (.seq (.seq (.region false [
  ⟨some 8, none, .call 7, []⟩,
  ⟨some 9, none, .un .not, [.t 8]⟩,
  ⟨some 10, none, .mv, [.t 9]⟩,
  ⟨some 11, (some (10, false)), .mv, [.t 0]⟩,
  ⟨some 12, (some (10, false)), .bin .lss false, [.t 11, .k (pI 0)]⟩,
  ⟨some 13, none, .pick, [.t 10, .k (pB true), .t 12]⟩,
  ⟨some 14, none, .mv, [.t 13]⟩,
  ⟨some 15, (some (14, false)), .mv, [.t 0]⟩,
  ⟨some 16, (some (14, false)), .bin .gtr false, [.t 15, .k (pI 1000)]⟩,
  ⟨some 17, none, .pick, [.t 14, .k (pB true), .t 16]⟩,
  ⟨some 18, none, .mv, [.t 17]⟩,
  ⟨some 19, (some (18, false)), .mv, [.t 1]⟩,
  ⟨some 20, (some (18, false)), .bin .lss false, [.t 19, .k (pI 2)]⟩,
  ⟨some 21, none, .pick, [.t 18, .k (pB true), .t 20]⟩,
  ⟨some 22, none, .mv, [.t 21]⟩,
  ⟨some 23, (some (22, false)), .mv, [.t 1]⟩,
  ⟨some 24, (some (22, false)), .bin .gtr false, [.t 23, .k (pI 1000)]⟩,
  ⟨some 25, none, .pick, [.t 22, .k (pB true), .t 24]⟩] [0, 1, 25])
  (.cond (.t 25)
  (.seq (.region false [
  ⟨some 26, none, .call 7, []⟩,
  ⟨some 4, none, .mv, [.t 26]⟩] [4])
  .ret)
  .skip))
  (.seq (.region false [
  ⟨some 27, none, .call 13, [.k (pI 10)]⟩,
  ⟨some 28, none, .mv, [.t 0]⟩,
  ⟨some 29, none, .call 17, [.k (pI 26), .t 28]⟩,
  ⟨some 30, none, .call 15, [.k (pI 31), .k (pI 2)]⟩,
  ⟨some 31, none, .call 14, [.k (pI 0), .k (pI 0), .k (pI 0), .k (pI 0)]⟩,
  ⟨some 32, none, .blds 8 [(pI 0), (pI 0), (pI 0), (pI 0), (pI 0), (pI 0), (pI 0), (pI 0)] 4 [0, 1, 2, 3], [.t 27, .t 29, .t 30, .t 31]⟩,
  ⟨some 5, none, .mv, [.tk 32]⟩] [0, 1, 5])
  (.seq (.region false [
  ⟨some 34, none, .call 10, []⟩,
  ⟨some 35, none, .call 11, []⟩,
  ⟨some 36, none, .mv, [.tk 5]⟩,
  ⟨some 37, none, .mv, [.t 1]⟩,
  ⟨some 38, none, .call 9, [.tk 34, .tk 35, .tk 36, .k (pI 20), .t 37, .k (pI 0)]⟩,
  ⟨some 33, none, .mv, [.tk 38]⟩,
  ⟨some 39, none, .ext 0, [.t 33]⟩,
  ⟨some 40, none, .ext 1, [.tk 33]⟩,
  ⟨some 6, none, .alloc 0 true [(pI 0), (pI 0), (pS []), (pI 0), (pI 0), (pI 0), (pI 0), (pI 0), (pI 0), (pI 0), (pI 0), (pI 0), (pI 0), (pI 0), (pI 0), (pI 0), (pI 0), (pI 0), (pI 0), (pI 0), (pI 0), (pI 0), (pI 0), (pI 0), (pI 0), (pI 0), (pI 0), (pI 0), (pI 0), (pI 0), (pI 0), (pI 0), (pI 0), (pI 0), (pI 0), (pI 0), (pI 0), (.sl 1 [])], []⟩,
  ⟨none, none, .st 38, [.t 6, .tk 39]⟩,
  ⟨some 7, none, .mv, [.t 40]⟩] [0, 1, 6, 7])
  (.seq (.seq (.region false [
  ⟨some 41, none, .mv, [.t 0]⟩,
  ⟨some 42, none, .bin .add false, [.t 41, .k (pI 2)]⟩,
  ⟨some 43, none, .mv, [.t 1]⟩,
  ⟨some 44, none, .bin .gtr false, [.t 42, .t 43]⟩] [6, 7, 44])
  (.cond (.t 44)
  (.seq (.region false [
  ⟨some 45, none, .mv, [.t 7]⟩,
  ⟨some 46, none, .mv, [.t 45]⟩,
  ⟨some 47, (some (46, true)), .fa 0, [.t 6]⟩,
  ⟨some 48, (some (46, true)), .ld false 1 false, [.t 47]⟩,
  ⟨some 49, (some (46, true)), .bin .eql false, [.t 48, .k (pI 0)]⟩,
  ⟨some 50, none, .pick, [.t 46, .t 49, .k (pB false)]⟩,
  ⟨some 51, none, .mv, [.t 50]⟩,
  ⟨some 52, (some (51, true)), .fa 1, [.t 6]⟩,
  ⟨some 53, (some (51, true)), .ld false 1 false, [.t 52]⟩,
  ⟨some 54, (some (51, true)), .bin .eql false, [.t 53, .k (pI 95)]⟩,
  ⟨some 55, none, .pick, [.t 51, .t 54, .k (pB false)]⟩,
  ⟨some 4, none, .mv, [.t 55]⟩] [4])
  .ret)
  .skip))
  (.seq (.regionD [
  ⟨⟨some 56, none, .mv, [.t 7]⟩, [], false⟩,
  ⟨⟨some 57, none, .mv, [.t 56]⟩, [], false⟩,
  ⟨⟨some 58, (some (57, true)), .fa 0, [.t 6]⟩, [], false⟩,
  ⟨⟨some 59, (some (57, true)), .ld false 1 false, [.t 58]⟩, [], false⟩,
  ⟨⟨some 60, (some (57, true)), .bin .eql false, [.t 59, .k (pI 0)]⟩, [], false⟩,
  ⟨⟨some 61, none, .pick, [.t 57, .t 60, .k (pB false)]⟩, [], false⟩,
  ⟨⟨some 62, none, .mv, [.t 61]⟩, [], false⟩,
  ⟨⟨some 63, (some (62, true)), .fa 1, [.t 6]⟩, [], false⟩,
  ⟨⟨some 64, (some (62, true)), .ld false 1 false, [.t 63]⟩, [], false⟩,
  ⟨⟨some 65, (some (62, true)), .bin .eql false, [.t 64, .k (pI 0)]⟩, [], false⟩,
  ⟨⟨some 66, none, .pick, [.t 62, .t 65, .k (pB false)]⟩, [], false⟩,
  ⟨⟨some 67, none, .mv, [.t 66]⟩, [], false⟩,
  ⟨⟨some 68, (some (67, true)), .fa 5, [.t 6]⟩, [], false⟩,
  ⟨⟨some 69, (some (67, true)), .iaa 1 32, [.t 68, .k (pI 29)]⟩, [], false⟩,
  ⟨⟨some 70, (some (67, true)), .ld false 1 false, [.t 69]⟩, [], false⟩,
  ⟨⟨some 71, (some (67, true)), .fa 37, [.t 6]⟩, [], false⟩,
  ⟨⟨some 72, (some (67, true)), .ld false 1 false, [.t 71]⟩, [], false⟩,
  ⟨⟨some 73, (some (67, true)), .ia 1, [.t 72, .k (pI 28)]⟩, [], false⟩,
  ⟨⟨some 74, (some (67, true)), .ld false 1 false, [.t 73]⟩, [], false⟩,
  ⟨⟨some 75, (some (67, true)), .bin .add false, [.t 74, .k (pI 2)]⟩, [], false⟩,
  ⟨⟨some 76, (some (67, true)), .bin .eql false, [.t 70, .t 75]⟩, [], false⟩,
  ⟨⟨some 77, none, .pick, [.t 67, .t 76, .k (pB false)]⟩, [], false⟩,
  ⟨⟨some 78, none, .mv, [.t 77]⟩, [], false⟩,
  ⟨⟨some 79, (some (78, true)), .fa 37, [.t 6]⟩, [], false⟩,
  ⟨⟨some 80, (some (78, true)), .ld false 1 false, [.t 79]⟩, [], false⟩,
  ⟨⟨some 81, (some (78, true)), .ia 1, [.t 80, .k (pI 28)]⟩, [], false⟩,
  ⟨⟨some 82, (some (78, true)), .ld false 1 false, [.t 81]⟩, [], false⟩,
  ⟨⟨some 83, (some (78, true)), .bin .eql false, [.t 82, .k (pI 52)]⟩, [], false⟩,
  ⟨⟨some 84, none, .pick, [.t 78, .t 83, .k (pB false)]⟩, [], false⟩,
  ⟨⟨some 4, none, .mv, [.t 84]⟩, [], false⟩] [4])
  .ret))))))⟩
/-- scrimshaw/scrimshawlaw23.fixed -/
def x7 : XFunc := ⟨0, [.tmp 0],
  (.seq (.region false [
  ⟨some 0, none, .mv, [.k (pB false)]⟩] [])
  (.seq (.region false [
  ⟨some 4, none, .call 10, []⟩,
  ⟨some 1, none, .mv, [.tk 4]⟩] [1])
  (.seq (.region false [
  ⟨some 6, none, .mv, [.t 1]⟩,
  ⟨some 7, none, .call 11, []⟩,
  ⟨some 8, none, .call 13, [.k (pI 10)]⟩,
  ⟨some 9, none, .call 15, [.k (pI 0), .k (pI 4)]⟩,
  ⟨some 10, none, .blds 8 [(pI 0), (pI 0), (pI 0), (pI 0), (pI 0), (pI 0), (pI 0), (pI 0)] 2 [0, 1], [.t 8, .t 9]⟩,
  ⟨some 11, none, .call 9, [.tk 6, .tk 7, .tk 10, .k (pI 10), .k (pI 10), .k (pI 0)]⟩,
  ⟨some 5, none, .mv, [.tk 11]⟩,
  ⟨some 12, none, .ext 0, [.t 5]⟩,
  ⟨some 13, none, .ext 1, [.tk 5]⟩,
  ⟨some 2, none, .alloc 0 true [(pI 0), (pI 0), (pS []), (pI 0), (pI 0), (pI 0), (pI 0), (pI 0), (pI 0), (pI 0), (pI 0), (pI 0), (pI 0), (pI 0), (pI 0), (pI 0), (pI 0), (pI 0), (pI 0), (pI 0), (pI 0), (pI 0), (pI 0), (pI 0), (pI 0), (pI 0), (pI 0), (pI 0), (pI 0), (pI 0), (pI 0), (pI 0), (pI 0), (pI 0), (pI 0), (pI 0), (pI 0), (.sl 1 [])], []⟩,
  ⟨none, none, .st 38, [.t 2, .tk 12]⟩,
  ⟨some 3, none, .mv, [.t 13]⟩] [1, 2, 3])
  (.seq (.region false [
  ⟨some 14, none, .mv, [.t 3]⟩,
  ⟨some 15, none, .mv, [.t 14]⟩,
  ⟨some 16, (some (15, true)), .fa 0, [.t 2]⟩,
  ⟨some 17, (some (15, true)), .ld false 1 false, [.t 16]⟩,
  ⟨some 18, (some (15, true)), .bin .eql false, [.t 17, .k (pI 0)]⟩,
  ⟨some 19, none, .pick, [.t 15, .t 18, .k (pB false)]⟩,
  ⟨some 20, none, .mv, [.t 19]⟩,
  ⟨some 21, (some (20, true)), .fa 1, [.t 2]⟩,
  ⟨some 22, (some (20, true)), .ld false 1 false, [.t 21]⟩,
  ⟨some 23, (some (20, true)), .bin .eql false, [.t 22, .k (pI 0)]⟩,
  ⟨some 24, none, .pick, [.t 20, .t 23, .k (pB false)]⟩,
  ⟨some 25, none, .mv, [.t 24]⟩,
  ⟨some 26, (some (25, true)), .mv, [.t 1]⟩,
  ⟨some 27, (some (25, true)), .call 18, [.t 26]⟩,
  ⟨some 28, none, .pick, [.t 25, .t 27, .k (pB false)]⟩,
  ⟨some 0, none, .mv, [.t 28]⟩] [0])
  .ret))))⟩
/-- scrimshaw/scrimshawref23.Words -/
def x8 : XFunc := ⟨1, [.tmp 2],
  (.seq (.region false [
  ⟨some 2, none, .mv, [.k (pI 0)]⟩] [0])
  (.seq (.region false [
  ⟨some 3, none, .mv, [.k (pI 3)]⟩] [0, 3])
  (.seq (.seq (.region false [
  ⟨some 4, none, .mv, [.k (pI 0)]⟩] [0, 3, 4])
  (.block 0 (.loop [0, 3, 4] [] (.seq (.seq (.region false [
  ⟨some 5, none, .mv, [.t 4]⟩,
  ⟨some 6, none, .mv, [.t 0]⟩,
  ⟨some 7, none, .lenL, [.t 6]⟩,
  ⟨some 8, none, .bin .lss false, [.t 5, .t 7]⟩] [0, 3, 4, 8])
  (.cond (.t 8)
  .skip
  (.exit 0)))
  (.seq (.block 1 (.region false [
  ⟨some 11, none, .mv, [.t 3]⟩,
  ⟨some 12, none, .mv, [.t 0]⟩,
  ⟨some 13, none, .mv, [.t 4]⟩,
  ⟨some 14, none, .ia 3, [.t 12, .t 13]⟩,
  ⟨some 15, none, .ld true 3 false, [.t 14]⟩,
  ⟨some 16, none, .call 19, [.t 15]⟩,
  ⟨some 17, none, .fld false 1 1, [.t 16]⟩,
  ⟨some 18, none, .bin .add false, [.t 17, .k (pI 3)]⟩,
  ⟨some 19, none, .bin .add false, [.t 11, .t 18]⟩,
  ⟨some 3, none, .mv, [.t 19]⟩] [0, 3, 4]))
  (.region false [
  ⟨some 9, none, .mv, [.t 4]⟩,
  ⟨some 10, none, .bin .add false, [.t 9, .k (pI 1)]⟩,
  ⟨some 4, none, .mv, [.t 10]⟩] [0, 3, 4]))))))
  (.seq (.region false [
  ⟨some 20, none, .mv, [.t 3]⟩,
  ⟨some 2, none, .mv, [.t 20]⟩] [2])
  .ret))))⟩
/-- scrimshaw/scrimshawref23.Run -/
def x9 : XFunc := ⟨6, [.cell 12 true 38, .tmp 13],
  (.seq (.region false [
  ⟨some 12, none, .alloc 0 true [(pI 0), (pI 0), (pS []), (pI 0), (pI 0), (pI 0), (pI 0), (pI 0), (pI 0), (pI 0), (pI 0), (pI 0), (pI 0), (pI 0), (pI 0), (pI 0), (pI 0), (pI 0), (pI 0), (pI 0), (pI 0), (pI 0), (pI 0), (pI 0), (pI 0), (pI 0), (pI 0), (pI 0), (pI 0), (pI 0), (pI 0), (pI 0), (pI 0), (pI 0), (pI 0), (pI 0), (pI 0), (.sl 1 [])], []⟩,
  ⟨some 13, none, .mv, [.k (pB false)]⟩] [0, 1, 2, 3, 4, 5, 12])
  (.seq (.region false [
  ⟨some 17, none, .mv, [.tk 0]⟩,
  ⟨some 18, none, .mv, [.tk 1]⟩,
  ⟨some 19, none, .mv, [.tk 2]⟩,
  ⟨some 20, none, .mv, [.t 3]⟩,
  ⟨some 21, none, .mv, [.t 4]⟩,
  ⟨some 22, none, .mv, [.t 5]⟩,
  ⟨some 23, none, .call 20, [.tk 17, .tk 18, .tk 19, .t 20, .t 21, .t 22]⟩,
  ⟨some 16, none, .mv, [.tk 23]⟩,
  ⟨some 24, none, .ext 0, [.t 16]⟩,
  ⟨some 25, none, .ext 1, [.tk 16]⟩,
  ⟨some 14, none, .alloc 1 true [(.sl 1 []), (.sl 1 []), (pI 0)], []⟩,
  ⟨none, none, .st 3, [.t 14, .tk 24]⟩,
  ⟨some 15, none, .mv, [.t 25]⟩] [12, 14, 15])
  (.seq (.region false [
  ⟨some 26, none, .ld true 3 false, [.t 14]⟩,
  ⟨some 27, none, .call 21, [.tk 26, .k (pS []), .k (pI 1000000)]⟩,
  ⟨some 28, none, .mv, [.t 15]⟩,
  ⟨none, none, .st 38, [.t 12, .tk 27]⟩,
  ⟨some 13, none, .mv, [.t 28]⟩] [12, 13])
  .ret)))⟩
/-- scrimshaw/rt.Code -/
def x10 : XFunc := ⟨0, [.tmp 0],
  (.seq (.region false [
  ⟨some 0, none, .mv, [.kn 8]⟩] [])
  (.seq (.region false [
  ⟨some 3, none, .bld [(.sl 8 [])] [], []⟩,
  ⟨some 4, none, .box 0, [.tk 3]⟩,
  ⟨some 1, none, .mv, [.t 4]⟩] [1])
  (.seq (.region false [
  ⟨some 5, none, .mv, [.t 1]⟩,
  ⟨some 6, none, .call 22, [.t 5]⟩] [1])
  (.seq (.region false [
  ⟨some 7, none, .mv, [.t 1]⟩,
  ⟨some 8, none, .call 23, [.t 7]⟩] [1])
  (.seq (.region false [
  ⟨some 9, none, .mv, [.t 1]⟩,
  ⟨some 10, none, .call 24, [.t 9]⟩] [1])
  (.seq (.region false [
  ⟨some 11, none, .mv, [.t 1]⟩,
  ⟨some 12, none, .call 25, [.t 11]⟩] [1])
  (.seq (.region false [
  ⟨some 13, none, .mv, [.t 1]⟩,
  ⟨some 14, none, .call 26, [.t 13]⟩] [1])
  (.seq (.seq (.region false [
  ⟨some 2, none, .mv, [.k (pI 80)]⟩] [1, 2])
  (.block 0 (.loop [1, 2] [0] (.seq (.seq (.region false [
  ⟨some 15, none, .mv, [.t 2]⟩,
  ⟨some 16, none, .bin .leq false, [.t 15, .k (pI 95)]⟩] [1, 2, 16])
  (.cond (.t 16)
  .skip
  (.exit 0)))
  (.seq (.block 1 (.seq (.region false [
  ⟨some 19, none, .mv, [.t 1]⟩,
  ⟨some 20, none, .mv, [.t 2]⟩,
  ⟨some 21, none, .call 28, [.t 20]⟩,
  ⟨some 22, none, .call 27, [.t 19, .t 21]⟩] [1, 2])
  (.region false [
  ⟨some 23, none, .mv, [.t 1]⟩,
  ⟨some 24, none, .mv, [.t 2]⟩,
  ⟨some 25, none, .call 29, [.t 23, .k (pI 26), .t 24]⟩] [1, 2])))
  (.region false [
  ⟨some 17, none, .mv, [.t 2]⟩,
  ⟨some 18, none, .bin .add false, [.t 17, .k (pI 1)]⟩,
  ⟨some 2, none, .mv, [.t 18]⟩] [1, 2]))))))
  (.seq (.region false [
  ⟨some 26, none, .mv, [.t 1]⟩,
  ⟨some 27, none, .nck, [.t 26]⟩,
  ⟨some 28, none, .fa 0, [.t 27]⟩,
  ⟨some 29, none, .ld false 1 false, [.t 28]⟩,
  ⟨some 0, none, .mv, [.tk 29]⟩] [0])
  .ret)))))))))⟩
/-- scrimshaw/gc.Code -/
def x11 : XFunc := ⟨0, [.tmp 0],
  (.seq (.region false [
  ⟨some 0, none, .mv, [.kn 8]⟩] [])
  (.seq (.region false [
  ⟨some 4, none, .bld [(.sl 8 [])] [], []⟩,
  ⟨some 5, none, .box 0, [.tk 4]⟩,
  ⟨some 1, none, .mv, [.t 5]⟩] [1])
  (.seq (.region false [
  ⟨some 6, none, .mv, [.t 1]⟩,
  ⟨some 7, none, .call 27, [.t 6, .k (pI 1)]⟩] [1])
  (.seq (.seq (.region false [
  ⟨some 2, none, .mv, [.k (pI 1)]⟩] [1, 2])
  (.block 0 (.loop [1, 2] [0] (.seq (.seq (.region false [
  ⟨some 8, none, .mv, [.t 2]⟩,
  ⟨some 9, none, .bin .leq false, [.t 8, .k (pI 25)]⟩] [1, 2, 9])
  (.cond (.t 9)
  .skip
  (.exit 0)))
  (.seq (.block 1 (.region false [
  ⟨some 12, none, .mv, [.t 1]⟩,
  ⟨some 13, none, .mv, [.t 2]⟩,
  ⟨some 14, none, .mv, [.t 2]⟩,
  ⟨some 15, none, .bin .add false, [.k (pI 0), .t 14]⟩,
  ⟨some 16, none, .bin .sub false, [.t 15, .k (pI 1)]⟩,
  ⟨some 17, none, .call 30, [.t 12, .t 13, .k (pI 0), .t 16]⟩] [1, 2]))
  (.region false [
  ⟨some 10, none, .mv, [.t 2]⟩,
  ⟨some 11, none, .bin .add false, [.t 10, .k (pI 1)]⟩,
  ⟨some 2, none, .mv, [.t 11]⟩] [1, 2]))))))
  (.seq (.region false [
  ⟨some 18, none, .mv, [.t 1]⟩,
  ⟨some 19, none, .call 31, [.t 18, .k (pI 1), .k (pI 0), .k (pI 30)]⟩] [1])
  (.seq (.region false [
  ⟨some 20, none, .mv, [.t 1]⟩,
  ⟨some 21, none, .call 32, [.t 20, .k (pI 2), .k (pI 1)]⟩] [1])
  (.seq (.region false [
  ⟨some 22, none, .mv, [.t 1]⟩,
  ⟨some 23, none, .call 33, [.t 22, .k (pI 3), .k (pI 0)]⟩] [1])
  (.seq (.region false [
  ⟨some 24, none, .mv, [.t 1]⟩,
  ⟨some 25, none, .call 33, [.t 24, .k (pI 4), .k (pI 27)]⟩] [1])
  (.seq (.region false [
  ⟨some 26, none, .mv, [.t 1]⟩,
  ⟨some 27, none, .call 34, [.t 26, .k (pI 5), .k (pI 1003)]⟩] [1])
  (.seq (.region false [
  ⟨some 28, none, .mv, [.t 1]⟩,
  ⟨some 29, none, .call 33, [.t 28, .k (pI 3), .k (pI 32)]⟩] [1])
  (.seq (.region false [
  ⟨some 30, none, .mv, [.t 1]⟩,
  ⟨some 31, none, .call 32, [.t 30, .k (pI 4), .k (pI 30)]⟩] [1])
  (.seq (.region false [
  ⟨some 32, none, .mv, [.t 1]⟩,
  ⟨some 33, none, .call 34, [.t 32, .k (pI 5), .k (pI 1003)]⟩] [1])
  (.seq (.region false [
  ⟨some 34, none, .mv, [.t 1]⟩,
  ⟨some 35, none, .call 27, [.t 34, .k (pI 1000)]⟩] [1])
  (.seq (.region false [
  ⟨some 36, none, .mv, [.t 1]⟩,
  ⟨some 37, none, .call 35, [.t 36, .k (pI 27), .k (pI 2), .k (pI 1), .k (pI 1001)]⟩] [1])
  (.seq (.region false [
  ⟨some 38, none, .mv, [.t 1]⟩,
  ⟨some 39, none, .call 32, [.t 38, .k (pI 3), .k (pI 2)]⟩] [1])
  (.seq (.region false [
  ⟨some 40, none, .mv, [.t 1]⟩,
  ⟨some 41, none, .call 32, [.t 40, .k (pI 4), .k (pI 1)]⟩] [1])
  (.seq (.region false [
  ⟨some 42, none, .mv, [.t 1]⟩,
  ⟨some 43, none, .call 32, [.t 42, .k (pI 2), .k (pI 1)]⟩] [1])
  (.seq (.region false [
  ⟨some 44, none, .mv, [.t 1]⟩,
  ⟨some 45, none, .call 34, [.t 44, .k (pI 5), .k (pI 1003)]⟩] [1])
  (.seq (.region false [
  ⟨some 46, none, .mv, [.t 1]⟩,
  ⟨some 47, none, .call 36, [.t 46, .k (pI 1000)]⟩] [1])
  (.seq (.region false [
  ⟨some 48, none, .mv, [.t 1]⟩,
  ⟨some 49, none, .call 27, [.t 48, .k (pI 1001)]⟩] [1])
  (.seq (.region false [
  ⟨some 50, none, .mv, [.t 1]⟩,
  ⟨some 51, none, .call 37, [.t 50, .k (pI 28), .k (pI 30)]⟩] [1])
  (.seq (.region false [
  ⟨some 52, none, .mv, [.t 1]⟩,
  ⟨some 53, none, .call 37, [.t 52, .k (pI 29), .k (pI 31)]⟩] [1])
  (.seq (.region false [
  ⟨some 54, none, .mv, [.t 1]⟩,
  ⟨some 55, none, .call 32, [.t 54, .k (pI 29), .k (pI 1)]⟩] [1])
  (.seq (.region false [
  ⟨some 56, none, .mv, [.t 1]⟩,
  ⟨some 57, none, .call 38, [.t 56, .k (pI 1), .k (pI 3), .k (pI 1), .k (pI 26)]⟩] [1])
  (.seq (.region false [
  ⟨some 58, none, .mv, [.t 1]⟩,
  ⟨some 59, none, .call 31, [.t 58, .k (pI 4), .k (pI 0), .k (pI 29)]⟩] [1])
  (.seq (.region false [
  ⟨some 60, none, .mv, [.t 1]⟩,
  ⟨some 61, none, .call 35, [.t 60, .k (pI 26), .k (pI 4), .k (pI 3), .k (pI 1002)]⟩] [1])
  (.seq (.seq (.region false [
  ⟨some 3, none, .mv, [.k (pI 1)]⟩] [1, 3])
  (.block 2 (.loop [1, 3] [0] (.seq (.seq (.region false [
  ⟨some 62, none, .mv, [.t 3]⟩,
  ⟨some 63, none, .bin .leq false, [.t 62, .k (pI 25)]⟩] [1, 3, 63])
  (.cond (.t 63)
  .skip
  (.exit 2)))
  (.seq (.block 3 (.region false [
  ⟨some 66, none, .mv, [.t 1]⟩,
  ⟨some 67, none, .mv, [.t 3]⟩,
  ⟨some 68, none, .mv, [.t 3]⟩,
  ⟨some 69, none, .bin .add false, [.k (pI 0), .t 68]⟩,
  ⟨some 70, none, .bin .sub false, [.t 69, .k (pI 1)]⟩,
  ⟨some 71, none, .call 31, [.t 66, .t 67, .k (pI 0), .t 70]⟩] [1, 3]))
  (.region false [
  ⟨some 64, none, .mv, [.t 3]⟩,
  ⟨some 65, none, .bin .add false, [.t 64, .k (pI 1)]⟩,
  ⟨some 3, none, .mv, [.t 65]⟩] [1, 3]))))))
  (.seq (.region false [
  ⟨some 72, none, .mv, [.t 1]⟩,
  ⟨some 73, none, .call 39, [.t 72, .k (pI 31)]⟩] [1])
  (.seq (.region false [
  ⟨some 74, none, .mv, [.t 1]⟩,
  ⟨some 75, none, .call 27, [.t 74, .k (pI 1002)]⟩] [1])
  (.seq (.region false [
  ⟨some 76, none, .mv, [.t 1]⟩,
  ⟨some 77, none, .call 29, [.t 76, .k (pI 26), .k (pI 95)]⟩] [1])
  (.seq (.region false [
  ⟨some 78, none, .mv, [.t 1]⟩,
  ⟨some 79, none, .call 40, [.t 78]⟩] [1])
  (.seq (.region false [
  ⟨some 80, none, .mv, [.t 1]⟩,
  ⟨some 81, none, .nck, [.t 80]⟩,
  ⟨some 82, none, .fa 0, [.t 81]⟩,
  ⟨some 83, none, .ld false 1 false, [.t 82]⟩,
  ⟨some 0, none, .mv, [.tk 83]⟩] [0])
  .ret))))))))))))))))))))))))))))))))⟩
/-- scrimshaw/scrimshawref23.Program -/
def x12 : XFunc := ⟨2, [.tmp 4],
  (.seq (.region false [
  ⟨some 4, none, .mv, [.kn 8]⟩] [0, 1])
  (.seq (.region false [
  ⟨some 8, none, .call 13, [.k (pI 10)]⟩,
  ⟨some 9, none, .blds 8 [(pI 0), (pI 0), (pI 0), (pI 0), (pI 0), (pI 0), (pI 0), (pI 0)] 1 [0], [.t 8]⟩,
  ⟨some 5, none, .mv, [.tk 9]⟩] [0, 1, 5])
  (.seq (.region false [
  ⟨some 10, none, .mv, [.tk 5]⟩,
  ⟨some 11, none, .call 41, [.k (pI 0), .k (pI 0), .k (pI 51)]⟩,
  ⟨some 12, none, .app 8 64, [.tk 10, .t 11]⟩,
  ⟨some 5, none, .mv, [.tk 12]⟩] [0, 1, 5])
  (.seq (.seq (.region false [
  ⟨some 6, none, .mv, [.k (pI 0)]⟩] [0, 1, 5, 6])
  (.block 0 (.loop [0, 1, 5, 6] [] (.seq (.seq (.region false [
  ⟨some 13, none, .mv, [.t 6]⟩,
  ⟨some 14, none, .mv, [.t 0]⟩,
  ⟨some 15, none, .lenL, [.t 14]⟩,
  ⟨some 16, none, .bin .lss false, [.t 13, .t 15]⟩] [0, 1, 5, 6, 16])
  (.cond (.t 16)
  .skip
  (.exit 0)))
  (.seq (.block 1 (.seq (.region false [
  ⟨some 19, none, .mv, [.t 0]⟩,
  ⟨some 20, none, .mv, [.t 6]⟩,
  ⟨some 21, none, .ia 3, [.t 19, .t 20]⟩,
  ⟨some 22, none, .ld true 3 false, [.t 21]⟩,
  ⟨some 23, none, .call 19, [.t 22]⟩,
  ⟨some 7, none, .alloc 0 true [(pI 0), (pI 0), (pI 0)], []⟩,
  ⟨none, none, .st 3, [.t 7, .t 23]⟩] [0, 1, 5, 6, 7])
  (.seq (.region false [
  ⟨some 24, none, .mv, [.t 0]⟩,
  ⟨some 25, none, .mv, [.t 6]⟩,
  ⟨some 26, none, .ia 3, [.t 24, .t 25]⟩,
  ⟨some 27, none, .fa 0, [.t 26]⟩,
  ⟨some 28, none, .ld false 1 false, [.t 27]⟩] [0, 1, 5, 6, 7, 28])
  (.block 2 (.seq (.region false [
  ⟨some 30, none, .bin .eql false, [.t 28, .k (pI 0)]⟩,
  ⟨some 29, none, .mv, [.t 30]⟩] [0, 1, 5, 6, 7, 28, 29])
  (.cond (.t 29)
  (.region false [
  ⟨some 31, none, .mv, [.tk 5]⟩,
  ⟨some 32, none, .fa 1, [.t 7]⟩,
  ⟨some 33, none, .ld false 1 false, [.t 32]⟩,
  ⟨some 34, none, .fa 2, [.t 7]⟩,
  ⟨some 35, none, .ld false 1 false, [.t 34]⟩,
  ⟨some 36, none, .call 41, [.t 33, .t 35, .k (pI 50)]⟩,
  ⟨some 37, none, .app 8 64, [.tk 31, .t 36]⟩,
  ⟨some 5, none, .mv, [.tk 37]⟩] [0, 1, 5, 6])
  (.seq (.region false [
  ⟨some 39, none, .bin .eql false, [.t 28, .k (pI 1)]⟩,
  ⟨some 38, none, .mv, [.t 39]⟩] [0, 1, 5, 6, 28, 38])
  (.cond (.t 38)
  (.region false [
  ⟨some 40, none, .mv, [.tk 5]⟩,
  ⟨some 41, none, .call 15, [.k (pI 31), .k (pI 6)]⟩,
  ⟨some 42, none, .blds 8 [(pI 0), (pI 0), (pI 0), (pI 0), (pI 0), (pI 0), (pI 0), (pI 0)] 1 [0], [.t 41]⟩,
  ⟨some 43, none, .app 8 64, [.tk 40, .t 42]⟩,
  ⟨some 5, none, .mv, [.tk 43]⟩] [0, 1, 5, 6])
  (.seq (.region false [
  ⟨some 45, none, .bin .eql false, [.t 28, .k (pI 2)]⟩,
  ⟨some 44, none, .mv, [.t 45]⟩] [0, 1, 5, 6, 28, 44])
  (.cond (.t 44)
  (.region false [
  ⟨some 46, none, .mv, [.tk 5]⟩,
  ⟨some 47, none, .call 17, [.k (pI 26), .k (pI 0)]⟩,
  ⟨some 48, none, .call 15, [.k (pI 31), .k (pI 1)]⟩,
  ⟨some 49, none, .blds 8 [(pI 0), (pI 0), (pI 0), (pI 0), (pI 0), (pI 0), (pI 0), (pI 0)] 2 [0, 1], [.t 47, .t 48]⟩,
  ⟨some 50, none, .app 8 64, [.tk 46, .t 49]⟩,
  ⟨some 5, none, .mv, [.tk 50]⟩] [0, 1, 5, 6])
  (.seq (.region false [
  ⟨some 52, none, .bin .eql false, [.t 28, .k (pI 3)]⟩,
  ⟨some 51, none, .mv, [.t 52]⟩] [0, 1, 5, 6, 51])
  (.cond (.t 51)
  (.seq (.region false [
  ⟨some 53, none, .mv, [.tk 5]⟩,
  ⟨some 54, none, .mv, [.t 6]⟩,
  ⟨some 55, none, .bin .add false, [.k (pI 100), .t 54]⟩,
  ⟨some 56, none, .call 41, [.k (pI 0), .k (pI 0), .t 55]⟩,
  ⟨some 57, none, .app 8 64, [.tk 53, .t 56]⟩,
  ⟨some 5, none, .mv, [.tk 57]⟩] [0, 1, 5, 6])
  (.seq (.region false [
  ⟨some 58, none, .mv, [.tk 5]⟩,
  ⟨some 59, none, .call 17, [.k (pI 26), .k (pI 2)]⟩,
  ⟨some 60, none, .call 15, [.k (pI 31), .k (pI 2)]⟩,
  ⟨some 61, none, .call 17, [.k (pI 27), .k (pI 111)]⟩,
  ⟨some 62, none, .call 14, [.k (pI 23), .k (pI 27), .k (pI 29), .k (pI 0)]⟩,
  ⟨some 63, none, .call 16, [.k (pI 27), .k (pI 52)]⟩,
  ⟨some 64, none, .call 14, [.k (pI 18), .k (pI 27), .k (pI 27), .k (pI 3)]⟩,
  ⟨some 65, none, .call 14, [.k (pI 23), .k (pI 27), .k (pI 29), .k (pI 1)]⟩,
  ⟨some 66, none, .call 14, [.k (pI 18), .k (pI 25), .k (pI 29), .k (pI 3)]⟩,
  ⟨some 67, none, .call 14, [.k (pI 17), .k (pI 25), .k (pI 25), .k (pI 1)]⟩,
  ⟨some 68, none, .call 14, [.k (pI 15), .k (pI 29), .k (pI 29), .k (pI 2)]⟩,
  ⟨some 69, none, .blds 8 [(pI 0), (pI 0), (pI 0), (pI 0), (pI 0), (pI 0), (pI 0), (pI 0)] 10 [0, 1, 2, 3, 4, 5, 6, 7, 8, 9], [.t 59, .t 60, .t 61, .t 62, .t 63, .t 64, .t 65, .t 66, .t 67, .t 68]⟩,
  ⟨some 70, none, .app 8 64, [.tk 58, .t 69]⟩,
  ⟨some 5, none, .mv, [.tk 70]⟩] [0, 1, 5, 6])
  (.region false [
  ⟨some 71, none, .mv, [.tk 5]⟩,
  ⟨some 72, none, .call 15, [.k (pI 0), .k (pI 7)]⟩,
  ⟨some 73, none, .mv, [.t 6]⟩,
  ⟨some 74, none, .bin .add false, [.k (pI 100), .t 73]⟩,
  ⟨some 75, none, .call 13, [.t 74]⟩,
  ⟨some 76, none, .call 14, [.k (pI 15), .k (pI 30), .k (pI 30), .k (pI (-1))]⟩,
  ⟨some 77, none, .blds 8 [(pI 0), (pI 0), (pI 0), (pI 0), (pI 0), (pI 0), (pI 0), (pI 0)] 3 [0, 1, 2], [.t 72, .t 75, .t 76]⟩,
  ⟨some 78, none, .app 8 64, [.tk 71, .t 77]⟩,
  ⟨some 5, none, .mv, [.tk 78]⟩] [0, 1, 5, 6])))
  .skip))))))))))))
  (.region false [
  ⟨some 17, none, .mv, [.t 6]⟩,
  ⟨some 18, none, .bin .add false, [.t 17, .k (pI 1)]⟩,
  ⟨some 6, none, .mv, [.t 18]⟩] [0, 1, 5, 6]))))))
  (.seq (.region false [
  ⟨some 79, none, .mv, [.tk 5]⟩,
  ⟨some 80, none, .call 17, [.k (pI 1), .k (pI 0)]⟩,
  ⟨some 81, none, .call 15, [.k (pI 0), .k (pI 4)]⟩,
  ⟨some 82, none, .blds 8 [(pI 0), (pI 0), (pI 0), (pI 0), (pI 0), (pI 0), (pI 0), (pI 0)] 2 [0, 1], [.t 80, .t 81]⟩,
  ⟨some 83, none, .app 8 64, [.tk 79, .t 82]⟩,
  ⟨some 5, none, .mv, [.tk 83]⟩] [1, 5])
  (.seq (.region false [
  ⟨some 84, none, .mv, [.tk 5]⟩,
  ⟨some 85, none, .call 13, [.k (pI 50)]⟩,
  ⟨some 86, none, .call 14, [.k (pI 22), .k (pI 26), .k (pI 30), .k (pI (-1))]⟩,
  ⟨some 87, none, .call 14, [.k (pI 19), .k (pI 26), .k (pI 26), .k (pI 3)]⟩,
  ⟨some 88, none, .call 14, [.k (pI 16), .k (pI 26), .k (pI 26), .k (pI 4095)]⟩,
  ⟨some 89, none, .call 14, [.k (pI 15), .k (pI 30), .k (pI 30), .k (pI (-1))]⟩,
  ⟨some 90, none, .blds 8 [(pI 0), (pI 0), (pI 0), (pI 0), (pI 0), (pI 0), (pI 0), (pI 0)] 5 [0, 1, 2, 3, 4], [.t 85, .t 86, .t 87, .t 88, .t 89]⟩,
  ⟨some 91, none, .app 8 64, [.tk 84, .t 90]⟩,
  ⟨some 5, none, .mv, [.tk 91]⟩] [1, 5])
  (.seq (.region false [
  ⟨some 92, none, .mv, [.tk 5]⟩,
  ⟨some 93, none, .call 13, [.k (pI 60)]⟩,
  ⟨some 94, none, .call 42, [.k (pI 24), .k (pI 26), .k (pI 0), .k (pI 61)]⟩,
  ⟨some 95, none, .call 14, [.k (pI 15), .k (pI 30), .k (pI 30), .k (pI (-1))]⟩,
  ⟨some 96, none, .call 14, [.k (pI 22), .k (pI 27), .k (pI 30), .k (pI 0)]⟩,
  ⟨some 97, none, .call 14, [.k (pI 19), .k (pI 27), .k (pI 27), .k (pI 3)]⟩,
  ⟨some 98, none, .call 14, [.k (pI 31), .k (pI 27), .k (pI 0), .k (pI 0)]⟩,
  ⟨some 99, none, .call 14, [.k (pI 15), .k (pI 26), .k (pI 26), .k (pI (-1))]⟩,
  ⟨some 100, none, .call 15, [.k (pI 0), .k (pI 60)]⟩,
  ⟨some 101, none, .call 13, [.k (pI 61)]⟩,
  ⟨some 102, none, .call 15, [.k (pI 0), .k (pI 4)]⟩,
  ⟨some 103, none, .blds 8 [(pI 0), (pI 0), (pI 0), (pI 0), (pI 0), (pI 0), (pI 0), (pI 0)] 10 [0, 1, 2, 3, 4, 5, 6, 7, 8, 9], [.t 93, .t 94, .t 95, .t 96, .t 97, .t 98, .t 99, .t 100, .t 101, .t 102]⟩,
  ⟨some 104, none, .app 8 64, [.tk 92, .t 103]⟩,
  ⟨some 5, none, .mv, [.tk 104]⟩] [1, 5])
  (.seq (.region false [
  ⟨some 105, none, .mv, [.tk 5]⟩,
  ⟨some 106, none, .call 13, [.k (pI 51)]⟩,
  ⟨some 107, none, .call 14, [.k (pI 15), .k (pI 30), .k (pI 30), .k (pI (-1))]⟩,
  ⟨some 108, none, .mv, [.t 1]⟩,
  ⟨some 109, none, .call 14, [.k (pI 22), .k (pI 26), .k (pI 0), .t 108]⟩,
  ⟨some 110, none, .call 42, [.k (pI 24), .k (pI 26), .k (pI 0), .k (pI 61)]⟩,
  ⟨some 111, none, .call 14, [.k (pI 15), .k (pI 26), .k (pI 26), .k (pI (-1))]⟩,
  ⟨some 112, none, .mv, [.t 1]⟩,
  ⟨some 113, none, .call 14, [.k (pI 23), .k (pI 26), .k (pI 0), .t 112]⟩,
  ⟨some 114, none, .blds 8 [(pI 0), (pI 0), (pI 0), (pI 0), (pI 0), (pI 0), (pI 0), (pI 0)] 6 [0, 1, 2, 3, 4, 5], [.t 106, .t 107, .t 109, .t 110, .t 111, .t 113]⟩,
  ⟨some 115, none, .app 8 64, [.tk 105, .t 114]⟩,
  ⟨some 5, none, .mv, [.tk 115]⟩] [5])
  (.seq (.region false [
  ⟨some 116, none, .mv, [.tk 5]⟩,
  ⟨some 117, none, .call 14, [.k (pI 22), .k (pI 25), .k (pI 0), .k (pI 26)]⟩,
  ⟨some 118, none, .call 14, [.k (pI 16), .k (pI 26), .k (pI 25), .k (pI 7)]⟩,
  ⟨some 119, none, .call 17, [.k (pI 27), .k (pI 1)]⟩,
  ⟨some 120, none, .call 42, [.k (pI 25), .k (pI 26), .k (pI 27), .k (pI 61)]⟩,
  ⟨some 121, none, .call 17, [.k (pI 1), .k (pI 0)]⟩,
  ⟨some 122, none, .call 17, [.k (pI 28), .k (pI 1)]⟩,
  ⟨some 123, none, .call 15, [.k (pI 0), .k (pI 3)]⟩,
  ⟨some 124, none, .blds 8 [(pI 0), (pI 0), (pI 0), (pI 0), (pI 0), (pI 0), (pI 0), (pI 0)] 7 [0, 1, 2, 3, 4, 5, 6], [.t 117, .t 118, .t 119, .t 120, .t 121, .t 122, .t 123]⟩,
  ⟨some 125, none, .app 8 64, [.tk 116, .t 124]⟩,
  ⟨some 5, none, .mv, [.tk 125]⟩] [5])
  (.seq (.region false [
  ⟨some 126, none, .mv, [.tk 5]⟩,
  ⟨some 127, none, .call 13, [.k (pI 52)]⟩,
  ⟨some 128, none, .call 14, [.k (pI 23), .k (pI 1), .k (pI 0), .k (pI 26)]⟩,
  ⟨some 129, none, .call 17, [.k (pI 1), .k (pI 0)]⟩,
  ⟨some 130, none, .call 15, [.k (pI 0), .k (pI 4)]⟩,
  ⟨some 131, none, .blds 8 [(pI 0), (pI 0), (pI 0), (pI 0), (pI 0), (pI 0), (pI 0), (pI 0)] 4 [0, 1, 2, 3], [.t 127, .t 128, .t 129, .t 130]⟩,
  ⟨some 132, none, .app 8 64, [.tk 126, .t 131]⟩,
  ⟨some 5, none, .mv, [.tk 132]⟩] [5])
  (.seq (.region false [
  ⟨some 133, none, .mv, [.tk 5]⟩,
  ⟨some 4, none, .mv, [.tk 133]⟩] [4])
  .ret)))))))))))⟩
/-- scrimshaw/scrimshawref23.L -/
def x13 : XFunc := ⟨1, [.cell 2 true 8],
  (.seq (.region false [
  ⟨some 2, none, .alloc 0 true [(pI 0), (pI 0), (pI 0), (pI 0), (pI 0), (pI 0), (pI 0), (pI 0)], []⟩] [0, 2])
  (.seq (.region false [
  ⟨some 3, none, .mv, [.t 0]⟩,
  ⟨some 4, none, .bld [(pI 0), (pI 0), (pI 0), (pI 0), (pI 0), (pI 0), (pI 0), (pI 0)] [(0, 1), (6, 1)], [.k (pI 1), .t 3]⟩,
  ⟨none, none, .st 8, [.t 2, .t 4]⟩] [2])
  .ret))⟩
/-- scrimshaw/scrimshawref23.I -/
def x14 : XFunc := ⟨4, [.cell 8 true 8],
  (.seq (.region false [
  ⟨some 8, none, .alloc 0 true [(pI 0), (pI 0), (pI 0), (pI 0), (pI 0), (pI 0), (pI 0), (pI 0)], []⟩] [0, 1, 2, 3, 8])
  (.seq (.region false [
  ⟨some 9, none, .mv, [.t 0]⟩,
  ⟨some 10, none, .mv, [.t 1]⟩,
  ⟨some 11, none, .mv, [.t 2]⟩,
  ⟨some 12, none, .mv, [.t 3]⟩,
  ⟨some 13, none, .bld [(pI 0), (pI 0), (pI 0), (pI 0), (pI 0)] [(0, 1), (1, 1), (2, 1), (4, 1)], [.t 9, .t 10, .t 11, .t 12]⟩,
  ⟨some 14, none, .bld [(pI 0), (pI 0), (pI 0), (pI 0), (pI 0), (pI 0), (pI 0), (pI 0)] [(1, 5)], [.t 13]⟩,
  ⟨none, none, .st 8, [.t 8, .t 14]⟩] [8])
  .ret))⟩
/-- scrimshaw/scrimshawref23.J -/
def x15 : XFunc := ⟨2, [.cell 4 true 8],
  (.seq (.region false [
  ⟨some 4, none, .alloc 0 true [(pI 0), (pI 0), (pI 0), (pI 0), (pI 0), (pI 0), (pI 0), (pI 0)], []⟩] [0, 1, 4])
  (.seq (.region false [
  ⟨some 5, none, .mv, [.t 0]⟩,
  ⟨some 6, none, .bld [(pI 0), (pI 0), (pI 0), (pI 0), (pI 0)] [(0, 1), (1, 1)], [.k (pI 28), .t 5]⟩,
  ⟨some 7, none, .mv, [.t 1]⟩,
  ⟨some 8, none, .bld [(pI 0), (pI 0), (pI 0), (pI 0), (pI 0), (pI 0), (pI 0), (pI 0)] [(0, 1), (1, 5), (6, 1)], [.k (pI 3), .t 6, .t 7]⟩,
  ⟨none, none, .st 8, [.t 4, .t 8]⟩] [4])
  .ret))⟩
/-- scrimshaw/scrimshawref23.P -/
def x16 : XFunc := ⟨2, [.cell 4 true 8],
  (.seq (.region false [
  ⟨some 4, none, .alloc 0 true [(pI 0), (pI 0), (pI 0), (pI 0), (pI 0), (pI 0), (pI 0), (pI 0)], []⟩] [0, 1, 4])
  (.seq (.region false [
  ⟨some 5, none, .mv, [.t 0]⟩,
  ⟨some 6, none, .bld [(pI 0), (pI 0), (pI 0), (pI 0), (pI 0)] [(0, 1), (1, 1)], [.k (pI 20), .t 5]⟩,
  ⟨some 7, none, .mv, [.t 1]⟩,
  ⟨some 8, none, .bld [(pI 0), (pI 0), (pI 0), (pI 0), (pI 0), (pI 0), (pI 0), (pI 0)] [(0, 1), (1, 5), (6, 1)], [.k (pI 5), .t 6, .t 7]⟩,
  ⟨none, none, .st 8, [.t 4, .t 8]⟩] [4])
  .ret))⟩
/-- scrimshaw/scrimshawref23.K -/
def x17 : XFunc := ⟨2, [.cell 4 true 8],
  (.seq (.region false [
  ⟨some 4, none, .alloc 0 true [(pI 0), (pI 0), (pI 0), (pI 0), (pI 0), (pI 0), (pI 0), (pI 0)], []⟩] [0, 1, 4])
  (.seq (.region false [
  ⟨some 5, none, .mv, [.t 0]⟩,
  ⟨some 6, none, .bld [(pI 0), (pI 0), (pI 0), (pI 0), (pI 0)] [(0, 1), (1, 1)], [.k (pI 20), .t 5]⟩,
  ⟨some 7, none, .mv, [.t 1]⟩,
  ⟨some 8, none, .bld [(pI 0), (pI 0), (pI 0), (pI 0), (pI 0), (pI 0), (pI 0), (pI 0)] [(0, 1), (1, 5), (7, 1)], [.k (pI 4), .t 6, .t 7]⟩,
  ⟨none, none, .st 8, [.t 4, .t 8]⟩] [4])
  .ret))⟩
/-- scrimshaw/scrimshawlaw23.own -/
def x18 : XFunc := ⟨1, [.tmp 2],
  (.seq (.region false [
  ⟨some 2, none, .mv, [.k (pB false)]⟩] [0])
  (.seq (.seq (.regionD [
  ⟨⟨some 6, none, .mv, [.t 0]⟩, [], false⟩,
  ⟨⟨some 7, none, .lenL, [.t 6]⟩, [], false⟩,
  ⟨⟨some 8, none, .bin .eql false, [.t 7, .k (pI 0)]⟩, [], false⟩,
  ⟨⟨some 9, none, .mv, [.t 8]⟩, [], false⟩,
  ⟨⟨some 10, (some (9, false)), .mv, [.t 0]⟩, [], false⟩,
  ⟨⟨some 11, (some (9, false)), .ia 8, [.t 10, .k (pI 0)]⟩, [], false⟩,
  ⟨⟨some 12, (some (9, false)), .ld true 8 false, [.t 11]⟩, [], false⟩,
  ⟨⟨some 13, (some (9, false)), .call 13, [.k (pI 9)]⟩, [], false⟩,
  ⟨⟨some 14, (some (9, false)), .beq true 8, [.t 12, .t 13]⟩, [], false⟩,
  ⟨⟨some 15, none, .pick, [.t 9, .k (pB true), .t 14]⟩, [], false⟩] [0, 15])
  (.cond (.t 15)
  (.seq (.region false [
  ⟨some 2, none, .mv, [.k (pB false)]⟩] [2])
  .ret)
  .skip))
  (.seq (.seq (.region false [
  ⟨some 3, none, .mv, [.k (pI 0)]⟩] [0, 3])
  (.block 0 (.loop [0, 3] [] (.seq (.seq (.region false [
  ⟨some 16, none, .mv, [.t 3]⟩,
  ⟨some 17, none, .mv, [.t 0]⟩,
  ⟨some 18, none, .lenL, [.t 17]⟩,
  ⟨some 19, none, .bin .lss false, [.t 16, .t 18]⟩] [0, 3, 19])
  (.cond (.t 19)
  .skip
  (.exit 0)))
  (.seq (.block 1 (.seq (.region false [
  ⟨some 22, none, .mv, [.t 0]⟩,
  ⟨some 23, none, .mv, [.t 3]⟩,
  ⟨some 24, none, .ia 8, [.t 22, .t 23]⟩,
  ⟨some 25, none, .fa 6, [.t 24]⟩,
  ⟨some 26, none, .ld false 1 false, [.t 25]⟩,
  ⟨some 4, none, .mv, [.t 26]⟩] [0, 3, 4])
  (.seq (.region false [
  ⟨some 27, none, .mv, [.t 4]⟩,
  ⟨some 28, none, .bin .geq false, [.t 27, .k (pI 2000)]⟩,
  ⟨some 29, none, .mv, [.t 28]⟩,
  ⟨some 30, (some (29, true)), .mv, [.t 4]⟩,
  ⟨some 31, (some (29, true)), .bin .leq false, [.t 30, .k (pI 2999)]⟩,
  ⟨some 32, none, .pick, [.t 29, .t 31, .k (pB false)]⟩,
  ⟨some 33, none, .mv, [.t 32]⟩,
  ⟨some 34, (some (33, false)), .mv, [.t 4]⟩,
  ⟨some 35, (some (33, false)), .bin .geq false, [.t 34, .k (pI 2)]⟩,
  ⟨some 36, (some (33, false)), .mv, [.t 35]⟩,
  ⟨some 37, (some (36, true)), .mv, [.t 4]⟩,
  ⟨some 38, (some (36, true)), .bin .leq false, [.t 37, .k (pI 9)]⟩,
  ⟨some 39, (some (33, false)), .pick, [.t 36, .t 38, .k (pB false)]⟩,
  ⟨some 40, none, .pick, [.t 33, .k (pB true), .t 39]⟩,
  ⟨some 41, none, .mv, [.t 40]⟩,
  ⟨some 42, (some (41, false)), .mv, [.t 4]⟩,
  ⟨some 43, (some (41, false)), .bin .geq false, [.t 42, .k (pI 11)]⟩,
  ⟨some 44, (some (41, false)), .mv, [.t 43]⟩,
  ⟨some 45, (some (44, true)), .mv, [.t 4]⟩,
  ⟨some 46, (some (44, true)), .bin .leq false, [.t 45, .k (pI 26)]⟩,
  ⟨some 47, (some (41, false)), .pick, [.t 44, .t 46, .k (pB false)]⟩,
  ⟨some 48, none, .pick, [.t 41, .k (pB true), .t 47]⟩,
  ⟨some 5, none, .mv, [.t 48]⟩] [0, 3, 4, 5])
  (.seq (.region false [
  ⟨some 49, none, .mv, [.t 0]⟩,
  ⟨some 50, none, .mv, [.t 3]⟩,
  ⟨some 51, none, .ia 8, [.t 49, .t 50]⟩,
  ⟨some 52, none, .fa 0, [.t 51]⟩,
  ⟨some 53, none, .ld false 1 false, [.t 52]⟩,
  ⟨some 54, none, .bin .eql false, [.t 53, .k (pI 1)]⟩,
  ⟨some 55, none, .mv, [.t 54]⟩,
  ⟨some 56, (some (55, true)), .mv, [.t 5]⟩,
  ⟨some 57, (some (55, true)), .un .not, [.t 56]⟩,
  ⟨some 58, none, .pick, [.t 55, .t 57, .k (pB false)]⟩,
  ⟨some 59, none, .mv, [.t 58]⟩,
  ⟨some 60, (some (59, false)), .mv, [.t 0]⟩,
  ⟨some 61, (some (59, false)), .mv, [.t 3]⟩,
  ⟨some 62, (some (59, false)), .ia 8, [.t 60, .t 61]⟩,
  ⟨some 63, (some (59, false)), .ld true 8 false, [.t 62]⟩,
  ⟨some 64, (some (59, false)), .call 43, [.t 63]⟩,
  ⟨some 65, (some (59, false)), .mv, [.t 64]⟩,
  ⟨some 66, (some (65, true)), .mv, [.t 5]⟩,
  ⟨some 67, (some (65, true)), .un .not, [.t 66]⟩,
  ⟨some 68, (some (59, false)), .pick, [.t 65, .t 67, .k (pB false)]⟩,
  ⟨some 69, (some (59, false)), .mv, [.t 68]⟩,
  ⟨some 70, (some (69, true)), .mv, [.t 4]⟩,
  ⟨some 71, (some (69, true)), .bin .neq false, [.t 70, .k (pI 1)]⟩,
  ⟨some 72, (some (59, false)), .pick, [.t 69, .t 71, .k (pB false)]⟩,
  ⟨some 73, (some (59, false)), .mv, [.t 72]⟩,
  ⟨some 74, (some (73, true)), .mv, [.t 4]⟩,
  ⟨some 75, (some (73, true)), .bin .neq false, [.t 74, .k (pI 10)]⟩,
  ⟨some 76, (some (59, false)), .pick, [.t 73, .t 75, .k (pB false)]⟩,
  ⟨some 77, none, .pick, [.t 59, .k (pB true), .t 76]⟩] [0, 3, 77])
  (.cond (.t 77)
  (.seq (.region false [
  ⟨some 2, none, .mv, [.k (pB false)]⟩] [2])
  .ret)
  .skip)))))
  (.region false [
  ⟨some 20, none, .mv, [.t 3]⟩,
  ⟨some 21, none, .bin .add false, [.t 20, .k (pI 1)]⟩,
  ⟨some 3, none, .mv, [.t 21]⟩] [0, 3]))))))
  (.seq (.region false [
  ⟨some 2, none, .mv, [.k (pB true)]⟩] [2])
  .ret))))⟩
/-- scrimshaw/scrimshawref23.Bound -/
def x19 : XFunc := ⟨1, [.cell 2 true 3],
  (.seq (.region false [
  ⟨some 1, none, .box 0, [.t 0]⟩,
  ⟨some 2, none, .alloc 1 true [(pI 0), (pI 0), (pI 0)], []⟩] [1, 2])
  (.seq (.region false [
  ⟨some 3, none, .fa 1, [.t 1]⟩,
  ⟨some 4, none, .ld false 1 false, [.t 3]⟩,
  ⟨some 5, none, .bin .rem false, [.t 4, .k (pI 8)]⟩,
  ⟨some 6, none, .bin .add false, [.t 5, .k (pI 8)]⟩,
  ⟨some 7, none, .bin .rem false, [.t 6, .k (pI 8)]⟩,
  ⟨some 8, none, .fa 1, [.t 1]⟩,
  ⟨none, none, .st 1, [.t 8, .t 7]⟩] [1, 2])
  (.seq (.region false [
  ⟨some 9, none, .fa 2, [.t 1]⟩,
  ⟨some 10, none, .ld false 1 false, [.t 9]⟩,
  ⟨some 11, none, .bin .rem false, [.t 10, .k (pI 200)]⟩,
  ⟨some 12, none, .bin .add false, [.t 11, .k (pI 200)]⟩,
  ⟨some 13, none, .bin .rem false, [.t 12, .k (pI 200)]⟩,
  ⟨some 14, none, .fa 2, [.t 1]⟩,
  ⟨none, none, .st 1, [.t 14, .t 13]⟩] [1, 2])
  (.seq (.region false [
  ⟨some 15, none, .ld true 3 false, [.t 1]⟩,
  ⟨none, none, .st 3, [.t 2, .t 15]⟩] [2])
  .ret))))⟩
/-- scrimshaw/scrimshawref23.Image -/
def x20 : XFunc := ⟨6, [.cell 12 true 3, .tmp 13],
  (.seq (.region false [
  ⟨some 12, none, .alloc 0 true [(.sl 1 []), (.sl 1 []), (pI 0)], []⟩,
  ⟨some 13, none, .mv, [.k (pB false)]⟩] [0, 1, 2, 3, 4, 5, 12])
  (.seq (.region false [
  ⟨some 20, none, .blds 8 [(pI 0), (pI 0), (pI 0), (pI 0), (pI 0), (pI 0), (pI 0), (pI 0)] 0 [], []⟩,
  ⟨some 21, none, .mv, [.tk 0]⟩,
  ⟨some 22, none, .app 8 64, [.tk 20, .t 21]⟩,
  ⟨some 23, none, .mv, [.tk 1]⟩,
  ⟨some 24, none, .app 8 64, [.tk 22, .t 23]⟩,
  ⟨some 25, none, .mv, [.tk 2]⟩,
  ⟨some 26, none, .app 8 64, [.tk 24, .t 25]⟩,
  ⟨some 27, none, .call 44, [.tk 26]⟩,
  ⟨some 19, none, .mv, [.tk 27]⟩,
  ⟨some 28, none, .ext 0, [.t 19]⟩,
  ⟨some 29, none, .ext 1, [.t 19]⟩,
  ⟨some 30, none, .ext 2, [.tk 19]⟩,
  ⟨some 14, none, .mv, [.tk 28]⟩,
  ⟨some 15, none, .mv, [.tk 29]⟩,
  ⟨some 16, none, .mv, [.t 30]⟩] [3, 4, 5, 12, 14, 16])
  (.seq (.region false [
  ⟨some 31, none, .mv, [.t 3]⟩,
  ⟨some 32, none, .bin .add false, [.k (pI 32), .t 31]⟩,
  ⟨some 17, none, .mv, [.t 32]⟩] [4, 5, 12, 14, 16, 17])
  (.seq (.region false [
  ⟨some 33, none, .mv, [.t 17]⟩,
  ⟨some 34, none, .mv, [.t 4]⟩,
  ⟨some 35, none, .bin .mul false, [.k (pI 2), .t 34]⟩,
  ⟨some 36, none, .bin .add false, [.t 33, .t 35]⟩,
  ⟨some 37, none, .bin .add false, [.t 36, .k (pI 1)]⟩,
  ⟨some 38, none, .mks 1 1 [(pI 0)], [.t 37, .t 37]⟩,
  ⟨some 18, none, .mv, [.tk 38]⟩] [4, 5, 12, 14, 16, 17, 18])
  (.seq (.region false [
  ⟨some 39, none, .mv, [.t 18]⟩,
  ⟨some 40, none, .mv, [.t 17]⟩,
  ⟨some 41, none, .ia 1, [.t 39, .k (pI 28)]⟩,
  ⟨none, none, .st 1, [.t 41, .t 40]⟩] [4, 5, 12, 14, 16, 17, 18])
  (.seq (.region false [
  ⟨some 42, none, .mv, [.t 18]⟩,
  ⟨some 43, none, .mv, [.t 17]⟩,
  ⟨some 44, none, .mv, [.t 4]⟩,
  ⟨some 45, none, .bin .add false, [.t 43, .t 44]⟩,
  ⟨some 46, none, .ia 1, [.t 42, .k (pI 29)]⟩,
  ⟨none, none, .st 1, [.t 46, .t 45]⟩] [4, 5, 12, 14, 16, 17, 18])
  (.seq (.region false [
  ⟨some 47, none, .mv, [.t 18]⟩,
  ⟨some 48, none, .mv, [.t 17]⟩,
  ⟨some 49, none, .mv, [.t 4]⟩,
  ⟨some 50, none, .bin .add false, [.t 48, .t 49]⟩,
  ⟨some 51, none, .ia 1, [.t 47, .k (pI 30)]⟩,
  ⟨none, none, .st 1, [.t 51, .t 50]⟩] [4, 5, 12, 14, 16, 17, 18])
  (.seq (.region false [
  ⟨some 52, none, .mv, [.t 18]⟩,
  ⟨some 53, none, .mv, [.t 17]⟩,
  ⟨some 54, none, .mv, [.t 4]⟩,
  ⟨some 55, none, .bin .mul false, [.k (pI 2), .t 54]⟩,
  ⟨some 56, none, .bin .add false, [.t 53, .t 55]⟩,
  ⟨some 57, none, .ia 1, [.t 52, .k (pI 31)]⟩,
  ⟨none, none, .st 1, [.t 57, .t 56]⟩] [4, 5, 12, 14, 16, 17, 18])
  (.seq (.region false [
  ⟨some 58, none, .mv, [.t 18]⟩,
  ⟨some 59, none, .mv, [.t 17]⟩,
  ⟨some 60, none, .mv, [.t 4]⟩,
  ⟨some 61, none, .bin .mul false, [.k (pI 2), .t 60]⟩,
  ⟨some 62, none, .bin .add false, [.t 59, .t 61]⟩,
  ⟨some 63, none, .mv, [.t 5]⟩,
  ⟨some 64, none, .ia 1, [.t 58, .t 62]⟩,
  ⟨none, none, .st 1, [.t 64, .t 63]⟩] [12, 14, 16, 18])
  (.seq (.region false [
  ⟨some 65, none, .mv, [.tk 14]⟩,
  ⟨some 66, none, .mv, [.t 18]⟩,
  ⟨some 67, none, .mv, [.tk 18]⟩,
  ⟨some 68, none, .lenL, [.t 67]⟩,
  ⟨some 69, none, .bld [(.sl 1 []), (.sl 1 []), (pI 0)] [(0, 1), (1, 1), (2, 1)], [.tk 65, .tk 66, .t 68]⟩,
  ⟨some 70, none, .mv, [.t 16]⟩,
  ⟨some 71, none, .bin .eql false, [.t 70, .k (pI 0)]⟩,
  ⟨none, none, .st 3, [.t 12, .tk 69]⟩,
  ⟨some 13, none, .mv, [.t 71]⟩] [12, 13])
  .ret))))))))))⟩
/-- scrimshaw/scrimshawref20.Run -/
def x21 : XFunc := ⟨3, [.cell 6 true 38],
  (.seq (.region false [
  ⟨some 3, none, .box 0, [.tk 0]⟩,
  ⟨some 6, none, .alloc 1 true [(pI 0), (pI 0), (pS []), (pI 0), (pI 0), (pI 0), (pI 0), (pI 0), (pI 0), (pI 0), (pI 0), (pI 0), (pI 0), (pI 0), (pI 0), (pI 0), (pI 0), (pI 0), (pI 0), (pI 0), (pI 0), (pI 0), (pI 0), (pI 0), (pI 0), (pI 0), (pI 0), (pI 0), (pI 0), (pI 0), (pI 0), (pI 0), (pI 0), (pI 0), (pI 0), (pI 0), (pI 0), (.sl 1 [])], []⟩] [1, 2, 3, 6])
  (.seq (.seq (.region false [
  ⟨some 13, none, .fa 2, [.t 3]⟩,
  ⟨some 14, none, .ld false 1 false, [.t 13]⟩,
  ⟨some 15, none, .bin .lss false, [.t 14, .k (pI 0)]⟩,
  ⟨some 16, none, .mv, [.t 15]⟩,
  ⟨some 17, (some (16, false)), .fa 2, [.t 3]⟩,
  ⟨some 18, (some (16, false)), .ld false 1 false, [.t 17]⟩,
  ⟨some 19, (some (16, false)), .bin .gtr false, [.t 18, .k (pI 1048576)]⟩,
  ⟨some 20, none, .pick, [.t 16, .k (pB true), .t 19]⟩,
  ⟨some 21, none, .mv, [.t 20]⟩,
  ⟨some 22, (some (21, false)), .fa 0, [.t 3]⟩,
  ⟨some 23, (some (21, false)), .ld false 1 false, [.t 22]⟩,
  ⟨some 24, (some (21, false)), .lenL, [.t 23]⟩,
  ⟨some 25, (some (21, false)), .bin .gtr false, [.t 24, .k (pI 1048576)]⟩,
  ⟨some 26, none, .pick, [.t 21, .k (pB true), .t 25]⟩,
  ⟨some 27, none, .mv, [.t 26]⟩,
  ⟨some 28, (some (27, false)), .fa 1, [.t 3]⟩,
  ⟨some 29, (some (27, false)), .ld false 1 false, [.t 28]⟩,
  ⟨some 30, (some (27, false)), .lenL, [.t 29]⟩,
  ⟨some 31, (some (27, false)), .fa 2, [.t 3]⟩,
  ⟨some 32, (some (27, false)), .ld false 1 false, [.t 31]⟩,
  ⟨some 33, (some (27, false)), .bin .gtr false, [.t 30, .t 32]⟩,
  ⟨some 34, none, .pick, [.t 27, .k (pB true), .t 33]⟩,
  ⟨some 35, none, .mv, [.t 34]⟩,
  ⟨some 36, (some (35, false)), .mv, [.t 2]⟩,
  ⟨some 37, (some (35, false)), .bin .lss false, [.t 36, .k (pI 0)]⟩,
  ⟨some 38, none, .pick, [.t 35, .k (pB true), .t 37]⟩] [1, 2, 3, 6, 38])
  (.cond (.t 38)
  (.seq (.region false [
  ⟨some 39, none, .bld [(pI 0), (pI 0), (pS []), (pI 0), (pI 0), (pI 0), (pI 0), (pI 0), (pI 0), (pI 0), (pI 0), (pI 0), (pI 0), (pI 0), (pI 0), (pI 0), (pI 0), (pI 0), (pI 0), (pI 0), (pI 0), (pI 0), (pI 0), (pI 0), (pI 0), (pI 0), (pI 0), (pI 0), (pI 0), (pI 0), (pI 0), (pI 0), (pI 0), (pI 0), (pI 0), (pI 0), (pI 0), (.sl 1 [])] [(0, 1)], [.k (pI 7)]⟩,
  ⟨none, none, .st 38, [.t 6, .tk 39]⟩] [6])
  .ret)
  .skip))
  (.seq (.region false [
  ⟨some 40, none, .mv, [.t 1]⟩,
  ⟨some 41, none, .bld [(pI 0), (pI 0), (pS []), (pI 0), (pI 0), (pI 0), (pI 0), (pI 0), (pI 0), (pI 0), (pI 0), (pI 0), (pI 0), (pI 0), (pI 0), (pI 0), (pI 0), (pI 0), (pI 0), (pI 0), (pI 0), (pI 0), (pI 0), (pI 0), (pI 0), (pI 0), (pI 0), (pI 0), (pI 0), (pI 0), (pI 0), (pI 0), (pI 0), (pI 0), (pI 0), (pI 0), (pI 0), (.sl 1 []), (pS []), (.sl 1 [])] [(38, 1)], [.t 40]⟩,
  ⟨some 42, none, .box 2, [.tk 41]⟩,
  ⟨some 7, none, .mv, [.t 42]⟩] [2, 3, 6, 7])
  (.seq (.region false [
  ⟨some 43, none, .mv, [.t 7]⟩,
  ⟨some 44, none, .fa 2, [.t 3]⟩,
  ⟨some 45, none, .ld false 1 false, [.t 44]⟩,
  ⟨some 46, none, .mks 3 1 [(pI 0)], [.t 45, .t 45]⟩,
  ⟨some 47, none, .nck, [.t 43]⟩,
  ⟨some 48, none, .fa 0, [.t 47]⟩,
  ⟨some 49, none, .fa 37, [.t 48]⟩,
  ⟨none, none, .st 1, [.t 49, .tk 46]⟩] [2, 3, 6, 7])
  (.seq (.regionD [
  ⟨⟨some 50, none, .mv, [.t 7]⟩, [], false⟩,
  ⟨⟨some 51, none, .nck, [.t 50]⟩, [], false⟩,
  ⟨⟨some 52, none, .fa 0, [.t 51]⟩, [], false⟩,
  ⟨⟨some 53, none, .fa 37, [.t 52]⟩, [], false⟩,
  ⟨⟨some 54, none, .ld false 1 false, [.t 53]⟩, [], false⟩,
  ⟨⟨some 55, none, .fa 1, [.t 3]⟩, [], false⟩,
  ⟨⟨some 56, none, .ld false 1 false, [.t 55]⟩, [], false⟩,
  ⟨⟨some 57, none, .copy 1, [.t 54, .t 56]⟩, [], false⟩] [2, 3, 6, 7])
  (.seq (.region false [
  ⟨some 58, none, .mv, [.t 7]⟩,
  ⟨some 59, none, .nck, [.t 58]⟩,
  ⟨some 60, none, .fa 0, [.t 59]⟩,
  ⟨some 61, none, .fa 0, [.t 60]⟩,
  ⟨none, none, .st 1, [.t 61, .k (pI 6)]⟩] [2, 3, 6, 7])
  (.seq (.region false [
  ⟨some 62, none, .fa 0, [.t 3]⟩,
  ⟨some 63, none, .ld false 1 false, [.t 62]⟩,
  ⟨some 64, none, .lenL, [.t 63]⟩,
  ⟨some 65, none, .mks 4 5 [(pI 0), (pI 0), (pI 0), (pI 0), (pI 0)], [.t 64, .t 64]⟩,
  ⟨some 8, none, .mv, [.tk 65]⟩] [2, 3, 6, 7, 8])
  (.seq (.region false [
  ⟨some 66, none, .fa 0, [.t 3]⟩,
  ⟨some 67, none, .ld false 1 false, [.t 66]⟩,
  ⟨some 68, none, .lenL, [.t 67]⟩,
  ⟨some 69, none, .mks 5 1 [(pB false)], [.t 68, .t 68]⟩,
  ⟨some 9, none, .mv, [.tk 69]⟩] [2, 3, 6, 7, 8, 9])
  (.seq (.block 0 (.loop [2, 3, 6, 7, 8, 9] [0, 1, 2, 3, 4, 5] (.seq (.seq (.region false [
  ⟨some 70, none, .mv, [.t 7]⟩,
  ⟨some 71, none, .nck, [.t 70]⟩,
  ⟨some 72, none, .fa 0, [.t 71]⟩,
  ⟨some 73, none, .fa 0, [.t 72]⟩,
  ⟨some 74, none, .ld false 1 false, [.t 73]⟩,
  ⟨some 75, none, .bin .eql false, [.t 74, .k (pI 6)]⟩,
  ⟨some 76, none, .mv, [.t 75]⟩,
  ⟨some 77, (some (76, true)), .mv, [.t 7]⟩,
  ⟨some 78, (some (76, true)), .nck, [.t 77]⟩,
  ⟨some 79, (some (76, true)), .fa 0, [.t 78]⟩,
  ⟨some 80, (some (76, true)), .fa 3, [.t 79]⟩,
  ⟨some 81, (some (76, true)), .ld false 1 false, [.t 80]⟩,
  ⟨some 82, (some (76, true)), .mv, [.t 2]⟩,
  ⟨some 83, (some (76, true)), .bin .lss false, [.t 81, .t 82]⟩,
  ⟨some 84, none, .pick, [.t 76, .t 83, .k (pB false)]⟩] [2, 3, 6, 7, 8, 9, 84])
  (.cond (.t 84)
  .skip
  (.exit 0)))
  (.block 1 (.seq (.region false [
  ⟨some 85, none, .mv, [.t 7]⟩,
  ⟨some 86, none, .nck, [.t 85]⟩,
  ⟨some 87, none, .fa 0, [.t 86]⟩,
  ⟨some 88, none, .fa 4, [.t 87]⟩,
  ⟨some 89, none, .ld false 1 false, [.t 88]⟩,
  ⟨some 10, none, .mv, [.t 89]⟩] [2, 3, 6, 7, 8, 9, 10])
  (.seq (.seq (.region false [
  ⟨some 90, none, .mv, [.t 10]⟩,
  ⟨some 91, none, .bin .lss false, [.t 90, .k (pI 0)]⟩,
  ⟨some 92, none, .mv, [.t 91]⟩,
  ⟨some 93, (some (92, false)), .mv, [.t 10]⟩,
  ⟨some 94, (some (92, false)), .fa 0, [.t 3]⟩,
  ⟨some 95, (some (92, false)), .ld false 1 false, [.t 94]⟩,
  ⟨some 96, (some (92, false)), .lenL, [.t 95]⟩,
  ⟨some 97, (some (92, false)), .bin .geq false, [.t 93, .t 96]⟩,
  ⟨some 98, none, .pick, [.t 92, .k (pB true), .t 97]⟩] [2, 3, 6, 7, 8, 9, 10, 98])
  (.cond (.t 98)
  (.seq (.region false [
  ⟨some 99, none, .mv, [.t 7]⟩,
  ⟨some 100, none, .nck, [.t 99]⟩,
  ⟨some 101, none, .fa 0, [.t 100]⟩,
  ⟨some 102, none, .fa 0, [.t 101]⟩,
  ⟨none, none, .st 1, [.t 102, .k (pI 3)]⟩] [6, 7])
  (.exit 0))
  .skip))
  (.seq (.seq (.region false [
  ⟨some 103, none, .mv, [.t 9]⟩,
  ⟨some 104, none, .mv, [.t 10]⟩,
  ⟨some 105, none, .ia 1, [.t 103, .t 104]⟩,
  ⟨some 106, none, .ld false 1 false, [.t 105]⟩,
  ⟨some 107, none, .un .not, [.t 106]⟩] [2, 3, 6, 7, 8, 9, 10, 107])
  (.cond (.t 107)
  (.seq (.region false [
  ⟨some 109, none, .fa 0, [.t 3]⟩,
  ⟨some 110, none, .ld false 1 false, [.t 109]⟩,
  ⟨some 111, none, .mv, [.t 10]⟩,
  ⟨some 112, none, .ia 1, [.t 110, .t 111]⟩,
  ⟨some 113, none, .ld false 1 false, [.t 112]⟩,
  ⟨some 114, none, .call 45, [.t 113]⟩,
  ⟨some 108, none, .mv, [.t 114]⟩,
  ⟨some 115, none, .ext 0, [.t 108]⟩,
  ⟨some 116, none, .ext 1, [.t 108]⟩,
  ⟨some 11, none, .alloc 6 true [(pI 0), (pI 0), (pI 0), (pI 0), (pI 0)], []⟩,
  ⟨none, none, .st 5, [.t 11, .t 115]⟩,
  ⟨some 12, none, .mv, [.t 116]⟩] [2, 3, 6, 7, 8, 9, 10, 11, 12])
  (.seq (.seq (.region false [
  ⟨some 117, none, .mv, [.t 12]⟩,
  ⟨some 118, none, .un .not, [.t 117]⟩] [2, 3, 6, 7, 8, 9, 10, 11, 118])
  (.cond (.t 118)
  (.seq (.region false [
  ⟨some 119, none, .mv, [.t 7]⟩,
  ⟨some 120, none, .nck, [.t 119]⟩,
  ⟨some 121, none, .fa 0, [.t 120]⟩,
  ⟨some 122, none, .fa 0, [.t 121]⟩,
  ⟨none, none, .st 1, [.t 122, .k (pI 1)]⟩] [6, 7])
  (.exit 0))
  .skip))
  (.seq (.region false [
  ⟨some 123, none, .mv, [.t 8]⟩,
  ⟨some 124, none, .mv, [.t 10]⟩,
  ⟨some 125, none, .ld true 5 false, [.t 11]⟩,
  ⟨some 126, none, .ia 5, [.t 123, .t 124]⟩,
  ⟨none, none, .st 5, [.t 126, .t 125]⟩] [2, 3, 6, 7, 8, 9, 10])
  (.region false [
  ⟨some 127, none, .mv, [.t 9]⟩,
  ⟨some 128, none, .mv, [.t 10]⟩,
  ⟨some 129, none, .ia 1, [.t 127, .t 128]⟩,
  ⟨none, none, .st 1, [.t 129, .k (pB true)]⟩] [2, 3, 6, 7, 8, 9, 10]))))
  .skip))
  (.region false [
  ⟨some 130, none, .mv, [.t 7]⟩,
  ⟨some 131, none, .mv, [.t 7]⟩,
  ⟨some 132, none, .mv, [.t 8]⟩,
  ⟨some 133, none, .mv, [.t 10]⟩,
  ⟨some 134, none, .ia 5, [.t 132, .t 133]⟩,
  ⟨some 135, none, .ld true 5 false, [.t 134]⟩,
  ⟨some 136, none, .call 46, [.t 131, .t 135]⟩,
  ⟨some 137, none, .nck, [.t 130]⟩,
  ⟨some 138, none, .fa 0, [.t 137]⟩,
  ⟨some 139, none, .fa 0, [.t 138]⟩,
  ⟨none, none, .st 1, [.t 139, .t 136]⟩] [2, 3, 6, 7, 8, 9]))))))))
  (.seq (.region false [
  ⟨some 140, none, .mv, [.t 7]⟩,
  ⟨some 141, none, .mv, [.t 7]⟩,
  ⟨some 142, none, .nck, [.t 141]⟩,
  ⟨some 143, none, .fa 39, [.t 142]⟩,
  ⟨some 144, none, .ld false 1 false, [.t 143]⟩,
  ⟨some 145, none, .cbs, [.t 144]⟩,
  ⟨some 146, none, .nck, [.t 140]⟩,
  ⟨some 147, none, .fa 0, [.t 146]⟩,
  ⟨some 148, none, .fa 2, [.t 147]⟩,
  ⟨none, none, .st 1, [.t 148, .t 145]⟩] [6, 7])
  (.seq (.region false [
  ⟨some 149, none, .mv, [.t 7]⟩,
  ⟨some 150, none, .nck, [.t 149]⟩,
  ⟨some 151, none, .fa 0, [.t 150]⟩,
  ⟨some 152, none, .ld true 38 false, [.t 151]⟩,
  ⟨none, none, .st 38, [.t 6, .tk 152]⟩] [6])
  .ret)))))))))))⟩
/-- scrimshaw/rt.start -/
def x22 : XFunc := ⟨1, [],
  (.seq (.region false [
  ⟨some 2, none, .mv, [.t 0]⟩,
  ⟨some 3, none, .call 27, [.t 2, .k (pI 9)]⟩] [0])
  (.seq (.region false [
  ⟨some 4, none, .mv, [.t 0]⟩,
  ⟨some 5, none, .call 31, [.t 4, .k (pI 29), .k (pI 0), .k (pI 28)]⟩] [0])
  (.seq (.region false [
  ⟨some 6, none, .mv, [.t 0]⟩,
  ⟨some 7, none, .call 47, [.t 6, .k (pI 27), .k (pI 5), .k (pI 15)]⟩] [0])
  (.seq (.region false [
  ⟨some 8, none, .mv, [.t 0]⟩,
  ⟨some 9, none, .call 30, [.t 8, .k (pI 27), .k (pI 0), .k (pI 32)]⟩] [0])
  (.seq (.region false [
  ⟨some 10, none, .mv, [.t 0]⟩,
  ⟨some 11, none, .call 33, [.t 10, .k (pI 30), .k (pI 33)]⟩] [0])
  (.seq (.region false [
  ⟨some 12, none, .mv, [.t 0]⟩,
  ⟨some 13, none, .call 33, [.t 12, .k (pI 27), .k (pI 18)]⟩] [0])
  (.seq (.region false [
  ⟨some 14, none, .mv, [.t 0]⟩,
  ⟨some 15, none, .call 30, [.t 14, .k (pI 27), .k (pI 0), .k (pI 25)]⟩] [0])
  (.seq (.region false [
  ⟨some 16, none, .mv, [.t 0]⟩,
  ⟨some 17, none, .call 30, [.t 16, .k (pI 27), .k (pI 0), .k (pI 26)]⟩] [0])
  (.seq (.region false [
  ⟨some 18, none, .mv, [.t 0]⟩,
  ⟨some 19, none, .call 48, [.t 18, .k (pI 2)]⟩] [0])
  (.seq (.region false [
  ⟨some 20, none, .mv, [.t 0]⟩,
  ⟨some 21, none, .call 49, [.k (pI 5), .k (pI 1)]⟩,
  ⟨some 22, none, .call 33, [.t 20, .k (pI 27), .t 21]⟩] [0])
  (.seq (.region false [
  ⟨some 23, none, .mv, [.t 0]⟩,
  ⟨some 24, none, .call 30, [.t 23, .k (pI 27), .k (pI 29), .k (pI 0)]⟩] [0])
  (.seq (.region false [
  ⟨some 25, none, .mv, [.t 0]⟩,
  ⟨some 26, none, .call 47, [.t 25, .k (pI 27), .k (pI 10), .k (pI 3)]⟩] [0])
  (.seq (.region false [
  ⟨some 27, none, .mv, [.t 0]⟩,
  ⟨some 28, none, .call 30, [.t 27, .k (pI 27), .k (pI 29), .k (pI 1)]⟩] [0])
  (.seq (.region false [
  ⟨some 29, none, .mv, [.t 0]⟩,
  ⟨some 30, none, .call 50, [.t 29, .k (pI 25), .k (pI 2)]⟩] [0])
  (.seq (.region false [
  ⟨some 31, none, .mv, [.t 0]⟩,
  ⟨some 32, none, .call 33, [.t 31, .k (pI 28), .k (pI 0)]⟩] [0])
  (.region false [
  ⟨some 33, none, .mv, [.t 0]⟩,
  ⟨some 34, none, .call 36, [.t 33, .k (pI 10)]⟩] []))))))))))))))))⟩
/-- scrimshaw/rt.call -/
def x23 : XFunc := ⟨1, [],
  (.seq (.region false [
  ⟨some 2, none, .mv, [.t 0]⟩,
  ⟨some 3, none, .call 27, [.t 2, .k (pI 2)]⟩] [0])
  (.seq (.region false [
  ⟨some 4, none, .mv, [.t 0]⟩,
  ⟨some 5, none, .call 38, [.t 4, .k (pI 1), .k (pI 27), .k (pI 29), .k (pI 26)]⟩] [0])
  (.seq (.region false [
  ⟨some 6, none, .mv, [.t 0]⟩,
  ⟨some 7, none, .call 31, [.t 6, .k (pI 28), .k (pI 0), .k (pI 29)]⟩] [0])
  (.seq (.region false [
  ⟨some 8, none, .mv, [.t 0]⟩,
  ⟨some 9, none, .call 35, [.t 8, .k (pI 26), .k (pI 28), .k (pI 27), .k (pI 1)]⟩] [0])
  (.seq (.region false [
  ⟨some 10, none, .mv, [.t 0]⟩,
  ⟨some 11, none, .call 39, [.t 10, .k (pI 31)]⟩] [0])
  (.seq (.region false [
  ⟨some 12, none, .mv, [.t 0]⟩,
  ⟨some 13, none, .call 27, [.t 12, .k (pI 3)]⟩] [0])
  (.seq (.region false [
  ⟨some 14, none, .mv, [.t 0]⟩,
  ⟨some 15, none, .call 51, [.t 14, .k (pI 16), .k (pI 26), .k (pI 25), .k (pI 7)]⟩] [0])
  (.seq (.region false [
  ⟨some 16, none, .mv, [.t 0]⟩,
  ⟨some 17, none, .call 33, [.t 16, .k (pI 27), .k (pI 1)]⟩] [0])
  (.seq (.region false [
  ⟨some 18, none, .mv, [.t 0]⟩,
  ⟨some 19, none, .call 28, [.k (pI 90)]⟩,
  ⟨some 20, none, .call 35, [.t 18, .k (pI 25), .k (pI 26), .k (pI 27), .t 19]⟩] [0])
  (.seq (.region false [
  ⟨some 21, none, .mv, [.t 0]⟩,
  ⟨some 22, none, .call 51, [.t 21, .k (pI 19), .k (pI 26), .k (pI 25), .k (pI 3)]⟩] [0])
  (.seq (.region false [
  ⟨some 23, none, .mv, [.t 0]⟩,
  ⟨some 24, none, .call 31, [.t 23, .k (pI 27), .k (pI 26), .k (pI 0)]⟩] [0])
  (.seq (.region false [
  ⟨some 25, none, .mv, [.t 0]⟩,
  ⟨some 26, none, .call 51, [.t 25, .k (pI 19), .k (pI 27), .k (pI 27), .k (pI 3)]⟩] [0])
  (.seq (.region false [
  ⟨some 27, none, .mv, [.t 0]⟩,
  ⟨some 28, none, .call 51, [.t 27, .k (pI 16), .k (pI 27), .k (pI 27), .k (pI 7)]⟩] [0])
  (.seq (.region false [
  ⟨some 29, none, .mv, [.t 0]⟩,
  ⟨some 30, none, .call 33, [.t 29, .k (pI 31), .k (pI 5)]⟩] [0])
  (.seq (.region false [
  ⟨some 31, none, .mv, [.t 0]⟩,
  ⟨some 32, none, .call 35, [.t 31, .k (pI 24), .k (pI 27), .k (pI 31), .k (pI 2009)]⟩] [0])
  (.seq (.region false [
  ⟨some 33, none, .mv, [.t 0]⟩,
  ⟨some 34, none, .call 33, [.t 33, .k (pI 31), .k (pI 7)]⟩] [0])
  (.seq (.region false [
  ⟨some 35, none, .mv, [.t 0]⟩,
  ⟨some 36, none, .call 28, [.k (pI 90)]⟩,
  ⟨some 37, none, .call 35, [.t 35, .k (pI 25), .k (pI 27), .k (pI 31), .t 36]⟩] [0])
  (.seq (.region false [
  ⟨some 38, none, .mv, [.t 0]⟩,
  ⟨some 39, none, .call 27, [.t 38, .k (pI 2009)]⟩] [0])
  (.seq (.region false [
  ⟨some 40, none, .mv, [.t 0]⟩,
  ⟨some 41, none, .call 31, [.t 40, .k (pI 26), .k (pI 26), .k (pI 1)]⟩] [0])
  (.seq (.region false [
  ⟨some 42, none, .mv, [.t 0]⟩,
  ⟨some 43, none, .call 51, [.t 42, .k (pI 19), .k (pI 26), .k (pI 26), .k (pI 3)]⟩] [0])
  (.seq (.region false [
  ⟨some 44, none, .mv, [.t 0]⟩,
  ⟨some 45, none, .call 39, [.t 44, .k (pI 26)]⟩] [0])
  (.seq (.region false [
  ⟨some 46, none, .mv, [.t 0]⟩,
  ⟨some 47, none, .call 27, [.t 46, .k (pI 4)]⟩] [0])
  (.seq (.region false [
  ⟨some 48, none, .mv, [.t 0]⟩,
  ⟨some 49, none, .call 31, [.t 48, .k (pI 26), .k (pI 30), .k (pI (-1))]⟩] [0])
  (.seq (.region false [
  ⟨some 50, none, .mv, [.t 0]⟩,
  ⟨some 51, none, .call 51, [.t 50, .k (pI 19), .k (pI 26), .k (pI 26), .k (pI 15)]⟩] [0])
  (.region false [
  ⟨some 52, none, .mv, [.t 0]⟩,
  ⟨some 53, none, .call 39, [.t 52, .k (pI 26)]⟩] [])))))))))))))))))))))))))⟩
/-- scrimshaw/rt.flush -/
def x24 : XFunc := ⟨1, [],
  (.seq (.region false [
  ⟨some 2, none, .mv, [.t 0]⟩,
  ⟨some 3, none, .call 27, [.t 2, .k (pI 6)]⟩] [0])
  (.seq (.region false [
  ⟨some 4, none, .mv, [.t 0]⟩,
  ⟨some 5, none, .call 33, [.t 4, .k (pI 26), .k (pI 33)]⟩] [0])
  (.seq (.region false [
  ⟨some 6, none, .mv, [.t 0]⟩,
  ⟨some 7, none, .call 35, [.t 6, .k (pI 25), .k (pI 26), .k (pI 30), .k (pI 2000)]⟩] [0])
  (.seq (.region false [
  ⟨some 8, none, .mv, [.t 0]⟩,
  ⟨some 9, none, .call 39, [.t 8, .k (pI 31)]⟩] [0])
  (.seq (.region false [
  ⟨some 10, none, .mv, [.t 0]⟩,
  ⟨some 11, none, .call 27, [.t 10, .k (pI 2000)]⟩] [0])
  (.seq (.region false [
  ⟨some 12, none, .mv, [.t 0]⟩,
  ⟨some 13, none, .call 30, [.t 12, .k (pI 31), .k (pI 0), .k (pI 27)]⟩] [0])
  (.seq (.region false [
  ⟨some 14, none, .mv, [.t 0]⟩,
  ⟨some 15, none, .call 51, [.t 14, .k (pI 15), .k (pI 26), .k (pI 30), .k (pI (-33))]⟩] [0])
  (.seq (.region false [
  ⟨some 16, none, .mv, [.t 0]⟩,
  ⟨some 17, none, .call 51, [.t 16, .k (pI 18), .k (pI 27), .k (pI 26), .k (pI 1)]⟩] [0])
  (.seq (.region false [
  ⟨some 18, none, .mv, [.t 0]⟩,
  ⟨some 19, none, .call 38, [.t 18, .k (pI 1), .k (pI 26), .k (pI 26), .k (pI 27)]⟩] [0])
  (.seq (.region false [
  ⟨some 20, none, .mv, [.t 0]⟩,
  ⟨some 21, none, .call 34, [.t 20, .k (pI 31), .k (pI 2)]⟩] [0])
  (.seq (.region false [
  ⟨some 22, none, .mv, [.t 0]⟩,
  ⟨some 23, none, .call 31, [.t 22, .k (pI 31), .k (pI 0), .k (pI 25)]⟩] [0])
  (.seq (.region false [
  ⟨some 24, none, .mv, [.t 0]⟩,
  ⟨some 25, none, .call 51, [.t 24, .k (pI 18), .k (pI 27), .k (pI 29), .k (pI 3)]⟩] [0])
  (.seq (.region false [
  ⟨some 26, none, .mv, [.t 0]⟩,
  ⟨some 27, none, .call 51, [.t 26, .k (pI 17), .k (pI 27), .k (pI 27), .k (pI 1)]⟩] [0])
  (.seq (.region false [
  ⟨some 28, none, .mv, [.t 0]⟩,
  ⟨some 29, none, .call 30, [.t 28, .k (pI 27), .k (pI 0), .k (pI 25)]⟩] [0])
  (.seq (.region false [
  ⟨some 30, none, .mv, [.t 0]⟩,
  ⟨some 31, none, .call 27, [.t 30, .k (pI 2001)]⟩] [0])
  (.seq (.region false [
  ⟨some 32, none, .mv, [.t 0]⟩,
  ⟨some 33, none, .call 52, [.t 32]⟩] [0])
  (.seq (.region false [
  ⟨some 34, none, .mv, [.t 0]⟩,
  ⟨some 35, none, .call 33, [.t 34, .k (pI 27), .k (pI 33)]⟩] [0])
  (.seq (.region false [
  ⟨some 36, none, .mv, [.t 0]⟩,
  ⟨some 37, none, .call 35, [.t 36, .k (pI 25), .k (pI 30), .k (pI 27), .k (pI 2001)]⟩] [0])
  (.seq (.region false [
  ⟨some 38, none, .mv, [.t 0]⟩,
  ⟨some 39, none, .call 31, [.t 38, .k (pI 31), .k (pI 0), .k (pI 27)]⟩] [0])
  (.region false [
  ⟨some 40, none, .mv, [.t 0]⟩,
  ⟨some 41, none, .call 39, [.t 40, .k (pI 31)]⟩] []))))))))))))))))))))⟩
/-- scrimshaw/rt.underflow -/
def x25 : XFunc := ⟨1, [],
  (.seq (.region false [
  ⟨some 2, none, .mv, [.t 0]⟩,
  ⟨some 3, none, .call 27, [.t 2, .k (pI 5)]⟩] [0])
  (.seq (.region false [
  ⟨some 4, none, .mv, [.t 0]⟩,
  ⟨some 5, none, .call 31, [.t 4, .k (pI 26), .k (pI 0), .k (pI 25)]⟩] [0])
  (.seq (.region false [
  ⟨some 6, none, .mv, [.t 0]⟩,
  ⟨some 7, none, .call 33, [.t 6, .k (pI 27), .k (pI 18)]⟩] [0])
  (.seq (.region false [
  ⟨some 8, none, .mv, [.t 0]⟩,
  ⟨some 9, none, .call 35, [.t 8, .k (pI 25), .k (pI 26), .k (pI 27), .k (pI 2007)]⟩] [0])
  (.seq (.region false [
  ⟨some 10, none, .mv, [.t 0]⟩,
  ⟨some 11, none, .call 51, [.t 10, .k (pI 0), .k (pI 0), .k (pI 0), .k (pI 0)]⟩] [0])
  (.seq (.region false [
  ⟨some 12, none, .mv, [.t 0]⟩,
  ⟨some 13, none, .call 27, [.t 12, .k (pI 2007)]⟩] [0])
  (.seq (.region false [
  ⟨some 14, none, .mv, [.t 0]⟩,
  ⟨some 15, none, .call 51, [.t 14, .k (pI 19), .k (pI 26), .k (pI 26), .k (pI 3)]⟩] [0])
  (.seq (.region false [
  ⟨some 16, none, .mv, [.t 0]⟩,
  ⟨some 17, none, .call 31, [.t 16, .k (pI 27), .k (pI 26), .k (pI 1)]⟩] [0])
  (.seq (.region false [
  ⟨some 18, none, .mv, [.t 0]⟩,
  ⟨some 19, none, .call 30, [.t 18, .k (pI 27), .k (pI 0), .k (pI 25)]⟩] [0])
  (.seq (.region false [
  ⟨some 20, none, .mv, [.t 0]⟩,
  ⟨some 21, none, .call 31, [.t 20, .k (pI 27), .k (pI 26), .k (pI 0)]⟩] [0])
  (.seq (.region false [
  ⟨some 22, none, .mv, [.t 0]⟩,
  ⟨some 23, none, .call 51, [.t 22, .k (pI 19), .k (pI 27), .k (pI 27), .k (pI 6)]⟩] [0])
  (.seq (.region false [
  ⟨some 24, none, .mv, [.t 0]⟩,
  ⟨some 25, none, .call 38, [.t 24, .k (pI 1), .k (pI 27), .k (pI 27), .k (pI 26)]⟩] [0])
  (.seq (.region false [
  ⟨some 26, none, .mv, [.t 0]⟩,
  ⟨some 27, none, .call 51, [.t 26, .k (pI 15), .k (pI 26), .k (pI 26), .k (pI 2)]⟩] [0])
  (.seq (.region false [
  ⟨some 28, none, .mv, [.t 0]⟩,
  ⟨some 29, none, .call 33, [.t 28, .k (pI 30), .k (pI 33)]⟩] [0])
  (.seq (.region false [
  ⟨some 30, none, .mv, [.t 0]⟩,
  ⟨some 31, none, .call 27, [.t 30, .k (pI 2004)]⟩] [0])
  (.seq (.region false [
  ⟨some 32, none, .mv, [.t 0]⟩,
  ⟨some 33, none, .call 35, [.t 32, .k (pI 26), .k (pI 27), .k (pI 26), .k (pI 2008)]⟩] [0])
  (.seq (.region false [
  ⟨some 34, none, .mv, [.t 0]⟩,
  ⟨some 35, none, .call 31, [.t 34, .k (pI 28), .k (pI 26), .k (pI 0)]⟩] [0])
  (.seq (.region false [
  ⟨some 36, none, .mv, [.t 0]⟩,
  ⟨some 37, none, .call 30, [.t 36, .k (pI 28), .k (pI 30), .k (pI 0)]⟩] [0])
  (.seq (.region false [
  ⟨some 38, none, .mv, [.t 0]⟩,
  ⟨some 39, none, .call 51, [.t 38, .k (pI 15), .k (pI 26), .k (pI 26), .k (pI 1)]⟩] [0])
  (.seq (.region false [
  ⟨some 40, none, .mv, [.t 0]⟩,
  ⟨some 41, none, .call 51, [.t 40, .k (pI 15), .k (pI 30), .k (pI 30), .k (pI 1)]⟩] [0])
  (.seq (.region false [
  ⟨some 42, none, .mv, [.t 0]⟩,
  ⟨some 43, none, .call 36, [.t 42, .k (pI 2004)]⟩] [0])
  (.seq (.region false [
  ⟨some 44, none, .mv, [.t 0]⟩,
  ⟨some 45, none, .call 27, [.t 44, .k (pI 2008)]⟩] [0])
  (.region false [
  ⟨some 46, none, .mv, [.t 0]⟩,
  ⟨some 47, none, .call 36, [.t 46, .k (pI 4)]⟩] [])))))))))))))))))))))))⟩
/-- scrimshaw/rt.catch -/
def x26 : XFunc := ⟨1, [],
  (.seq (.region false [
  ⟨some 2, none, .mv, [.t 0]⟩,
  ⟨some 3, none, .call 27, [.t 2, .k (pI 7)]⟩] [0])
  (.seq (.region false [
  ⟨some 4, none, .mv, [.t 0]⟩,
  ⟨some 5, none, .call 34, [.t 4, .k (pI 31), .k (pI 6)]⟩] [0])
  (.seq (.region false [
  ⟨some 6, none, .mv, [.t 0]⟩,
  ⟨some 7, none, .call 48, [.t 6, .k (pI 3)]⟩] [0])
  (.seq (.region false [
  ⟨some 8, none, .mv, [.t 0]⟩,
  ⟨some 9, none, .call 49, [.k (pI 7), .k (pI 2)]⟩,
  ⟨some 10, none, .call 33, [.t 8, .k (pI 27), .t 9]⟩] [0])
  (.seq (.region false [
  ⟨some 11, none, .mv, [.t 0]⟩,
  ⟨some 12, none, .call 30, [.t 11, .k (pI 27), .k (pI 29), .k (pI 0)]⟩] [0])
  (.seq (.region false [
  ⟨some 13, none, .mv, [.t 0]⟩,
  ⟨some 14, none, .call 47, [.t 13, .k (pI 27), .k (pI 8), .k (pI 3)]⟩] [0])
  (.seq (.region false [
  ⟨some 15, none, .mv, [.t 0]⟩,
  ⟨some 16, none, .call 30, [.t 15, .k (pI 27), .k (pI 29), .k (pI 1)]⟩] [0])
  (.seq (.region false [
  ⟨some 17, none, .mv, [.t 0]⟩,
  ⟨some 18, none, .call 31, [.t 17, .k (pI 27), .k (pI 0), .k (pI 25)]⟩] [0])
  (.seq (.region false [
  ⟨some 19, none, .mv, [.t 0]⟩,
  ⟨some 20, none, .call 30, [.t 19, .k (pI 27), .k (pI 29), .k (pI 2)]⟩] [0])
  (.seq (.region false [
  ⟨some 21, none, .mv, [.t 0]⟩,
  ⟨some 22, none, .call 50, [.t 21, .k (pI 1), .k (pI 3)]⟩] [0])
  (.seq (.region false [
  ⟨some 23, none, .mv, [.t 0]⟩,
  ⟨some 24, none, .call 33, [.t 23, .k (pI 28), .k (pI 1)]⟩] [0])
  (.seq (.region false [
  ⟨some 25, none, .mv, [.t 0]⟩,
  ⟨some 26, none, .call 36, [.t 25, .k (pI 3)]⟩] [0])
  (.seq (.region false [
  ⟨some 27, none, .mv, [.t 0]⟩,
  ⟨some 28, none, .call 27, [.t 27, .k (pI 8)]⟩] [0])
  (.seq (.region false [
  ⟨some 29, none, .mv, [.t 0]⟩,
  ⟨some 30, none, .call 33, [.t 29, .k (pI 26), .k (pI 1)]⟩] [0])
  (.seq (.region false [
  ⟨some 31, none, .mv, [.t 0]⟩,
  ⟨some 32, none, .call 28, [.k (pI 91)]⟩,
  ⟨some 33, none, .call 35, [.t 31, .k (pI 25), .k (pI 26), .k (pI 28), .t 32]⟩] [0])
  (.seq (.region false [
  ⟨some 34, none, .mv, [.t 0]⟩,
  ⟨some 35, none, .call 51, [.t 34, .k (pI 19), .k (pI 26), .k (pI 25), .k (pI 3)]⟩] [0])
  (.seq (.region false [
  ⟨some 36, none, .mv, [.t 0]⟩,
  ⟨some 37, none, .call 31, [.t 36, .k (pI 27), .k (pI 26), .k (pI 2)]⟩] [0])
  (.seq (.region false [
  ⟨some 38, none, .mv, [.t 0]⟩,
  ⟨some 39, none, .call 30, [.t 38, .k (pI 27), .k (pI 0), .k (pI 25)]⟩] [0])
  (.seq (.region false [
  ⟨some 40, none, .mv, [.t 0]⟩,
  ⟨some 41, none, .call 33, [.t 40, .k (pI 30), .k (pI 33)]⟩] [0])
  (.region false [
  ⟨some 42, none, .mv, [.t 0]⟩,
  ⟨some 43, none, .call 36, [.t 42, .k (pI 4)]⟩] []))))))))))))))))))))⟩
/-- (*scrimshaw/emit.Builder).Label -/
def x27 : XFunc := ⟨2, [],
  (.region false [
  ⟨some 4, none, .mv, [.t 0]⟩,
  ⟨some 5, none, .mv, [.t 1]⟩,
  ⟨some 6, none, .bld [(pI 0), (pI 0), (pI 0), (pI 0), (pI 0), (pI 0), (pI 0), (pI 0)] [(0, 1), (6, 1)], [.k (pI 1), .t 5]⟩,
  ⟨some 7, none, .call 53, [.t 4, .t 6]⟩] [])⟩
/-- scrimshaw/rt.failure -/
def x28 : XFunc := ⟨1, [.tmp 2],
  (.seq (.region false [
  ⟨some 2, none, .mv, [.k (pI 0)]⟩] [0])
  (.seq (.region false [
  ⟨some 3, none, .mv, [.t 0]⟩,
  ⟨some 4, none, .bin .sub false, [.t 3, .k (pI 80)]⟩,
  ⟨some 5, none, .bin .add false, [.k (pI 11), .t 4]⟩,
  ⟨some 2, none, .mv, [.t 5]⟩] [2])
  .ret))⟩
/-- (*scrimshaw/emit.Builder).Halt -/
def x29 : XFunc := ⟨3, [],
  (.seq (.region false [
  ⟨some 6, none, .mv, [.t 0]⟩,
  ⟨some 7, none, .mv, [.t 1]⟩,
  ⟨some 8, none, .mv, [.t 2]⟩,
  ⟨some 9, none, .call 33, [.t 6, .t 7, .t 8]⟩] [0, 1])
  (.region false [
  ⟨some 10, none, .mv, [.t 0]⟩,
  ⟨some 11, none, .mv, [.t 1]⟩,
  ⟨some 12, none, .call 51, [.t 10, .k (pI 0), .t 11, .k (pI 0), .k (pI 0)]⟩] []))⟩
/-- (*scrimshaw/emit.Builder).Store -/
def x30 : XFunc := ⟨4, [],
  (.region false [
  ⟨some 8, none, .mv, [.t 0]⟩,
  ⟨some 9, none, .mv, [.t 1]⟩,
  ⟨some 10, none, .mv, [.t 2]⟩,
  ⟨some 11, none, .mv, [.t 3]⟩,
  ⟨some 12, none, .call 51, [.t 8, .k (pI 23), .t 9, .t 10, .t 11]⟩] [])⟩
/-- (*scrimshaw/emit.Builder).Load -/
def x31 : XFunc := ⟨4, [],
  (.region false [
  ⟨some 8, none, .mv, [.t 0]⟩,
  ⟨some 9, none, .mv, [.t 1]⟩,
  ⟨some 10, none, .mv, [.t 2]⟩,
  ⟨some 11, none, .mv, [.t 3]⟩,
  ⟨some 12, none, .call 51, [.t 8, .k (pI 22), .t 9, .t 10, .t 11]⟩] [])⟩
/-- (*scrimshaw/emit.Builder).Copy -/
def x32 : XFunc := ⟨3, [],
  (.region false [
  ⟨some 6, none, .mv, [.t 0]⟩,
  ⟨some 7, none, .mv, [.t 1]⟩,
  ⟨some 8, none, .mv, [.t 2]⟩,
  ⟨some 9, none, .call 51, [.t 6, .k (pI 15), .t 7, .t 8, .k (pI 0)]⟩] [])⟩
/-- (*scrimshaw/emit.Builder).Number -/
def x33 : XFunc := ⟨3, [],
  (.region false [
  ⟨some 6, none, .mv, [.t 0]⟩,
  ⟨some 7, none, .mv, [.t 1]⟩,
  ⟨some 8, none, .bld [(pI 0), (pI 0), (pI 0), (pI 0), (pI 0)] [(0, 1), (1, 1)], [.k (pI 20), .t 7]⟩,
  ⟨some 9, none, .mv, [.t 2]⟩,
  ⟨some 10, none, .bld [(pI 0), (pI 0), (pI 0), (pI 0), (pI 0), (pI 0), (pI 0), (pI 0)] [(0, 1), (1, 5), (7, 1)], [.k (pI 4), .t 8, .t 9]⟩,
  ⟨some 11, none, .call 53, [.t 6, .t 10]⟩] [])⟩
/-- (*scrimshaw/emit.Builder).Jump -/
def x34 : XFunc := ⟨3, [],
  (.region false [
  ⟨some 6, none, .mv, [.t 0]⟩,
  ⟨some 7, none, .mv, [.t 1]⟩,
  ⟨some 8, none, .bld [(pI 0), (pI 0), (pI 0), (pI 0), (pI 0)] [(0, 1), (1, 1)], [.k (pI 28), .t 7]⟩,
  ⟨some 9, none, .mv, [.t 2]⟩,
  ⟨some 10, none, .bld [(pI 0), (pI 0), (pI 0), (pI 0), (pI 0), (pI 0), (pI 0), (pI 0)] [(0, 1), (1, 5), (6, 1)], [.k (pI 3), .t 8, .t 9]⟩,
  ⟨some 11, none, .call 53, [.t 6, .t 10]⟩] [])⟩
/-- (*scrimshaw/emit.Builder).If -/
def x35 : XFunc := ⟨5, [],
  (.region false [
  ⟨some 10, none, .mv, [.t 0]⟩,
  ⟨some 11, none, .mv, [.t 1]⟩,
  ⟨some 12, none, .mv, [.t 2]⟩,
  ⟨some 13, none, .mv, [.t 3]⟩,
  ⟨some 14, none, .bld [(pI 0), (pI 0), (pI 0), (pI 0), (pI 0)] [(0, 1), (1, 1), (2, 1)], [.t 11, .t 12, .t 13]⟩,
  ⟨some 15, none, .mv, [.t 4]⟩,
  ⟨some 16, none, .bld [(pI 0), (pI 0), (pI 0), (pI 0), (pI 0), (pI 0), (pI 0), (pI 0)] [(0, 1), (1, 5), (6, 1)], [.k (pI 2), .t 14, .t 15]⟩,
  ⟨some 17, none, .call 53, [.t 10, .t 16]⟩] [])⟩
/-- (*scrimshaw/emit.Builder).Goto -/
def x36 : XFunc := ⟨2, [],
  (.region false [
  ⟨some 4, none, .mv, [.t 0]⟩,
  ⟨some 5, none, .mv, [.t 1]⟩,
  ⟨some 6, none, .call 34, [.t 4, .k (pI 0), .t 5]⟩] [])⟩
/-- scrimshaw/gc.swap -/
def x37 : XFunc := ⟨3, [],
  (.seq (.region false [
  ⟨some 6, none, .mv, [.t 0]⟩,
  ⟨some 7, none, .mv, [.t 1]⟩,
  ⟨some 8, none, .call 31, [.t 6, .k (pI 3), .k (pI 0), .t 7]⟩] [0, 1, 2])
  (.seq (.region false [
  ⟨some 9, none, .mv, [.t 0]⟩,
  ⟨some 10, none, .mv, [.t 2]⟩,
  ⟨some 11, none, .call 31, [.t 9, .k (pI 4), .k (pI 0), .t 10]⟩] [0, 1, 2])
  (.seq (.region false [
  ⟨some 12, none, .mv, [.t 0]⟩,
  ⟨some 13, none, .mv, [.t 1]⟩,
  ⟨some 14, none, .call 30, [.t 12, .k (pI 4), .k (pI 0), .t 13]⟩] [0, 2])
  (.region false [
  ⟨some 15, none, .mv, [.t 0]⟩,
  ⟨some 16, none, .mv, [.t 2]⟩,
  ⟨some 17, none, .call 30, [.t 15, .k (pI 3), .k (pI 0), .t 16]⟩] []))))⟩
/-- (*scrimshaw/emit.Builder).Three -/
def x38 : XFunc := ⟨5, [],
  (.region false [
  ⟨some 10, none, .mv, [.t 0]⟩,
  ⟨some 11, none, .mv, [.t 1]⟩,
  ⟨some 12, none, .mv, [.t 2]⟩,
  ⟨some 13, none, .mv, [.t 3]⟩,
  ⟨some 14, none, .mv, [.t 4]⟩,
  ⟨some 15, none, .bld [(pI 0), (pI 0), (pI 0), (pI 0), (pI 0)] [(0, 1), (1, 1), (2, 1), (3, 1)], [.t 11, .t 12, .t 13, .t 14]⟩,
  ⟨some 16, none, .bld [(pI 0), (pI 0), (pI 0), (pI 0), (pI 0), (pI 0), (pI 0), (pI 0)] [(1, 5)], [.t 15]⟩,
  ⟨some 17, none, .call 53, [.t 10, .t 16]⟩] [])⟩
/-- (*scrimshaw/emit.Builder).Back -/
def x39 : XFunc := ⟨2, [],
  (.region false [
  ⟨some 4, none, .mv, [.t 0]⟩,
  ⟨some 5, none, .mv, [.t 1]⟩,
  ⟨some 6, none, .call 51, [.t 4, .k (pI 29), .k (pI 0), .t 5, .k (pI 0)]⟩] [])⟩
/-- scrimshaw/gc.forward -/
def x40 : XFunc := ⟨1, [],
  (.seq (.region false [
  ⟨some 2, none, .mv, [.t 0]⟩,
  ⟨some 3, none, .call 27, [.t 2, .k (pI 1003)]⟩] [0])
  (.seq (.region false [
  ⟨some 4, none, .mv, [.t 0]⟩,
  ⟨some 5, none, .call 35, [.t 4, .k (pI 27), .k (pI 3), .k (pI 4), .k (pI 1005)]⟩] [0])
  (.seq (.region false [
  ⟨some 6, none, .mv, [.t 0]⟩,
  ⟨some 7, none, .call 31, [.t 6, .k (pI 6), .k (pI 3), .k (pI 0)]⟩] [0])
  (.seq (.region false [
  ⟨some 8, none, .mv, [.t 0]⟩,
  ⟨some 9, none, .call 51, [.t 8, .k (pI 16), .k (pI 7), .k (pI 6), .k (pI 7)]⟩] [0])
  (.seq (.region false [
  ⟨some 10, none, .mv, [.t 0]⟩,
  ⟨some 11, none, .call 33, [.t 10, .k (pI 8), .k (pI 1)]⟩] [0])
  (.seq (.region false [
  ⟨some 12, none, .mv, [.t 0]⟩,
  ⟨some 13, none, .call 35, [.t 12, .k (pI 25), .k (pI 7), .k (pI 8), .k (pI 1004)]⟩] [0])
  (.seq (.region false [
  ⟨some 14, none, .mv, [.t 0]⟩,
  ⟨some 15, none, .call 51, [.t 14, .k (pI 19), .k (pI 7), .k (pI 6), .k (pI 3)]⟩] [0])
  (.seq (.region false [
  ⟨some 16, none, .mv, [.t 0]⟩,
  ⟨some 17, none, .call 31, [.t 16, .k (pI 9), .k (pI 7), .k (pI 0)]⟩] [0])
  (.seq (.region false [
  ⟨some 18, none, .mv, [.t 0]⟩,
  ⟨some 19, none, .call 51, [.t 18, .k (pI 16), .k (pI 10), .k (pI 9), .k (pI 7)]⟩] [0])
  (.seq (.region false [
  ⟨some 20, none, .mv, [.t 0]⟩,
  ⟨some 21, none, .call 35, [.t 20, .k (pI 24), .k (pI 10), .k (pI 8), .k (pI 1007)]⟩] [0])
  (.seq (.region false [
  ⟨some 22, none, .mv, [.t 0]⟩,
  ⟨some 23, none, .call 51, [.t 22, .k (pI 19), .k (pI 10), .k (pI 9), .k (pI 6)]⟩] [0])
  (.seq (.region false [
  ⟨some 24, none, .mv, [.t 0]⟩,
  ⟨some 25, none, .call 51, [.t 24, .k (pI 18), .k (pI 6), .k (pI 1), .k (pI 3)]⟩] [0])
  (.seq (.region false [
  ⟨some 26, none, .mv, [.t 0]⟩,
  ⟨some 27, none, .call 51, [.t 26, .k (pI 17), .k (pI 6), .k (pI 6), .k (pI 1)]⟩] [0])
  (.seq (.region false [
  ⟨some 28, none, .mv, [.t 0]⟩,
  ⟨some 29, none, .call 30, [.t 28, .k (pI 9), .k (pI 1), .k (pI 0)]⟩] [0])
  (.seq (.region false [
  ⟨some 30, none, .mv, [.t 0]⟩,
  ⟨some 31, none, .call 30, [.t 30, .k (pI 6), .k (pI 7), .k (pI 0)]⟩] [0])
  (.seq (.region false [
  ⟨some 32, none, .mv, [.t 0]⟩,
  ⟨some 33, none, .call 30, [.t 32, .k (pI 6), .k (pI 3), .k (pI 0)]⟩] [0])
  (.seq (.region false [
  ⟨some 34, none, .mv, [.t 0]⟩,
  ⟨some 35, none, .call 51, [.t 34, .k (pI 15), .k (pI 1), .k (pI 1), .k (pI 1)]⟩] [0])
  (.seq (.region false [
  ⟨some 36, none, .mv, [.t 0]⟩,
  ⟨some 37, none, .call 27, [.t 36, .k (pI 1006)]⟩] [0])
  (.seq (.region false [
  ⟨some 38, none, .mv, [.t 0]⟩,
  ⟨some 39, none, .call 35, [.t 38, .k (pI 24), .k (pI 10), .k (pI 0), .k (pI 1004)]⟩] [0])
  (.seq (.region false [
  ⟨some 40, none, .mv, [.t 0]⟩,
  ⟨some 41, none, .call 51, [.t 40, .k (pI 15), .k (pI 7), .k (pI 7), .k (pI 1)]⟩] [0])
  (.seq (.region false [
  ⟨some 42, none, .mv, [.t 0]⟩,
  ⟨some 43, none, .call 31, [.t 42, .k (pI 9), .k (pI 7), .k (pI 0)]⟩] [0])
  (.seq (.region false [
  ⟨some 44, none, .mv, [.t 0]⟩,
  ⟨some 45, none, .call 30, [.t 44, .k (pI 9), .k (pI 1), .k (pI 0)]⟩] [0])
  (.seq (.region false [
  ⟨some 46, none, .mv, [.t 0]⟩,
  ⟨some 47, none, .call 51, [.t 46, .k (pI 15), .k (pI 1), .k (pI 1), .k (pI 1)]⟩] [0])
  (.seq (.region false [
  ⟨some 48, none, .mv, [.t 0]⟩,
  ⟨some 49, none, .call 51, [.t 48, .k (pI 15), .k (pI 10), .k (pI 10), .k (pI (-1))]⟩] [0])
  (.seq (.region false [
  ⟨some 50, none, .mv, [.t 0]⟩,
  ⟨some 51, none, .call 36, [.t 50, .k (pI 1006)]⟩] [0])
  (.seq (.region false [
  ⟨some 52, none, .mv, [.t 0]⟩,
  ⟨some 53, none, .call 27, [.t 52, .k (pI 1007)]⟩] [0])
  (.seq (.region false [
  ⟨some 54, none, .mv, [.t 0]⟩,
  ⟨some 55, none, .call 30, [.t 54, .k (pI 9), .k (pI 3), .k (pI 0)]⟩] [0])
  (.seq (.region false [
  ⟨some 56, none, .mv, [.t 0]⟩,
  ⟨some 57, none, .call 27, [.t 56, .k (pI 1004)]⟩] [0])
  (.seq (.region false [
  ⟨some 58, none, .mv, [.t 0]⟩,
  ⟨some 59, none, .call 51, [.t 58, .k (pI 15), .k (pI 3), .k (pI 3), .k (pI 1)]⟩] [0])
  (.seq (.region false [
  ⟨some 60, none, .mv, [.t 0]⟩,
  ⟨some 61, none, .call 36, [.t 60, .k (pI 1003)]⟩] [0])
  (.seq (.region false [
  ⟨some 62, none, .mv, [.t 0]⟩,
  ⟨some 63, none, .call 27, [.t 62, .k (pI 1005)]⟩] [0])
  (.region false [
  ⟨some 64, none, .mv, [.t 0]⟩,
  ⟨some 65, none, .call 39, [.t 64, .k (pI 5)]⟩] []))))))))))))))))))))))))))))))))⟩
/-- scrimshaw/scrimshawref23.pushed -/
def x41 : XFunc := ⟨3, [.tmp 6],
  (.seq (.region false [
  ⟨some 6, none, .mv, [.kn 8]⟩] [0, 1, 2])
  (.seq (.region false [
  ⟨some 9, none, .blds 8 [(pI 0), (pI 0), (pI 0), (pI 0), (pI 0), (pI 0), (pI 0), (pI 0)] 0 [], []⟩,
  ⟨some 7, none, .mv, [.tk 9]⟩] [0, 1, 2, 7])
  (.seq (.seq (.region false [
  ⟨some 8, none, .mv, [.k (pI 0)]⟩] [0, 1, 2, 7, 8])
  (.block 0 (.loop [0, 1, 2, 7, 8] [] (.seq (.seq (.region false [
  ⟨some 10, none, .mv, [.t 8]⟩,
  ⟨some 11, none, .mv, [.t 0]⟩,
  ⟨some 12, none, .bin .lss false, [.t 10, .t 11]⟩] [0, 1, 2, 7, 8, 12])
  (.cond (.t 12)
  .skip
  (.exit 0)))
  (.seq (.block 1 (.region false [
  ⟨some 15, none, .mv, [.tk 7]⟩,
  ⟨some 16, none, .mv, [.t 1]⟩,
  ⟨some 17, none, .mv, [.t 8]⟩,
  ⟨some 18, none, .bin .add false, [.t 16, .t 17]⟩,
  ⟨some 19, none, .bin .mul false, [.k (pI 8), .t 18]⟩,
  ⟨some 20, none, .call 17, [.k (pI 26), .t 19]⟩,
  ⟨some 21, none, .mv, [.t 8]⟩,
  ⟨some 22, none, .call 14, [.k (pI 23), .k (pI 26), .k (pI 30), .t 21]⟩,
  ⟨some 23, none, .blds 8 [(pI 0), (pI 0), (pI 0), (pI 0), (pI 0), (pI 0), (pI 0), (pI 0)] 2 [0, 1], [.t 20, .t 22]⟩,
  ⟨some 24, none, .app 8 64, [.tk 15, .t 23]⟩,
  ⟨some 7, none, .mv, [.tk 24]⟩] [0, 1, 2, 7, 8]))
  (.region false [
  ⟨some 13, none, .mv, [.t 8]⟩,
  ⟨some 14, none, .bin .add false, [.t 13, .k (pI 1)]⟩,
  ⟨some 8, none, .mv, [.t 14]⟩] [0, 1, 2, 7, 8]))))))
  (.seq (.region false [
  ⟨some 25, none, .mv, [.tk 7]⟩,
  ⟨some 26, none, .mv, [.t 2]⟩,
  ⟨some 27, none, .call 16, [.k (pI 26), .t 26]⟩,
  ⟨some 28, none, .call 14, [.k (pI 18), .k (pI 26), .k (pI 26), .k (pI 15)]⟩,
  ⟨some 29, none, .mv, [.t 0]⟩,
  ⟨some 30, none, .bin .mul false, [.k (pI 8), .t 29]⟩,
  ⟨some 31, none, .call 14, [.k (pI 15), .k (pI 26), .k (pI 26), .t 30]⟩,
  ⟨some 32, none, .mv, [.t 0]⟩,
  ⟨some 33, none, .call 14, [.k (pI 23), .k (pI 26), .k (pI 30), .t 32]⟩,
  ⟨some 34, none, .mv, [.t 0]⟩,
  ⟨some 35, none, .bin .add false, [.t 34, .k (pI 1)]⟩,
  ⟨some 36, none, .call 14, [.k (pI 15), .k (pI 30), .k (pI 30), .t 35]⟩,
  ⟨some 37, none, .blds 8 [(pI 0), (pI 0), (pI 0), (pI 0), (pI 0), (pI 0), (pI 0), (pI 0)] 5 [0, 1, 2, 3, 4], [.t 27, .t 28, .t 31, .t 33, .t 36]⟩,
  ⟨some 38, none, .app 8 64, [.tk 25, .t 37]⟩,
  ⟨some 6, none, .mv, [.tk 38]⟩] [6])
  .ret))))⟩
/-- scrimshaw/scrimshawref23.B -/
def x42 : XFunc := ⟨4, [.cell 8 true 8],
  (.seq (.region false [
  ⟨some 8, none, .alloc 0 true [(pI 0), (pI 0), (pI 0), (pI 0), (pI 0), (pI 0), (pI 0), (pI 0)], []⟩] [0, 1, 2, 3, 8])
  (.seq (.region false [
  ⟨some 9, none, .mv, [.t 0]⟩,
  ⟨some 10, none, .mv, [.t 1]⟩,
  ⟨some 11, none, .mv, [.t 2]⟩,
  ⟨some 12, none, .bld [(pI 0), (pI 0), (pI 0), (pI 0), (pI 0)] [(0, 1), (1, 1), (2, 1)], [.t 9, .t 10, .t 11]⟩,
  ⟨some 13, none, .mv, [.t 3]⟩,
  ⟨some 14, none, .bld [(pI 0), (pI 0), (pI 0), (pI 0), (pI 0), (pI 0), (pI 0), (pI 0)] [(0, 1), (1, 5), (6, 1)], [.k (pI 2), .t 12, .t 13]⟩,
  ⟨none, none, .st 8, [.t 8, .t 14]⟩] [8])
  .ret))⟩
/-- scrimshaw/scrimshawref21.Names -/
def x43 : XFunc := ⟨1, [.tmp 2],
  (.seq (.region false [
  ⟨some 1, none, .box 0, [.t 0]⟩,
  ⟨some 2, none, .mv, [.k (pB false)]⟩] [1])
  (.seq (.region false [
  ⟨some 3, none, .fa 0, [.t 1]⟩,
  ⟨some 4, none, .ld false 1 false, [.t 3]⟩,
  ⟨some 5, none, .bin .eql false, [.t 4, .k (pI 2)]⟩,
  ⟨some 6, none, .mv, [.t 5]⟩,
  ⟨some 7, (some (6, false)), .fa 0, [.t 1]⟩,
  ⟨some 8, (some (6, false)), .ld false 1 false, [.t 7]⟩,
  ⟨some 9, (some (6, false)), .bin .eql false, [.t 8, .k (pI 3)]⟩,
  ⟨some 10, none, .pick, [.t 6, .k (pB true), .t 9]⟩,
  ⟨some 11, none, .mv, [.t 10]⟩,
  ⟨some 12, (some (11, false)), .fa 0, [.t 1]⟩,
  ⟨some 13, (some (11, false)), .ld false 1 false, [.t 12]⟩,
  ⟨some 14, (some (11, false)), .bin .eql false, [.t 13, .k (pI 5)]⟩,
  ⟨some 15, none, .pick, [.t 11, .k (pB true), .t 14]⟩,
  ⟨some 2, none, .mv, [.t 15]⟩] [2])
  .ret))⟩
/-- scrimshaw/scrimshawref21.Assemble -/
def x44 : XFunc := ⟨1, [.tmp 2, .tmp 3, .tmp 4],
  (.seq (.region false [
  ⟨some 2, none, .mv, [.kn 1]⟩,
  ⟨some 3, none, .mv, [.kn 1]⟩,
  ⟨some 4, none, .mv, [.k (pI 0)]⟩] [0])
  (.seq (.seq (.region false [
  ⟨some 16, none, .mv, [.t 0]⟩,
  ⟨some 17, none, .lenL, [.t 16]⟩,
  ⟨some 18, none, .bin .gtr false, [.t 17, .k (pI 65536)]⟩] [0, 18])
  (.cond (.t 18)
  (.seq (.region false [
  ⟨some 2, none, .mv, [.kn 1]⟩,
  ⟨some 3, none, .mv, [.kn 1]⟩,
  ⟨some 4, none, .mv, [.k (pI 213)]⟩] [2, 3, 4])
  .ret)
  .skip))
  (.seq (.seq (.region false [
  ⟨some 5, none, .mv, [.k (pI 0)]⟩] [0, 5])
  (.block 0 (.loop [0, 5] [] (.seq (.seq (.region false [
  ⟨some 19, none, .mv, [.t 5]⟩,
  ⟨some 20, none, .mv, [.t 0]⟩,
  ⟨some 21, none, .lenL, [.t 20]⟩,
  ⟨some 22, none, .bin .lss false, [.t 19, .t 21]⟩] [0, 5, 22])
  (.cond (.t 22)
  .skip
  (.exit 0)))
  (.seq (.block 1 (.seq (.seq (.region false [
  ⟨some 25, none, .mv, [.t 0]⟩,
  ⟨some 26, none, .mv, [.t 5]⟩,
  ⟨some 27, none, .ia 8, [.t 25, .t 26]⟩,
  ⟨some 28, none, .ld true 8 false, [.t 27]⟩,
  ⟨some 29, none, .call 54, [.t 28]⟩,
  ⟨some 30, none, .un .not, [.t 29]⟩] [0, 5, 30])
  (.cond (.t 30)
  (.seq (.region false [
  ⟨some 2, none, .mv, [.kn 1]⟩,
  ⟨some 3, none, .mv, [.kn 1]⟩,
  ⟨some 4, none, .mv, [.k (pI 210)]⟩] [2, 3, 4])
  .ret)
  .skip))
  (.seq (.regionD [
  ⟨⟨some 31, none, .mv, [.t 0]⟩, [], false⟩,
  ⟨⟨some 32, none, .mv, [.t 5]⟩, [], false⟩,
  ⟨⟨some 33, none, .ia 8, [.t 31, .t 32]⟩, [], false⟩,
  ⟨⟨some 34, none, .fa 0, [.t 33]⟩, [], false⟩,
  ⟨⟨some 35, none, .ld false 1 false, [.t 34]⟩, [], false⟩,
  ⟨⟨some 36, none, .bin .eql false, [.t 35, .k (pI 1)]⟩, [], false⟩,
  ⟨⟨some 37, none, .mv, [.t 36]⟩, [], false⟩,
  ⟨⟨some 38, (some (37, true)), .mv, [.t 0]⟩, [], false⟩,
  ⟨⟨some 39, (some (37, true)), .mv, [.t 5]⟩, [], false⟩,
  ⟨⟨some 40, (some (37, true)), .slL 8 false true, [.t 38, .t 39]⟩, [], false⟩,
  ⟨⟨some 41, (some (37, true)), .mv, [.t 0]⟩, [], false⟩,
  ⟨⟨some 42, (some (37, true)), .mv, [.t 5]⟩, [], false⟩,
  ⟨⟨some 43, (some (37, true)), .ia 8, [.t 41, .t 42]⟩, [], false⟩,
  ⟨⟨some 44, (some (37, true)), .fa 6, [.t 43]⟩, [], false⟩,
  ⟨⟨some 45, (some (37, true)), .ld false 1 false, [.t 44]⟩, [], false⟩,
  ⟨⟨some 46, (some (37, true)), .call 55, [.t 40, .t 45]⟩, [], false⟩,
  ⟨⟨some 47, (some (37, true)), .bin .geq false, [.t 46, .k (pI 0)]⟩, [], false⟩,
  ⟨⟨some 48, none, .pick, [.t 37, .t 47, .k (pB false)]⟩, [], false⟩] [0, 5, 48])
  (.cond (.t 48)
  (.seq (.region false [
  ⟨some 2, none, .mv, [.kn 1]⟩,
  ⟨some 3, none, .mv, [.kn 1]⟩,
  ⟨some 4, none, .mv, [.k (pI 211)]⟩] [2, 3, 4])
  .ret)
  .skip))))
  (.region false [
  ⟨some 23, none, .mv, [.t 5]⟩,
  ⟨some 24, none, .bin .add false, [.t 23, .k (pI 1)]⟩,
  ⟨some 5, none, .mv, [.t 24]⟩] [0, 5]))))))
  (.seq (.seq (.region false [
  ⟨some 6, none, .mv, [.k (pI 0)]⟩] [0, 6])
  (.block 2 (.loop [0, 6] [] (.seq (.seq (.region false [
  ⟨some 49, none, .mv, [.t 6]⟩,
  ⟨some 50, none, .mv, [.t 0]⟩,
  ⟨some 51, none, .lenL, [.t 50]⟩,
  ⟨some 52, none, .bin .lss false, [.t 49, .t 51]⟩] [0, 6, 52])
  (.cond (.t 52)
  .skip
  (.exit 2)))
  (.seq (.block 3 (.seq (.region false [
  ⟨some 55, none, .mv, [.t 0]⟩,
  ⟨some 56, none, .mv, [.t 6]⟩,
  ⟨some 57, none, .ia 8, [.t 55, .t 56]⟩,
  ⟨some 58, none, .ld true 8 false, [.t 57]⟩,
  ⟨some 59, none, .call 43, [.t 58]⟩,
  ⟨some 60, none, .mv, [.t 59]⟩,
  ⟨some 61, (some (60, true)), .mv, [.t 0]⟩,
  ⟨some 62, (some (60, true)), .mv, [.t 0]⟩,
  ⟨some 63, (some (60, true)), .mv, [.t 6]⟩,
  ⟨some 64, (some (60, true)), .ia 8, [.t 62, .t 63]⟩,
  ⟨some 65, (some (60, true)), .fa 6, [.t 64]⟩,
  ⟨some 66, (some (60, true)), .ld false 1 false, [.t 65]⟩,
  ⟨some 67, (some (60, true)), .call 55, [.t 61, .t 66]⟩,
  ⟨some 68, (some (60, true)), .bin .lss false, [.t 67, .k (pI 0)]⟩,
  ⟨some 69, none, .pick, [.t 60, .t 68, .k (pB false)]⟩] [0, 6, 69])
  (.cond (.t 69)
  (.seq (.region false [
  ⟨some 2, none, .mv, [.kn 1]⟩,
  ⟨some 3, none, .mv, [.kn 1]⟩,
  ⟨some 4, none, .mv, [.k (pI 212)]⟩] [2, 3, 4])
  .ret)
  .skip)))
  (.region false [
  ⟨some 53, none, .mv, [.t 6]⟩,
  ⟨some 54, none, .bin .add false, [.t 53, .k (pI 1)]⟩,
  ⟨some 6, none, .mv, [.t 54]⟩] [0, 6]))))))
  (.seq (.region false [
  ⟨some 71, none, .mv, [.t 0]⟩,
  ⟨some 72, none, .call 56, [.tk 71]⟩,
  ⟨some 70, none, .mv, [.tk 72]⟩,
  ⟨some 73, none, .ext 0, [.t 70]⟩,
  ⟨some 74, none, .ext 1, [.tk 70]⟩,
  ⟨some 7, none, .mv, [.tk 73]⟩,
  ⟨some 8, none, .mv, [.tk 74]⟩] [0, 7, 8])
  (.seq (.region false [
  ⟨some 75, none, .blds 1 [(pK .u32 0)] 0 [], []⟩,
  ⟨some 9, none, .mv, [.tk 75]⟩] [0, 7, 8, 9])
  (.seq (.seq (.region false [
  ⟨some 10, none, .mv, [.k (pI 0)]⟩] [0, 7, 8, 9, 10])
  (.block 4 (.loop [0, 7, 8, 9, 10] [] (.seq (.seq (.region false [
  ⟨some 76, none, .mv, [.t 10]⟩,
  ⟨some 77, none, .mv, [.t 0]⟩,
  ⟨some 78, none, .lenL, [.t 77]⟩,
  ⟨some 79, none, .bin .lss false, [.t 76, .t 78]⟩] [0, 7, 8, 9, 10, 79])
  (.cond (.t 79)
  .skip
  (.exit 4)))
  (.seq (.block 5 (.seq (.region false [
  ⟨some 11, none, .mv, [.k (pI 0)]⟩] [0, 7, 8, 9, 10, 11])
  (.seq (.seq (.region false [
  ⟨some 82, none, .mv, [.t 0]⟩,
  ⟨some 83, none, .mv, [.t 10]⟩,
  ⟨some 84, none, .ia 8, [.t 82, .t 83]⟩,
  ⟨some 85, none, .ld true 8 false, [.t 84]⟩,
  ⟨some 86, none, .call 43, [.t 85]⟩] [0, 7, 8, 9, 10, 11, 86])
  (.cond (.t 86)
  (.region false [
  ⟨some 87, none, .mv, [.t 8]⟩,
  ⟨some 88, none, .mv, [.t 0]⟩,
  ⟨some 89, none, .mv, [.t 0]⟩,
  ⟨some 90, none, .mv, [.t 10]⟩,
  ⟨some 91, none, .ia 8, [.t 89, .t 90]⟩,
  ⟨some 92, none, .fa 6, [.t 91]⟩,
  ⟨some 93, none, .ld false 1 false, [.t 92]⟩,
  ⟨some 94, none, .call 55, [.tk 88, .t 93]⟩,
  ⟨some 95, none, .ia 1, [.t 87, .t 94]⟩,
  ⟨some 96, none, .ld false 1 false, [.t 95]⟩,
  ⟨some 11, none, .mv, [.t 96]⟩] [0, 7, 8, 9, 10, 11])
  .skip))
  (.seq (.regionD [
  ⟨⟨some 97, none, .mv, [.t 0]⟩, [], false⟩,
  ⟨⟨some 98, none, .mv, [.t 10]⟩, [], false⟩,
  ⟨⟨some 99, none, .ia 8, [.t 97, .t 98]⟩, [], false⟩,
  ⟨⟨some 100, none, .ld true 8 false, [.t 99]⟩, [], false⟩,
  ⟨⟨some 101, none, .mv, [.t 7]⟩, [], false⟩,
  ⟨⟨some 102, none, .mv, [.t 10]⟩, [], false⟩,
  ⟨⟨some 103, none, .ia 1, [.t 101, .t 102]⟩, [], false⟩,
  ⟨⟨some 104, none, .ld false 1 false, [.t 103]⟩, [], false⟩,
  ⟨⟨some 105, none, .mv, [.t 8]⟩, [], false⟩,
  ⟨⟨some 106, none, .mv, [.t 10]⟩, [], false⟩,
  ⟨⟨some 107, none, .ia 1, [.t 105, .t 106]⟩, [], false⟩,
  ⟨⟨some 108, none, .ld false 1 false, [.t 107]⟩, [], false⟩,
  ⟨⟨some 109, none, .mv, [.t 11]⟩, [], false⟩,
  ⟨⟨some 110, none, .call 57, [.t 100, .t 104, .t 108, .t 109]⟩, [], false⟩,
  ⟨⟨some 12, none, .mv, [.tk 110]⟩, [], false⟩] [0, 7, 8, 9, 10, 12])
  (.seq (.region false [
  ⟨some 13, none, .mv, [.k (pI 0)]⟩] [0, 7, 8, 9, 10, 12, 13])
  (.block 6 (.loop [0, 7, 8, 9, 10, 12, 13] [] (.seq (.seq (.region false [
  ⟨some 111, none, .mv, [.t 13]⟩,
  ⟨some 112, none, .mv, [.t 12]⟩,
  ⟨some 113, none, .lenL, [.t 112]⟩,
  ⟨some 114, none, .bin .lss false, [.t 111, .t 113]⟩] [0, 7, 8, 9, 10, 12, 13, 114])
  (.cond (.t 114)
  .skip
  (.exit 6)))
  (.seq (.block 7 (.seq (.region false [
  ⟨some 118, none, .mv, [.t 12]⟩,
  ⟨some 119, none, .mv, [.t 13]⟩,
  ⟨some 120, none, .ia 5, [.t 118, .t 119]⟩,
  ⟨some 121, none, .ld true 5 false, [.t 120]⟩,
  ⟨some 122, none, .call 58, [.t 121]⟩,
  ⟨some 117, none, .mv, [.t 122]⟩,
  ⟨some 123, none, .ext 0, [.t 117]⟩,
  ⟨some 124, none, .ext 1, [.t 117]⟩,
  ⟨some 14, none, .mv, [.t 123]⟩,
  ⟨some 15, none, .mv, [.t 124]⟩] [0, 7, 8, 9, 10, 12, 13, 14])
  (.region false [
  ⟨some 125, none, .mv, [.tk 9]⟩,
  ⟨some 126, none, .mv, [.t 14]⟩,
  ⟨some 127, none, .blds 1 [(pK .u32 0)] 1 [0], [.t 126]⟩,
  ⟨some 128, none, .app 1 4, [.tk 125, .t 127]⟩,
  ⟨some 9, none, .mv, [.tk 128]⟩] [0, 7, 8, 9, 10, 12, 13])))
  (.region false [
  ⟨some 115, none, .mv, [.t 13]⟩,
  ⟨some 116, none, .bin .add false, [.t 115, .k (pI 1)]⟩,
  ⟨some 13, none, .mv, [.t 116]⟩] [0, 7, 8, 9, 10, 12, 13]))))))))))
  (.region false [
  ⟨some 80, none, .mv, [.t 10]⟩,
  ⟨some 81, none, .bin .add false, [.t 80, .k (pI 1)]⟩,
  ⟨some 10, none, .mv, [.t 81]⟩] [0, 7, 8, 9, 10]))))))
  (.seq (.regionD [
  ⟨⟨some 129, none, .mv, [.tk 9]⟩, [], false⟩,
  ⟨⟨some 130, none, .mv, [.tk 8]⟩, [], false⟩,
  ⟨⟨some 131, none, .mv, [.tk 0]⟩, [], false⟩,
  ⟨⟨some 132, none, .lenL, [.t 131]⟩, [], false⟩,
  ⟨⟨some 133, none, .slL 1 false true, [.t 130, .t 132]⟩, [], false⟩,
  ⟨⟨some 2, none, .mv, [.tk 129]⟩, [], false⟩,
  ⟨⟨some 3, none, .mv, [.tk 133]⟩, [], false⟩,
  ⟨⟨some 4, none, .mv, [.k (pI 0)]⟩, [], false⟩] [2, 3, 4])
  .ret))))))))⟩
/-- scrimshaw/scrimshawref20.Decode -/
def x45 : XFunc := ⟨1, [.cell 2 true 5, .tmp 3],
  (.seq (.region false [
  ⟨some 2, none, .alloc 0 true [(pI 0), (pI 0), (pI 0), (pI 0), (pI 0)], []⟩,
  ⟨some 3, none, .mv, [.k (pB false)]⟩] [0, 2])
  (.seq (.region false [
  ⟨some 10, none, .mv, [.t 0]⟩,
  ⟨some 11, none, .cvi .i64, [.t 10]⟩,
  ⟨some 4, none, .mv, [.t 11]⟩] [0, 2, 4])
  (.seq (.region false [
  ⟨some 12, none, .call 59, []⟩,
  ⟨some 5, none, .mv, [.tk 12]⟩] [0, 2, 4, 5])
  (.seq (.region false [
  ⟨some 13, none, .mv, [.t 4]⟩,
  ⟨some 14, none, .bin .quo false, [.t 13, .k (pI 67108864)]⟩,
  ⟨some 15, none, .bld [(pI 0), (pI 0), (pI 0), (pI 0), (pI 0)] [(0, 1)], [.t 14]⟩,
  ⟨some 6, none, .alloc 1 true [(pI 0), (pI 0), (pI 0), (pI 0), (pI 0)], []⟩,
  ⟨none, none, .st 5, [.t 6, .t 15]⟩] [0, 2, 4, 5, 6])
  (.seq (.seq (.region false [
  ⟨some 16, none, .fa 0, [.t 6]⟩,
  ⟨some 17, none, .ld false 1 false, [.t 16]⟩,
  ⟨some 18, none, .mv, [.t 5]⟩,
  ⟨some 19, none, .lenL, [.t 18]⟩,
  ⟨some 20, none, .bin .geq false, [.t 17, .t 19]⟩] [0, 2, 4, 5, 6, 20])
  (.cond (.t 20)
  (.seq (.region false [
  ⟨some 21, none, .bld [(pI 0), (pI 0), (pI 0), (pI 0), (pI 0)] [], []⟩,
  ⟨none, none, .st 5, [.t 2, .t 21]⟩,
  ⟨some 3, none, .mv, [.k (pB false)]⟩] [2, 3])
  .ret)
  .skip))
  (.seq (.region false [
  ⟨some 22, none, .mv, [.tk 5]⟩,
  ⟨some 23, none, .fa 0, [.t 6]⟩,
  ⟨some 24, none, .ld false 1 false, [.t 23]⟩,
  ⟨some 25, none, .ia 6, [.t 22, .t 24]⟩,
  ⟨some 26, none, .ld true 6 false, [.t 25]⟩,
  ⟨some 7, none, .alloc 2 true [(pB false), (pB false), (pB false), (pK .u64 0), (pI 0), (pI 0)], []⟩,
  ⟨none, none, .st 6, [.t 7, .t 26]⟩] [0, 2, 4, 6, 7])
  (.seq (.region false [
  ⟨some 27, none, .mv, [.t 4]⟩,
  ⟨some 28, none, .bin .quo false, [.t 27, .k (pI 2097152)]⟩,
  ⟨some 29, none, .bin .rem false, [.t 28, .k (pI 32)]⟩,
  ⟨some 30, none, .fa 1, [.t 6]⟩,
  ⟨none, none, .st 1, [.t 30, .t 29]⟩] [0, 2, 4, 6, 7])
  (.seq (.seq (.region false [
  ⟨some 31, none, .fa 1, [.t 7]⟩,
  ⟨some 32, none, .ld false 1 false, [.t 31]⟩] [0, 2, 4, 6, 7, 32])
  (.cond (.t 32)
  (.region false [
  ⟨some 33, none, .mv, [.t 4]⟩,
  ⟨some 34, none, .bin .quo false, [.t 33, .k (pI 65536)]⟩,
  ⟨some 35, none, .bin .rem false, [.t 34, .k (pI 32)]⟩,
  ⟨some 36, none, .fa 2, [.t 6]⟩,
  ⟨none, none, .st 1, [.t 36, .t 35]⟩] [0, 2, 4, 6, 7])
  .skip))
  (.seq (.seq (.region false [
  ⟨some 37, none, .fa 2, [.t 7]⟩,
  ⟨some 38, none, .ld false 1 false, [.t 37]⟩] [0, 2, 4, 6, 7, 38])
  (.cond (.t 38)
  (.region false [
  ⟨some 39, none, .mv, [.t 4]⟩,
  ⟨some 40, none, .bin .quo false, [.t 39, .k (pI 2048)]⟩,
  ⟨some 41, none, .bin .rem false, [.t 40, .k (pI 32)]⟩,
  ⟨some 42, none, .fa 3, [.t 6]⟩,
  ⟨none, none, .st 1, [.t 42, .t 41]⟩] [0, 2, 4, 6, 7])
  .skip))
  (.seq (.seq (.region false [
  ⟨some 43, none, .fa 3, [.t 7]⟩,
  ⟨some 44, none, .ld false 1 false, [.t 43]⟩,
  ⟨some 45, none, .bin .gtr false, [.t 44, .k (pK .u64 0)]⟩] [0, 2, 4, 6, 7, 45])
  (.cond (.t 45)
  (.seq (.region false [
  ⟨some 46, none, .mv, [.t 4]⟩,
  ⟨some 47, none, .fa 3, [.t 7]⟩,
  ⟨some 48, none, .ld false 1 false, [.t 47]⟩,
  ⟨some 49, none, .bin .shl false, [.k (pI 1), .t 48]⟩,
  ⟨some 50, none, .bin .rem false, [.t 46, .t 49]⟩,
  ⟨some 51, none, .fa 4, [.t 6]⟩,
  ⟨none, none, .st 1, [.t 51, .t 50]⟩] [0, 2, 6, 7])
  (.seq (.region false [
  ⟨some 52, none, .fa 4, [.t 6]⟩,
  ⟨some 53, none, .ld false 1 false, [.t 52]⟩,
  ⟨some 54, none, .fa 5, [.t 7]⟩,
  ⟨some 55, none, .ld false 1 false, [.t 54]⟩,
  ⟨some 56, none, .bin .gtr false, [.t 53, .t 55]⟩,
  ⟨some 57, none, .mv, [.t 56]⟩,
  ⟨some 58, (some (57, true)), .fa 4, [.t 7]⟩,
  ⟨some 59, (some (57, true)), .ld false 1 false, [.t 58]⟩,
  ⟨some 60, (some (57, true)), .bin .lss false, [.t 59, .k (pI 0)]⟩,
  ⟨some 61, none, .pick, [.t 57, .t 60, .k (pB false)]⟩] [0, 2, 6, 7, 61])
  (.cond (.t 61)
  (.region false [
  ⟨some 62, none, .fa 4, [.t 6]⟩,
  ⟨some 63, none, .ld false 1 false, [.t 62]⟩,
  ⟨some 64, none, .fa 3, [.t 7]⟩,
  ⟨some 65, none, .ld false 1 false, [.t 64]⟩,
  ⟨some 66, none, .bin .shl false, [.k (pI 1), .t 65]⟩,
  ⟨some 67, none, .bin .sub false, [.t 63, .t 66]⟩,
  ⟨some 68, none, .fa 4, [.t 6]⟩,
  ⟨none, none, .st 1, [.t 68, .t 67]⟩] [0, 2, 6])
  .skip)))
  .skip))
  (.seq (.region false [
  ⟨some 70, none, .ld true 5 false, [.t 6]⟩,
  ⟨some 71, none, .call 58, [.t 70]⟩,
  ⟨some 69, none, .mv, [.t 71]⟩,
  ⟨some 72, none, .ext 0, [.t 69]⟩,
  ⟨some 73, none, .ext 1, [.t 69]⟩,
  ⟨some 8, none, .mv, [.t 72]⟩,
  ⟨some 9, none, .mv, [.t 73]⟩] [0, 2, 6, 8, 9])
  (.seq (.seq (.region false [
  ⟨some 74, none, .mv, [.t 9]⟩,
  ⟨some 75, none, .bin .neq false, [.t 74, .k (pI 0)]⟩,
  ⟨some 76, none, .mv, [.t 75]⟩,
  ⟨some 77, (some (76, false)), .mv, [.t 8]⟩,
  ⟨some 78, (some (76, false)), .mv, [.t 0]⟩,
  ⟨some 79, (some (76, false)), .bin .neq false, [.t 77, .t 78]⟩,
  ⟨some 80, none, .pick, [.t 76, .k (pB true), .t 79]⟩] [2, 6, 80])
  (.cond (.t 80)
  (.seq (.region false [
  ⟨some 81, none, .bld [(pI 0), (pI 0), (pI 0), (pI 0), (pI 0)] [], []⟩,
  ⟨none, none, .st 5, [.t 2, .t 81]⟩,
  ⟨some 3, none, .mv, [.k (pB false)]⟩] [2, 3])
  .ret)
  .skip))
  (.seq (.region false [
  ⟨some 82, none, .ld true 5 false, [.t 6]⟩,
  ⟨none, none, .st 5, [.t 2, .t 82]⟩,
  ⟨some 3, none, .mv, [.k (pB true)]⟩] [2, 3])
  .ret)))))))))))))⟩
/-- (*scrimshaw/scrimshawref20.Machine).next -/
def x46 : XFunc := ⟨2, [.tmp 4],
  (.seq (.region false [
  ⟨some 3, none, .box 0, [.t 1]⟩,
  ⟨some 4, none, .mv, [.k (pI 0)]⟩] [0, 3])
  (.seq (.regionD [
  ⟨⟨some 11, none, .mv, [.t 0]⟩, [], false⟩,
  ⟨⟨some 12, none, .fa 1, [.t 3]⟩, [], false⟩,
  ⟨⟨some 13, none, .ld false 1 false, [.t 12]⟩, [], false⟩,
  ⟨⟨some 14, none, .nck, [.t 11]⟩, [], false⟩,
  ⟨⟨some 15, none, .fa 0, [.t 14]⟩, [], false⟩,
  ⟨⟨some 16, none, .fa 5, [.t 15]⟩, [], false⟩,
  ⟨⟨some 17, none, .iaa 1 32, [.t 16, .t 13]⟩, [], false⟩,
  ⟨⟨some 18, none, .ld false 1 false, [.t 17]⟩, [], false⟩,
  ⟨⟨some 5, none, .mv, [.t 18]⟩, [], false⟩] [0, 3, 5])
  (.seq (.regionD [
  ⟨⟨some 19, none, .mv, [.t 0]⟩, [], false⟩,
  ⟨⟨some 20, none, .fa 2, [.t 3]⟩, [], false⟩,
  ⟨⟨some 21, none, .ld false 1 false, [.t 20]⟩, [], false⟩,
  ⟨⟨some 22, none, .nck, [.t 19]⟩, [], false⟩,
  ⟨⟨some 23, none, .fa 0, [.t 22]⟩, [], false⟩,
  ⟨⟨some 24, none, .fa 5, [.t 23]⟩, [], false⟩,
  ⟨⟨some 25, none, .iaa 1 32, [.t 24, .t 21]⟩, [], false⟩,
  ⟨⟨some 26, none, .ld false 1 false, [.t 25]⟩, [], false⟩,
  ⟨⟨some 6, none, .mv, [.t 26]⟩, [], false⟩] [0, 3, 5, 6])
  (.seq (.region false [
  ⟨some 7, none, .mv, [.k (pI 0)]⟩] [0, 3, 5, 6, 7])
  (.seq (.region false [
  ⟨some 8, none, .mv, [.k (pB true)]⟩] [0, 3, 5, 6, 7, 8])
  (.seq (.region false [
  ⟨some 27, none, .mv, [.t 0]⟩,
  ⟨some 28, none, .nck, [.t 27]⟩,
  ⟨some 29, none, .fa 0, [.t 28]⟩,
  ⟨some 30, none, .fa 4, [.t 29]⟩,
  ⟨some 31, none, .ld false 1 false, [.t 30]⟩,
  ⟨some 32, none, .bin .add false, [.t 31, .k (pI 1)]⟩,
  ⟨some 9, none, .mv, [.t 32]⟩] [0, 3, 5, 6, 7, 8, 9])
  (.seq (.seq (.region false [
  ⟨some 33, none, .fa 0, [.t 3]⟩,
  ⟨some 34, none, .ld false 1 false, [.t 33]⟩] [0, 3, 5, 6, 7, 8, 9, 34])
  (.block 0 (.seq (.region false [
  ⟨some 48, none, .bin .eql false, [.t 34, .k (pI 0)]⟩,
  ⟨some 47, none, .mv, [.t 48]⟩] [0, 3, 5, 6, 7, 8, 9, 34, 47])
  (.cond (.t 47)
  (.seq (.region false [
  ⟨some 49, none, .mv, [.t 0]⟩,
  ⟨some 50, none, .mv, [.t 5]⟩,
  ⟨some 51, none, .nck, [.t 49]⟩,
  ⟨some 52, none, .fa 0, [.t 51]⟩,
  ⟨some 53, none, .fa 1, [.t 52]⟩,
  ⟨none, none, .st 1, [.t 53, .t 50]⟩] [0])
  (.seq (.region false [
  ⟨some 54, none, .mv, [.t 0]⟩,
  ⟨some 55, none, .nck, [.t 54]⟩,
  ⟨some 56, none, .fa 0, [.t 55]⟩,
  ⟨some 57, none, .fa 3, [.t 56]⟩,
  ⟨some 58, none, .ld false 1 false, [.t 57]⟩,
  ⟨some 59, none, .bin .add false, [.t 58, .k (pI 1)]⟩,
  ⟨some 60, none, .nck, [.t 54]⟩,
  ⟨some 61, none, .fa 0, [.t 60]⟩,
  ⟨some 62, none, .fa 3, [.t 61]⟩,
  ⟨none, none, .st 1, [.t 62, .t 59]⟩] [])
  (.seq (.region false [
  ⟨some 4, none, .mv, [.k (pI 0)]⟩] [4])
  .ret)))
  (.seq (.seq (.region false [
  ⟨some 64, none, .bin .eql false, [.t 34, .k (pI 5)]⟩,
  ⟨some 63, none, .mv, [.t 64]⟩] [0, 3, 5, 6, 7, 8, 9, 34, 63])
  (.cond (.t 63)
  .skip
  (.region false [
  ⟨some 65, none, .bin .eql false, [.t 34, .k (pI 6)]⟩,
  ⟨some 63, none, .mv, [.t 65]⟩] [0, 3, 5, 6, 7, 8, 9, 34, 63])))
  (.cond (.t 63)
  (.seq (.seq (.regionD [
  ⟨⟨some 66, none, .mv, [.t 0]⟩, [], false⟩,
  ⟨⟨some 67, none, .fa 3, [.t 3]⟩, [], false⟩,
  ⟨⟨some 68, none, .ld false 1 false, [.t 67]⟩, [], false⟩,
  ⟨⟨some 69, none, .nck, [.t 66]⟩, [], false⟩,
  ⟨⟨some 70, none, .fa 0, [.t 69]⟩, [], false⟩,
  ⟨⟨some 71, none, .fa 5, [.t 70]⟩, [], false⟩,
  ⟨⟨some 72, none, .iaa 1 32, [.t 71, .t 68]⟩, [], false⟩,
  ⟨⟨some 73, none, .ld false 1 false, [.t 72]⟩, [], false⟩,
  ⟨⟨some 74, none, .bin .eql false, [.t 73, .k (pI 0)]⟩, [], false⟩] [0, 3, 6, 8, 9, 74])
  (.cond (.t 74)
  (.seq (.region false [
  ⟨some 4, none, .mv, [.k (pI 4)]⟩] [4])
  .ret)
  .skip))
  (.regionD [
  ⟨⟨some 75, none, .fa 0, [.t 3]⟩, [], false⟩,
  ⟨⟨some 76, none, .ld false 1 false, [.t 75]⟩, [], false⟩,
  ⟨⟨some 77, none, .mv, [.t 6]⟩, [], false⟩,
  ⟨⟨some 78, none, .mv, [.t 0]⟩, [], false⟩,
  ⟨⟨some 79, none, .fa 3, [.t 3]⟩, [], false⟩,
  ⟨⟨some 80, none, .ld false 1 false, [.t 79]⟩, [], false⟩,
  ⟨⟨some 81, none, .nck, [.t 78]⟩, [], false⟩,
  ⟨⟨some 82, none, .fa 0, [.t 81]⟩, [], false⟩,
  ⟨⟨some 83, none, .fa 5, [.t 82]⟩, [], false⟩,
  ⟨⟨some 84, none, .iaa 1 32, [.t 83, .t 80]⟩, [], false⟩,
  ⟨⟨some 85, none, .ld false 1 false, [.t 84]⟩, [], false⟩,
  ⟨⟨some 86, none, .call 60, [.t 76, .t 77, .t 85]⟩, [], false⟩,
  ⟨⟨some 7, none, .mv, [.t 86]⟩, [], false⟩] [0, 3, 7, 8, 9]))
  (.seq (.region false [
  ⟨some 88, none, .bin .eql false, [.t 34, .k (pI 15)]⟩,
  ⟨some 87, none, .mv, [.t 88]⟩] [0, 3, 5, 6, 7, 8, 9, 34, 87])
  (.cond (.t 87)
  (.region false [
  ⟨some 89, none, .mv, [.t 6]⟩,
  ⟨some 90, none, .fa 4, [.t 3]⟩,
  ⟨some 91, none, .ld false 1 false, [.t 90]⟩,
  ⟨some 92, none, .bin .add false, [.t 89, .t 91]⟩,
  ⟨some 7, none, .mv, [.t 92]⟩] [0, 3, 7, 8, 9])
  (.seq (.region false [
  ⟨some 94, none, .bin .eql false, [.t 34, .k (pI 16)]⟩,
  ⟨some 93, none, .mv, [.t 94]⟩] [0, 3, 5, 6, 7, 8, 9, 34, 93])
  (.cond (.t 93)
  (.region false [
  ⟨some 95, none, .mv, [.t 6]⟩,
  ⟨some 96, none, .fa 4, [.t 3]⟩,
  ⟨some 97, none, .ld false 1 false, [.t 96]⟩,
  ⟨some 98, none, .bin .and false, [.t 95, .t 97]⟩,
  ⟨some 7, none, .mv, [.t 98]⟩] [0, 3, 7, 8, 9])
  (.seq (.region false [
  ⟨some 100, none, .bin .eql false, [.t 34, .k (pI 17)]⟩,
  ⟨some 99, none, .mv, [.t 100]⟩] [0, 3, 5, 6, 7, 8, 9, 34, 99])
  (.cond (.t 99)
  (.region false [
  ⟨some 101, none, .mv, [.t 6]⟩,
  ⟨some 102, none, .fa 4, [.t 3]⟩,
  ⟨some 103, none, .ld false 1 false, [.t 102]⟩,
  ⟨some 104, none, .bin .or false, [.t 101, .t 103]⟩,
  ⟨some 7, none, .mv, [.t 104]⟩] [0, 3, 7, 8, 9])
  (.seq (.region false [
  ⟨some 106, none, .bin .eql false, [.t 34, .k (pI 18)]⟩,
  ⟨some 105, none, .mv, [.t 106]⟩] [0, 3, 5, 6, 7, 8, 9, 34, 105])
  (.cond (.t 105)
  (.region false [
  ⟨some 107, none, .mv, [.t 6]⟩,
  ⟨some 108, none, .fa 4, [.t 3]⟩,
  ⟨some 109, none, .ld false 1 false, [.t 108]⟩,
  ⟨some 110, none, .cvi .u64, [.t 109]⟩,
  ⟨some 111, none, .bin .shl false, [.t 107, .t 110]⟩,
  ⟨some 7, none, .mv, [.t 111]⟩] [0, 3, 7, 8, 9])
  (.seq (.region false [
  ⟨some 113, none, .bin .eql false, [.t 34, .k (pI 19)]⟩,
  ⟨some 112, none, .mv, [.t 113]⟩] [0, 3, 5, 6, 7, 8, 9, 34, 112])
  (.cond (.t 112)
  (.region false [
  ⟨some 114, none, .mv, [.t 6]⟩,
  ⟨some 115, none, .fa 4, [.t 3]⟩,
  ⟨some 116, none, .ld false 1 false, [.t 115]⟩,
  ⟨some 117, none, .cvi .u64, [.t 116]⟩,
  ⟨some 118, none, .bin .shr false, [.t 114, .t 117]⟩,
  ⟨some 7, none, .mv, [.t 118]⟩] [0, 3, 7, 8, 9])
  (.seq (.region false [
  ⟨some 120, none, .bin .eql false, [.t 34, .k (pI 20)]⟩,
  ⟨some 119, none, .mv, [.t 120]⟩] [0, 3, 5, 6, 7, 8, 9, 34, 119])
  (.cond (.t 119)
  (.region false [
  ⟨some 121, none, .fa 4, [.t 3]⟩,
  ⟨some 122, none, .ld false 1 false, [.t 121]⟩,
  ⟨some 7, none, .mv, [.t 122]⟩] [0, 3, 7, 8, 9])
  (.seq (.region false [
  ⟨some 124, none, .bin .eql false, [.t 34, .k (pI 21)]⟩,
  ⟨some 123, none, .mv, [.t 124]⟩] [0, 3, 5, 6, 7, 8, 9, 34, 123])
  (.cond (.t 123)
  (.region false [
  ⟨some 125, none, .mv, [.t 5]⟩,
  ⟨some 126, none, .bin .mul false, [.t 125, .k (pI 65536)]⟩,
  ⟨some 127, none, .fa 4, [.t 3]⟩,
  ⟨some 128, none, .ld false 1 false, [.t 127]⟩,
  ⟨some 129, none, .bin .or false, [.t 126, .t 128]⟩,
  ⟨some 7, none, .mv, [.t 129]⟩] [0, 3, 7, 8, 9])
  (.seq (.seq (.region false [
  ⟨some 131, none, .bin .eql false, [.t 34, .k (pI 22)]⟩,
  ⟨some 130, none, .mv, [.t 131]⟩] [0, 3, 5, 6, 7, 8, 9, 34, 130])
  (.cond (.t 130)
  .skip
  (.region false [
  ⟨some 132, none, .bin .eql false, [.t 34, .k (pI 23)]⟩,
  ⟨some 130, none, .mv, [.t 132]⟩] [0, 3, 5, 6, 7, 8, 9, 34, 130])))
  (.cond (.t 130)
  (.seq (.region false [
  ⟨some 133, none, .mv, [.t 6]⟩,
  ⟨some 134, none, .fa 4, [.t 3]⟩,
  ⟨some 135, none, .ld false 1 false, [.t 134]⟩,
  ⟨some 136, none, .bin .add false, [.t 133, .t 135]⟩,
  ⟨some 10, none, .mv, [.t 136]⟩] [0, 3, 5, 7, 8, 9, 10])
  (.seq (.seq (.region false [
  ⟨some 137, none, .mv, [.t 10]⟩,
  ⟨some 138, none, .bin .lss false, [.t 137, .k (pI 0)]⟩,
  ⟨some 139, none, .mv, [.t 138]⟩,
  ⟨some 140, (some (139, false)), .mv, [.t 10]⟩,
  ⟨some 141, (some (139, false)), .mv, [.t 0]⟩,
  ⟨some 142, (some (139, false)), .nck, [.t 141]⟩,
  ⟨some 143, (some (139, false)), .fa 0, [.t 142]⟩,
  ⟨some 144, (some (139, false)), .fa 37, [.t 143]⟩,
  ⟨some 145, (some (139, false)), .ld false 1 false, [.t 144]⟩,
  ⟨some 146, (some (139, false)), .lenL, [.t 145]⟩,
  ⟨some 147, (some (139, false)), .bin .geq false, [.t 140, .t 146]⟩,
  ⟨some 148, none, .pick, [.t 139, .k (pB true), .t 147]⟩] [0, 3, 5, 7, 8, 9, 10, 148])
  (.cond (.t 148)
  (.seq (.region false [
  ⟨some 4, none, .mv, [.k (pI 2)]⟩] [4])
  .ret)
  .skip))
  (.seq (.region false [
  ⟨some 149, none, .fa 0, [.t 3]⟩,
  ⟨some 150, none, .ld false 1 false, [.t 149]⟩,
  ⟨some 151, none, .bin .eql false, [.t 150, .k (pI 23)]⟩] [0, 3, 5, 7, 8, 9, 10, 151])
  (.cond (.t 151)
  (.seq (.region false [
  ⟨some 152, none, .mv, [.t 0]⟩,
  ⟨some 153, none, .nck, [.t 152]⟩,
  ⟨some 154, none, .fa 0, [.t 153]⟩,
  ⟨some 155, none, .fa 37, [.t 154]⟩,
  ⟨some 156, none, .ld false 1 false, [.t 155]⟩,
  ⟨some 157, none, .mv, [.t 10]⟩,
  ⟨some 158, none, .mv, [.t 5]⟩,
  ⟨some 159, none, .ia 1, [.t 156, .t 157]⟩,
  ⟨none, none, .st 1, [.t 159, .t 158]⟩] [0, 3, 7, 9])
  (.region false [
  ⟨some 8, none, .mv, [.k (pB false)]⟩] [0, 3, 7, 8, 9]))
  (.region false [
  ⟨some 160, none, .mv, [.t 0]⟩,
  ⟨some 161, none, .nck, [.t 160]⟩,
  ⟨some 162, none, .fa 0, [.t 161]⟩,
  ⟨some 163, none, .fa 37, [.t 162]⟩,
  ⟨some 164, none, .ld false 1 false, [.t 163]⟩,
  ⟨some 165, none, .mv, [.t 10]⟩,
  ⟨some 166, none, .ia 1, [.t 164, .t 165]⟩,
  ⟨some 167, none, .ld false 1 false, [.t 166]⟩,
  ⟨some 7, none, .mv, [.t 167]⟩] [0, 3, 7, 8, 9])))))
  (.seq (.seq (.region false [
  ⟨some 169, none, .bin .eql false, [.t 34, .k (pI 24)]⟩,
  ⟨some 168, none, .mv, [.t 169]⟩] [0, 3, 5, 6, 7, 8, 9, 34, 168])
  (.cond (.t 168)
  .skip
  (.seq (.region false [
  ⟨some 170, none, .bin .eql false, [.t 34, .k (pI 25)]⟩,
  ⟨some 168, none, .mv, [.t 170]⟩] [0, 3, 5, 6, 7, 8, 9, 34, 168])
  (.cond (.t 168)
  .skip
  (.seq (.region false [
  ⟨some 171, none, .bin .eql false, [.t 34, .k (pI 26)]⟩,
  ⟨some 168, none, .mv, [.t 171]⟩] [0, 3, 5, 6, 7, 8, 9, 34, 168])
  (.cond (.t 168)
  .skip
  (.region false [
  ⟨some 172, none, .bin .eql false, [.t 34, .k (pI 27)]⟩,
  ⟨some 168, none, .mv, [.t 172]⟩] [0, 3, 5, 6, 7, 8, 9, 34, 168])))))))
  (.cond (.t 168)
  (.seq (.region false [
  ⟨some 8, none, .mv, [.k (pB false)]⟩] [0, 3, 5, 6, 7, 8, 9])
  (.seq (.region false [
  ⟨some 173, none, .fa 0, [.t 3]⟩,
  ⟨some 174, none, .ld false 1 false, [.t 173]⟩,
  ⟨some 175, none, .bin .eql false, [.t 174, .k (pI 24)]⟩,
  ⟨some 176, none, .mv, [.t 175]⟩,
  ⟨some 177, (some (176, true)), .mv, [.t 5]⟩,
  ⟨some 178, (some (176, true)), .mv, [.t 6]⟩,
  ⟨some 179, (some (176, true)), .bin .eql false, [.t 177, .t 178]⟩,
  ⟨some 180, none, .pick, [.t 176, .t 179, .k (pB false)]⟩,
  ⟨some 181, none, .mv, [.t 180]⟩,
  ⟨some 182, (some (181, false)), .fa 0, [.t 3]⟩,
  ⟨some 183, (some (181, false)), .ld false 1 false, [.t 182]⟩,
  ⟨some 184, (some (181, false)), .bin .eql false, [.t 183, .k (pI 25)]⟩,
  ⟨some 185, (some (181, false)), .mv, [.t 184]⟩,
  ⟨some 186, (some (185, true)), .mv, [.t 5]⟩,
  ⟨some 187, (some (185, true)), .mv, [.t 6]⟩,
  ⟨some 188, (some (185, true)), .bin .neq false, [.t 186, .t 187]⟩,
  ⟨some 189, (some (181, false)), .pick, [.t 185, .t 188, .k (pB false)]⟩,
  ⟨some 190, none, .pick, [.t 181, .k (pB true), .t 189]⟩,
  ⟨some 191, none, .mv, [.t 190]⟩,
  ⟨some 192, (some (191, false)), .fa 0, [.t 3]⟩,
  ⟨some 193, (some (191, false)), .ld false 1 false, [.t 192]⟩,
  ⟨some 194, (some (191, false)), .bin .eql false, [.t 193, .k (pI 26)]⟩,
  ⟨some 195, (some (191, false)), .mv, [.t 194]⟩,
  ⟨some 196, (some (195, true)), .mv, [.t 5]⟩,
  ⟨some 197, (some (195, true)), .mv, [.t 6]⟩,
  ⟨some 198, (some (195, true)), .bin .lss false, [.t 196, .t 197]⟩,
  ⟨some 199, (some (191, false)), .pick, [.t 195, .t 198, .k (pB false)]⟩,
  ⟨some 200, none, .pick, [.t 191, .k (pB true), .t 199]⟩,
  ⟨some 201, none, .mv, [.t 200]⟩,
  ⟨some 202, (some (201, false)), .fa 0, [.t 3]⟩,
  ⟨some 203, (some (201, false)), .ld false 1 false, [.t 202]⟩,
  ⟨some 204, (some (201, false)), .bin .eql false, [.t 203, .k (pI 27)]⟩,
  ⟨some 205, (some (201, false)), .mv, [.t 204]⟩,
  ⟨some 206, (some (205, true)), .mv, [.t 5]⟩,
  ⟨some 207, (some (205, true)), .mv, [.t 6]⟩,
  ⟨some 208, (some (205, true)), .bin .geq false, [.t 206, .t 207]⟩,
  ⟨some 209, (some (201, false)), .pick, [.t 205, .t 208, .k (pB false)]⟩,
  ⟨some 210, none, .pick, [.t 201, .k (pB true), .t 209]⟩] [0, 3, 7, 8, 9, 210])
  (.cond (.t 210)
  (.regionD [
  ⟨⟨some 211, none, .mv, [.t 0]⟩, [], false⟩,
  ⟨⟨some 212, none, .nck, [.t 211]⟩, [], false⟩,
  ⟨⟨some 213, none, .fa 0, [.t 212]⟩, [], false⟩,
  ⟨⟨some 214, none, .fa 4, [.t 213]⟩, [], false⟩,
  ⟨⟨some 215, none, .ld false 1 false, [.t 214]⟩, [], false⟩,
  ⟨⟨some 216, none, .fa 4, [.t 3]⟩, [], false⟩,
  ⟨⟨some 217, none, .ld false 1 false, [.t 216]⟩, [], false⟩,
  ⟨⟨some 218, none, .bin .add false, [.t 215, .t 217]⟩, [], false⟩,
  ⟨⟨some 9, none, .mv, [.t 218]⟩, [], false⟩] [0, 3, 7, 8, 9])
  .skip)))
  (.seq (.region false [
  ⟨some 220, none, .bin .eql false, [.t 34, .k (pI 28)]⟩,
  ⟨some 219, none, .mv, [.t 220]⟩] [0, 3, 5, 6, 7, 8, 9, 34, 219])
  (.cond (.t 219)
  (.seq (.region false [
  ⟨some 221, none, .mv, [.t 9]⟩,
  ⟨some 7, none, .mv, [.t 221]⟩] [0, 3, 7, 8])
  (.regionD [
  ⟨⟨some 222, none, .mv, [.t 0]⟩, [], false⟩,
  ⟨⟨some 223, none, .nck, [.t 222]⟩, [], false⟩,
  ⟨⟨some 224, none, .fa 0, [.t 223]⟩, [], false⟩,
  ⟨⟨some 225, none, .fa 4, [.t 224]⟩, [], false⟩,
  ⟨⟨some 226, none, .ld false 1 false, [.t 225]⟩, [], false⟩,
  ⟨⟨some 227, none, .fa 4, [.t 3]⟩, [], false⟩,
  ⟨⟨some 228, none, .ld false 1 false, [.t 227]⟩, [], false⟩,
  ⟨⟨some 229, none, .bin .add false, [.t 226, .t 228]⟩, [], false⟩,
  ⟨⟨some 9, none, .mv, [.t 229]⟩, [], false⟩] [0, 3, 7, 8, 9]))
  (.seq (.region false [
  ⟨some 231, none, .bin .eql false, [.t 34, .k (pI 29)]⟩,
  ⟨some 230, none, .mv, [.t 231]⟩] [0, 3, 5, 6, 7, 8, 9, 34, 230])
  (.cond (.t 230)
  (.seq (.region false [
  ⟨some 232, none, .mv, [.t 9]⟩,
  ⟨some 7, none, .mv, [.t 232]⟩] [0, 3, 6, 7, 8])
  (.region false [
  ⟨some 233, none, .mv, [.t 6]⟩,
  ⟨some 9, none, .mv, [.t 233]⟩] [0, 3, 7, 8, 9]))
  (.seq (.region false [
  ⟨some 235, none, .bin .eql false, [.t 34, .k (pI 30)]⟩,
  ⟨some 234, none, .mv, [.t 235]⟩] [0, 3, 5, 6, 7, 8, 9, 34, 234])
  (.cond (.t 234)
  (.seq (.region false [
  ⟨some 7, none, .mv, [.k (pI (-1))]⟩] [0, 3, 7, 8, 9])
  (.seq (.region false [
  ⟨some 236, none, .mv, [.t 0]⟩,
  ⟨some 237, none, .nck, [.t 236]⟩,
  ⟨some 238, none, .fa 38, [.t 237]⟩,
  ⟨some 239, none, .ld false 1 false, [.t 238]⟩,
  ⟨some 240, none, .lenS, [.t 239]⟩,
  ⟨some 241, none, .bin .gtr false, [.t 240, .k (pI 0)]⟩] [0, 3, 7, 8, 9, 241])
  (.cond (.t 241)
  (.seq (.region false [
  ⟨some 242, none, .mv, [.t 0]⟩,
  ⟨some 243, none, .nck, [.t 242]⟩,
  ⟨some 244, none, .fa 38, [.t 243]⟩,
  ⟨some 245, none, .ld false 1 false, [.t 244]⟩,
  ⟨some 246, none, .ixs, [.t 245, .k (pI 0)]⟩,
  ⟨some 247, none, .cvi .i64, [.t 246]⟩,
  ⟨some 7, none, .mv, [.t 247]⟩] [0, 3, 7, 8, 9])
  (.region false [
  ⟨some 248, none, .mv, [.t 0]⟩,
  ⟨some 249, none, .mv, [.t 0]⟩,
  ⟨some 250, none, .nck, [.t 249]⟩,
  ⟨some 251, none, .fa 38, [.t 250]⟩,
  ⟨some 252, none, .ld false 1 false, [.t 251]⟩,
  ⟨some 253, none, .slS true false, [.t 252, .k (pI 1)]⟩,
  ⟨some 254, none, .nck, [.t 248]⟩,
  ⟨some 255, none, .fa 38, [.t 254]⟩,
  ⟨none, none, .st 1, [.t 255, .t 253]⟩] [0, 3, 7, 8, 9]))
  .skip)))
  (.seq (.region false [
  ⟨some 257, none, .bin .eql false, [.t 34, .k (pI 31)]⟩,
  ⟨some 256, none, .mv, [.t 257]⟩] [0, 3, 5, 6, 7, 8, 9, 256])
  (.cond (.t 256)
  (.seq (.seq (.region false [
  ⟨some 258, none, .mv, [.t 5]⟩,
  ⟨some 259, none, .bin .lss false, [.t 258, .k (pI 0)]⟩,
  ⟨some 260, none, .mv, [.t 259]⟩,
  ⟨some 261, (some (260, false)), .mv, [.t 5]⟩,
  ⟨some 262, (some (260, false)), .bin .gtr false, [.t 261, .k (pI 255)]⟩,
  ⟨some 263, none, .pick, [.t 260, .k (pB true), .t 262]⟩] [0, 3, 5, 7, 9, 263])
  (.cond (.t 263)
  (.seq (.region false [
  ⟨some 4, none, .mv, [.k (pI 5)]⟩] [4])
  .ret)
  .skip))
  (.seq (.region false [
  ⟨some 264, none, .mv, [.t 0]⟩,
  ⟨some 265, none, .mv, [.t 0]⟩,
  ⟨some 266, none, .nck, [.t 265]⟩,
  ⟨some 267, none, .fa 39, [.t 266]⟩,
  ⟨some 268, none, .ld false 1 true, [.t 267]⟩,
  ⟨some 269, none, .mv, [.t 5]⟩,
  ⟨some 270, none, .cvi .u8, [.t 269]⟩,
  ⟨some 271, none, .blds 1 [(pK .u8 0)] 1 [0], [.t 270]⟩,
  ⟨some 272, none, .app 1 1, [.tk 268, .t 271]⟩,
  ⟨some 273, none, .nck, [.t 264]⟩,
  ⟨some 274, none, .fa 39, [.t 273]⟩,
  ⟨none, none, .st 1, [.t 274, .tk 272]⟩] [0, 3, 7, 9])
  (.region false [
  ⟨some 8, none, .mv, [.k (pB false)]⟩] [0, 3, 7, 8, 9])))
  (.regionD [
  ⟨⟨some 35, none, .fa 0, [.t 3]⟩, [], false⟩,
  ⟨⟨some 36, none, .ld false 1 false, [.t 35]⟩, [], false⟩,
  ⟨⟨some 37, none, .mv, [.t 6]⟩, [], false⟩,
  ⟨⟨some 38, none, .mv, [.t 0]⟩, [], false⟩,
  ⟨⟨some 39, none, .fa 3, [.t 3]⟩, [], false⟩,
  ⟨⟨some 40, none, .ld false 1 false, [.t 39]⟩, [], false⟩,
  ⟨⟨some 41, none, .nck, [.t 38]⟩, [], false⟩,
  ⟨⟨some 42, none, .fa 0, [.t 41]⟩, [], false⟩,
  ⟨⟨some 43, none, .fa 5, [.t 42]⟩, [], false⟩,
  ⟨⟨some 44, none, .iaa 1 32, [.t 43, .t 40]⟩, [], false⟩,
  ⟨⟨some 45, none, .ld false 1 false, [.t 44]⟩, [], false⟩,
  ⟨⟨some 46, none, .call 60, [.t 36, .t 37, .t 45]⟩, [], false⟩,
  ⟨⟨some 7, none, .mv, [.t 46]⟩, [], false⟩] [0, 3, 7, 8, 9])))))))))))))))))))))))))))))))))
  (.seq (.seq (.region false [
  ⟨some 275, none, .mv, [.t 8]⟩,
  ⟨some 276, none, .mv, [.t 275]⟩,
  ⟨some 277, (some (276, true)), .fa 1, [.t 3]⟩,
  ⟨some 278, (some (276, true)), .ld false 1 false, [.t 277]⟩,
  ⟨some 279, (some (276, true)), .bin .neq false, [.t 278, .k (pI 0)]⟩,
  ⟨some 280, none, .pick, [.t 276, .t 279, .k (pB false)]⟩] [0, 3, 7, 9, 280])
  (.cond (.t 280)
  (.regionD [
  ⟨⟨some 281, none, .mv, [.t 0]⟩, [], false⟩,
  ⟨⟨some 282, none, .fa 1, [.t 3]⟩, [], false⟩,
  ⟨⟨some 283, none, .ld false 1 false, [.t 282]⟩, [], false⟩,
  ⟨⟨some 284, none, .mv, [.t 7]⟩, [], false⟩,
  ⟨⟨some 285, none, .nck, [.t 281]⟩, [], false⟩,
  ⟨⟨some 286, none, .fa 0, [.t 285]⟩, [], false⟩,
  ⟨⟨some 287, none, .fa 5, [.t 286]⟩, [], false⟩,
  ⟨⟨some 288, none, .iaa 1 32, [.t 287, .t 283]⟩, [], false⟩,
  ⟨⟨none, none, .st 1, [.t 288, .t 284]⟩, [], false⟩] [0, 9])
  .skip))
  (.seq (.region false [
  ⟨some 289, none, .mv, [.t 0]⟩,
  ⟨some 290, none, .mv, [.t 9]⟩,
  ⟨some 291, none, .nck, [.t 289]⟩,
  ⟨some 292, none, .fa 0, [.t 291]⟩,
  ⟨some 293, none, .fa 4, [.t 292]⟩,
  ⟨none, none, .st 1, [.t 293, .t 290]⟩] [0])
  (.seq (.region false [
  ⟨some 294, none, .mv, [.t 0]⟩,
  ⟨some 295, none, .nck, [.t 294]⟩,
  ⟨some 296, none, .fa 0, [.t 295]⟩,
  ⟨some 297, none, .fa 3, [.t 296]⟩,
  ⟨some 298, none, .ld false 1 false, [.t 297]⟩,
  ⟨some 299, none, .bin .add false, [.t 298, .k (pI 1)]⟩,
  ⟨some 300, none, .nck, [.t 294]⟩,
  ⟨some 301, none, .fa 0, [.t 300]⟩,
  ⟨some 302, none, .fa 3, [.t 301]⟩,
  ⟨none, none, .st 1, [.t 302, .t 299]⟩] [])
  (.seq (.region false [
  ⟨some 4, none, .mv, [.k (pI 6)]⟩] [4])
  .ret)))))))))))⟩
/-- scrimshaw/rt.number -/
def x47 : XFunc := ⟨4, [],
  (.seq (.region false [
  ⟨some 8, none, .mv, [.t 0]⟩,
  ⟨some 9, none, .mv, [.t 1]⟩,
  ⟨some 10, none, .mv, [.t 2]⟩,
  ⟨some 11, none, .call 61, [.t 8, .t 9, .t 10]⟩] [0, 1, 3])
  (.region false [
  ⟨some 12, none, .mv, [.t 0]⟩,
  ⟨some 13, none, .mv, [.t 1]⟩,
  ⟨some 14, none, .mv, [.t 1]⟩,
  ⟨some 15, none, .mv, [.t 3]⟩,
  ⟨some 16, none, .call 51, [.t 12, .k (pI 18), .t 13, .t 14, .t 15]⟩] []))⟩
/-- scrimshaw/rt.need -/
def x48 : XFunc := ⟨2, [],
  (.seq (.region false [
  ⟨some 4, none, .mv, [.t 0]⟩,
  ⟨some 5, none, .mv, [.t 1]⟩,
  ⟨some 6, none, .call 33, [.t 4, .k (pI 26), .t 5]⟩] [0])
  (.region false [
  ⟨some 7, none, .mv, [.t 0]⟩,
  ⟨some 8, none, .call 34, [.t 7, .k (pI 31), .k (pI 2)]⟩] []))⟩
/-- scrimshaw/rt.head -/
def x49 : XFunc := ⟨2, [.tmp 4],
  (.seq (.region false [
  ⟨some 4, none, .mv, [.k (pI 0)]⟩] [0, 1])
  (.seq (.region false [
  ⟨some 5, none, .mv, [.t 1]⟩,
  ⟨some 6, none, .bin .shl false, [.t 5, .k (pK .u64 3)]⟩,
  ⟨some 7, none, .mv, [.t 0]⟩,
  ⟨some 8, none, .bin .or false, [.t 6, .t 7]⟩,
  ⟨some 9, none, .bin .shl false, [.t 8, .k (pK .u64 3)]⟩,
  ⟨some 10, none, .bin .or false, [.t 9, .k (pI 7)]⟩,
  ⟨some 4, none, .mv, [.t 10]⟩] [4])
  .ret))⟩
/-- scrimshaw/rt.made -/
def x50 : XFunc := ⟨3, [],
  (.seq (.region false [
  ⟨some 6, none, .mv, [.t 0]⟩,
  ⟨some 7, none, .mv, [.t 1]⟩,
  ⟨some 8, none, .call 51, [.t 6, .k (pI 18), .t 7, .k (pI 29), .k (pI 3)]⟩] [0, 1, 2])
  (.seq (.region false [
  ⟨some 9, none, .mv, [.t 0]⟩,
  ⟨some 10, none, .mv, [.t 1]⟩,
  ⟨some 11, none, .mv, [.t 1]⟩,
  ⟨some 12, none, .call 51, [.t 9, .k (pI 17), .t 10, .t 11, .k (pI 1)]⟩] [0, 2])
  (.region false [
  ⟨some 13, none, .mv, [.t 0]⟩,
  ⟨some 14, none, .mv, [.t 2]⟩,
  ⟨some 15, none, .call 51, [.t 13, .k (pI 15), .k (pI 29), .k (pI 29), .t 14]⟩] [])))⟩
/-- (*scrimshaw/emit.Builder).With -/
def x51 : XFunc := ⟨5, [],
  (.region false [
  ⟨some 10, none, .mv, [.t 0]⟩,
  ⟨some 11, none, .mv, [.t 1]⟩,
  ⟨some 12, none, .mv, [.t 2]⟩,
  ⟨some 13, none, .mv, [.t 3]⟩,
  ⟨some 14, none, .mv, [.t 4]⟩,
  ⟨some 15, none, .bld [(pI 0), (pI 0), (pI 0), (pI 0), (pI 0)] [(0, 1), (1, 1), (2, 1), (4, 1)], [.t 11, .t 12, .t 13, .t 14]⟩,
  ⟨some 16, none, .bld [(pI 0), (pI 0), (pI 0), (pI 0), (pI 0), (pI 0), (pI 0), (pI 0)] [(1, 5)], [.t 15]⟩,
  ⟨some 17, none, .call 53, [.t 10, .t 16]⟩] [])⟩
/-- scrimshaw/rt.frame -/
def x52 : XFunc := ⟨1, [],
  (.seq (.region false [
  ⟨some 2, none, .mv, [.t 0]⟩,
  ⟨some 3, none, .call 31, [.t 2, .k (pI 26), .k (pI 30), .k (pI (-1))]⟩] [0])
  (.seq (.region false [
  ⟨some 4, none, .mv, [.t 0]⟩,
  ⟨some 5, none, .call 51, [.t 4, .k (pI 19), .k (pI 26), .k (pI 26), .k (pI 3)]⟩] [0])
  (.seq (.region false [
  ⟨some 6, none, .mv, [.t 0]⟩,
  ⟨some 7, none, .call 51, [.t 6, .k (pI 16), .k (pI 26), .k (pI 26), .k (pI 4095)]⟩] [0])
  (.seq (.region false [
  ⟨some 8, none, .mv, [.t 0]⟩,
  ⟨some 9, none, .call 51, [.t 8, .k (pI 15), .k (pI 27), .k (pI 26), .k (pI 2)]⟩] [0])
  (.seq (.region false [
  ⟨some 10, none, .mv, [.t 0]⟩,
  ⟨some 11, none, .call 51, [.t 10, .k (pI 18), .k (pI 27), .k (pI 27), .k (pI 3)]⟩] [0])
  (.seq (.region false [
  ⟨some 12, none, .mv, [.t 0]⟩,
  ⟨some 13, none, .call 51, [.t 12, .k (pI 17), .k (pI 27), .k (pI 27), .k (pI 6)]⟩] [0])
  (.seq (.region false [
  ⟨some 14, none, .mv, [.t 0]⟩,
  ⟨some 15, none, .call 51, [.t 14, .k (pI 18), .k (pI 27), .k (pI 27), .k (pI 3)]⟩] [0])
  (.seq (.region false [
  ⟨some 16, none, .mv, [.t 0]⟩,
  ⟨some 17, none, .call 51, [.t 16, .k (pI 17), .k (pI 27), .k (pI 27), .k (pI 7)]⟩] [0])
  (.seq (.region false [
  ⟨some 18, none, .mv, [.t 0]⟩,
  ⟨some 19, none, .call 30, [.t 18, .k (pI 27), .k (pI 29), .k (pI 0)]⟩] [0])
  (.seq (.region false [
  ⟨some 20, none, .mv, [.t 0]⟩,
  ⟨some 21, none, .call 51, [.t 20, .k (pI 15), .k (pI 26), .k (pI 26), .k (pI 1)]⟩] [0])
  (.seq (.region false [
  ⟨some 22, none, .mv, [.t 0]⟩,
  ⟨some 23, none, .call 38, [.t 22, .k (pI 2), .k (pI 28), .k (pI 30), .k (pI 26)]⟩] [0])
  (.seq (.region false [
  ⟨some 24, none, .mv, [.t 0]⟩,
  ⟨some 25, none, .call 33, [.t 24, .k (pI 27), .k (pI 33)]⟩] [0])
  (.seq (.region false [
  ⟨some 26, none, .mv, [.t 0]⟩,
  ⟨some 27, none, .call 35, [.t 26, .k (pI 24), .k (pI 28), .k (pI 27), .k (pI 2005)]⟩] [0])
  (.seq (.region false [
  ⟨some 28, none, .mv, [.t 0]⟩,
  ⟨some 29, none, .call 38, [.t 28, .k (pI 1), .k (pI 27), .k (pI 29), .k (pI 26)]⟩] [0])
  (.seq (.region false [
  ⟨some 30, none, .mv, [.t 0]⟩,
  ⟨some 31, none, .call 51, [.t 30, .k (pI 15), .k (pI 27), .k (pI 27), .k (pI 2)]⟩] [0])
  (.seq (.region false [
  ⟨some 32, none, .mv, [.t 0]⟩,
  ⟨some 33, none, .call 51, [.t 32, .k (pI 18), .k (pI 27), .k (pI 27), .k (pI 3)]⟩] [0])
  (.seq (.region false [
  ⟨some 34, none, .mv, [.t 0]⟩,
  ⟨some 35, none, .call 51, [.t 34, .k (pI 17), .k (pI 27), .k (pI 27), .k (pI 1)]⟩] [0])
  (.seq (.region false [
  ⟨some 36, none, .mv, [.t 0]⟩,
  ⟨some 37, none, .call 30, [.t 36, .k (pI 27), .k (pI 29), .k (pI 1)]⟩] [0])
  (.seq (.region false [
  ⟨some 38, none, .mv, [.t 0]⟩,
  ⟨some 39, none, .call 36, [.t 38, .k (pI 2006)]⟩] [0])
  (.seq (.region false [
  ⟨some 40, none, .mv, [.t 0]⟩,
  ⟨some 41, none, .call 27, [.t 40, .k (pI 2005)]⟩] [0])
  (.seq (.region false [
  ⟨some 42, none, .mv, [.t 0]⟩,
  ⟨some 43, none, .call 30, [.t 42, .k (pI 31), .k (pI 29), .k (pI 1)]⟩] [0])
  (.seq (.region false [
  ⟨some 44, none, .mv, [.t 0]⟩,
  ⟨some 45, none, .call 27, [.t 44, .k (pI 2006)]⟩] [0])
  (.seq (.region false [
  ⟨some 46, none, .mv, [.t 0]⟩,
  ⟨some 47, none, .call 51, [.t 46, .k (pI 15), .k (pI 29), .k (pI 29), .k (pI 2)]⟩] [0])
  (.seq (.region false [
  ⟨some 48, none, .mv, [.t 0]⟩,
  ⟨some 49, none, .call 32, [.t 48, .k (pI 30), .k (pI 28)]⟩] [0])
  (.seq (.region false [
  ⟨some 50, none, .mv, [.t 0]⟩,
  ⟨some 51, none, .call 27, [.t 50, .k (pI 2002)]⟩] [0])
  (.seq (.region false [
  ⟨some 52, none, .mv, [.t 0]⟩,
  ⟨some 53, none, .call 35, [.t 52, .k (pI 24), .k (pI 26), .k (pI 0), .k (pI 2003)]⟩] [0])
  (.seq (.region false [
  ⟨some 54, none, .mv, [.t 0]⟩,
  ⟨some 55, none, .call 31, [.t 54, .k (pI 27), .k (pI 30), .k (pI 0)]⟩] [0])
  (.seq (.region false [
  ⟨some 56, none, .mv, [.t 0]⟩,
  ⟨some 57, none, .call 30, [.t 56, .k (pI 27), .k (pI 29), .k (pI 0)]⟩] [0])
  (.seq (.region false [
  ⟨some 58, none, .mv, [.t 0]⟩,
  ⟨some 59, none, .call 51, [.t 58, .k (pI 15), .k (pI 30), .k (pI 30), .k (pI 1)]⟩] [0])
  (.seq (.region false [
  ⟨some 60, none, .mv, [.t 0]⟩,
  ⟨some 61, none, .call 51, [.t 60, .k (pI 15), .k (pI 29), .k (pI 29), .k (pI 1)]⟩] [0])
  (.seq (.region false [
  ⟨some 62, none, .mv, [.t 0]⟩,
  ⟨some 63, none, .call 51, [.t 62, .k (pI 15), .k (pI 26), .k (pI 26), .k (pI (-1))]⟩] [0])
  (.seq (.region false [
  ⟨some 64, none, .mv, [.t 0]⟩,
  ⟨some 65, none, .call 36, [.t 64, .k (pI 2002)]⟩] [0])
  (.seq (.region false [
  ⟨some 66, none, .mv, [.t 0]⟩,
  ⟨some 67, none, .call 27, [.t 66, .k (pI 2003)]⟩] [0])
  (.region false [
  ⟨some 68, none, .mv, [.t 0]⟩,
  ⟨some 69, none, .call 32, [.t 68, .k (pI 30), .k (pI 28)]⟩] []))))))))))))))))))))))))))))))))))⟩
/-- (*scrimshaw/emit.Builder).put -/
def x53 : XFunc := ⟨2, [],
  (.seq (.region false [
  ⟨some 3, none, .box 0, [.t 1]⟩] [0, 3])
  (.regionD [
  ⟨⟨some 4, none, .mv, [.t 0]⟩, [], false⟩,
  ⟨⟨some 5, none, .mv, [.t 0]⟩, [], false⟩,
  ⟨⟨some 6, none, .nck, [.t 5]⟩, [], false⟩,
  ⟨⟨some 7, none, .fa 0, [.t 6]⟩, [], false⟩,
  ⟨⟨some 8, none, .ld false 1 true, [.t 7]⟩, [], false⟩,
  ⟨⟨some 9, none, .ld true 8 false, [.t 3]⟩, [], false⟩,
  ⟨⟨some 10, none, .blds 8 [(pI 0), (pI 0), (pI 0), (pI 0), (pI 0), (pI 0), (pI 0), (pI 0)] 1 [0], [.t 9]⟩, [], false⟩,
  ⟨⟨some 11, none, .app 8 64, [.tk 8, .t 10]⟩, [], false⟩,
  ⟨⟨some 12, none, .nck, [.t 4]⟩, [], false⟩,
  ⟨⟨some 13, none, .fa 0, [.t 12]⟩, [], false⟩,
  ⟨⟨none, none, .st 1, [.t 13, .tk 11]⟩, [], false⟩] []))⟩
/-- scrimshaw/scrimshawref21.may -/
def x54 : XFunc := ⟨1, [.tmp 2],
  (.seq (.region false [
  ⟨some 1, none, .box 0, [.t 0]⟩,
  ⟨some 2, none, .mv, [.k (pB false)]⟩] [1])
  (.seq (.region false [
  ⟨some 6, none, .fa 1, [.t 1]⟩,
  ⟨some 7, none, .ld true 5 false, [.t 6]⟩,
  ⟨some 3, none, .alloc 1 true [(pI 0), (pI 0), (pI 0), (pI 0), (pI 0)], []⟩,
  ⟨none, none, .st 5, [.t 3, .t 7]⟩] [1, 3])
  (.seq (.region false [
  ⟨some 9, none, .ld true 5 false, [.t 3]⟩,
  ⟨some 10, none, .call 58, [.t 9]⟩,
  ⟨some 8, none, .mv, [.t 10]⟩,
  ⟨some 11, none, .ext 0, [.t 8]⟩,
  ⟨some 12, none, .ext 1, [.t 8]⟩,
  ⟨some 4, none, .mv, [.t 11]⟩,
  ⟨some 5, none, .mv, [.t 12]⟩] [1, 3, 5])
  (.seq (.seq (.region false [
  ⟨some 13, none, .fa 0, [.t 1]⟩,
  ⟨some 14, none, .ld false 1 false, [.t 13]⟩] [1, 3, 5, 14])
  (.block 0 (.seq (.region false [
  ⟨some 16, none, .bin .eql false, [.t 14, .k (pI 0)]⟩,
  ⟨some 15, none, .mv, [.t 16]⟩] [1, 3, 5, 14, 15])
  (.cond (.t 15)
  (.seq (.region false [
  ⟨some 17, none, .mv, [.t 5]⟩,
  ⟨some 18, none, .bin .eql false, [.t 17, .k (pI 0)]⟩,
  ⟨some 19, none, .mv, [.t 18]⟩,
  ⟨some 20, (some (19, true)), .fa 6, [.t 1]⟩,
  ⟨some 21, (some (19, true)), .ld false 1 false, [.t 20]⟩,
  ⟨some 22, (some (19, true)), .bin .eql false, [.t 21, .k (pI 0)]⟩,
  ⟨some 23, none, .pick, [.t 19, .t 22, .k (pB false)]⟩,
  ⟨some 24, none, .mv, [.t 23]⟩,
  ⟨some 25, (some (24, true)), .fa 7, [.t 1]⟩,
  ⟨some 26, (some (24, true)), .ld false 1 false, [.t 25]⟩,
  ⟨some 27, (some (24, true)), .bin .eql false, [.t 26, .k (pI 0)]⟩,
  ⟨some 28, none, .pick, [.t 24, .t 27, .k (pB false)]⟩,
  ⟨some 2, none, .mv, [.t 28]⟩] [2])
  .ret)
  (.seq (.region false [
  ⟨some 30, none, .bin .eql false, [.t 14, .k (pI 1)]⟩,
  ⟨some 29, none, .mv, [.t 30]⟩] [1, 3, 5, 14, 29])
  (.cond (.t 29)
  (.seq (.region false [
  ⟨some 31, none, .ld true 5 false, [.t 3]⟩,
  ⟨some 32, none, .bld [(pI 0), (pI 0), (pI 0), (pI 0), (pI 0)] [], []⟩,
  ⟨some 33, none, .beq false 5, [.t 31, .t 32]⟩,
  ⟨some 34, none, .mv, [.t 33]⟩,
  ⟨some 35, (some (34, true)), .fa 7, [.t 1]⟩,
  ⟨some 36, (some (34, true)), .ld false 1 false, [.t 35]⟩,
  ⟨some 37, (some (34, true)), .bin .eql false, [.t 36, .k (pI 0)]⟩,
  ⟨some 38, none, .pick, [.t 34, .t 37, .k (pB false)]⟩,
  ⟨some 2, none, .mv, [.t 38]⟩] [2])
  .ret)
  (.seq (.region false [
  ⟨some 40, none, .bin .eql false, [.t 14, .k (pI 2)]⟩,
  ⟨some 39, none, .mv, [.t 40]⟩] [1, 3, 5, 14, 39])
  (.cond (.t 39)
  (.seq (.region false [
  ⟨some 41, none, .mv, [.t 5]⟩,
  ⟨some 42, none, .bin .eql false, [.t 41, .k (pI 0)]⟩,
  ⟨some 43, none, .mv, [.t 42]⟩,
  ⟨some 44, (some (43, true)), .fa 0, [.t 3]⟩,
  ⟨some 45, (some (43, true)), .ld false 1 false, [.t 44]⟩,
  ⟨some 46, (some (43, true)), .bin .geq false, [.t 45, .k (pI 24)]⟩,
  ⟨some 47, none, .pick, [.t 43, .t 46, .k (pB false)]⟩,
  ⟨some 48, none, .mv, [.t 47]⟩,
  ⟨some 49, (some (48, true)), .fa 0, [.t 3]⟩,
  ⟨some 50, (some (48, true)), .ld false 1 false, [.t 49]⟩,
  ⟨some 51, (some (48, true)), .bin .leq false, [.t 50, .k (pI 27)]⟩,
  ⟨some 52, none, .pick, [.t 48, .t 51, .k (pB false)]⟩,
  ⟨some 53, none, .mv, [.t 52]⟩,
  ⟨some 54, (some (53, true)), .fa 4, [.t 3]⟩,
  ⟨some 55, (some (53, true)), .ld false 1 false, [.t 54]⟩,
  ⟨some 56, (some (53, true)), .bin .eql false, [.t 55, .k (pI 0)]⟩,
  ⟨some 57, none, .pick, [.t 53, .t 56, .k (pB false)]⟩,
  ⟨some 58, none, .mv, [.t 57]⟩,
  ⟨some 59, (some (58, true)), .fa 7, [.t 1]⟩,
  ⟨some 60, (some (58, true)), .ld false 1 false, [.t 59]⟩,
  ⟨some 61, (some (58, true)), .bin .eql false, [.t 60, .k (pI 0)]⟩,
  ⟨some 62, none, .pick, [.t 58, .t 61, .k (pB false)]⟩,
  ⟨some 2, none, .mv, [.t 62]⟩] [2])
  .ret)
  (.seq (.region false [
  ⟨some 64, none, .bin .eql false, [.t 14, .k (pI 3)]⟩,
  ⟨some 63, none, .mv, [.t 64]⟩] [1, 3, 5, 14, 63])
  (.cond (.t 63)
  (.seq (.region false [
  ⟨some 65, none, .mv, [.t 5]⟩,
  ⟨some 66, none, .bin .eql false, [.t 65, .k (pI 0)]⟩,
  ⟨some 67, none, .mv, [.t 66]⟩,
  ⟨some 68, (some (67, true)), .fa 0, [.t 3]⟩,
  ⟨some 69, (some (67, true)), .ld false 1 false, [.t 68]⟩,
  ⟨some 70, (some (67, true)), .bin .eql false, [.t 69, .k (pI 28)]⟩,
  ⟨some 71, none, .pick, [.t 67, .t 70, .k (pB false)]⟩,
  ⟨some 72, none, .mv, [.t 71]⟩,
  ⟨some 73, (some (72, true)), .fa 4, [.t 3]⟩,
  ⟨some 74, (some (72, true)), .ld false 1 false, [.t 73]⟩,
  ⟨some 75, (some (72, true)), .bin .eql false, [.t 74, .k (pI 0)]⟩,
  ⟨some 76, none, .pick, [.t 72, .t 75, .k (pB false)]⟩,
  ⟨some 77, none, .mv, [.t 76]⟩,
  ⟨some 78, (some (77, true)), .fa 7, [.t 1]⟩,
  ⟨some 79, (some (77, true)), .ld false 1 false, [.t 78]⟩,
  ⟨some 80, (some (77, true)), .bin .eql false, [.t 79, .k (pI 0)]⟩,
  ⟨some 81, none, .pick, [.t 77, .t 80, .k (pB false)]⟩,
  ⟨some 2, none, .mv, [.t 81]⟩] [2])
  .ret)
  (.seq (.region false [
  ⟨some 83, none, .bin .eql false, [.t 14, .k (pI 4)]⟩,
  ⟨some 82, none, .mv, [.t 83]⟩] [1, 3, 5, 14, 82])
  (.cond (.t 82)
  (.seq (.region false [
  ⟨some 84, none, .mv, [.t 5]⟩,
  ⟨some 85, none, .bin .eql false, [.t 84, .k (pI 0)]⟩,
  ⟨some 86, none, .mv, [.t 85]⟩,
  ⟨some 87, (some (86, true)), .fa 0, [.t 3]⟩,
  ⟨some 88, (some (86, true)), .ld false 1 false, [.t 87]⟩,
  ⟨some 89, (some (86, true)), .bin .eql false, [.t 88, .k (pI 20)]⟩,
  ⟨some 90, none, .pick, [.t 86, .t 89, .k (pB false)]⟩,
  ⟨some 91, none, .mv, [.t 90]⟩,
  ⟨some 92, (some (91, true)), .fa 4, [.t 3]⟩,
  ⟨some 93, (some (91, true)), .ld false 1 false, [.t 92]⟩,
  ⟨some 94, (some (91, true)), .bin .eql false, [.t 93, .k (pI 0)]⟩,
  ⟨some 95, none, .pick, [.t 91, .t 94, .k (pB false)]⟩,
  ⟨some 96, none, .mv, [.t 95]⟩,
  ⟨some 97, (some (96, true)), .fa 6, [.t 1]⟩,
  ⟨some 98, (some (96, true)), .ld false 1 false, [.t 97]⟩,
  ⟨some 99, (some (96, true)), .bin .eql false, [.t 98, .k (pI 0)]⟩,
  ⟨some 100, none, .pick, [.t 96, .t 99, .k (pB false)]⟩,
  ⟨some 2, none, .mv, [.t 100]⟩] [2])
  .ret)
  (.seq (.region false [
  ⟨some 102, none, .bin .eql false, [.t 14, .k (pI 5)]⟩,
  ⟨some 101, none, .mv, [.t 102]⟩] [1, 3, 5, 101])
  (.cond (.t 101)
  (.seq (.region false [
  ⟨some 103, none, .mv, [.t 5]⟩,
  ⟨some 104, none, .bin .eql false, [.t 103, .k (pI 0)]⟩,
  ⟨some 105, none, .mv, [.t 104]⟩,
  ⟨some 106, (some (105, true)), .fa 0, [.t 3]⟩,
  ⟨some 107, (some (105, true)), .ld false 1 false, [.t 106]⟩,
  ⟨some 108, (some (105, true)), .bin .eql false, [.t 107, .k (pI 20)]⟩,
  ⟨some 109, none, .pick, [.t 105, .t 108, .k (pB false)]⟩,
  ⟨some 110, none, .mv, [.t 109]⟩,
  ⟨some 111, (some (110, true)), .fa 4, [.t 3]⟩,
  ⟨some 112, (some (110, true)), .ld false 1 false, [.t 111]⟩,
  ⟨some 113, (some (110, true)), .bin .eql false, [.t 112, .k (pI 0)]⟩,
  ⟨some 114, none, .pick, [.t 110, .t 113, .k (pB false)]⟩,
  ⟨some 115, none, .mv, [.t 114]⟩,
  ⟨some 116, (some (115, true)), .fa 7, [.t 1]⟩,
  ⟨some 117, (some (115, true)), .ld false 1 false, [.t 116]⟩,
  ⟨some 118, (some (115, true)), .bin .eql false, [.t 117, .k (pI 0)]⟩,
  ⟨some 119, none, .pick, [.t 115, .t 118, .k (pB false)]⟩,
  ⟨some 2, none, .mv, [.t 119]⟩] [2])
  .ret)
  .skip))))))))))))))
  (.seq (.region false [
  ⟨some 2, none, .mv, [.k (pB false)]⟩] [2])
  .ret)))))⟩
/-- scrimshaw/scrimshawref21.Find -/
def x55 : XFunc := ⟨2, [.tmp 4],
  (.seq (.region false [
  ⟨some 4, none, .mv, [.k (pI 0)]⟩] [0, 1])
  (.seq (.seq (.region false [
  ⟨some 5, none, .mv, [.k (pI 0)]⟩] [0, 1, 5])
  (.block 0 (.loop [0, 1, 5] [] (.seq (.seq (.region false [
  ⟨some 6, none, .mv, [.t 5]⟩,
  ⟨some 7, none, .mv, [.t 0]⟩,
  ⟨some 8, none, .lenL, [.t 7]⟩,
  ⟨some 9, none, .bin .lss false, [.t 6, .t 8]⟩] [0, 1, 5, 9])
  (.cond (.t 9)
  .skip
  (.exit 0)))
  (.seq (.block 1 (.seq (.region false [
  ⟨some 12, none, .mv, [.t 0]⟩,
  ⟨some 13, none, .mv, [.t 5]⟩,
  ⟨some 14, none, .ia 8, [.t 12, .t 13]⟩,
  ⟨some 15, none, .fa 0, [.t 14]⟩,
  ⟨some 16, none, .ld false 1 false, [.t 15]⟩,
  ⟨some 17, none, .bin .eql false, [.t 16, .k (pI 1)]⟩,
  ⟨some 18, none, .mv, [.t 17]⟩,
  ⟨some 19, (some (18, true)), .mv, [.t 0]⟩,
  ⟨some 20, (some (18, true)), .mv, [.t 5]⟩,
  ⟨some 21, (some (18, true)), .ia 8, [.t 19, .t 20]⟩,
  ⟨some 22, (some (18, true)), .fa 6, [.t 21]⟩,
  ⟨some 23, (some (18, true)), .ld false 1 false, [.t 22]⟩,
  ⟨some 24, (some (18, true)), .mv, [.t 1]⟩,
  ⟨some 25, (some (18, true)), .bin .eql false, [.t 23, .t 24]⟩,
  ⟨some 26, none, .pick, [.t 18, .t 25, .k (pB false)]⟩] [0, 1, 5, 26])
  (.cond (.t 26)
  (.seq (.region false [
  ⟨some 27, none, .mv, [.t 5]⟩,
  ⟨some 4, none, .mv, [.t 27]⟩] [4])
  .ret)
  .skip)))
  (.region false [
  ⟨some 10, none, .mv, [.t 5]⟩,
  ⟨some 11, none, .bin .add false, [.t 10, .k (pI 1)]⟩,
  ⟨some 5, none, .mv, [.t 11]⟩] [0, 1, 5]))))))
  (.seq (.region false [
  ⟨some 4, none, .mv, [.k (pI (-1))]⟩] [4])
  .ret)))⟩
/-- scrimshaw/scrimshawref21.Layout -/
def x56 : XFunc := ⟨1, [.tmp 2, .tmp 3],
  (.seq (.region false [
  ⟨some 2, none, .mv, [.kn 1]⟩,
  ⟨some 3, none, .mv, [.kn 1]⟩] [0])
  (.seq (.region false [
  ⟨some 11, none, .mv, [.t 0]⟩,
  ⟨some 12, none, .lenL, [.t 11]⟩,
  ⟨some 13, none, .mks 0 1 [(pB false)], [.t 12, .t 12]⟩,
  ⟨some 4, none, .mv, [.tk 13]⟩] [0, 4])
  (.seq (.region false [
  ⟨some 14, none, .mv, [.t 0]⟩,
  ⟨some 15, none, .lenL, [.t 14]⟩,
  ⟨some 16, none, .mks 1 1 [(pI 0)], [.t 15, .t 15]⟩,
  ⟨some 5, none, .mv, [.tk 16]⟩] [0, 4, 5])
  (.seq (.seq (.region false [
  ⟨some 6, none, .mv, [.k (pI 0)]⟩] [0, 4, 5, 6])
  (.block 0 (.loop [0, 4, 5, 6] [0, 1] (.seq (.seq (.region false [
  ⟨some 17, none, .mv, [.t 6]⟩,
  ⟨some 18, none, .mv, [.t 0]⟩,
  ⟨some 19, none, .lenL, [.t 18]⟩,
  ⟨some 20, none, .bin .lss false, [.t 17, .t 19]⟩] [0, 4, 5, 6, 20])
  (.cond (.t 20)
  .skip
  (.exit 0)))
  (.seq (.block 1 (.seq (.region false [
  ⟨some 23, none, .mv, [.t 0]⟩,
  ⟨some 24, none, .mv, [.t 6]⟩,
  ⟨some 25, none, .ia 8, [.t 23, .t 24]⟩,
  ⟨some 26, none, .ld true 8 false, [.t 25]⟩,
  ⟨some 27, none, .call 43, [.t 26]⟩] [0, 4, 5, 6, 27])
  (.cond (.t 27)
  (.region false [
  ⟨some 28, none, .mv, [.t 5]⟩,
  ⟨some 29, none, .mv, [.t 6]⟩,
  ⟨some 30, none, .mv, [.t 0]⟩,
  ⟨some 31, none, .mv, [.t 0]⟩,
  ⟨some 32, none, .mv, [.t 6]⟩,
  ⟨some 33, none, .ia 8, [.t 31, .t 32]⟩,
  ⟨some 34, none, .fa 6, [.t 33]⟩,
  ⟨some 35, none, .ld false 1 false, [.t 34]⟩,
  ⟨some 36, none, .call 55, [.tk 30, .t 35]⟩,
  ⟨some 37, none, .ia 1, [.t 28, .t 29]⟩,
  ⟨none, none, .st 1, [.t 37, .t 36]⟩] [0, 4, 5, 6])
  .skip)))
  (.region false [
  ⟨some 21, none, .mv, [.t 6]⟩,
  ⟨some 22, none, .bin .add false, [.t 21, .k (pI 1)]⟩,
  ⟨some 6, none, .mv, [.t 22]⟩] [0, 4, 5, 6]))))))
  (.block 2 (.loop [0, 4, 5] [0, 1] (.block 3 (.seq (.region false [
  ⟨some 38, none, .mv, [.t 0]⟩,
  ⟨some 39, none, .mv, [.t 4]⟩,
  ⟨some 40, none, .call 62, [.tk 38, .tk 39]⟩,
  ⟨some 7, none, .mv, [.tk 40]⟩] [0, 4, 5, 7])
  (.seq (.region false [
  ⟨some 8, none, .mv, [.k (pB false)]⟩] [0, 4, 5, 7, 8])
  (.seq (.seq (.region false [
  ⟨some 9, none, .mv, [.k (pI 0)]⟩] [0, 4, 5, 7, 8, 9])
  (.block 4 (.loop [0, 4, 5, 7, 8, 9] [0, 1] (.seq (.seq (.region false [
  ⟨some 41, none, .mv, [.t 9]⟩,
  ⟨some 42, none, .mv, [.t 0]⟩,
  ⟨some 43, none, .lenL, [.t 42]⟩,
  ⟨some 44, none, .bin .lss false, [.t 41, .t 43]⟩] [0, 4, 5, 7, 8, 9, 44])
  (.cond (.t 44)
  .skip
  (.exit 4)))
  (.seq (.block 5 (.seq (.seq (.region false [
  ⟨some 47, none, .mv, [.t 0]⟩,
  ⟨some 48, none, .mv, [.t 9]⟩,
  ⟨some 49, none, .ia 8, [.t 47, .t 48]⟩,
  ⟨some 50, none, .fa 0, [.t 49]⟩,
  ⟨some 51, none, .ld false 1 false, [.t 50]⟩,
  ⟨some 52, none, .bin .neq false, [.t 51, .k (pI 2)]⟩,
  ⟨some 53, none, .mv, [.t 52]⟩,
  ⟨some 54, (some (53, false)), .mv, [.t 4]⟩,
  ⟨some 55, (some (53, false)), .mv, [.t 9]⟩,
  ⟨some 56, (some (53, false)), .ia 1, [.t 54, .t 55]⟩,
  ⟨some 57, (some (53, false)), .ld false 1 false, [.t 56]⟩,
  ⟨some 58, none, .pick, [.t 53, .k (pB true), .t 57]⟩] [0, 4, 5, 7, 8, 9, 58])
  (.cond (.t 58)
  (.exit 5)
  .skip))
  (.seq (.regionD [
  ⟨⟨some 59, none, .mv, [.t 7]⟩, [], false⟩,
  ⟨⟨some 60, none, .mv, [.t 5]⟩, [], false⟩,
  ⟨⟨some 61, none, .mv, [.t 9]⟩, [], false⟩,
  ⟨⟨some 62, none, .ia 1, [.t 60, .t 61]⟩, [], false⟩,
  ⟨⟨some 63, none, .ld false 1 false, [.t 62]⟩, [], false⟩,
  ⟨⟨some 64, none, .ia 1, [.t 59, .t 63]⟩, [], false⟩,
  ⟨⟨some 65, none, .ld false 1 false, [.t 64]⟩, [], false⟩,
  ⟨⟨some 66, none, .mv, [.t 7]⟩, [], false⟩,
  ⟨⟨some 67, none, .mv, [.t 9]⟩, [], false⟩,
  ⟨⟨some 68, none, .ia 1, [.t 66, .t 67]⟩, [], false⟩,
  ⟨⟨some 69, none, .ld false 1 false, [.t 68]⟩, [], false⟩,
  ⟨⟨some 70, none, .bin .sub false, [.t 65, .t 69]⟩, [], false⟩,
  ⟨⟨some 10, none, .mv, [.t 70]⟩, [], false⟩] [0, 4, 5, 7, 8, 9, 10])
  (.seq (.region false [
  ⟨some 71, none, .mv, [.t 10]⟩,
  ⟨some 72, none, .bin .lss false, [.t 71, .k (pI (-512))]⟩,
  ⟨some 73, none, .mv, [.t 72]⟩,
  ⟨some 74, (some (73, false)), .mv, [.t 10]⟩,
  ⟨some 75, (some (73, false)), .bin .gtr false, [.t 74, .k (pI 511)]⟩,
  ⟨some 76, none, .pick, [.t 73, .k (pB true), .t 75]⟩] [0, 4, 5, 7, 8, 9, 76])
  (.cond (.t 76)
  (.seq (.region false [
  ⟨some 77, none, .mv, [.t 4]⟩,
  ⟨some 78, none, .mv, [.t 9]⟩,
  ⟨some 79, none, .ia 1, [.t 77, .t 78]⟩,
  ⟨none, none, .st 1, [.t 79, .k (pB true)]⟩] [0, 4, 5, 7, 9])
  (.region false [
  ⟨some 8, none, .mv, [.k (pB true)]⟩] [0, 4, 5, 7, 8, 9]))
  .skip)))))
  (.region false [
  ⟨some 45, none, .mv, [.t 9]⟩,
  ⟨some 46, none, .bin .add false, [.t 45, .k (pI 1)]⟩,
  ⟨some 9, none, .mv, [.t 46]⟩] [0, 4, 5, 7, 8, 9]))))))
  (.seq (.region false [
  ⟨some 80, none, .mv, [.t 8]⟩,
  ⟨some 81, none, .un .not, [.t 80]⟩] [0, 4, 5, 7, 81])
  (.cond (.t 81)
  (.seq (.region false [
  ⟨some 82, none, .mv, [.tk 4]⟩,
  ⟨some 83, none, .mv, [.tk 7]⟩,
  ⟨some 2, none, .mv, [.tk 82]⟩,
  ⟨some 3, none, .mv, [.tk 83]⟩] [2, 3])
  .ret)
  .skip))))))))))))⟩
/-- scrimshaw/scrimshawref21.instrs -/
def x57 : XFunc := ⟨4, [.tmp 8],
  (.seq (.region false [
  ⟨some 4, none, .box 0, [.t 0]⟩,
  ⟨some 8, none, .mv, [.kn 5]⟩] [1, 2, 3, 4])
  (.seq (.region false [
  ⟨some 11, none, .fa 1, [.t 4]⟩,
  ⟨some 12, none, .ld true 5 false, [.t 11]⟩,
  ⟨some 9, none, .alloc 1 true [(pI 0), (pI 0), (pI 0), (pI 0), (pI 0)], []⟩,
  ⟨none, none, .st 5, [.t 9, .t 12]⟩] [1, 2, 3, 4, 9])
  (.seq (.region false [
  ⟨some 13, none, .blds 1 [(pI 0)] 4 [0, 1, 2, 3], [.k (pI 25), .k (pI 24), .k (pI 27), .k (pI 26)]⟩,
  ⟨some 10, none, .mv, [.tk 13]⟩] [1, 2, 3, 4, 9, 10])
  (.seq (.seq (.region false [
  ⟨some 14, none, .fa 0, [.t 4]⟩,
  ⟨some 15, none, .ld false 1 false, [.t 14]⟩] [1, 2, 3, 4, 9, 10, 15])
  (.block 0 (.seq (.region false [
  ⟨some 17, none, .bin .eql false, [.t 15, .k (pI 0)]⟩,
  ⟨some 16, none, .mv, [.t 17]⟩] [1, 2, 3, 4, 9, 10, 15, 16])
  (.cond (.t 16)
  (.seq (.region false [
  ⟨some 18, none, .ld true 5 false, [.t 9]⟩,
  ⟨some 19, none, .blds 5 [(pI 0), (pI 0), (pI 0), (pI 0), (pI 0)] 1 [0], [.t 18]⟩,
  ⟨some 8, none, .mv, [.tk 19]⟩] [8])
  .ret)
  (.seq (.region false [
  ⟨some 21, none, .bin .eql false, [.t 15, .k (pI 2)]⟩,
  ⟨some 20, none, .mv, [.t 21]⟩] [1, 2, 3, 4, 9, 10, 15, 20])
  (.cond (.t 20)
  (.seq (.seq (.region false [
  ⟨some 22, none, .mv, [.t 1]⟩] [2, 3, 9, 10, 22])
  (.cond (.t 22)
  (.seq (.regionD [
  ⟨⟨some 23, none, .mv, [.tk 10]⟩, [], false⟩,
  ⟨⟨some 24, none, .fa 0, [.t 9]⟩, [], false⟩,
  ⟨⟨some 25, none, .ld false 1 false, [.t 24]⟩, [], false⟩,
  ⟨⟨some 26, none, .bin .sub false, [.t 25, .k (pI 24)]⟩, [], false⟩,
  ⟨⟨some 27, none, .ia 1, [.t 23, .t 26]⟩, [], false⟩,
  ⟨⟨some 28, none, .ld false 1 false, [.t 27]⟩, [], false⟩,
  ⟨⟨some 29, none, .fa 1, [.t 9]⟩, [], false⟩,
  ⟨⟨some 30, none, .ld false 1 false, [.t 29]⟩, [], false⟩,
  ⟨⟨some 31, none, .fa 2, [.t 9]⟩, [], false⟩,
  ⟨⟨some 32, none, .ld false 1 false, [.t 31]⟩, [], false⟩,
  ⟨⟨some 33, none, .bld [(pI 0), (pI 0), (pI 0), (pI 0), (pI 0)] [(0, 1), (1, 1), (2, 1), (4, 1)], [.t 28, .t 30, .t 32, .k (pI 2)]⟩, [], false⟩,
  ⟨⟨some 34, none, .mv, [.t 3]⟩, [], false⟩,
  ⟨⟨some 35, none, .mv, [.t 2]⟩, [], false⟩,
  ⟨⟨some 36, none, .bin .sub false, [.t 34, .t 35]⟩, [], false⟩,
  ⟨⟨some 37, none, .bin .sub false, [.t 36, .k (pI 1)]⟩, [], false⟩,
  ⟨⟨some 38, none, .bld [(pI 0), (pI 0), (pI 0), (pI 0), (pI 0)] [(0, 1), (4, 1)], [.k (pI 28), .t 37]⟩, [], false⟩,
  ⟨⟨some 39, none, .blds 5 [(pI 0), (pI 0), (pI 0), (pI 0), (pI 0)] 2 [0, 1], [.t 33, .t 38]⟩, [], false⟩,
  ⟨⟨some 8, none, .mv, [.tk 39]⟩, [], false⟩] [8])
  .ret)
  .skip))
  (.seq (.region false [
  ⟨some 40, none, .fa 0, [.t 9]⟩,
  ⟨some 41, none, .ld false 1 false, [.t 40]⟩,
  ⟨some 42, none, .fa 1, [.t 9]⟩,
  ⟨some 43, none, .ld false 1 false, [.t 42]⟩,
  ⟨some 44, none, .fa 2, [.t 9]⟩,
  ⟨some 45, none, .ld false 1 false, [.t 44]⟩,
  ⟨some 46, none, .mv, [.t 3]⟩,
  ⟨some 47, none, .mv, [.t 2]⟩,
  ⟨some 48, none, .bin .sub false, [.t 46, .t 47]⟩,
  ⟨some 49, none, .bld [(pI 0), (pI 0), (pI 0), (pI 0), (pI 0)] [(0, 1), (1, 1), (2, 1), (4, 1)], [.t 41, .t 43, .t 45, .t 48]⟩,
  ⟨some 50, none, .blds 5 [(pI 0), (pI 0), (pI 0), (pI 0), (pI 0)] 1 [0], [.t 49]⟩,
  ⟨some 8, none, .mv, [.tk 50]⟩] [8])
  .ret))
  (.seq (.region false [
  ⟨some 52, none, .bin .eql false, [.t 15, .k (pI 3)]⟩,
  ⟨some 51, none, .mv, [.t 52]⟩] [2, 3, 4, 9, 15, 51])
  (.cond (.t 51)
  (.seq (.region false [
  ⟨some 53, none, .fa 1, [.t 9]⟩,
  ⟨some 54, none, .ld false 1 false, [.t 53]⟩,
  ⟨some 55, none, .mv, [.t 3]⟩,
  ⟨some 56, none, .mv, [.t 2]⟩,
  ⟨some 57, none, .bin .sub false, [.t 55, .t 56]⟩,
  ⟨some 58, none, .bld [(pI 0), (pI 0), (pI 0), (pI 0), (pI 0)] [(0, 1), (1, 1), (4, 1)], [.k (pI 28), .t 54, .t 57]⟩,
  ⟨some 59, none, .blds 5 [(pI 0), (pI 0), (pI 0), (pI 0), (pI 0)] 1 [0], [.t 58]⟩,
  ⟨some 8, none, .mv, [.tk 59]⟩] [8])
  .ret)
  (.seq (.region false [
  ⟨some 61, none, .bin .eql false, [.t 15, .k (pI 4)]⟩,
  ⟨some 60, none, .mv, [.t 61]⟩] [3, 4, 9, 15, 60])
  (.cond (.t 60)
  (.seq (.regionD [
  ⟨⟨some 62, none, .fa 1, [.t 9]⟩, [], false⟩,
  ⟨⟨some 63, none, .ld false 1 false, [.t 62]⟩, [], false⟩,
  ⟨⟨some 64, none, .fa 7, [.t 4]⟩, [], false⟩,
  ⟨⟨some 65, none, .ld false 1 false, [.t 64]⟩, [], false⟩,
  ⟨⟨some 66, none, .fa 7, [.t 4]⟩, [], false⟩,
  ⟨⟨some 67, none, .ld false 1 false, [.t 66]⟩, [], false⟩,
  ⟨⟨some 68, none, .call 64, [.t 67]⟩, [], false⟩,
  ⟨⟨some 69, none, .call 63, [.t 63, .t 65, .t 68]⟩, [], false⟩,
  ⟨⟨some 8, none, .mv, [.tk 69]⟩, [], false⟩] [8])
  .ret)
  (.seq (.region false [
  ⟨some 71, none, .bin .eql false, [.t 15, .k (pI 5)]⟩,
  ⟨some 70, none, .mv, [.t 71]⟩] [3, 9, 70])
  (.cond (.t 70)
  (.seq (.region false [
  ⟨some 72, none, .fa 1, [.t 9]⟩,
  ⟨some 73, none, .ld false 1 false, [.t 72]⟩,
  ⟨some 74, none, .mv, [.t 3]⟩,
  ⟨some 75, none, .call 63, [.t 73, .t 74, .k (pI 2)]⟩,
  ⟨some 8, none, .mv, [.tk 75]⟩] [8])
  .ret)
  .skip))))))))))))
  (.seq (.region false [
  ⟨some 8, none, .mv, [.kn 5]⟩] [8])
  .ret)))))⟩
/-- scrimshaw/scrimshawref20.Encode -/
def x58 : XFunc := ⟨1, [.tmp 2, .tmp 3],
  (.seq (.region false [
  ⟨some 1, none, .box 0, [.t 0]⟩,
  ⟨some 2, none, .mv, [.k (pK .u32 0)]⟩,
  ⟨some 3, none, .mv, [.k (pI 0)]⟩] [1])
  (.seq (.region false [
  ⟨some 7, none, .call 59, []⟩,
  ⟨some 4, none, .mv, [.tk 7]⟩] [1, 4])
  (.seq (.seq (.region false [
  ⟨some 8, none, .fa 0, [.t 1]⟩,
  ⟨some 9, none, .ld false 1 false, [.t 8]⟩,
  ⟨some 10, none, .bin .lss false, [.t 9, .k (pI 0)]⟩,
  ⟨some 11, none, .mv, [.t 10]⟩,
  ⟨some 12, (some (11, false)), .fa 0, [.t 1]⟩,
  ⟨some 13, (some (11, false)), .ld false 1 false, [.t 12]⟩,
  ⟨some 14, (some (11, false)), .mv, [.t 4]⟩,
  ⟨some 15, (some (11, false)), .lenL, [.t 14]⟩,
  ⟨some 16, (some (11, false)), .bin .geq false, [.t 13, .t 15]⟩,
  ⟨some 17, none, .pick, [.t 11, .k (pB true), .t 16]⟩] [1, 4, 17])
  (.cond (.t 17)
  (.seq (.region false [
  ⟨some 2, none, .mv, [.k (pK .u32 0)]⟩,
  ⟨some 3, none, .mv, [.k (pI 200)]⟩] [2, 3])
  .ret)
  .skip))
  (.seq (.region false [
  ⟨some 18, none, .mv, [.tk 4]⟩,
  ⟨some 19, none, .fa 0, [.t 1]⟩,
  ⟨some 20, none, .ld false 1 false, [.t 19]⟩,
  ⟨some 21, none, .ia 6, [.t 18, .t 20]⟩,
  ⟨some 22, none, .ld true 6 false, [.t 21]⟩,
  ⟨some 5, none, .alloc 1 true [(pB false), (pB false), (pB false), (pK .u64 0), (pI 0), (pI 0)], []⟩,
  ⟨none, none, .st 6, [.t 5, .t 22]⟩] [1, 5])
  (.seq (.seq (.region false [
  ⟨some 23, none, .fa 1, [.t 1]⟩,
  ⟨some 24, none, .ld false 1 false, [.t 23]⟩,
  ⟨some 25, none, .fa 0, [.t 5]⟩,
  ⟨some 26, none, .ld false 1 false, [.t 25]⟩,
  ⟨some 27, none, .call 65, [.t 24, .t 26]⟩,
  ⟨some 28, none, .un .not, [.t 27]⟩,
  ⟨some 29, none, .mv, [.t 28]⟩,
  ⟨some 30, (some (29, false)), .fa 2, [.t 1]⟩,
  ⟨some 31, (some (29, false)), .ld false 1 false, [.t 30]⟩,
  ⟨some 32, (some (29, false)), .fa 1, [.t 5]⟩,
  ⟨some 33, (some (29, false)), .ld false 1 false, [.t 32]⟩,
  ⟨some 34, (some (29, false)), .call 65, [.t 31, .t 33]⟩,
  ⟨some 35, (some (29, false)), .un .not, [.t 34]⟩,
  ⟨some 36, none, .pick, [.t 29, .k (pB true), .t 35]⟩,
  ⟨some 37, none, .mv, [.t 36]⟩,
  ⟨some 38, (some (37, false)), .fa 3, [.t 1]⟩,
  ⟨some 39, (some (37, false)), .ld false 1 false, [.t 38]⟩,
  ⟨some 40, (some (37, false)), .fa 2, [.t 5]⟩,
  ⟨some 41, (some (37, false)), .ld false 1 false, [.t 40]⟩,
  ⟨some 42, (some (37, false)), .call 65, [.t 39, .t 41]⟩,
  ⟨some 43, (some (37, false)), .un .not, [.t 42]⟩,
  ⟨some 44, none, .pick, [.t 37, .k (pB true), .t 43]⟩,
  ⟨some 45, none, .mv, [.t 44]⟩,
  ⟨some 46, (some (45, false)), .fa 4, [.t 1]⟩,
  ⟨some 47, (some (45, false)), .ld false 1 false, [.t 46]⟩,
  ⟨some 48, (some (45, false)), .fa 4, [.t 5]⟩,
  ⟨some 49, (some (45, false)), .ld false 1 false, [.t 48]⟩,
  ⟨some 50, (some (45, false)), .bin .lss false, [.t 47, .t 49]⟩,
  ⟨some 51, none, .pick, [.t 45, .k (pB true), .t 50]⟩,
  ⟨some 52, none, .mv, [.t 51]⟩,
  ⟨some 53, (some (52, false)), .fa 4, [.t 1]⟩,
  ⟨some 54, (some (52, false)), .ld false 1 false, [.t 53]⟩,
  ⟨some 55, (some (52, false)), .fa 5, [.t 5]⟩,
  ⟨some 56, (some (52, false)), .ld false 1 false, [.t 55]⟩,
  ⟨some 57, (some (52, false)), .bin .gtr false, [.t 54, .t 56]⟩,
  ⟨some 58, none, .pick, [.t 52, .k (pB true), .t 57]⟩] [1, 5, 58])
  (.cond (.t 58)
  (.seq (.region false [
  ⟨some 2, none, .mv, [.k (pK .u32 0)]⟩,
  ⟨some 3, none, .mv, [.k (pI 200)]⟩] [2, 3])
  .ret)
  .skip))
  (.seq (.region false [
  ⟨some 59, none, .fa 4, [.t 1]⟩,
  ⟨some 60, none, .ld false 1 false, [.t 59]⟩,
  ⟨some 6, none, .mv, [.t 60]⟩] [1, 5, 6])
  (.seq (.seq (.region false [
  ⟨some 61, none, .mv, [.t 6]⟩,
  ⟨some 62, none, .bin .lss false, [.t 61, .k (pI 0)]⟩] [1, 5, 6, 62])
  (.cond (.t 62)
  (.region false [
  ⟨some 63, none, .mv, [.t 6]⟩,
  ⟨some 64, none, .fa 3, [.t 5]⟩,
  ⟨some 65, none, .ld false 1 false, [.t 64]⟩,
  ⟨some 66, none, .bin .shl false, [.k (pI 1), .t 65]⟩,
  ⟨some 67, none, .bin .add false, [.t 63, .t 66]⟩,
  ⟨some 6, none, .mv, [.t 67]⟩] [1, 6])
  .skip))
  (.seq (.region false [
  ⟨some 68, none, .fa 0, [.t 1]⟩,
  ⟨some 69, none, .ld false 1 false, [.t 68]⟩,
  ⟨some 70, none, .bin .mul false, [.t 69, .k (pI 67108864)]⟩,
  ⟨some 71, none, .fa 1, [.t 1]⟩,
  ⟨some 72, none, .ld false 1 false, [.t 71]⟩,
  ⟨some 73, none, .bin .mul false, [.t 72, .k (pI 2097152)]⟩,
  ⟨some 74, none, .bin .add false, [.t 70, .t 73]⟩,
  ⟨some 75, none, .fa 2, [.t 1]⟩,
  ⟨some 76, none, .ld false 1 false, [.t 75]⟩,
  ⟨some 77, none, .bin .mul false, [.t 76, .k (pI 65536)]⟩,
  ⟨some 78, none, .bin .add false, [.t 74, .t 77]⟩,
  ⟨some 79, none, .fa 3, [.t 1]⟩,
  ⟨some 80, none, .ld false 1 false, [.t 79]⟩,
  ⟨some 81, none, .bin .mul false, [.t 80, .k (pI 2048)]⟩,
  ⟨some 82, none, .bin .add false, [.t 78, .t 81]⟩,
  ⟨some 83, none, .mv, [.t 6]⟩,
  ⟨some 84, none, .bin .add false, [.t 82, .t 83]⟩,
  ⟨some 85, none, .cvi .u32, [.t 84]⟩,
  ⟨some 2, none, .mv, [.t 85]⟩,
  ⟨some 3, none, .mv, [.k (pI 0)]⟩] [2, 3])
  .ret))))))))⟩
/-- scrimshaw/scrimshawref20.Rows -/
def x59 : XFunc := ⟨0, [.tmp 0],
  (.seq (.region false [
  ⟨some 0, none, .mv, [.kn 6]⟩] [])
  (.seq (.region false [
  ⟨some 9, none, .bld [(pB false), (pB false), (pB false), (pK .u64 0), (pI 0), (pI 0)] [(0, 1)], [.k (pB true)]⟩,
  ⟨some 1, none, .alloc 0 true [(pB false), (pB false), (pB false), (pK .u64 0), (pI 0), (pI 0)], []⟩,
  ⟨none, none, .st 6, [.t 1, .t 9]⟩] [1])
  (.seq (.region false [
  ⟨some 10, none, .bld [(pB false), (pB false), (pB false), (pK .u64 0), (pI 0), (pI 0)] [(0, 1), (1, 1), (2, 1)], [.k (pB true), .k (pB true), .k (pB true)]⟩,
  ⟨some 2, none, .alloc 1 true [(pB false), (pB false), (pB false), (pK .u64 0), (pI 0), (pI 0)], []⟩,
  ⟨none, none, .st 6, [.t 2, .t 10]⟩] [1, 2])
  (.seq (.region false [
  ⟨some 11, none, .bld [(pB false), (pB false), (pB false), (pK .u64 0), (pI 0), (pI 0)] [(0, 1), (1, 1), (3, 1), (4, 1), (5, 1)], [.k (pB true), .k (pB true), .k (pK .u64 16), .k (pI (-32768)), .k (pI 32767)]⟩,
  ⟨some 3, none, .alloc 2 true [(pB false), (pB false), (pB false), (pK .u64 0), (pI 0), (pI 0)], []⟩,
  ⟨none, none, .st 6, [.t 3, .t 11]⟩] [1, 2, 3])
  (.seq (.region false [
  ⟨some 12, none, .bld [(pB false), (pB false), (pB false), (pK .u64 0), (pI 0), (pI 0)] [(0, 1), (1, 1), (3, 1), (5, 1)], [.k (pB true), .k (pB true), .k (pK .u64 16), .k (pI 65535)]⟩,
  ⟨some 4, none, .alloc 3 true [(pB false), (pB false), (pB false), (pK .u64 0), (pI 0), (pI 0)], []⟩,
  ⟨none, none, .st 6, [.t 4, .t 12]⟩] [1, 2, 3, 4])
  (.seq (.region false [
  ⟨some 13, none, .bld [(pB false), (pB false), (pB false), (pK .u64 0), (pI 0), (pI 0)] [(0, 1), (1, 1), (3, 1), (5, 1)], [.k (pB true), .k (pB true), .k (pK .u64 16), .k (pI 63)]⟩,
  ⟨some 5, none, .alloc 4 true [(pB false), (pB false), (pB false), (pK .u64 0), (pI 0), (pI 0)], []⟩,
  ⟨none, none, .st 6, [.t 5, .t 13]⟩] [1, 2, 3, 4, 5])
  (.seq (.region false [
  ⟨some 14, none, .bld [(pB false), (pB false), (pB false), (pK .u64 0), (pI 0), (pI 0)] [(0, 1), (1, 1), (3, 1), (4, 1), (5, 1)], [.k (pB true), .k (pB true), .k (pK .u64 10), .k (pI (-512)), .k (pI 511)]⟩,
  ⟨some 6, none, .alloc 5 true [(pB false), (pB false), (pB false), (pK .u64 0), (pI 0), (pI 0)], []⟩,
  ⟨none, none, .st 6, [.t 6, .t 14]⟩] [1, 2, 3, 4, 5, 6])
  (.seq (.region false [
  ⟨some 15, none, .ld true 6 false, [.t 1]⟩,
  ⟨some 16, none, .blds 6 [(pB false), (pB false), (pB false), (pK .u64 0), (pI 0), (pI 0)] 1 [0], [.t 15]⟩,
  ⟨some 7, none, .mv, [.tk 16]⟩] [1, 2, 3, 4, 5, 6, 7])
  (.seq (.seq (.region false [
  ⟨some 8, none, .mv, [.k (pI 0)]⟩] [1, 2, 3, 4, 5, 6, 7, 8])
  (.block 0 (.loop [1, 2, 3, 4, 5, 6, 7, 8] [0, 1, 2, 3, 4, 5] (.seq (.seq (.region false [
  ⟨some 17, none, .mv, [.t 8]⟩,
  ⟨some 18, none, .bin .lss false, [.t 17, .k (pI 14)]⟩] [1, 2, 3, 4, 5, 6, 7, 8, 18])
  (.cond (.t 18)
  .skip
  (.exit 0)))
  (.seq (.block 1 (.region false [
  ⟨some 21, none, .mv, [.tk 7]⟩,
  ⟨some 22, none, .ld true 6 false, [.t 2]⟩,
  ⟨some 23, none, .blds 6 [(pB false), (pB false), (pB false), (pK .u64 0), (pI 0), (pI 0)] 1 [0], [.t 22]⟩,
  ⟨some 24, none, .app 6 32, [.tk 21, .t 23]⟩,
  ⟨some 7, none, .mv, [.tk 24]⟩] [1, 2, 3, 4, 5, 6, 7, 8]))
  (.region false [
  ⟨some 19, none, .mv, [.t 8]⟩,
  ⟨some 20, none, .bin .add false, [.t 19, .k (pI 1)]⟩,
  ⟨some 8, none, .mv, [.t 20]⟩] [1, 2, 3, 4, 5, 6, 7, 8]))))))
  (.seq (.region false [
  ⟨some 25, none, .mv, [.tk 7]⟩,
  ⟨some 26, none, .ld true 6 false, [.t 3]⟩,
  ⟨some 27, none, .ld true 6 false, [.t 4]⟩,
  ⟨some 28, none, .ld true 6 false, [.t 4]⟩,
  ⟨some 29, none, .ld true 6 false, [.t 5]⟩,
  ⟨some 30, none, .ld true 6 false, [.t 5]⟩,
  ⟨some 31, none, .blds 6 [(pB false), (pB false), (pB false), (pK .u64 0), (pI 0), (pI 0)] 5 [0, 1, 2, 3, 4], [.t 26, .t 27, .t 28, .t 29, .t 30]⟩,
  ⟨some 32, none, .app 6 32, [.tk 25, .t 31]⟩,
  ⟨some 7, none, .mv, [.tk 32]⟩] [1, 3, 6, 7])
  (.seq (.region false [
  ⟨some 33, none, .mv, [.tk 7]⟩,
  ⟨some 34, none, .bld [(pB false), (pB false), (pB false), (pK .u64 0), (pI 0), (pI 0)] [(0, 1), (3, 1), (4, 1), (5, 1)], [.k (pB true), .k (pK .u64 16), .k (pI (-32768)), .k (pI 32767)]⟩,
  ⟨some 35, none, .bld [(pB false), (pB false), (pB false), (pK .u64 0), (pI 0), (pI 0)] [(0, 1), (3, 1), (5, 1)], [.k (pB true), .k (pK .u64 16), .k (pI 65535)]⟩,
  ⟨some 36, none, .ld true 6 false, [.t 3]⟩,
  ⟨some 37, none, .ld true 6 false, [.t 3]⟩,
  ⟨some 38, none, .blds 6 [(pB false), (pB false), (pB false), (pK .u64 0), (pI 0), (pI 0)] 4 [0, 1, 2, 3], [.t 34, .t 35, .t 36, .t 37]⟩,
  ⟨some 39, none, .app 6 32, [.tk 33, .t 38]⟩,
  ⟨some 7, none, .mv, [.tk 39]⟩] [1, 6, 7])
  (.seq (.region false [
  ⟨some 40, none, .mv, [.tk 7]⟩,
  ⟨some 41, none, .ld true 6 false, [.t 6]⟩,
  ⟨some 42, none, .ld true 6 false, [.t 6]⟩,
  ⟨some 43, none, .ld true 6 false, [.t 6]⟩,
  ⟨some 44, none, .ld true 6 false, [.t 6]⟩,
  ⟨some 45, none, .blds 6 [(pB false), (pB false), (pB false), (pK .u64 0), (pI 0), (pI 0)] 4 [0, 1, 2, 3], [.t 41, .t 42, .t 43, .t 44]⟩,
  ⟨some 46, none, .app 6 32, [.tk 40, .t 45]⟩,
  ⟨some 7, none, .mv, [.tk 46]⟩] [1, 7])
  (.seq (.region false [
  ⟨some 47, none, .mv, [.tk 7]⟩,
  ⟨some 48, none, .bld [(pB false), (pB false), (pB false), (pK .u64 0), (pI 0), (pI 0)] [(0, 1), (3, 1), (4, 1), (5, 1)], [.k (pB true), .k (pK .u64 21), .k (pI (-1048576)), .k (pI 1048575)]⟩,
  ⟨some 49, none, .bld [(pB false), (pB false), (pB false), (pK .u64 0), (pI 0), (pI 0)] [(0, 1), (1, 1)], [.k (pB true), .k (pB true)]⟩,
  ⟨some 50, none, .ld true 6 false, [.t 1]⟩,
  ⟨some 51, none, .ld true 6 false, [.t 1]⟩,
  ⟨some 52, none, .blds 6 [(pB false), (pB false), (pB false), (pK .u64 0), (pI 0), (pI 0)] 4 [0, 1, 2, 3], [.t 48, .t 49, .t 50, .t 51]⟩,
  ⟨some 53, none, .app 6 32, [.tk 47, .t 52]⟩,
  ⟨some 7, none, .mv, [.tk 53]⟩] [7])
  (.seq (.region false [
  ⟨some 54, none, .mv, [.tk 7]⟩,
  ⟨some 0, none, .mv, [.tk 54]⟩] [0])
  .ret))))))))))))))⟩
/-- scrimshaw/scrimshawref20.three -/
def x60 : XFunc := ⟨3, [.tmp 6],
  (.seq (.region false [
  ⟨some 6, none, .mv, [.k (pI 0)]⟩] [0, 1, 2])
  (.seq (.seq (.region false [
  ⟨some 7, none, .mv, [.t 0]⟩] [1, 2, 7])
  (.block 0 (.seq (.region false [
  ⟨some 9, none, .bin .eql false, [.t 7, .k (pI 1)]⟩,
  ⟨some 8, none, .mv, [.t 9]⟩] [1, 2, 7, 8])
  (.cond (.t 8)
  (.seq (.region false [
  ⟨some 10, none, .mv, [.t 1]⟩,
  ⟨some 11, none, .mv, [.t 2]⟩,
  ⟨some 12, none, .bin .add false, [.t 10, .t 11]⟩,
  ⟨some 6, none, .mv, [.t 12]⟩] [6])
  .ret)
  (.seq (.region false [
  ⟨some 14, none, .bin .eql false, [.t 7, .k (pI 2)]⟩,
  ⟨some 13, none, .mv, [.t 14]⟩] [1, 2, 7, 13])
  (.cond (.t 13)
  (.seq (.region false [
  ⟨some 15, none, .mv, [.t 1]⟩,
  ⟨some 16, none, .mv, [.t 2]⟩,
  ⟨some 17, none, .bin .sub false, [.t 15, .t 16]⟩,
  ⟨some 6, none, .mv, [.t 17]⟩] [6])
  .ret)
  (.seq (.region false [
  ⟨some 19, none, .bin .eql false, [.t 7, .k (pI 3)]⟩,
  ⟨some 18, none, .mv, [.t 19]⟩] [1, 2, 7, 18])
  (.cond (.t 18)
  (.seq (.region false [
  ⟨some 20, none, .mv, [.t 1]⟩,
  ⟨some 21, none, .mv, [.t 2]⟩,
  ⟨some 22, none, .bin .mul false, [.t 20, .t 21]⟩,
  ⟨some 6, none, .mv, [.t 22]⟩] [6])
  .ret)
  (.seq (.region false [
  ⟨some 24, none, .bin .eql false, [.t 7, .k (pI 4)]⟩,
  ⟨some 23, none, .mv, [.t 24]⟩] [1, 2, 7, 23])
  (.cond (.t 23)
  (.seq (.region false [
  ⟨some 25, none, .mv, [.t 1]⟩,
  ⟨some 26, none, .mv, [.t 2]⟩,
  ⟨some 27, none, .call 66, [.t 25, .t 26]⟩,
  ⟨some 6, none, .mv, [.t 27]⟩] [6])
  .ret)
  (.seq (.region false [
  ⟨some 29, none, .bin .eql false, [.t 7, .k (pI 5)]⟩,
  ⟨some 28, none, .mv, [.t 29]⟩] [1, 2, 7, 28])
  (.cond (.t 28)
  (.seq (.region false [
  ⟨some 30, none, .mv, [.t 1]⟩,
  ⟨some 31, none, .mv, [.t 2]⟩,
  ⟨some 32, none, .bin .quo false, [.t 30, .t 31]⟩,
  ⟨some 6, none, .mv, [.t 32]⟩] [6])
  .ret)
  (.seq (.region false [
  ⟨some 34, none, .bin .eql false, [.t 7, .k (pI 6)]⟩,
  ⟨some 33, none, .mv, [.t 34]⟩] [1, 2, 7, 33])
  (.cond (.t 33)
  (.seq (.region false [
  ⟨some 35, none, .mv, [.t 1]⟩,
  ⟨some 36, none, .mv, [.t 1]⟩,
  ⟨some 37, none, .mv, [.t 2]⟩,
  ⟨some 38, none, .bin .quo false, [.t 36, .t 37]⟩,
  ⟨some 39, none, .mv, [.t 2]⟩,
  ⟨some 40, none, .bin .mul false, [.t 38, .t 39]⟩,
  ⟨some 41, none, .bin .sub false, [.t 35, .t 40]⟩,
  ⟨some 6, none, .mv, [.t 41]⟩] [6])
  .ret)
  (.seq (.region false [
  ⟨some 43, none, .bin .eql false, [.t 7, .k (pI 7)]⟩,
  ⟨some 42, none, .mv, [.t 43]⟩] [1, 2, 7, 42])
  (.cond (.t 42)
  (.seq (.region false [
  ⟨some 44, none, .mv, [.t 1]⟩,
  ⟨some 45, none, .mv, [.t 2]⟩,
  ⟨some 46, none, .bin .and false, [.t 44, .t 45]⟩,
  ⟨some 6, none, .mv, [.t 46]⟩] [6])
  .ret)
  (.seq (.region false [
  ⟨some 48, none, .bin .eql false, [.t 7, .k (pI 8)]⟩,
  ⟨some 47, none, .mv, [.t 48]⟩] [1, 2, 7, 47])
  (.cond (.t 47)
  (.seq (.region false [
  ⟨some 49, none, .mv, [.t 1]⟩,
  ⟨some 50, none, .mv, [.t 2]⟩,
  ⟨some 51, none, .bin .or false, [.t 49, .t 50]⟩,
  ⟨some 6, none, .mv, [.t 51]⟩] [6])
  .ret)
  (.seq (.region false [
  ⟨some 53, none, .bin .eql false, [.t 7, .k (pI 9)]⟩,
  ⟨some 52, none, .mv, [.t 53]⟩] [1, 2, 7, 52])
  (.cond (.t 52)
  (.seq (.region false [
  ⟨some 54, none, .mv, [.t 1]⟩,
  ⟨some 55, none, .mv, [.t 2]⟩,
  ⟨some 56, none, .bin .xor false, [.t 54, .t 55]⟩,
  ⟨some 6, none, .mv, [.t 56]⟩] [6])
  .ret)
  (.seq (.region false [
  ⟨some 58, none, .bin .eql false, [.t 7, .k (pI 10)]⟩,
  ⟨some 57, none, .mv, [.t 58]⟩] [1, 2, 7, 57])
  (.cond (.t 57)
  (.seq (.region false [
  ⟨some 59, none, .mv, [.t 1]⟩,
  ⟨some 60, none, .mv, [.t 2]⟩,
  ⟨some 61, none, .bin .and false, [.t 60, .k (pI 63)]⟩,
  ⟨some 62, none, .cvi .u64, [.t 61]⟩,
  ⟨some 63, none, .bin .shl false, [.t 59, .t 62]⟩,
  ⟨some 6, none, .mv, [.t 63]⟩] [6])
  .ret)
  (.seq (.region false [
  ⟨some 65, none, .bin .eql false, [.t 7, .k (pI 11)]⟩,
  ⟨some 64, none, .mv, [.t 65]⟩] [1, 2, 7, 64])
  (.cond (.t 64)
  (.seq (.region false [
  ⟨some 66, none, .mv, [.t 1]⟩,
  ⟨some 67, none, .mv, [.t 2]⟩,
  ⟨some 68, none, .bin .and false, [.t 67, .k (pI 63)]⟩,
  ⟨some 69, none, .cvi .u64, [.t 68]⟩,
  ⟨some 70, none, .bin .shr false, [.t 66, .t 69]⟩,
  ⟨some 6, none, .mv, [.t 70]⟩] [6])
  .ret)
  (.seq (.region false [
  ⟨some 72, none, .bin .eql false, [.t 7, .k (pI 12)]⟩,
  ⟨some 71, none, .mv, [.t 72]⟩] [1, 2, 7, 71])
  (.cond (.t 71)
  (.seq (.region false [
  ⟨some 73, none, .mv, [.t 1]⟩,
  ⟨some 74, none, .cvi .u64, [.t 73]⟩,
  ⟨some 75, none, .mv, [.t 2]⟩,
  ⟨some 76, none, .bin .and false, [.t 75, .k (pI 63)]⟩,
  ⟨some 77, none, .cvi .u64, [.t 76]⟩,
  ⟨some 78, none, .bin .shr false, [.t 74, .t 77]⟩,
  ⟨some 79, none, .cvi .i64, [.t 78]⟩,
  ⟨some 6, none, .mv, [.t 79]⟩] [6])
  .ret)
  (.seq (.region false [
  ⟨some 81, none, .bin .eql false, [.t 7, .k (pI 13)]⟩,
  ⟨some 80, none, .mv, [.t 81]⟩] [1, 2, 80])
  (.cond (.t 80)
  (.seq (.seq (.region false [
  ⟨some 82, none, .mv, [.t 1]⟩,
  ⟨some 83, none, .mv, [.t 2]⟩,
  ⟨some 84, none, .bin .lss false, [.t 82, .t 83]⟩] [84])
  (.cond (.t 84)
  (.seq (.region false [
  ⟨some 6, none, .mv, [.k (pI 1)]⟩] [6])
  .ret)
  .skip))
  (.seq (.region false [
  ⟨some 6, none, .mv, [.k (pI 0)]⟩] [6])
  .ret))
  .skip))))))))))))))))))))))))))))
  (.seq (.seq (.region false [
  ⟨some 85, none, .mv, [.t 1]⟩,
  ⟨some 86, none, .cvi .u64, [.t 85]⟩,
  ⟨some 87, none, .mv, [.t 2]⟩,
  ⟨some 88, none, .cvi .u64, [.t 87]⟩,
  ⟨some 89, none, .bin .lss false, [.t 86, .t 88]⟩] [89])
  (.cond (.t 89)
  (.seq (.region false [
  ⟨some 6, none, .mv, [.k (pI 1)]⟩] [6])
  .ret)
  .skip))
  (.seq (.region false [
  ⟨some 6, none, .mv, [.k (pI 0)]⟩] [6])
  .ret))))⟩
/-- (*scrimshaw/emit.Builder).Place -/
def x61 : XFunc := ⟨3, [],
  (.region false [
  ⟨some 6, none, .mv, [.t 0]⟩,
  ⟨some 7, none, .mv, [.t 1]⟩,
  ⟨some 8, none, .bld [(pI 0), (pI 0), (pI 0), (pI 0), (pI 0)] [(0, 1), (1, 1)], [.k (pI 20), .t 7]⟩,
  ⟨some 9, none, .mv, [.t 2]⟩,
  ⟨some 10, none, .bld [(pI 0), (pI 0), (pI 0), (pI 0), (pI 0), (pI 0), (pI 0), (pI 0)] [(0, 1), (1, 5), (6, 1)], [.k (pI 5), .t 8, .t 9]⟩,
  ⟨some 11, none, .call 53, [.t 6, .t 10]⟩] [])⟩
/-- scrimshaw/scrimshawref21.Places -/
def x62 : XFunc := ⟨2, [.tmp 4],
  (.seq (.region false [
  ⟨some 4, none, .mv, [.kn 1]⟩] [0, 1])
  (.seq (.region false [
  ⟨some 9, none, .blds 1 [(pI 0)] 1 [0], [.k (pI 0)]⟩,
  ⟨some 5, none, .mv, [.tk 9]⟩] [0, 1, 5])
  (.seq (.region false [
  ⟨some 6, none, .mv, [.k (pI 0)]⟩] [0, 1, 5, 6])
  (.seq (.seq (.region false [
  ⟨some 7, none, .mv, [.k (pI 0)]⟩] [0, 1, 5, 6, 7])
  (.block 0 (.loop [0, 1, 5, 6, 7] [] (.seq (.seq (.region false [
  ⟨some 10, none, .mv, [.t 7]⟩,
  ⟨some 11, none, .mv, [.t 0]⟩,
  ⟨some 12, none, .lenL, [.t 11]⟩,
  ⟨some 13, none, .bin .lss false, [.t 10, .t 12]⟩] [0, 1, 5, 6, 7, 13])
  (.cond (.t 13)
  .skip
  (.exit 0)))
  (.seq (.block 1 (.seq (.region false [
  ⟨some 8, none, .mv, [.k (pI 1)]⟩] [0, 1, 5, 6, 7, 8])
  (.seq (.seq (.region false [
  ⟨some 16, none, .mv, [.t 0]⟩,
  ⟨some 17, none, .mv, [.t 7]⟩,
  ⟨some 18, none, .ia 8, [.t 16, .t 17]⟩,
  ⟨some 19, none, .fa 0, [.t 18]⟩,
  ⟨some 20, none, .ld false 1 false, [.t 19]⟩] [0, 1, 5, 6, 7, 8, 20])
  (.block 2 (.seq (.region false [
  ⟨some 22, none, .bin .eql false, [.t 20, .k (pI 1)]⟩,
  ⟨some 21, none, .mv, [.t 22]⟩] [0, 1, 5, 6, 7, 8, 20, 21])
  (.cond (.t 21)
  (.region false [
  ⟨some 8, none, .mv, [.k (pI 0)]⟩] [0, 1, 5, 6, 7, 8])
  (.seq (.region false [
  ⟨some 24, none, .bin .eql false, [.t 20, .k (pI 2)]⟩,
  ⟨some 23, none, .mv, [.t 24]⟩] [0, 1, 5, 6, 7, 8, 20, 23])
  (.cond (.t 23)
  (.seq (.region false [
  ⟨some 25, none, .mv, [.t 1]⟩,
  ⟨some 26, none, .mv, [.t 7]⟩,
  ⟨some 27, none, .ia 1, [.t 25, .t 26]⟩,
  ⟨some 28, none, .ld false 1 false, [.t 27]⟩] [0, 1, 5, 6, 7, 8, 28])
  (.cond (.t 28)
  (.region false [
  ⟨some 8, none, .mv, [.k (pI 2)]⟩] [0, 1, 5, 6, 7, 8])
  .skip))
  (.seq (.region false [
  ⟨some 30, none, .bin .eql false, [.t 20, .k (pI 4)]⟩,
  ⟨some 29, none, .mv, [.t 30]⟩] [0, 1, 5, 6, 7, 8, 20, 29])
  (.cond (.t 29)
  (.region false [
  ⟨some 31, none, .mv, [.t 0]⟩,
  ⟨some 32, none, .mv, [.t 7]⟩,
  ⟨some 33, none, .ia 8, [.t 31, .t 32]⟩,
  ⟨some 34, none, .fa 7, [.t 33]⟩,
  ⟨some 35, none, .ld false 1 false, [.t 34]⟩,
  ⟨some 36, none, .call 64, [.t 35]⟩,
  ⟨some 8, none, .mv, [.t 36]⟩] [0, 1, 5, 6, 7, 8])
  (.seq (.region false [
  ⟨some 38, none, .bin .eql false, [.t 20, .k (pI 5)]⟩,
  ⟨some 37, none, .mv, [.t 38]⟩] [0, 1, 5, 6, 7, 8, 37])
  (.cond (.t 37)
  (.region false [
  ⟨some 8, none, .mv, [.k (pI 2)]⟩] [0, 1, 5, 6, 7, 8])
  .skip))))))))))
  (.seq (.region false [
  ⟨some 39, none, .mv, [.t 6]⟩,
  ⟨some 40, none, .mv, [.t 8]⟩,
  ⟨some 41, none, .bin .add false, [.t 39, .t 40]⟩,
  ⟨some 6, none, .mv, [.t 41]⟩] [0, 1, 5, 6, 7])
  (.region false [
  ⟨some 42, none, .mv, [.tk 5]⟩,
  ⟨some 43, none, .mv, [.t 6]⟩,
  ⟨some 44, none, .blds 1 [(pI 0)] 1 [0], [.t 43]⟩,
  ⟨some 45, none, .app 1 8, [.tk 42, .t 44]⟩,
  ⟨some 5, none, .mv, [.tk 45]⟩] [0, 1, 5, 6, 7])))))
  (.region false [
  ⟨some 14, none, .mv, [.t 7]⟩,
  ⟨some 15, none, .bin .add false, [.t 14, .k (pI 1)]⟩,
  ⟨some 7, none, .mv, [.t 15]⟩] [0, 1, 5, 6, 7]))))))
  (.seq (.region false [
  ⟨some 46, none, .mv, [.tk 5]⟩,
  ⟨some 4, none, .mv, [.tk 46]⟩] [4])
  .ret)))))⟩
/-- scrimshaw/scrimshawref21.Number -/
def x63 : XFunc := ⟨3, [.tmp 6],
  (.seq (.region false [
  ⟨some 6, none, .mv, [.kn 5]⟩] [0, 1, 2])
  (.seq (.region false [
  ⟨some 10, none, .mv, [.t 1]⟩,
  ⟨some 11, none, .mv, [.t 2]⟩,
  ⟨some 12, none, .bin .sub false, [.t 11, .k (pI 1)]⟩,
  ⟨some 13, none, .bin .mul false, [.k (pI 16), .t 12]⟩,
  ⟨some 14, none, .cvi .u64, [.t 13]⟩,
  ⟨some 15, none, .bin .shr false, [.t 10, .t 14]⟩,
  ⟨some 7, none, .mv, [.t 15]⟩] [0, 1, 2, 7])
  (.seq (.region false [
  ⟨some 16, none, .mv, [.t 0]⟩,
  ⟨some 17, none, .mv, [.t 7]⟩,
  ⟨some 18, none, .bin .add false, [.t 17, .k (pI 32768)]⟩,
  ⟨some 19, none, .bin .and false, [.t 18, .k (pI 65535)]⟩,
  ⟨some 20, none, .bin .sub false, [.t 19, .k (pI 32768)]⟩,
  ⟨some 21, none, .bld [(pI 0), (pI 0), (pI 0), (pI 0), (pI 0)] [(0, 1), (1, 1), (4, 1)], [.k (pI 20), .t 16, .t 20]⟩,
  ⟨some 22, none, .blds 5 [(pI 0), (pI 0), (pI 0), (pI 0), (pI 0)] 1 [0], [.t 21]⟩,
  ⟨some 8, none, .mv, [.tk 22]⟩] [0, 1, 2, 8])
  (.seq (.seq (.region false [
  ⟨some 23, none, .mv, [.t 2]⟩,
  ⟨some 24, none, .bin .sub false, [.t 23, .k (pI 2)]⟩,
  ⟨some 9, none, .mv, [.t 24]⟩] [0, 1, 8, 9])
  (.block 0 (.loop [0, 1, 8, 9] [] (.seq (.seq (.region false [
  ⟨some 25, none, .mv, [.t 9]⟩,
  ⟨some 26, none, .bin .geq false, [.t 25, .k (pI 0)]⟩] [0, 1, 8, 9, 26])
  (.cond (.t 26)
  .skip
  (.exit 0)))
  (.seq (.block 1 (.region false [
  ⟨some 29, none, .mv, [.tk 8]⟩,
  ⟨some 30, none, .mv, [.t 0]⟩,
  ⟨some 31, none, .mv, [.t 1]⟩,
  ⟨some 32, none, .mv, [.t 9]⟩,
  ⟨some 33, none, .bin .mul false, [.k (pI 16), .t 32]⟩,
  ⟨some 34, none, .cvi .u64, [.t 33]⟩,
  ⟨some 35, none, .bin .shr false, [.t 31, .t 34]⟩,
  ⟨some 36, none, .bin .and false, [.t 35, .k (pI 65535)]⟩,
  ⟨some 37, none, .bld [(pI 0), (pI 0), (pI 0), (pI 0), (pI 0)] [(0, 1), (1, 1), (4, 1)], [.k (pI 21), .t 30, .t 36]⟩,
  ⟨some 38, none, .blds 5 [(pI 0), (pI 0), (pI 0), (pI 0), (pI 0)] 1 [0], [.t 37]⟩,
  ⟨some 39, none, .app 5 40, [.tk 29, .t 38]⟩,
  ⟨some 8, none, .mv, [.tk 39]⟩] [0, 1, 8, 9]))
  (.region false [
  ⟨some 27, none, .mv, [.t 9]⟩,
  ⟨some 28, none, .bin .sub false, [.t 27, .k (pI 1)]⟩,
  ⟨some 9, none, .mv, [.t 28]⟩] [0, 1, 8, 9]))))))
  (.seq (.region false [
  ⟨some 40, none, .mv, [.tk 8]⟩,
  ⟨some 6, none, .mv, [.tk 40]⟩] [6])
  .ret)))))⟩
/-- scrimshaw/scrimshawref21.Pieces -/
def x64 : XFunc := ⟨1, [.tmp 2],
  (.seq (.region false [
  ⟨some 2, none, .mv, [.k (pI 0)]⟩] [0])
  (.seq (.region false [
  ⟨some 3, none, .mv, [.k (pI 1)]⟩] [0, 3])
  (.seq (.block 0 (.loop [0, 3] [] (.seq (.seq (.region false [
  ⟨some 5, none, .mv, [.t 3]⟩,
  ⟨some 6, none, .bin .lss false, [.t 5, .k (pI 4)]⟩] [0, 3, 6])
  (.cond (.t 6)
  .skip
  (.exit 0)))
  (.block 1 (.seq (.region false [
  ⟨some 7, none, .mv, [.t 0]⟩,
  ⟨some 8, none, .mv, [.t 3]⟩,
  ⟨some 9, none, .bin .sub false, [.t 8, .k (pI 1)]⟩,
  ⟨some 10, none, .bin .mul false, [.k (pI 16), .t 9]⟩,
  ⟨some 11, none, .cvi .u64, [.t 10]⟩,
  ⟨some 12, none, .bin .shr false, [.t 7, .t 11]⟩,
  ⟨some 4, none, .mv, [.t 12]⟩] [0, 3, 4])
  (.seq (.seq (.region false [
  ⟨some 13, none, .mv, [.t 4]⟩,
  ⟨some 14, none, .bin .geq false, [.t 13, .k (pI (-32768))]⟩,
  ⟨some 15, none, .mv, [.t 14]⟩,
  ⟨some 16, (some (15, true)), .mv, [.t 4]⟩,
  ⟨some 17, (some (15, true)), .bin .leq false, [.t 16, .k (pI 32767)]⟩,
  ⟨some 18, none, .pick, [.t 15, .t 17, .k (pB false)]⟩] [0, 3, 18])
  (.cond (.t 18)
  (.exit 0)
  .skip))
  (.region false [
  ⟨some 19, none, .mv, [.t 3]⟩,
  ⟨some 20, none, .bin .add false, [.t 19, .k (pI 1)]⟩,
  ⟨some 3, none, .mv, [.t 20]⟩] [0, 3])))))))
  (.seq (.region false [
  ⟨some 21, none, .mv, [.t 3]⟩,
  ⟨some 2, none, .mv, [.t 21]⟩] [2])
  .ret))))⟩
/-- scrimshaw/scrimshawref20.reg -/
def x65 : XFunc := ⟨2, [.tmp 4],
  (.seq (.region false [
  ⟨some 4, none, .mv, [.k (pB false)]⟩] [0, 1])
  (.seq (.seq (.region false [
  ⟨some 5, none, .mv, [.t 1]⟩,
  ⟨some 6, none, .un .not, [.t 5]⟩] [0, 6])
  (.cond (.t 6)
  (.seq (.region false [
  ⟨some 7, none, .mv, [.t 0]⟩,
  ⟨some 8, none, .bin .eql false, [.t 7, .k (pI 0)]⟩,
  ⟨some 4, none, .mv, [.t 8]⟩] [4])
  .ret)
  .skip))
  (.seq (.region false [
  ⟨some 9, none, .mv, [.t 0]⟩,
  ⟨some 10, none, .bin .geq false, [.t 9, .k (pI 0)]⟩,
  ⟨some 11, none, .mv, [.t 10]⟩,
  ⟨some 12, (some (11, true)), .mv, [.t 0]⟩,
  ⟨some 13, (some (11, true)), .bin .leq false, [.t 12, .k (pI 31)]⟩,
  ⟨some 14, none, .pick, [.t 11, .t 13, .k (pB false)]⟩,
  ⟨some 4, none, .mv, [.t 14]⟩] [4])
  .ret)))⟩
/-- scrimshaw/scrimshawref20.High -/
def x66 : XFunc := ⟨2, [.tmp 4],
  (.seq (.region false [
  ⟨some 4, none, .mv, [.k (pI 0)]⟩] [0, 1])
  (.seq (.region false [
  ⟨some 12, none, .mv, [.t 0]⟩,
  ⟨some 13, none, .bin .shr false, [.t 12, .k (pK .u64 32)]⟩,
  ⟨some 14, none, .mv, [.t 0]⟩,
  ⟨some 15, none, .bin .and false, [.t 14, .k (pI 4294967295)]⟩,
  ⟨some 5, none, .mv, [.t 13]⟩,
  ⟨some 6, none, .mv, [.t 15]⟩] [1, 5, 6])
  (.seq (.region false [
  ⟨some 16, none, .mv, [.t 1]⟩,
  ⟨some 17, none, .bin .shr false, [.t 16, .k (pK .u64 32)]⟩,
  ⟨some 18, none, .mv, [.t 1]⟩,
  ⟨some 19, none, .bin .and false, [.t 18, .k (pI 4294967295)]⟩,
  ⟨some 7, none, .mv, [.t 17]⟩,
  ⟨some 8, none, .mv, [.t 19]⟩] [5, 6, 7, 8])
  (.seq (.region false [
  ⟨some 20, none, .mv, [.t 6]⟩,
  ⟨some 21, none, .cvi .u64, [.t 20]⟩,
  ⟨some 22, none, .mv, [.t 8]⟩,
  ⟨some 23, none, .cvi .u64, [.t 22]⟩,
  ⟨some 24, none, .bin .mul false, [.t 21, .t 23]⟩,
  ⟨some 9, none, .mv, [.t 24]⟩] [5, 6, 7, 8, 9])
  (.seq (.region false [
  ⟨some 25, none, .mv, [.t 5]⟩,
  ⟨some 26, none, .mv, [.t 8]⟩,
  ⟨some 27, none, .bin .mul false, [.t 25, .t 26]⟩,
  ⟨some 28, none, .mv, [.t 9]⟩,
  ⟨some 29, none, .bin .shr false, [.t 28, .k (pK .u64 32)]⟩,
  ⟨some 30, none, .cvi .i64, [.t 29]⟩,
  ⟨some 31, none, .bin .add false, [.t 27, .t 30]⟩,
  ⟨some 10, none, .mv, [.t 31]⟩] [5, 6, 7, 10])
  (.seq (.region false [
  ⟨some 32, none, .mv, [.t 6]⟩,
  ⟨some 33, none, .mv, [.t 7]⟩,
  ⟨some 34, none, .bin .mul false, [.t 32, .t 33]⟩,
  ⟨some 35, none, .mv, [.t 10]⟩,
  ⟨some 36, none, .bin .and false, [.t 35, .k (pI 4294967295)]⟩,
  ⟨some 37, none, .bin .add false, [.t 34, .t 36]⟩,
  ⟨some 11, none, .mv, [.t 37]⟩] [5, 7, 10, 11])
  (.seq (.region false [
  ⟨some 38, none, .mv, [.t 5]⟩,
  ⟨some 39, none, .mv, [.t 7]⟩,
  ⟨some 40, none, .bin .mul false, [.t 38, .t 39]⟩,
  ⟨some 41, none, .mv, [.t 10]⟩,
  ⟨some 42, none, .bin .shr false, [.t 41, .k (pK .u64 32)]⟩,
  ⟨some 43, none, .bin .add false, [.t 40, .t 42]⟩,
  ⟨some 44, none, .mv, [.t 11]⟩,
  ⟨some 45, none, .bin .shr false, [.t 44, .k (pK .u64 32)]⟩,
  ⟨some 46, none, .bin .add false, [.t 43, .t 45]⟩,
  ⟨some 4, none, .mv, [.t 46]⟩] [4])
  .ret)))))))⟩
end Go.ScX
