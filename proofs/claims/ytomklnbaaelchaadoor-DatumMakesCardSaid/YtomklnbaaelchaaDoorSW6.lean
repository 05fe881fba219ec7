/- W6: data made and parted, as plain functions; DatumMakes answers true. -/
import Derived.Test.YtomklnbaaelchaaDoorSW5
set_option maxRecDepth 100000
set_option linter.unusedSimpArgs false
set_option linter.unusedVariables false
namespace Go.Sc2
open Go.ScE
def cG (o : Bool) : Dt → List CV
  | .node k i s l => [.p (.lit (.int .i64 k)), .p (.lit (.int .i64 i)), .p (.lit (.string s)), rowC o l]
theorem encG_cG (o : Bool) (d : Dt) : encG o d = .agg (cG o d) := by cases d; rfl
def isR (k : Int) : Bool := k == 5 || k == 6
def mkD : List Dt → Dt → Dt
  | [], v => v
  | p, .node k i s l => if isR k = true then .node k 0 ⟨⟨[]⟩⟩ (p ++ l) else .node 6 0 ⟨⟨[]⟩⟩ (p ++ [.node k i s l])
theorem encDs_app : ∀ a b : List Dt, encDs (a ++ b) = encDs a ++ encDs b
  | [], b => rfl
  | d :: a, b => by simp [encDs, encDs_app a b]
theorem encDs_take : ∀ (n : Nat) (l : List Dt), encDs (l.take n) = (encDs l).take n
  | 0, l => by simp [encDs]
  | n + 1, [] => by simp [encDs]
  | n + 1, d :: r => by simp [encDs, encDs_take n r]
theorem room_le {n : Nat} (h : n ≤ 200001) : n * 56 ≤ roomy := by simp only [roomy]; omega
/-- Make. -/
theorem make_nil (C : Go.ScE.Callee) (M : Nat) (p0 p1 p2 p3 : PV) (h : C 20 [.agg [.p p0, .p p1, .p p2, .p p3]] [] = (.agg [.p p0, .p p1, .p p2, .p p3], [], true)) :
    runX C M x9 [.c (.p (.sl 4 [])), .agg [.p p0, .p p1, .p p2, .p p3]] [] = (.agg [.p p0, .p p1, .p p2, .p p3], [], true) := by
  simp [x9, runX, zipArgs, upAs, upA, upC, keepE, keepF, keptE, keptF, keptA, keptC, keptL, evC, stepsX, stepX, stepsD, stepD, dynD, isCall, avoidAs, avoidA, avoidC, wantedX, rdOs, rdO, demA, demC, demL, upL, outL, outC, downL, downC, ScE.look, act, putE, litC, same, evBinQ, evBin, evUn, pint, getH, fget, hget, fset, hset, setH, hhas, zvs, zC, put, cut, pvs, cellsA, undefA, h, freeAs, freeA, freeL, freeC, resXs, resX, tupA, mkA, frzA, frzC, frzL, downA, outA, untakeL, untake]
theorem make_in (C : Go.ScE.Callee) (M : Nat) (k : Int) (p1 p2 : PV) (a : List PV) (q m : List (List PV)) (hk : k = 5 ∨ k = 6) (hq : C 21 [.c (.p (.sl 4 (a :: q)))] [] = (.c (.own 4 (a :: q)), [], true)) (hm : C 21 [.c (.p (.sl 4 m))] [] = (.c (.own 4 m), [], true)) (hr : q.length + 1 + m.length ≤ 100000) :
    runX C M x9 [.c (.p (.sl 4 (a :: q))), .agg [.p (.lit (.int .i64 k)), .p p1, .p p2, .p (.sl 4 m)]] [] = (.agg [.p (.lit (.int .i64 k)), .p (pI 0), .p (pS []), .own 4 (a :: (q ++ m))], [], true) := by
  have hr' : (q.length + 1 + m.length) * 56 ≤ roomy := room_le (by omega)
  have hb : ((q.length : Int) + 1 == 0) = false := by simp; omega
  have hb' : ¬ ((q.length : Int) + 1 = 0) := by omega
  rcases hk with rfl | rfl <;>
  simp [x9, runX, zipArgs, upAs, upA, upC, keepE, keepF, keptE, keptF, keptA, keptC, keptL, evC, stepsX, stepX, stepsD, stepD, dynD, isCall, avoidAs, avoidA, avoidC, wantedX, rdOs, rdO, demA, demC, demL, upL, outL, outC, downL, downC, ScE.look, act, putE, litC, same, evBinQ, evBin, evUn, pint, getH, fget, hget, fset, hset, setH, hhas, zvs, zC, put, cut, pvs, cellsA, undefA, hq, hm, hb, hb', hr', freeAs, freeA, freeL, freeC, listOf, fillX, resXs, resX, tupA, mkA, frzA, frzC, frzL, downA, outA, untakeL, untake]
theorem make_on (C : Go.ScE.Callee) (M : Nat) (k : Int) (p1 p2 p3 : PV) (a : List PV) (q : List (List PV)) (hk : k ≠ 5) (hk' : k ≠ 6) (hq : C 21 [.c (.p (.sl 4 (a :: q)))] [] = (.c (.own 4 (a :: q)), [], true)) (hr : q.length + 1 ≤ 100000)
    (h : C 20 [.agg [.p (.lit (.int .i64 k)), .p p1, .p p2, .p p3]] [] = (.agg [.p (.lit (.int .i64 k)), .p p1, .p p2, .p p3], [], true)) :
    runX C M x9 [.c (.p (.sl 4 (a :: q))), .agg [.p (.lit (.int .i64 k)), .p p1, .p p2, .p p3]] [] = (.agg [.p (pI 6), .p (pI 0), .p (pS []), .own 4 (a :: (q ++ [[.lit (.int .i64 k), p1, p2, p3]]))], [], true) := by
  have hr' : (q.length + 1 + 1) * 56 ≤ roomy := room_le (by omega)
  have hb : ((q.length : Int) + 1 == 0) = false := by simp; omega
  have hb' : ¬ ((q.length : Int) + 1 = 0) := by omega
  have k5 : (k == 5) = false := by simpa using hk
  have k6 : (k == 6) = false := by simpa using hk'
  simp [x9, runX, zipArgs, upAs, upA, upC, keepE, keepF, keptE, keptF, keptA, keptC, keptL, evC, stepsX, stepX, stepsD, stepD, dynD, isCall, avoidAs, avoidA, avoidC, wantedX, rdOs, rdO, demA, demC, demL, upL, outL, outC, downL, downC, ScE.look, act, putE, litC, same, evBinQ, evBin, evUn, pint, getH, fget, hget, fset, hset, setH, hhas, zvs, zC, put, cut, pvs, cellsA, undefA, hq, h, hb, hb', k5, k6, hk, hk', hr', freeAs, freeA, freeL, freeC, listOf, fillX, fillS, toPs, toP, List.replicate, resXs, resX, tupA, mkA, frzA, frzC, frzL, downA, outA, untakeL, untake]
/-- The other Make. -/
theorem rmake_nil (C : Go.ScE.Callee) (M : Nat) (p0 p1 p2 p3 : PV) :
    runX C M x12 [.c (.p (.sl 4 [])), .agg [.p p0, .p p1, .p p2, .p p3]] [] = (.agg [.p p0, .p p1, .p p2, .p p3], [], true) := by
  simp [x12, runX, zipArgs, upAs, upA, upC, keepE, keepF, keptE, keptF, keptA, keptC, keptL, evC, stepsX, stepX, stepsD, stepD, dynD, isCall, avoidAs, avoidA, avoidC, wantedX, rdOs, rdO, demA, demC, demL, upL, outL, outC, downL, downC, ScE.look, act, putE, litC, same, evBinQ, evBin, evUn, pint, getH, fget, hget, fset, hset, setH, hhas, zvs, zC, put, cut, pvs, cellsA, undefA, freeAs, freeA, freeL, freeC, resXs, resX, tupA, mkA, frzA, frzC, frzL, downA, outA, untakeL, untake]
theorem rmake_in (C : Go.ScE.Callee) (M : Nat) (k : Int) (p1 p2 : PV) (a : List PV) (q m : List (List PV)) (hk : k = 5 ∨ k = 6) (hr : q.length + 1 + m.length ≤ 100000) :
    runX C M x12 [.c (.p (.sl 4 (a :: q))), .agg [.p (.lit (.int .i64 k)), .p p1, .p p2, .p (.sl 4 m)]] [] = (.agg [.p (.lit (.int .i64 k)), .p (pI 0), .p (pS []), .own 4 (a :: (q ++ m))], [], true) := by
  have hr' : (q.length + 1 + m.length) * 56 ≤ roomy := room_le (by omega)
  have hr2 : (q.length + 1) * 56 ≤ roomy := room_le (by omega)
  have hb : ((q.length : Int) + 1 == 0) = false := by simp; omega
  have hb' : ¬ ((q.length : Int) + 1 = 0) := by omega
  rcases hk with rfl | rfl <;>
  simp [x12, runX, zipArgs, upAs, upA, upC, keepE, keepF, keptE, keptF, keptA, keptC, keptL, evC, stepsX, stepX, stepsD, stepD, dynD, isCall, avoidAs, avoidA, avoidC, wantedX, rdOs, rdO, demA, demC, demL, upL, outL, outC, downL, downC, ScE.look, act, putE, litC, same, evBinQ, evBin, evUn, pint, getH, fget, hget, fset, hset, setH, hhas, zvs, zC, put, cut, pvs, cellsA, undefA, hb, hb', hr', hr2, freeAs, freeA, freeL, freeC, listOf, fillX, fillS, toPs, toP, List.replicate, resXs, resX, tupA, mkA, frzA, frzC, frzL, downA, outA, untakeL, untake]
theorem rmake_on (C : Go.ScE.Callee) (M : Nat) (k : Int) (p1 p2 p3 : PV) (a : List PV) (q : List (List PV)) (hk : k ≠ 5) (hk' : k ≠ 6) (hr : q.length + 1 ≤ 100000) :
    runX C M x12 [.c (.p (.sl 4 (a :: q))), .agg [.p (.lit (.int .i64 k)), .p p1, .p p2, .p p3]] [] = (.agg [.p (pI 6), .p (pI 0), .p (pS []), .own 4 (a :: (q ++ [[.lit (.int .i64 k), p1, p2, p3]]))], [], true) := by
  have hr' : (q.length + 1 + 1) * 56 ≤ roomy := room_le (by omega)
  have hr2 : (q.length + 1) * 56 ≤ roomy := room_le (by omega)
  have hb : ((q.length : Int) + 1 == 0) = false := by simp; omega
  have hb' : ¬ ((q.length : Int) + 1 = 0) := by omega
  have k5 : (k == 5) = false := by simpa using hk
  have k6 : (k == 6) = false := by simpa using hk'
  simp [x12, runX, zipArgs, upAs, upA, upC, keepE, keepF, keptE, keptF, keptA, keptC, keptL, evC, stepsX, stepX, stepsD, stepD, dynD, isCall, avoidAs, avoidA, avoidC, wantedX, rdOs, rdO, demA, demC, demL, upL, outL, outC, downL, downC, ScE.look, act, putE, litC, same, evBinQ, evBin, evUn, pint, getH, fget, hget, fset, hset, setH, hhas, zvs, zC, put, cut, pvs, cellsA, undefA, hb, hb', k5, k6, hk, hk', hr', hr2, freeAs, freeA, freeL, freeC, listOf, fillX, fillS, toPs, toP, List.replicate, resXs, resX, tupA, mkA, frzA, frzC, frzL, downA, outA, untakeL, untake]
end Go.Sc2
