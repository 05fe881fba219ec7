/- W7: data parted, rows compared, and DatumMakes over any callee. -/
import Derived.Test.YtomklnbaaelchaaDoorSW6
set_option maxRecDepth 100000
set_option linter.unusedSimpArgs false
set_option linter.unusedVariables false
namespace Go.Sc2
open Go.ScE
/-- A row, owned or by value. -/
def rg (o : Bool) (q : List (List PV)) : CV := match o with
  | true => .own 4 q
  | false => .p (.sl 4 q)
theorem items_5 (C : Go.ScE.Callee) (M : Nat) (p1 p2 : PV) (m : List (List PV)) (hm : C 21 [.c (.p (.sl 4 m))] [] = (.c (.own 4 m), [], true)) :
    runX C M x10 [.agg [.p (pI 5), .p p1, .p p2, .p (.sl 4 m)]] [] = (.tup [(false, [.own 4 m]), (true, [.p (pI 5), .p (pI 0), .p (pS []), .own 4 []])], [], true) := by
  simp [x10, runX, zipArgs, upAs, upA, upC, keepE, keepF, keptE, keptF, keptA, keptC, keptL, evC, stepsX, stepX, stepsD, stepD, dynD, isCall, avoidAs, avoidA, avoidC, wantedX, rdOs, rdO, demA, demC, demL, upL, outL, outC, outT, downL, downC, downT, ScE.look, act, putE, litC, same, evBinQ, evBin, evUn, pint, getH, fget, hget, fset, hset, setH, hhas, zvs, zC, put, cut, pvs, cellsA, undefA, hm, freeAs, freeA, freeL, freeC, listOf, fillX, resXs, resX, tupA, mkA, frzA, frzC, frzL, frzT, downA, outA, untakeL, untake]
theorem items_o (C : Go.ScE.Callee) (M : Nat) (k : Int) (p1 p2 : PV) (m : List (List PV)) (hk : k ≠ 5) (hk' : k ≠ 6 ∨ m = [])
    (h : C 20 [.agg [.p (.lit (.int .i64 k)), .p p1, .p p2, .p (.sl 4 m)]] [] = (.agg [.p (.lit (.int .i64 k)), .p p1, .p p2, .p (.sl 4 m)], [], true)) :
    runX C M x10 [.agg [.p (.lit (.int .i64 k)), .p p1, .p p2, .p (.sl 4 m)]] [] = (.tup [(false, [.own 4 []]), (true, [.p (.lit (.int .i64 k)), .p p1, .p p2, .p (.sl 4 m)])], [], true) := by
  have k5 : (k == 5) = false := by simpa using hk
  by_cases h6 : k = 6
  · obtain rfl : m = [] := by rcases hk' with e | e; exact absurd h6 e; exact e
    subst h6
    simp [x10, runX, zipArgs, upAs, upA, upC, keepE, keepF, keptE, keptF, keptA, keptC, keptL, evC, stepsX, stepX, stepsD, stepD, dynD, isCall, avoidAs, avoidA, avoidC, wantedX, rdOs, rdO, demA, demC, demL, upL, outL, outC, outT, downL, downC, downT, ScE.look, act, putE, litC, same, evBinQ, evBin, evUn, pint, getH, fget, hget, fset, hset, setH, hhas, zvs, zC, put, cut, pvs, cellsA, undefA, h, freeAs, freeA, freeL, freeC, listOf, fillX, resXs, resX, tupA, mkA, frzA, frzC, frzL, frzT, downA, outA, untakeL, untake]
  · have k6 : (k == 6) = false := by simpa using h6
    simp [x10, runX, zipArgs, upAs, upA, upC, keepE, keepF, keptE, keptF, keptA, keptC, keptL, evC, stepsX, stepX, stepsD, stepD, dynD, isCall, avoidAs, avoidA, avoidC, wantedX, rdOs, rdO, demA, demC, demL, upL, outL, outC, outT, downL, downC, downT, ScE.look, act, putE, litC, same, evBinQ, evBin, evUn, pint, getH, fget, hget, fset, hset, setH, hhas, zvs, zC, put, cut, pvs, cellsA, undefA, h, hk, h6, k5, k6, freeAs, freeA, freeL, freeC, listOf, fillX, resXs, resX, tupA, mkA, frzA, frzC, frzL, frzT, downA, outA, untakeL, untake]
theorem items_6 (C : Go.ScE.Callee) (M : Nat) (p1 p2 : PV) (m : List (List PV)) (n : Nat) (hn : m.length = n + 1) (hb : n ≤ 100000) (l0 l1 l2 l3 : PV) (hlt : n < m.length) (hl : m[n] = [l0, l1, l2, l3])
    (hm : C 21 [.c (.p (.sl 4 (m.take n)))] [] = (.c (.own 4 (m.take n)), [], true)) (h : C 20 [.agg [.p l0, .p l1, .p l2, .p l3]] [] = (.agg [.p l0, .p l1, .p l2, .p l3], [], true)) :
    runX C M x10 [.agg [.p (pI 6), .p p1, .p p2, .p (.sl 4 m)]] [] = (.tup [(false, [.own 4 (m.take n)]), (true, [.p l0, .p l1, .p l2, .p l3])], [], true) := by
  have hw : IntKind.wrap .i64 (n : Int) = (n : Int) := IntWalk.i64_in _ ⟨by omega, by omega⟩
  have hp : (0 : Int) < (n : Int) + 1 := by omega
  simp [x10, runX, zipArgs, upAs, upA, upC, keepE, keepF, keptE, keptF, keptA, keptC, keptL, evC, stepsX, stepX, stepsD, stepD, dynD, isCall, avoidAs, avoidA, avoidC, wantedX, rdOs, rdO, demA, demC, demL, upL, outL, outC, outT, downL, downC, downT, ScE.look, act, putE, litC, same, evBinQ, evBin, evUn, pint, getH, fget, hget, fset, hset, setH, hhas, zvs, zC, put, cut, pvs, cellsA, undefA, slOf, hn, hw, hp, hl, hm, h, freeAs, freeA, freeL, freeC, listOf, fillX, resXs, resX, tupA, mkA, frzA, frzC, frzL, frzT, downA, outA, untakeL, untake]
  omega
theorem ritems_5 (C : Go.ScE.Callee) (M : Nat) (p1 p2 : PV) (m : List (List PV)) :
    runX C M x11 [.agg [.p (pI 5), .p p1, .p p2, .p (.sl 4 m)]] [] = (.tup [(false, [.p (.sl 4 m)]), (true, [.p (pI 5), .p (pI 0), .p (pS []), .own 4 []])], [], true) := by
  simp [x11, runX, zipArgs, upAs, upA, upC, keepE, keepF, keptE, keptF, keptA, keptC, keptL, evC, stepsX, stepX, stepsD, stepD, dynD, isCall, avoidAs, avoidA, avoidC, wantedX, rdOs, rdO, demA, demC, demL, upL, outL, outC, outT, downL, downC, downT, ScE.look, act, putE, litC, same, evBinQ, evBin, evUn, pint, getH, fget, hget, fset, hset, setH, hhas, zvs, zC, put, cut, pvs, cellsA, undefA, freeAs, freeA, freeL, freeC, listOf, fillX, resXs, resX, tupA, mkA, frzA, frzC, frzL, frzT, downA, outA, untakeL, untake]
theorem ritems_o (C : Go.ScE.Callee) (M : Nat) (k : Int) (p1 p2 : PV) (m : List (List PV)) (hk : k ≠ 5) (hk' : k ≠ 6 ∨ m = []) :
    runX C M x11 [.agg [.p (.lit (.int .i64 k)), .p p1, .p p2, .p (.sl 4 m)]] [] = (.tup [(false, [.own 4 []]), (true, [.p (.lit (.int .i64 k)), .p p1, .p p2, .p (.sl 4 m)])], [], true) := by
  have k5 : (k == 5) = false := by simpa using hk
  by_cases h6 : k = 6
  · obtain rfl : m = [] := by rcases hk' with e | e; exact absurd h6 e; exact e
    subst h6
    simp [x11, runX, zipArgs, upAs, upA, upC, keepE, keepF, keptE, keptF, keptA, keptC, keptL, evC, stepsX, stepX, stepsD, stepD, dynD, isCall, avoidAs, avoidA, avoidC, wantedX, rdOs, rdO, demA, demC, demL, upL, outL, outC, outT, downL, downC, downT, ScE.look, act, putE, litC, same, evBinQ, evBin, evUn, pint, getH, fget, hget, fset, hset, setH, hhas, zvs, zC, put, cut, pvs, cellsA, undefA, freeAs, freeA, freeL, freeC, listOf, fillX, resXs, resX, tupA, mkA, frzA, frzC, frzL, frzT, downA, outA, untakeL, untake]
  · have k6 : (k == 6) = false := by simpa using h6
    simp [x11, runX, zipArgs, upAs, upA, upC, keepE, keepF, keptE, keptF, keptA, keptC, keptL, evC, stepsX, stepX, stepsD, stepD, dynD, isCall, avoidAs, avoidA, avoidC, wantedX, rdOs, rdO, demA, demC, demL, upL, outL, outC, outT, downL, downC, downT, ScE.look, act, putE, litC, same, evBinQ, evBin, evUn, pint, getH, fget, hget, fset, hset, setH, hhas, zvs, zC, put, cut, pvs, cellsA, undefA, hk, h6, k5, k6, freeAs, freeA, freeL, freeC, listOf, fillX, resXs, resX, tupA, mkA, frzA, frzC, frzL, frzT, downA, outA, untakeL, untake]
theorem ritems_6 (C : Go.ScE.Callee) (M : Nat) (p1 p2 : PV) (m : List (List PV)) (n : Nat) (hn : m.length = n + 1) (hb : n ≤ 100000) (l0 l1 l2 l3 : PV) (hlt : n < m.length) (hl : m[n] = [l0, l1, l2, l3]) :
    runX C M x11 [.agg [.p (pI 6), .p p1, .p p2, .p (.sl 4 m)]] [] = (.tup [(false, [.p (.sl 4 (m.take n))]), (true, [.p l0, .p l1, .p l2, .p l3])], [], true) := by
  have hw : IntKind.wrap .i64 (n : Int) = (n : Int) := IntWalk.i64_in _ ⟨by omega, by omega⟩
  have hp : (0 : Int) < (n : Int) + 1 := by omega
  simp [x11, runX, zipArgs, upAs, upA, upC, keepE, keepF, keptE, keptF, keptA, keptC, keptL, evC, stepsX, stepX, stepsD, stepD, dynD, isCall, avoidAs, avoidA, avoidC, wantedX, rdOs, rdO, demA, demC, demL, upL, outL, outC, outT, downL, downC, downT, ScE.look, act, putE, litC, same, evBinQ, evBin, evUn, pint, getH, fget, hget, fset, hset, setH, hhas, zvs, zC, put, cut, pvs, cellsA, undefA, slOf, hn, hw, hp, hl, freeAs, freeA, freeL, freeC, listOf, fillX, resXs, resX, tupA, mkA, frzA, frzC, frzL, frzT, downA, outA, untakeL, untake]
  omega
theorem sameAll_run (C : Go.ScE.Callee) (M : Nat) (a b : List (List PV)) (v : Bool)
    (h : C 8 [.agg [.p (pI 0), .p (pI 0), .p (pS []), .p (.sl 4 a)], .agg [.p (pI 0), .p (pI 0), .p (pS []), .p (.sl 4 b)]] [] = (.c (.p (.lit (.bool v))), [], true)) :
    runX C M x13 [.c (.p (.sl 4 a)), .c (.p (.sl 4 b))] [] = (.c (.p (.lit (.bool v))), [], true) := by
  cases a <;> cases b <;> simp [x13, runX, zipArgs, upAs, upA, upC, keepE, keepF, keptE, keptF, keptA, keptC, keptL, evC, stepsX, stepX, stepsD, stepD, dynD, isCall, avoidAs, avoidA, avoidC, wantedX, rdOs, rdO, demA, demC, demL, upL, outL, outC, outT, downL, downC, downT, ScE.look, act, putE, litC, same, evBinQ, evBin, evUn, pint, getH, fget, hget, fset, hset, setH, hhas, zvs, zC, put, cut, pvs, cellsA, undefA, h, freeAs, freeA, freeL, freeC, listOf, fillX, resXs, resX, tupA, mkA, frzA, frzC, frzL, frzT, downA, outA, untakeL, untake]
/-- DatumMakes, where its arguments are many. -/
theorem makes_big1 (C : Go.ScE.Callee) (M : Nat) (q : List (List PV)) (p0 p1 p2 p3 : PV) (h6 : C 6 [] [] = (.c (.p (.lit (.bool true))), [], true))
    (h5 : C 5 [.c (.p (.sl 4 q))] [] = (.c (.p (.lit (.bool true))), [], true)) :
    runX C M x4 [.c (.p (.sl 4 q)), .agg [.p p0, .p p1, .p p2, .p p3]] [] = (.c (.p (.lit (.bool true))), [], true) := by
  simp [x4, runX, zipArgs, upAs, upA, upC, keepE, keepF, keptE, keptF, keptA, keptC, keptL, evC, stepsX, stepX, wantedX, rdOs, rdO, demA, demC, demL, upL, outL, outC, downL, downC, ScE.look, act, putE, litC, same, evBinQ, evBin, evUn, pint, getH, fget, hget, fset, hset, setH, hhas, zvs, zC, put, cut, pvs, cellsA, undefA, h5, h6, freeAs, freeA, freeL, freeC, listOf, fillS, toPs, toP, List.replicate, resXs, resX, tupA, mkA, frzA, frzC, frzL, frzT, downA, outA]
theorem makes_big2 (C : Go.ScE.Callee) (M : Nat) (q : List (List PV)) (p0 p1 p2 p3 : PV) (h6 : C 6 [] [] = (.c (.p (.lit (.bool true))), [], true))
    (h5 : C 5 [.c (.p (.sl 4 q))] [] = (.c (.p (.lit (.bool false))), [], true)) (h5' : C 5 [.c (.p (.sl 4 [[p0, p1, p2, p3]]))] [] = (.c (.p (.lit (.bool true))), [], true)) :
    runX C M x4 [.c (.p (.sl 4 q)), .agg [.p p0, .p p1, .p p2, .p p3]] [] = (.c (.p (.lit (.bool true))), [], true) := by
  simp [x4, runX, zipArgs, upAs, upA, upC, keepE, keepF, keptE, keptF, keptA, keptC, keptL, evC, stepsX, stepX, wantedX, rdOs, rdO, demA, demC, demL, upL, outL, outC, downL, downC, ScE.look, act, putE, litC, same, evBinQ, evBin, evUn, pint, getH, fget, hget, fset, hset, setH, hhas, zvs, zC, put, cut, pvs, cellsA, undefA, h5, h5', h6, freeAs, freeA, freeL, freeC, listOf, fillS, toPs, toP, List.replicate, resXs, resX, tupA, mkA, frzA, frzC, frzL, frzT, downA, outA]
section
variable (o : Bool) (q : List (List PV)) (n : Nat)
theorem rg_dem : demC (rg o q) = .p (.sl 4 q) := by cases o <;> rfl
theorem rg_up : upC n (rg o q) = rg o q := by cases o <;> rfl
theorem rg_down : downC n (rg o q) = rg o q := by cases o <;> rfl
theorem rg_out : outC n (rg o q) = true := by cases o <;> rfl
theorem rg_free : freeC (rg o q) = true := by cases o <;> rfl
theorem rg_avoid (l : List Nat) : avoidC l (rg o q) = true := by cases o <;> rfl
theorem rg_kept (l : List Nat) : keptC l (rg o q) = true := by cases o <;> rfl
theorem rg_cells : cellsA (.c (rg o q)) = some [rg o q] := by cases o <;> rfl
end
section
variable (n d k off sz : Nat) (x : PV) (l : List (List PV)) (av : List Nat)
theorem dem_p : demC (.p x) = .p x := rfl
theorem dem_own : demC (.own sz l) = .p (.sl sz l) := rfl
theorem dem_ref : demC (.ref d k off) = .ref d k off := rfl
theorem up_p : upC n (.p x) = .p x := rfl
theorem up_own : upC n (.own sz l) = .own sz l := rfl
theorem up_ref : upC n (.ref d k off) = .ref (d + n) k off := rfl
theorem down_p : downC n (.p x) = .p x := rfl
theorem down_own : downC n (.own sz l) = .own sz l := rfl
theorem down_ref : downC n (.ref d k off) = .ref (d - n) k off := rfl
theorem out_p : outC n (.p x) = true := rfl
theorem out_own : outC n (.own sz l) = true := rfl
theorem free_p : freeC (.p x) = true := rfl
theorem free_own : freeC (.own sz l) = true := rfl
theorem avoid_p : avoidC av (.p x) = true := rfl
theorem avoid_own : avoidC av (.own sz l) = true := rfl
theorem avoid_ref : avoidC av (.ref d k off) = (d != 0 || !av.contains k) := rfl
theorem frz_p (fr : Fram) : frzC fr (.p x) = .p x := rfl
end
set_option maxHeartbeats 4000000 in
theorem makes_run (C : Go.ScE.Callee) (M : Nat) (o1 o2 o3 o4 o5 o6 : Bool) (q mq a rq : List (List PV)) (p0 p1 p2 p3 m0 m1 m2 r0 r1 r2 : PV) (h6 : C 6 [] [] = (.c (.p (.lit (.bool true))), [], true))
    (h5 : C 5 [.c (.p (.sl 4 q))] [] = (.c (.p (.lit (.bool false))), [], true)) (h5' : C 5 [.c (.p (.sl 4 [[p0, p1, p2, p3]]))] [] = (.c (.p (.lit (.bool false))), [], true))
    (h9 : C 9 [.c (.p (.sl 4 q)), .agg [.p p0, .p p1, .p p2, .p p3]] [] = (.agg [.p m0, .p m1, .p m2, rg o1 mq], [], true))
    (h12 : C 12 [.c (.p (.sl 4 q)), .agg [.p p0, .p p1, .p p2, .p p3]] [] = (.agg [.p m0, .p m1, .p m2, rg o2 mq], [], true))
    (h10 : C 10 [.agg [.p p0, .p p1, .p p2, .p p3]] [] = (.tup [(false, [rg o3 a]), (true, [.p r0, .p r1, .p r2, rg o4 rq])], [], true))
    (h11 : C 11 [.agg [.p p0, .p p1, .p p2, .p p3]] [] = (.tup [(false, [rg o5 a]), (true, [.p r0, .p r1, .p r2, rg o6 rq])], [], true))
    (h8m : C 8 [.agg [.p m0, .p m1, .p m2, .p (.sl 4 mq)], .agg [.p m0, .p m1, .p m2, .p (.sl 4 mq)]] [] = (.c (.p (.lit (.bool true))), [], true))
    (h8r : C 8 [.agg [.p r0, .p r1, .p r2, .p (.sl 4 rq)], .agg [.p r0, .p r1, .p r2, .p (.sl 4 rq)]] [] = (.c (.p (.lit (.bool true))), [], true))
    (h13 : C 13 [.c (.p (.sl 4 a)), .c (.p (.sl 4 a))] [] = (.c (.p (.lit (.bool true))), [], true)) :
    runX C M x4 [.c (.p (.sl 4 q)), .agg [.p p0, .p p1, .p p2, .p p3]] [] = (.c (.p (.lit (.bool true))), [], true) := by
  simp [x4, runX, zipArgs, upAs, upA, keepE, keepF, keptE, keptF, keptA, keptL, evC, stepsX, stepX, stepsD, stepD, dynD, isCall, avoidAs, avoidA, wantedX, rdOs, rdO, demA, demL, demT, upL, outL, downL, ScE.look, act, putE, litC, same, evBinQ, evBin, evUn, pint, getH, fget, hget, fset, hset, setH, hhas, zvs, zC, put, cut, pvs, cellsA, undefA, dem_p, dem_own, dem_ref, up_p, up_own, up_ref, down_p, down_own, down_ref, out_p, out_own, free_p, free_own, avoid_p, avoid_own, avoid_ref, frz_p, rg_dem, rg_up, rg_down, rg_out, rg_free, rg_avoid, rg_kept, rg_cells, h5, h5', h6, h9, h10, h11, h12, h8m, h8r, h13, freeAs, freeA, freeL, freeT, listOf, fillS, toPs, toP, List.replicate, resXs, resX, tupA, mkA, frzA, frzL, frzT, downA, outA]
end Go.Sc2
