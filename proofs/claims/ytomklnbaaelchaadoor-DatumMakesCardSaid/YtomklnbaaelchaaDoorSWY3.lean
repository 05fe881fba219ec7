/- Data compared, as plain functions (3). -/
import Derived.Test.YtomklnbaaelchaaDoorSWY2
set_option maxRecDepth 100000
set_option linter.unusedSimpArgs false
set_option linter.unusedVariables false
namespace Go.Sc2
open Go.ScE
theorem wt_two (d : Dt) : 2 ≤ wt d := by cases d; simp [wt]
theorem equal_eq (ext : Go.ScE.Callee) : ∀ (N : Nat) (a b : Dt), OkD a → wt a < N → evF tblW ext N 7 [encA a, encA b] [] = (.c (.p (.lit (.bool (eqD a b)))), [], true)
  | 0, a, b, _, h => by omega
  | 1, a, b, _, h => by have := wt_two a; omega
  | M + 2, .node k i s l, .node k' i' s' l', ho, h => by
    cases ho with
    | mk hk hi hs hl hall =>
    have hw : 2 + wts l < M + 2 := by simpa [wt] using h
    have hwl := wts_len l
    have ht : tblW 7 = some x7 := rfl
    have hcall := eqf_eq ext M l l' hl (by omega) (fun d hd d' => equal_eq ext M d d' (hall d hd) (by have := wts_mem hd; omega))
    simp only [fV, pF] at hcall
    rw [show evF tblW ext (M + 2) 7 [encA (.node k i s l), encA (.node k' i' s' l')] [] = runX (evF tblW ext (M + 1)) (M + 1) x7 [encA (.node k i s l), encA (.node k' i' s' l')] [] from rfl]
    by_cases h1 : k = k'
    · by_cases h2 : i = i'
      · by_cases h3 : s.toList = s'.toList
        · subst h1 h2
          simp [encA, encD, x7, runX, zipArgs, upAs, upA, keepE, keepF, keptE, keptF, keptA, keptC, keptL, evC, stepsX, stepX, stepsD, stepD, dynD, isCall, avoidAs, avoidA, avoidC, freeAs, freeA, freeL, freeC, wantedX, rdOs, rdO, demA, demC, demL, upC, upL, ScE.look, act, putE, litC, same, evBinQ, evBin, evUn, pint, getH, fget, hget, fset, hset, setH, mkA, cut, pvs, hhas, cellsA, zvs, zC, undefA, outL, outC, downL, downC, put, resXs, resX, tupA, frzA, frzC, downA, downC, outA, outC, eqD, h3, hcall]
        · have b3 : (s.toList == s'.toList) = false := by simpa using h3
          subst h1 h2
          simp [encA, encD, x7, runX, zipArgs, upAs, upA, keepE, keepF, keptE, keptF, keptA, keptC, keptL, evC, stepsX, stepX, stepsD, stepD, dynD, isCall, avoidAs, avoidA, avoidC, freeAs, freeA, freeL, freeC, wantedX, rdOs, rdO, demA, demC, demL, upC, upL, ScE.look, act, putE, litC, same, evBinQ, evBin, evUn, pint, getH, fget, hget, fset, hset, setH, mkA, cut, pvs, hhas, cellsA, zvs, zC, undefA, outL, outC, downL, downC, put, resXs, resX, tupA, frzA, frzC, downA, downC, outA, outC, eqD, b3, h3]
      · have b2 : (i == i') = false := by simpa using h2
        subst h1
        simp [encA, encD, x7, runX, zipArgs, upAs, upA, keepE, keepF, keptE, keptF, keptA, keptC, keptL, evC, stepsX, stepX, stepsD, stepD, dynD, isCall, avoidAs, avoidA, avoidC, freeAs, freeA, freeL, freeC, wantedX, rdOs, rdO, demA, demC, demL, upC, upL, ScE.look, act, putE, litC, same, evBinQ, evBin, evUn, pint, getH, fget, hget, fset, hset, setH, mkA, cut, pvs, hhas, cellsA, zvs, zC, undefA, outL, outC, downL, downC, put, resXs, resX, tupA, frzA, frzC, downA, downC, outA, outC, eqD, b2, h2]
    · have b1 : (k == k') = false := by simpa using h1
      simp [encA, encD, x7, runX, zipArgs, upAs, upA, keepE, keepF, keptE, keptF, keptA, keptC, keptL, evC, stepsX, stepX, stepsD, stepD, dynD, isCall, avoidAs, avoidA, avoidC, freeAs, freeA, freeL, freeC, wantedX, rdOs, rdO, demA, demC, demL, upC, upL, ScE.look, act, putE, litC, same, evBinQ, evBin, evUn, pint, getH, fget, hget, fset, hset, setH, mkA, cut, pvs, hhas, cellsA, zvs, zC, undefA, outL, outC, downL, downC, put, resXs, resX, tupA, frzA, frzC, downA, downC, outA, outC, eqD, b1, h1]
mutual
theorem eqD_refl : ∀ a : Dt, eqD a a = true
  | .node k i s l => by simp [eqD, eqDs_refl l]
theorem eqDs_refl : ∀ l : List Dt, eqDs l l = true
  | [] => rfl
  | d :: r => by simp [eqDs, eqD_refl d, eqDs_refl r]
end
mutual
theorem eqD_symm : ∀ a b : Dt, eqD a b = eqD b a
  | .node k i s l, .node k' i' s' l' => by
    simp only [eqD, eqDs_symm l l']
    rw [show (k == k') = (k' == k) from BEq.comm, show (i == i') = (i' == i) from BEq.comm, show (s.toList == s'.toList) = (s'.toList == s.toList) from BEq.comm, show (l.length == l'.length) = (l'.length == l.length) from BEq.comm]
theorem eqDs_symm : ∀ l l' : List Dt, eqDs l l' = eqDs l' l
  | [], [] => rfl
  | [], _ :: _ => rfl
  | _ :: _, [] => rfl
  | d :: r, d' :: r' => by simp only [eqDs, eqD_symm d d', eqDs_symm r r']
end
end Go.Sc2
