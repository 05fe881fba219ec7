/- W4: DatumEquals answers true. -/
import Derived.Test.YtomklnbaaelchaaDoorSW3
set_option maxRecDepth 100000
set_option linter.unusedSimpArgs false
set_option linter.unusedVariables false
namespace Go.Sc2
open Go.ScE
theorem evF_some (M : Nat) {f : FuncId} {xf : XFunc} (h : tblW f = some xf) (args : List AV) (frames : List Fram) : evF tblW extW (M + 1) f args frames = runX (evF tblW extW M) M xf args frames := by simp only [evF, h]
theorem evF_6 (M : Nat) : evF tblW extW (M + 1) 6 [] [] = (pbool true, [], true) := by
  have hn : tblW 6 = none := rfl
  simp only [evF, hn]; exact extW_6
set_option maxHeartbeats 4000000 in
theorem equals_run (C : Go.ScE.Callee) (M : Nat) (u v : Bool) (p0 p1 p2 p3 q0 q1 q2 q3 : PV)
    (h5 : C 5 [.c (.own 4 [[p0, p1, p2, p3], [q0, q1, q2, q3]])] [] = (.c (.p (.lit (.bool u))), [], true)) (h6 : C 6 [] [] = (.c (.p (.lit (.bool true))), [], true))
    (eab : C 7 [.agg [.p p0, .p p1, .p p2, .p p3], .agg [.p q0, .p q1, .p q2, .p q3]] [] = (.c (.p (.lit (.bool v))), [], true))
    (eaa : C 7 [.agg [.p p0, .p p1, .p p2, .p p3], .agg [.p p0, .p p1, .p p2, .p p3]] [] = (.c (.p (.lit (.bool true))), [], true))
    (eba : C 7 [.agg [.p q0, .p q1, .p q2, .p q3], .agg [.p p0, .p p1, .p p2, .p p3]] [] = (.c (.p (.lit (.bool v))), [], true))
    (sab : C 8 [.agg [.p p0, .p p1, .p p2, .p p3], .agg [.p q0, .p q1, .p q2, .p q3]] [] = (.c (.p (.lit (.bool v))), [], true)) :
    runX C M x3 [.agg [.p p0, .p p1, .p p2, .p p3], .agg [.p q0, .p q1, .p q2, .p q3]] [] = (.c (.p (.lit (.bool true))), [], true) := by
  cases u with
  | true => simp [x3, runX, zipArgs, upAs, upA, upL, upC, keepE, keepF, keptE, keptF, keptA, keptC, keptL, evC, stepsX, stepX, wantedX, rdOs, rdO, demA, demC, demL, ScE.look, act, putE, litC, same, evBinQ, evBin, evUn, pint, getH, fget, hget, fset, hset, setH, mkA, cut, pvs, hhas, cellsA, fillS, toPs, toP, List.replicate, freeAs, freeA, freeL, freeC, resXs, resX, tupA, frzA, frzC, downA, downC, outA, outC, h5, h6]
  | false =>
    cases v <;> simp [x3, runX, zipArgs, upAs, upA, upL, upC, keepE, keepF, keptE, keptF, keptA, keptC, keptL, evC, stepsX, stepX, stepsD, stepD, dynD, isCall, avoidAs, avoidA, avoidC, freeAs, freeA, freeL, freeC, wantedX, rdOs, rdO, demA, demC, demL, ScE.look, act, putE, litC, same, evBinQ, evBin, evUn, pint, getH, fget, hget, fset, hset, setH, mkA, cut, pvs, hhas, cellsA, fillS, toPs, toP, List.replicate, resXs, resX, tupA, frzA, frzC, downA, downC, outA, outC, h5, h6, eab, eaa, eba, sab]
theorem equals_law (a b : Dt) (ha : OkD a) (hb : OkD b) : ∃ N, evF tblW extW N 3 [encA a, encA b] [] = (pbool true, [], true) := by
  have hwt : wts [a, b] = 1 + wt a + (1 + wt b + 0) := by simp [wts]
  refine ⟨(wt a + wt b + 4) + 1, ?_⟩
  have h5 := huge_eq extW (wt a + wt b + 3) true [a, b] (by simp [maxLen]) (fun d hd => by
    rcases List.mem_cons.1 hd with e | hd
    · subst e; exact ha
    · rcases List.mem_cons.1 hd with e | hd
      · subst e; exact hb
      · cases hd) (by omega)
  have e7ab := equal_eq extW (wt a + wt b + 4) a b ha (by omega)
  have e7aa := equal_eq extW (wt a + wt b + 4) a a ha (by omega)
  have e7ba := equal_eq extW (wt a + wt b + 4) b a hb (by omega)
  have e8ab := same_eq extW (wt a + wt b + 4) a b ha (by omega)
  have h6 := evF_6 (wt a + wt b + 3)
  rw [eqD_refl a] at e7aa
  rw [eqD_symm b a] at e7ba
  rw [evF_some _ (show tblW 3 = some x3 from rfl)]
  rw [show wt a + wt b + 3 + 1 = wt a + wt b + 4 from rfl] at h5 h6
  obtain ⟨p0, p1, p2, p3, hp, hpa⟩ := encD_four a
  obtain ⟨q0, q1, q2, q3, hq, hqa⟩ := encD_four b
  rw [hpa, hqa] at e7ab e7ba e8ab ⊢
  rw [hpa] at e7aa
  simp only [rowC, encDs, hp, hq] at h5
  exact equals_run _ _ _ _ _ _ _ _ _ _ _ _ h5 h6 e7ab e7aa e7ba e8ab
end Go.Sc2
