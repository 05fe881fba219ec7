/- Data compared, as plain functions (2). -/
import Derived.Test.YtomklnbaaelchaaDoorSWY1
set_option maxRecDepth 100000
set_option linter.unusedSimpArgs false
set_option linter.unusedVariables false
namespace Go.Sc2
open Go.ScE
theorem keepF_nil : ∀ fr : Fram, keepF [] fr = []
  | [] => rfl
  | (k, h) :: r => by simp [keepF, keepF_nil r]
def qBody : XCode := match x19.body with
  | .seq _ (.seq _ (.seq (.seq _ (.block _ (.loop _ _ b))) _)) => b
  | _ => .skip
theorem x19_eq : x19 = ⟨3, [.tmp 6],
  (.seq (.region false [
  ⟨some 6, none, .mv, [.k (pB false)]⟩] [0, 1, 2])
  (.seq (.seq (.region false [
  ⟨some 10, none, .mv, [.t 0]⟩,
  ⟨some 11, none, .lenL, [.t 10]⟩,
  ⟨some 12, none, .mv, [.t 1]⟩,
  ⟨some 13, none, .lenL, [.t 12]⟩,
  ⟨some 14, none, .bin .neq false, [.t 11, .t 13]⟩] [0, 1, 2, 14])
  (.cond (.t 14)
  (.seq (.region false [
  ⟨some 6, none, .mv, [.k (pB false)]⟩] [6])
  .ret)
  .skip))
  (.seq (.seq (.region false [
  ⟨some 15, none, .mv, [.tk 0]⟩,
  ⟨some 16, none, .lenL, [.t 15]⟩,
  ⟨some 17, none, .mv, [.k (pI 0)]⟩] [1, 2, 15, 16, 17])
  (.block 0 (.loop [1, 2, 15, 16, 17] [] qBody)))
  (.seq (.region false [
  ⟨some 6, none, .mv, [.k (pB true)]⟩] [6])
  .ret))))⟩ := rfl
def fV : AV := .c (.p (pF 7))
def qSt (l l' : List Dt) (n : Int) (fr : Fram) (up : List Fram) : St := { env := [(1, .c (.p (.sl 4 (encDs l')))), (2, fV), (15, .c (.p (.sl 4 (encDs l)))), (16, .c (.p (.lit (.int .i64 l.length)))), (17, .c (.p (.lit (.int .i64 n))))], fr := fr, up := up, ok := true }
theorem q_step (C : Go.ScE.Callee) (N : Nat) (l l' : List Dt) (n : Nat) (fr : Fram) (up : List Fram) (v : Bool) (hn : n < l.length) (hn' : n < l'.length) (p0 p1 p2 p3 q0 q1 q2 q3 : PV)
    (hc : (encDs l)[n]'(by rw [encDs_length]; exact hn) = [p0, p1, p2, p3]) (hc' : (encDs l')[n]'(by rw [encDs_length]; exact hn') = [q0, q1, q2, q3]) (h63 : (n : Int) + 1 ≤ 9223372036854775807)
    (hC : C 7 [.agg [.p p0, .p p1, .p p2, .p p3], .agg [.p q0, .p q1, .p q2, .p q3]] [] = (.c (.p (.lit (.bool v))), [], true)) :
    evC C N qBody (headX [1, 2, 15, 16, 17] [] (qSt l l' n fr up)) = if v = true then (.normal, qSt l l' (n + 1) [(1, .box [.p q0, .p q1, .p q2, .p q3]), (0, .box [.p p0, .p p1, .p p2, .p p3])] up)
      else (.ret, { env := [(6, .c (.p (.lit (.bool false))))], fr := [(1, .box [.p q0, .p q1, .p q2, .p q3]), (0, .box [.p p0, .p p1, .p p2, .p p3])], up := up, ok := true }) := by
  have h2 : IntKind.wrap .i64 ((n : Int) + 1) = (n : Int) + 1 := IntWalk.i64_in _ ⟨by omega, h63⟩
  have e1 := encDs_length l
  have e2 := encDs_length l'
  have hn1 : n < (encDs l).length := by omega
  have hn2 : n < (encDs l').length := by omega
  have hk : keepF [] fr = [] := keepF_nil fr
  cases v <;>
  simp [qBody, x19, qSt, fV, pF, headX, hk, keepE, keepF, keptE, keptF, keptA, keptC, keptL, evC, stepsX, stepX, stepsD, stepD, dynD, isCall, avoidAs, avoidA, avoidC, freeAs, freeA, freeL, freeC, wantedX, rdOs, rdO, demA, demC, demL, upC, upL, ScE.look, act, putE, litC, same, evBinQ, evBin, evUn, pint, getH, fget, hget, fset, hset, setH, mkA, cut, pvs, hhas, cellsA, zvs, zC, undefA, outL, outC, downL, downC, put, hn1, hn2, hc, hc', e1, e2, hn, hn', h2, hC]
theorem q_end (C : Go.ScE.Callee) (N : Nat) (l l' : List Dt) (n : Nat) (fr : Fram) (up : List Fram) (hn : n = l.length) :
    evC C N qBody (headX [1, 2, 15, 16, 17] [] (qSt l l' n fr up)) = (.exit 0, { env := [(1, .c (.p (.sl 4 (encDs l')))), (2, fV), (15, .c (.p (.sl 4 (encDs l)))), (16, .c (.p (.lit (.int .i64 l.length)))), (17, .c (.p (.lit (.int .i64 n)))), (18, .c (.p (.lit (.bool false))))], fr := [], up := up, ok := true }) := by
  subst hn
  have e1 := encDs_length l
  have hk : keepF [] fr = [] := keepF_nil fr
  simp [qBody, x19, qSt, fV, pF, headX, hk, keepE, keepF, keptE, keptF, keptA, keptC, keptL, evC, stepsX, stepX, stepsD, stepD, dynD, isCall, avoidAs, avoidA, avoidC, freeAs, freeA, freeL, freeC, wantedX, rdOs, rdO, demA, demC, demL, upC, upL, ScE.look, act, putE, litC, same, evBinQ, evBin, evUn, pint, getH, fget, hget, fset, hset, setH, mkA, cut, pvs, hhas, cellsA, zvs, zC, undefA, outL, outC, downL, downC, put, e1]
theorem q_loop (C : Go.ScE.Callee) (N : Nat) (l l' : List Dt) (up : List Fram) (hlen : l.length ≤ maxLen) : ∀ (r r' : List Dt) (n fuel : Nat) (fr : Fram), l.drop n = r → l'.drop n = r' → r.length = r'.length → n ≤ l.length →
    (∀ d ∈ r, ∀ d', C 7 [encA d, encA d'] [] = (.c (.p (.lit (.bool (eqD d d')))), [], true)) → r.length < fuel →
    if eqDs r r' = true then loopX (evC C N qBody) (headX [1, 2, 15, 16, 17] []) fuel (qSt l l' n fr up) = (.exit 0, { env := [(1, .c (.p (.sl 4 (encDs l')))), (2, fV), (15, .c (.p (.sl 4 (encDs l)))), (16, .c (.p (.lit (.int .i64 l.length)))), (17, .c (.p (.lit (.int .i64 l.length)))), (18, .c (.p (.lit (.bool false))))], fr := [], up := up, ok := true })
    else ∃ fr', loopX (evC C N qBody) (headX [1, 2, 15, 16, 17] []) fuel (qSt l l' n fr up) = (.ret, { env := [(6, .c (.p (.lit (.bool false))))], fr := fr', up := up, ok := true })
  | [], r', n, fuel, fr, hd, hd', hrl, hnl, hC, hf => by
    have hn : n = l.length := by have := congrArg List.length hd; simp at this; omega
    obtain ⟨q, rfl⟩ : ∃ q, fuel = q + 1 := ⟨fuel - 1, by simp at hf; omega⟩
    have : r' = [] := List.eq_nil_of_length_eq_zero (by simpa using hrl.symm)
    subst this
    simp only [loopX, q_end C N l l' n fr up hn, eqDs, if_true]
    rw [hn]
  | d :: r, [], n, fuel, fr, hd, hd', hrl, hnl, hC, hf => by simp at hrl
  | d :: r, d' :: r', n, fuel, fr, hd, hd', hrl, hnl, hC, hf => by
    obtain ⟨q, rfl⟩ : ∃ q, fuel = q + 1 := ⟨fuel - 1, by simp at hf; omega⟩
    have hlt : n < l.length := by have := congrArg List.length hd; simp at this; omega
    have hlt' : n < l'.length := by have := congrArg List.length hd'; simp at this; omega
    have hg := List.drop_eq_getElem_cons hlt
    have hg' := List.drop_eq_getElem_cons hlt'
    rw [hd] at hg
    rw [hd'] at hg'
    obtain ⟨hd0, hdr⟩ := List.cons.inj hg
    obtain ⟨hd0', hdr'⟩ := List.cons.inj hg'
    obtain ⟨p0, p1, p2, p3, hp, hpa⟩ := encD_four d
    obtain ⟨q0, q1, q2, q3, hq, hqa⟩ := encD_four d'
    have hcall := hC d (by simp) d'
    rw [hpa, hqa] at hcall
    have hm : maxLen = 9223372036854775807 := by decide
    have h1 := q_step C N l l' n fr up (eqD d d') hlt hlt' p0 p1 p2 p3 q0 q1 q2 q3 (by rw [encDs_get l n hlt, ← hd0, hp]) (by rw [encDs_get l' n hlt', ← hd0', hq]) (by omega) hcall
    by_cases hb : eqD d d' = true
    · have := q_loop C N l l' up hlen r r' (n + 1) q [(1, .box [.p q0, .p q1, .p q2, .p q3]), (0, .box [.p p0, .p p1, .p p2, .p p3])] hdr.symm hdr'.symm (by simpa using hrl) (by omega) (fun x hx => hC x (by simp [hx])) (by simp at hf; omega)
      simp only [loopX, h1, eqDs, hb, if_true, Bool.true_and]
      simpa using this
    · have hb' : eqD d d' = false := by simpa using hb
      simp only [loopX, h1, eqDs, hb', Bool.false_eq_true, if_false, Bool.false_and]
      exact ⟨_, rfl⟩
theorem eqf_eq (ext : Go.ScE.Callee) (N : Nat) (l l' : List Dt) (hlen : l.length ≤ maxLen) (hN : l.length < N) (hC : ∀ d ∈ l, ∀ d', evF tblW ext N 7 [encA d, encA d'] [] = (.c (.p (.lit (.bool (eqD d d')))), [], true)) :
    evF tblW ext (N + 1) 19 [.c (.p (.sl 4 (encDs l))), .c (.p (.sl 4 (encDs l'))), fV] [] = (.c (.p (.lit (.bool (l.length == l'.length && eqDs l l')))), [], true) := by
  have ht : tblW 19 = some x19 := rfl
  have e1 := encDs_length l
  have e2 := encDs_length l'
  simp only [evF, ht]
  rw [x19_eq]
  by_cases h4 : l.length = l'.length
  · have hloop := q_loop (evF tblW ext N) N l l' [] hlen l l' 0 N [] (by simp) (by simp) h4 (by omega) hC hN
    cases hv : eqDs l l' with
    | true =>
      rw [hv] at hloop
      simp only [if_true, qSt, fV, pF, Int.natCast_zero] at hloop
      simp [fV, pF, runX, zipArgs, upAs, upA, keepE, keepF, keptE, keptF, keptA, keptC, keptL, evC, stepsX, stepX, stepsD, stepD, dynD, isCall, avoidAs, avoidA, avoidC, freeAs, freeA, freeL, freeC, wantedX, rdOs, rdO, demA, demC, demL, upC, upL, ScE.look, act, putE, litC, same, evBinQ, evBin, evUn, pint, getH, fget, hget, fset, hset, setH, mkA, cut, pvs, hhas, cellsA, zvs, zC, undefA, outL, outC, downL, downC, put, e1, e2, h4, resXs, resX, tupA, frzA, frzC, downA, downC, outA, outC, hv]
      rw [h4] at hloop
      simp [hloop, keepE, keepF, keptE, keptF, keptA, keptC, keptL, evC, stepsX, stepX, stepsD, stepD, dynD, isCall, avoidAs, avoidA, avoidC, freeAs, freeA, freeL, freeC, wantedX, rdOs, rdO, demA, demC, demL, upC, upL, ScE.look, act, putE, litC, same, evBinQ, evBin, evUn, pint, getH, fget, hget, fset, hset, setH, mkA, cut, pvs, hhas, cellsA, zvs, zC, undefA, outL, outC, downL, downC, put, resXs, resX, tupA, frzA, frzC, downA, downC, outA, outC]
    | false =>
      rw [hv] at hloop
      simp only [Bool.false_eq_true, if_false, qSt, fV, pF, Int.natCast_zero] at hloop
      obtain ⟨fr', hloop⟩ := hloop
      rw [h4] at hloop
      simp [fV, pF, runX, zipArgs, upAs, upA, keepE, keepF, keptE, keptF, keptA, keptC, keptL, evC, stepsX, stepX, stepsD, stepD, dynD, isCall, avoidAs, avoidA, avoidC, freeAs, freeA, freeL, freeC, wantedX, rdOs, rdO, demA, demC, demL, upC, upL, ScE.look, act, putE, litC, same, evBinQ, evBin, evUn, pint, getH, fget, hget, fset, hset, setH, mkA, cut, pvs, hhas, cellsA, zvs, zC, undefA, outL, outC, downL, downC, put, e1, e2, h4, resXs, resX, tupA, frzA, frzC, downA, downC, outA, outC, hv, hloop]
  · have b4 : (l.length == l'.length) = false := by simpa using h4
    have c4 : ((l.length : Int) != (l'.length : Int)) = true := by simp only [bne_iff_ne, ne_eq]; omega
    simp [fV, pF, runX, zipArgs, upAs, upA, keepE, keepF, keptE, keptF, keptA, keptC, keptL, evC, stepsX, stepX, stepsD, stepD, dynD, isCall, avoidAs, avoidA, avoidC, freeAs, freeA, freeL, freeC, wantedX, rdOs, rdO, demA, demC, demL, upC, upL, ScE.look, act, putE, litC, same, evBinQ, evBin, evUn, pint, getH, fget, hget, fset, hset, setH, mkA, cut, pvs, hhas, cellsA, zvs, zC, undefA, outL, outC, downL, downC, put, e1, e2, b4, c4, h4, resXs, resX, tupA, frzA, frzC, downA, downC, outA, outC]
end Go.Sc2
