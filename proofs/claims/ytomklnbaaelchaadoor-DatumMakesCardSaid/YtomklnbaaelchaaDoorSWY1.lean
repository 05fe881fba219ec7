/- Data compared, as plain functions (1). -/
import Derived.Test.YtomklnbaaelchaaDoorSW2
import Derived.IntWalk
import Derived.Test.YtomklnbaaelchaaDoorSE28
set_option maxRecDepth 100000
set_option linter.unusedSimpArgs false
set_option linter.unusedVariables false
namespace Go.Sc2
open Go.ScE
mutual
def eqD : Dt → Dt → Bool
  | .node k i s l, .node k' i' s' l' => k == k' && (i == i' && (s.toList == s'.toList && (l.length == l'.length && eqDs l l')))
def eqDs : List Dt → List Dt → Bool
  | [], [] => true
  | d :: r, d' :: r' => eqD d d' && eqDs r r'
  | _, _ => false
end
mutual
def wt : Dt → Nat
  | .node _ _ _ l => 2 + wts l
def wts : List Dt → Nat
  | [] => 0
  | d :: r => 1 + wt d + wts r
end
def encA (d : Dt) : AV := .agg (pvs (encD d))
def sBody : XCode := match x8.body with
  | .seq _ (.seq _ (.seq (.seq _ (.block _ (.loop _ _ b))) _)) => b
  | _ => .skip
def cs (k i : Int) (s : ByteArray) (l : List Dt) : List CV := [.p (.lit (.int .i64 k)), .p (.lit (.int .i64 i)), .p (.lit (.string s)), .p (.sl 4 (encDs l))]
def sFr (a b : List CV) : Fram := [(1, .box b), (0, .box a)]
def sSt (a b : List CV) (n : Int) (up : List Fram) : St := { env := [(2, .c (.ref 0 0 0)), (3, .c (.ref 0 1 0)), (5, .c (.p (.lit (.int .i64 n))))], fr := sFr a b, up := up, ok := true }
theorem s_step (C : Go.ScE.Callee) (N : Nat) (k i k' i' : Int) (s s' : ByteArray) (l l' : List Dt) (n : Nat) (up : List Fram) (v : Bool) (hn : n < l.length) (hn' : n < l'.length) (p0 p1 p2 p3 q0 q1 q2 q3 : PV)
    (hc : (encDs l)[n]'(by rw [encDs_length]; exact hn) = [p0, p1, p2, p3]) (hc' : (encDs l')[n]'(by rw [encDs_length]; exact hn') = [q0, q1, q2, q3]) (h63 : (n : Int) + 1 ≤ 9223372036854775807)
    (hC : C 8 [.agg [.p p0, .p p1, .p p2, .p p3], .agg [.p q0, .p q1, .p q2, .p q3]] [] = (.c (.p (.lit (.bool v))), [], true)) :
    evC C N sBody (headX [2, 3, 5] [0, 1] (sSt (cs k i s l) (cs k' i' s' l') n up)) = if v = true then (.normal, sSt (cs k i s l) (cs k' i' s' l') (n + 1) up) else (.ret, { env := [(4, .c (.p (.lit (.bool false))))], fr := sFr (cs k i s l) (cs k' i' s' l'), up := up, ok := true }) := by
  have h2 : IntKind.wrap .i64 ((n : Int) + 1) = (n : Int) + 1 := IntWalk.i64_in _ ⟨by omega, h63⟩
  have e1 := encDs_length l
  have e2 := encDs_length l'
  have hn1 : n < (encDs l).length := by omega
  have hn2 : n < (encDs l').length := by omega
  cases v <;>
  simp [sBody, x8, sSt, sFr, cs, headX, keepE, keepF, keptE, keptF, keptA, keptC, keptL, evC, stepsX, stepX, stepsD, stepD, dynD, isCall, avoidAs, avoidA, avoidC, freeAs, freeA, freeL, freeC, wantedX, rdOs, rdO, demA, demC, demL, upC, upL, ScE.look, act, putE, litC, same, evBinQ, evBin, evUn, pint, getH, fget, hget, fset, hset, setH, hn1, hn2, hc, hc', e1, e2, hn, hn', h2, mkA, cut, pvs, hC]

def sOut (a b : List CV) (n : Int) (up : List Fram) : St := { env := [(2, .c (.ref 0 0 0)), (3, .c (.ref 0 1 0)), (5, .c (.p (.lit (.int .i64 n)))), (38, .c (.p (.lit (.bool false))))], fr := sFr a b, up := up, ok := true }
theorem s_end (C : Go.ScE.Callee) (N : Nat) (k i k' i' : Int) (s s' : ByteArray) (l l' : List Dt) (n : Nat) (up : List Fram) (hn : n = l.length) :
    evC C N sBody (headX [2, 3, 5] [0, 1] (sSt (cs k i s l) (cs k' i' s' l') n up)) = (.exit 0, sOut (cs k i s l) (cs k' i' s' l') n up) := by
  subst hn
  have e1 := encDs_length l
  simp [sBody, x8, sSt, sOut, sFr, cs, headX, keepE, keepF, keptE, keptF, keptA, keptC, keptL, evC, stepsX, stepX, stepsD, stepD, dynD, isCall, avoidAs, avoidA, avoidC, freeAs, freeA, freeL, freeC, wantedX, rdOs, rdO, demA, demC, demL, upC, upL, ScE.look, act, putE, litC, same, evBinQ, evBin, evUn, pint, getH, fget, hget, fset, hset, setH, mkA, cut, pvs, hhas, cellsA, e1]
theorem encDs_get : ∀ (l : List Dt) (n : Nat) (h : n < l.length), (encDs l)[n]'(by rw [encDs_length]; exact h) = encD l[n]
  | d :: r, 0, h => rfl
  | d :: r, n + 1, h => by simpa [encDs] using encDs_get r n (by simpa using h)
theorem encD_four (d : Dt) : ∃ p0 p1 p2 p3, encD d = [p0, p1, p2, p3] ∧ encA d = .agg [.p p0, .p p1, .p p2, .p p3] := by
  obtain ⟨k, i, s, l⟩ := d
  exact ⟨.lit (.int .i64 k), .lit (.int .i64 i), .lit (.string s), .sl 4 (encDs l), by simp only [encD], by simp only [encA, encD, pvs]⟩
theorem s_loop (C : Go.ScE.Callee) (N : Nat) (k i k' i' : Int) (s s' : ByteArray) (l l' : List Dt) (up : List Fram) (hlen : l.length ≤ maxLen) : ∀ (r r' : List Dt) (n fuel : Nat), l.drop n = r → l'.drop n = r' → r.length = r'.length → n ≤ l.length →
    (∀ d ∈ r, ∀ d', C 8 [encA d, encA d'] [] = (.c (.p (.lit (.bool (eqD d d')))), [], true)) → r.length < fuel →
    loopX (evC C N sBody) (headX [2, 3, 5] [0, 1]) fuel (sSt (cs k i s l) (cs k' i' s' l') n up) = if eqDs r r' = true then (.exit 0, sOut (cs k i s l) (cs k' i' s' l') l.length up) else (.ret, { env := [(4, .c (.p (.lit (.bool false))))], fr := sFr (cs k i s l) (cs k' i' s' l'), up := up, ok := true })
  | [], r', n, fuel, hd, hd', hrl, hnl, hC, hf => by
    have hn : n = l.length := by have := congrArg List.length hd; simp at this; omega
    obtain ⟨q, rfl⟩ : ∃ q, fuel = q + 1 := ⟨fuel - 1, by simp at hf; omega⟩
    have : r' = [] := List.eq_nil_of_length_eq_zero (by simpa using hrl.symm)
    subst this
    simp only [loopX, s_end C N k i k' i' s s' l l' n up hn, eqDs, if_true]
    rw [hn]
  | d :: r, [], n, fuel, hd, hd', hrl, hnl, hC, hf => by simp at hrl
  | d :: r, d' :: r', n, fuel, hd, hd', hrl, hnl, hC, hf => by
    obtain ⟨q, rfl⟩ : ∃ q, fuel = q + 1 := ⟨fuel - 1, by simp at hf; omega⟩
    have hlt : n < l.length := by have := congrArg List.length hd; simp at this; omega
    have hlt' : n < l'.length := by have := congrArg List.length hd'; simp at this; omega
    have hg := List.drop_eq_getElem_cons hlt
    have hg' := List.drop_eq_getElem_cons hlt'
    rw [hd] at hg
    rw [hd'] at hg'
    obtain ⟨hd0, hdr⟩ := List.cons.inj hg
    obtain ⟨hd0', hdr'⟩ := List.cons.inj hg'
    obtain ⟨p0, p1, p2, p3, hp, hpa⟩ := encD_four d
    obtain ⟨q0, q1, q2, q3, hq, hqa⟩ := encD_four d'
    have hcall := hC d (by simp) d'
    rw [hpa, hqa] at hcall
    have hm : maxLen = 9223372036854775807 := by decide
    have h1 := s_step C N k i k' i' s s' l l' n up (eqD d d') hlt hlt' p0 p1 p2 p3 q0 q1 q2 q3 (by rw [encDs_get l n hlt, ← hd0, hp]) (by rw [encDs_get l' n hlt', ← hd0', hq]) (by omega) hcall
    by_cases hb : eqD d d' = true
    · have := s_loop C N k i k' i' s s' l l' up hlen r r' (n + 1) q hdr.symm hdr'.symm (by simpa using hrl) (by omega) (fun x hx => hC x (by simp [hx])) (by simp at hf; omega)
      simp only [loopX, h1, eqDs, hb, if_true, Bool.true_and]
      simpa using this
    · have hb' : eqD d d' = false := by simpa using hb
      simp only [loopX, h1, eqDs, hb', Bool.false_eq_true, if_false, Bool.false_and]
theorem wts_mem {d : Dt} : ∀ {l : List Dt}, d ∈ l → 1 + wt d ≤ wts l
  | x :: r, h => by
    rcases List.mem_cons.1 h with e | h
    · subst e; simp only [wts]; omega
    · have := wts_mem h; simp only [wts]; omega
theorem wts_len : ∀ l : List Dt, l.length ≤ wts l
  | [] => by simp
  | d :: r => by have := wts_len r; simp only [wts, List.length_cons]; omega
theorem x8_eq : x8 = ⟨2, [.tmp 4],
  (.seq (.region false [
  ⟨some 2, none, .box 0, [.tk 0]⟩,
  ⟨some 3, none, .box 1, [.tk 1]⟩,
  ⟨some 4, none, .mv, [.k (pB false)]⟩] [2, 3])
  (.seq (.seq (.region false [
  ⟨some 6, none, .fa 0, [.t 2]⟩,
  ⟨some 7, none, .ld false 1 false, [.t 6]⟩,
  ⟨some 8, none, .fa 0, [.t 3]⟩,
  ⟨some 9, none, .ld false 1 false, [.t 8]⟩,
  ⟨some 10, none, .bin .neq false, [.t 7, .t 9]⟩,
  ⟨some 11, none, .mv, [.t 10]⟩,
  ⟨some 12, (some (11, false)), .fa 1, [.t 2]⟩,
  ⟨some 13, (some (11, false)), .ld false 1 false, [.t 12]⟩,
  ⟨some 14, (some (11, false)), .fa 1, [.t 3]⟩,
  ⟨some 15, (some (11, false)), .ld false 1 false, [.t 14]⟩,
  ⟨some 16, (some (11, false)), .bin .neq false, [.t 13, .t 15]⟩,
  ⟨some 17, none, .pick, [.t 11, .k (pB true), .t 16]⟩,
  ⟨some 18, none, .mv, [.t 17]⟩,
  ⟨some 19, (some (18, false)), .fa 2, [.t 2]⟩,
  ⟨some 20, (some (18, false)), .ld false 1 false, [.t 19]⟩,
  ⟨some 21, (some (18, false)), .fa 2, [.t 3]⟩,
  ⟨some 22, (some (18, false)), .ld false 1 false, [.t 21]⟩,
  ⟨some 23, (some (18, false)), .bin .neq false, [.t 20, .t 22]⟩,
  ⟨some 24, none, .pick, [.t 18, .k (pB true), .t 23]⟩,
  ⟨some 25, none, .mv, [.t 24]⟩,
  ⟨some 26, (some (25, false)), .fa 3, [.t 2]⟩,
  ⟨some 27, (some (25, false)), .ld false 1 false, [.t 26]⟩,
  ⟨some 28, (some (25, false)), .lenL, [.t 27]⟩,
  ⟨some 29, (some (25, false)), .fa 3, [.t 3]⟩,
  ⟨some 30, (some (25, false)), .ld false 1 false, [.t 29]⟩,
  ⟨some 31, (some (25, false)), .lenL, [.t 30]⟩,
  ⟨some 32, (some (25, false)), .bin .neq false, [.t 28, .t 31]⟩,
  ⟨some 33, none, .pick, [.t 25, .k (pB true), .t 32]⟩] [2, 3, 33])
  (.cond (.t 33)
  (.seq (.region false [
  ⟨some 4, none, .mv, [.k (pB false)]⟩] [4])
  .ret)
  .skip))
  (.seq (.seq (.region false [
  ⟨some 5, none, .mv, [.k (pI 0)]⟩] [2, 3, 5])
  (.block 0 (.loop [2, 3, 5] [0, 1] sBody)))
  (.seq (.region false [
  ⟨some 4, none, .mv, [.k (pB true)]⟩] [4])
  .ret))))⟩ := rfl
theorem same_eq (ext : Go.ScE.Callee) : ∀ (N : Nat) (a b : Dt), OkD a → wt a < N → evF tblW ext N 8 [encA a, encA b] [] = (.c (.p (.lit (.bool (eqD a b)))), [], true)
  | 0, a, b, _, h => by omega
  | N + 1, .node k i s l, .node k' i' s' l', ho, h => by
    cases ho with
    | mk hk hi hs hl hall =>
    have hw : 2 + wts l < N + 1 := by simpa [wt] using h
    have hwl := wts_len l
    have ht : tblW 8 = some x8 := rfl
    have e1 := encDs_length l
    have e2 := encDs_length l'
    simp only [evF, ht]
    rw [x8_eq]
    by_cases h1 : k = k'
    · by_cases h2 : i = i'
      · by_cases h3 : s.toList = s'.toList
        · by_cases h4 : l.length = l'.length
          · have hloop := s_loop (evF tblW ext N) N k i k' i' s s' l l' [] hl l l' 0 N (by simp) (by simp) h4 (by omega) (fun d hd d' => same_eq ext N d d' (hall d hd) (by have := wts_mem hd; omega)) (by omega)
            subst h1 h2
            cases hv : eqDs l l' with
            | true =>
              rw [hv] at hloop
              simp only [if_true, Bool.false_eq_true, if_false] at hloop
              simp only [sSt, sOut, sFr, cs, Int.natCast_zero] at hloop
              simp [encA, encD, runX, zipArgs, upAs, upA, keepE, keepF, keptE, keptF, keptA, keptC, keptL, evC, stepsX, stepX, stepsD, stepD, dynD, isCall, avoidAs, avoidA, avoidC, freeAs, freeA, freeL, freeC, wantedX, rdOs, rdO, demA, demC, demL, upC, upL, ScE.look, act, putE, litC, same, evBinQ, evBin, evUn, pint, getH, fget, hget, fset, hset, setH, mkA, cut, pvs, hhas, cellsA, e1, e2, h3, h4, hloop, resXs, resX, tupA, frzA, frzC, downA, downC, outA, outC, eqD, hv]
            | false =>
              rw [hv] at hloop
              simp only [if_true, Bool.false_eq_true, if_false] at hloop
              simp only [sSt, sOut, sFr, cs, Int.natCast_zero] at hloop
              simp [encA, encD, runX, zipArgs, upAs, upA, keepE, keepF, keptE, keptF, keptA, keptC, keptL, evC, stepsX, stepX, stepsD, stepD, dynD, isCall, avoidAs, avoidA, avoidC, freeAs, freeA, freeL, freeC, wantedX, rdOs, rdO, demA, demC, demL, upC, upL, ScE.look, act, putE, litC, same, evBinQ, evBin, evUn, pint, getH, fget, hget, fset, hset, setH, mkA, cut, pvs, hhas, cellsA, e1, e2, h3, h4, hloop, resXs, resX, tupA, frzA, frzC, downA, downC, outA, outC, eqD, hv]
          · have b4 : (l.length == l'.length) = false := by simpa using h4
            have c4 : ((l.length : Int) != (l'.length : Int)) = true := by simp only [bne_iff_ne, ne_eq]; omega
            subst h1 h2
            simp [encA, encD, runX, zipArgs, upAs, upA, keepE, keepF, keptE, keptF, keptA, keptC, keptL, evC, stepsX, stepX, stepsD, stepD, dynD, isCall, avoidAs, avoidA, avoidC, freeAs, freeA, freeL, freeC, wantedX, rdOs, rdO, demA, demC, demL, upC, upL, ScE.look, act, putE, litC, same, evBinQ, evBin, evUn, pint, getH, fget, hget, fset, hset, setH, mkA, cut, pvs, hhas, cellsA, e1, e2, resXs, resX, tupA, frzA, frzC, downA, downC, outA, outC, eqD, h3, b4, c4, h4]
        · have b3 : (s.toList == s'.toList) = false := by simpa using h3
          subst h1 h2
          simp [encA, encD, runX, zipArgs, upAs, upA, keepE, keepF, keptE, keptF, keptA, keptC, keptL, evC, stepsX, stepX, stepsD, stepD, dynD, isCall, avoidAs, avoidA, avoidC, freeAs, freeA, freeL, freeC, wantedX, rdOs, rdO, demA, demC, demL, upC, upL, ScE.look, act, putE, litC, same, evBinQ, evBin, evUn, pint, getH, fget, hget, fset, hset, setH, mkA, cut, pvs, hhas, cellsA, e1, e2, resXs, resX, tupA, frzA, frzC, downA, downC, outA, outC, eqD, b3, h3]
      · have b2 : (i == i') = false := by simpa using h2
        have c2 : (i != i') = true := by simpa using h2
        subst h1
        simp [encA, encD, runX, zipArgs, upAs, upA, keepE, keepF, keptE, keptF, keptA, keptC, keptL, evC, stepsX, stepX, stepsD, stepD, dynD, isCall, avoidAs, avoidA, avoidC, freeAs, freeA, freeL, freeC, wantedX, rdOs, rdO, demA, demC, demL, upC, upL, ScE.look, act, putE, litC, same, evBinQ, evBin, evUn, pint, getH, fget, hget, fset, hset, setH, mkA, cut, pvs, hhas, cellsA, e1, e2, resXs, resX, tupA, frzA, frzC, downA, downC, outA, outC, eqD, b2, c2, h2]
    · have b1 : (k == k') = false := by simpa using h1
      have c1 : (k != k') = true := by simpa using h1
      simp [encA, encD, runX, zipArgs, upAs, upA, keepE, keepF, keptE, keptF, keptA, keptC, keptL, evC, stepsX, stepX, stepsD, stepD, dynD, isCall, avoidAs, avoidA, avoidC, freeAs, freeA, freeL, freeC, wantedX, rdOs, rdO, demA, demC, demL, upC, upL, ScE.look, act, putE, litC, same, evBinQ, evBin, evUn, pint, getH, fget, hget, fset, hset, setH, mkA, cut, pvs, hhas, cellsA, e1, e2, resXs, resX, tupA, frzA, frzC, downA, downC, outA, outC, eqD, b1, c1, h1]
end Go.Sc2
