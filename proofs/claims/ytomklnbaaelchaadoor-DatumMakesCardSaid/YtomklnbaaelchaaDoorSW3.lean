/- W3: how many data there are, up to a bound: plain functions. -/
import Derived.Test.YtomklnbaaelchaaDoorSWY3
set_option maxRecDepth 100000
set_option linter.unusedSimpArgs false
set_option linter.unusedVariables false
namespace Go.Sc2
open Go.ScE
mutual
def leftD : Dt → Nat → Nat
  | .node _ _ _ l, n => leftDs l (n - 1)
def leftDs : List Dt → Nat → Nat
  | [], n => n
  | d :: r, n => if n = 0 then 0 else leftDs r (leftD d n)
end
mutual
theorem leftD_le : ∀ (d : Dt) (n : Nat), leftD d n ≤ n
  | .node _ _ _ l, n => by simp only [leftD]; have := leftDs_le l (n - 1); omega
theorem leftDs_le : ∀ (l : List Dt) (n : Nat), leftDs l n ≤ n
  | [], n => by simp [leftDs]
  | d :: r, n => by
    simp only [leftDs]
    split
    · omega
    · have h1 := leftD_le d n; have h2 := leftDs_le r (leftD d n); omega
end
theorem leftDs_zero : ∀ l : List Dt, leftDs l 0 = 0
  | [] => rfl
  | d :: r => by simp [leftDs]
def lBody : XCode := match x14.body with
  | .seq _ (.seq _ (.seq (.seq _ (.block _ (.loop _ _ b))) _)) => b
  | _ => .skip
def lSt (a : List CV) (n i : Int) (up : List Fram) : St := { env := [(1, .c (.p (.lit (.int .i64 n)))), (2, .c (.ref 0 0 0)), (5, .c (.p (.lit (.int .i64 i))))], fr := [(0, .box a)], up := up, ok := true }
theorem l_step (C : Go.ScE.Callee) (N : Nat) (k i : Int) (s : ByteArray) (l : List Dt) (j n m : Nat) (up : List Fram) (hj : j < l.length) (hn : 0 < n) (p0 p1 p2 p3 : PV)
    (hc : (encDs l)[j]'(by rw [encDs_length]; exact hj) = [p0, p1, p2, p3]) (h63 : (j : Int) + 1 ≤ 9223372036854775807)
    (hC : C 14 [.agg [.p p0, .p p1, .p p2, .p p3], .c (.p (.lit (.int .i64 n)))] [] = (.c (.p (.lit (.int .i64 m))), [], true)) :
    evC C N lBody (headX [1, 2, 5] [0] (lSt (cs k i s l) n j up)) = (.normal, lSt (cs k i s l) m (j + 1) up) := by
  have h2 : IntKind.wrap .i64 ((j : Int) + 1) = (j : Int) + 1 := IntWalk.i64_in _ ⟨by omega, h63⟩
  have e1 := encDs_length l
  have hj1 : j < (encDs l).length := by omega
  have hn1 : decide ((n : Int) > 0) = true := by simp; omega
  have hn2 : (0 : Int) < (n : Int) := by omega
  simp [lBody, x14, lSt, cs, headX, keepE, keepF, keptE, keptF, keptA, keptC, keptL, evC, stepsX, stepX, stepsD, stepD, dynD, isCall, avoidAs, avoidA, avoidC, freeAs, freeA, freeL, freeC, wantedX, rdOs, rdO, demA, demC, demL, upC, upL, ScE.look, act, putE, litC, same, evBinQ, evBin, evUn, pint, getH, fget, hget, fset, hset, setH, hj1, hc, e1, hj, hn1, hn2, hn, h2, mkA, cut, pvs, hC]
theorem l_end (C : Go.ScE.Callee) (N : Nat) (k i : Int) (s : ByteArray) (l : List Dt) (j n : Nat) (up : List Fram) (hj : l.length ≤ j ∨ n = 0) :
    ∃ e, evC C N lBody (headX [1, 2, 5] [0] (lSt (cs k i s l) n j up)) = (.exit 0, { env := [(1, .c (.p (.lit (.int .i64 n)))), (2, .c (.ref 0 0 0)), (5, .c (.p (.lit (.int .i64 j)))), e], fr := [(0, .box (cs k i s l))], up := up, ok := true }) := by
  have e1 := encDs_length l
  by_cases h : l.length ≤ j
  · have hn : ¬ (j < l.length) := by omega
    refine ⟨(18, .c (.p (.lit (.bool false)))), ?_⟩
    simp [lBody, x14, lSt, cs, headX, keepE, keepF, keptE, keptF, keptA, keptC, keptL, evC, stepsX, stepX, stepsD, stepD, dynD, isCall, avoidAs, avoidA, avoidC, freeAs, freeA, freeL, freeC, wantedX, rdOs, rdO, demA, demC, demL, upC, upL, ScE.look, act, putE, litC, same, evBinQ, evBin, evUn, pint, getH, fget, hget, fset, hset, setH, e1, hn, mkA, cut, pvs]
  · have hlt : j < l.length := by omega
    have hn0 : n = 0 := by omega
    subst hn0
    refine ⟨(18, .c (.p (.lit (.bool false)))), ?_⟩
    simp [lBody, x14, lSt, cs, headX, keepE, keepF, keptE, keptF, keptA, keptC, keptL, evC, stepsX, stepX, stepsD, stepD, dynD, isCall, avoidAs, avoidA, avoidC, freeAs, freeA, freeL, freeC, wantedX, rdOs, rdO, demA, demC, demL, upC, upL, ScE.look, act, putE, litC, same, evBinQ, evBin, evUn, pint, getH, fget, hget, fset, hset, setH, e1, hlt, mkA, cut, pvs]
theorem l_loop (C : Go.ScE.Callee) (N : Nat) (k i : Int) (s : ByteArray) (l : List Dt) (up : List Fram) (hlen : l.length ≤ maxLen) : ∀ (r : List Dt) (j n fuel : Nat), l.drop j = r → j ≤ l.length → n ≤ 30001 →
    (∀ d ∈ r, ∀ m : Nat, m ≤ 30001 → C 14 [encA d, .c (.p (.lit (.int .i64 m)))] [] = (.c (.p (.lit (.int .i64 (leftD d m : Nat)))), [], true)) → r.length < fuel →
    ∃ e j', loopX (evC C N lBody) (headX [1, 2, 5] [0]) fuel (lSt (cs k i s l) n j up) = (.exit 0, { env := [(1, .c (.p (.lit (.int .i64 (leftDs r n : Nat))))), (2, .c (.ref 0 0 0)), (5, j'), e], fr := [(0, .box (cs k i s l))], up := up, ok := true })
  | [], j, n, fuel, hd, hjl, hn, hC, hf => by
    have hj : j = l.length := by have := congrArg List.length hd; simp at this; omega
    obtain ⟨q, rfl⟩ : ∃ q, fuel = q + 1 := ⟨fuel - 1, by simp at hf; omega⟩
    obtain ⟨e, he⟩ := l_end C N k i s l j n up (.inl (by omega))
    exact ⟨e, .c (.p (.lit (.int .i64 j))), by simp only [loopX, he, leftDs]⟩
  | d :: r, j, n, fuel, hd, hjl, hn, hC, hf => by
    obtain ⟨q, rfl⟩ : ∃ q, fuel = q + 1 := ⟨fuel - 1, by simp at hf; omega⟩
    have hlt : j < l.length := by have := congrArg List.length hd; simp at this; omega
    by_cases h0 : n = 0
    · subst h0
      obtain ⟨e, he⟩ := l_end C N k i s l j 0 up (.inr rfl)
      refine ⟨e, .c (.p (.lit (.int .i64 j))), ?_⟩
      simp only [loopX, he, leftDs, if_true]
    · have hg := List.drop_eq_getElem_cons hlt
      rw [hd] at hg
      obtain ⟨hd0, hdr⟩ := List.cons.inj hg
      obtain ⟨p0, p1, p2, p3, hp, hpa⟩ := encD_four d
      have hcall := hC d (by simp) n hn
      rw [hpa] at hcall
      have hm : maxLen = 9223372036854775807 := by decide
      have h1 := l_step C N k i s l j n (leftD d n) up hlt (by omega) p0 p1 p2 p3 (by rw [encDs_get l j hlt, ← hd0, hp]) (by omega) hcall
      have hle := leftD_le d n
      obtain ⟨e, j', h2⟩ := l_loop C N k i s l up hlen r (j + 1) (leftD d n) q hdr.symm (by omega) (by omega) (fun x hx => hC x (by simp [hx])) (by simp at hf; omega)
      refine ⟨e, j', ?_⟩
      simp only [loopX, h1, leftDs, if_neg h0]
      simpa using h2
theorem left_eq (ext : Go.ScE.Callee) : ∀ (N : Nat) (d : Dt) (n : Nat), OkD d → wt d < N → n ≤ 30001 → evF tblW ext N 14 [encA d, .c (.p (.lit (.int .i64 n)))] [] = (.c (.p (.lit (.int .i64 (leftD d n : Nat)))), [], true)
  | 0, d, n, _, h, _ => by omega
  | N + 1, .node k i s l, n, ho, h, hn => by
    cases ho with
    | mk hk hi hs hl hall =>
    have hw : 2 + wts l < N + 1 := by simpa [wt] using h
    have hwl := wts_len l
    have ht : tblW 14 = some x14 := rfl
    simp only [evF, ht]
    have hb : x14 = ⟨2, [.tmp 4], .seq (.region false [⟨some 2, none, .box 0, [.tk 0]⟩, ⟨some 4, none, .mv, [.k (pI 0)]⟩] [1, 2]) (.seq (.seq (.region false [⟨some 6, none, .mv, [.t 1]⟩, ⟨some 7, none, .bin .gtr false, [.t 6, .k (pI 0)]⟩] [1, 2, 7])
      (.cond (.t 7) (.region false [⟨some 8, none, .mv, [.t 1]⟩, ⟨some 9, none, .bin .sub false, [.t 8, .k (pI 1)]⟩, ⟨some 1, none, .mv, [.t 9]⟩] [1, 2]) .skip))
      (.seq (.seq (.region false [⟨some 5, none, .mv, [.k (pI 0)]⟩] [1, 2, 5]) (.block 0 (.loop [1, 2, 5] [0] lBody))) (.seq (.region false [⟨some 28, none, .mv, [.t 1]⟩, ⟨some 4, none, .mv, [.t 28]⟩] [4]) .ret)))⟩ := rfl
    rw [hb]
    obtain ⟨e, j', hloop⟩ := l_loop (evF tblW ext N) N k i s l [] hl l 0 (n - 1) N (by simp) (by omega) (by omega) (fun d hd m hm => left_eq ext N d m (hall d hd) (by have := wts_mem hd; omega) hm) (by omega)
    simp only [lSt, cs, Int.natCast_zero] at hloop
    have hnw : IntKind.wrap .i64 ((n : Int) - 1) = (n : Int) - 1 := IntWalk.i64_in _ ⟨by omega, by omega⟩
    by_cases h0 : n = 0
    · subst h0
      simp only [Nat.zero_sub, Int.natCast_zero] at hloop
      simp [encA, encD, runX, zipArgs, upAs, upA, keepE, keepF, keptE, keptF, keptA, keptC, keptL, evC, stepsX, stepX, wantedX, rdOs, rdO, demA, demC, demL, upC, upL, ScE.look, act, putE, litC, same, evBinQ, evBin, evUn, pint, getH, fget, hget, fset, hset, setH, mkA, cut, pvs, hhas, cellsA, hloop, resXs, resX, tupA, frzA, frzC, downA, downC, outA, outC, leftD]
    · have hp : (0 : Int) < (n : Int) := by omega
      have e1 : ((n - 1 : Nat) : Int) = (n : Int) - 1 := by omega
      rw [e1] at hloop
      simp [encA, encD, runX, zipArgs, upAs, upA, keepE, keepF, keptE, keptF, keptA, keptC, keptL, evC, stepsX, stepX, wantedX, rdOs, rdO, demA, demC, demL, upC, upL, ScE.look, act, putE, litC, same, evBinQ, evBin, evUn, pint, getH, fget, hget, fset, hset, setH, mkA, cut, pvs, hhas, cellsA, hp, Nat.pos_of_ne_zero h0, hnw, hloop, resXs, resX, tupA, frzA, frzC, downA, downC, outA, outC, leftD]
/-- Huge. -/
def hBody : XCode := match x5.body with
  | .seq _ (.seq _ (.seq (.seq _ (.block _ (.loop _ _ b))) _)) => b
  | _ => .skip
/-- A row, owned or by value. -/
def rowC (o : Bool) (l : List Dt) : CV := match o with
  | true => .own 4 (encDs l)
  | false => .p (.sl 4 (encDs l))
def hSt' (o : Bool) (l : List Dt) (n i : Int) (up : List Fram) : St := { env := [(0, .c (rowC o l)), (3, .c (.p (.lit (.int .i64 n)))), (4, .c (.p (.lit (.int .i64 i))))], fr := [], up := up, ok := true }
theorem h_step (C : Go.ScE.Callee) (N : Nat) (o : Bool) (l : List Dt) (j n m : Nat) (up : List Fram) (hj : j < l.length) (hn : 0 < n) (p0 p1 p2 p3 : PV)
    (hc : (encDs l)[j]'(by rw [encDs_length]; exact hj) = [p0, p1, p2, p3]) (h63 : (j : Int) + 1 ≤ 9223372036854775807)
    (hC : C 14 [.agg [.p p0, .p p1, .p p2, .p p3], .c (.p (.lit (.int .i64 n)))] [] = (.c (.p (.lit (.int .i64 m))), [], true)) :
    evC C N hBody (headX [0, 3, 4] [] (hSt' o l n j up)) = (.normal, hSt' o l m (j + 1) up) := by
  have h2 : IntKind.wrap .i64 ((j : Int) + 1) = (j : Int) + 1 := IntWalk.i64_in _ ⟨by omega, h63⟩
  have e1 := encDs_length l
  have hj1 : j < (encDs l).length := by omega
  have hn2 : (0 : Int) < (n : Int) := by omega
  cases o <;> simp [rowC, hBody, x5, hSt', headX, keepE, keepF, keptE, keptF, keptA, keptC, keptL, evC, stepsX, stepX, stepsD, stepD, dynD, isCall, avoidAs, avoidA, avoidC, freeAs, freeA, freeL, freeC, wantedX, rdOs, rdO, demA, demC, demL, upC, upL, ScE.look, act, putE, litC, same, evBinQ, evBin, evUn, pint, getH, fget, hget, fset, hset, setH, hj1, hc, e1, hj, hn2, hn, h2, mkA, cut, pvs, hC]
theorem h_end (C : Go.ScE.Callee) (N : Nat) (o : Bool) (l : List Dt) (j n : Nat) (up : List Fram) (hj : l.length ≤ j ∨ n = 0) :
    evC C N hBody (headX [0, 3, 4] [] (hSt' o l n j up)) = (.exit 0, { env := [(0, .c (rowC o l)), (3, .c (.p (.lit (.int .i64 n)))), (4, .c (.p (.lit (.int .i64 j)))), (12, .c (.p (.lit (.bool false))))], fr := [], up := up, ok := true }) := by
  have e1 := encDs_length l
  by_cases h : l.length ≤ j
  · have hn : ¬ (j < l.length) := by omega
    cases o <;> simp [rowC, hBody, x5, hSt', headX, keepE, keepF, keptE, keptF, keptA, keptC, keptL, evC, stepsX, stepX, stepsD, stepD, dynD, isCall, avoidAs, avoidA, avoidC, freeAs, freeA, freeL, freeC, wantedX, rdOs, rdO, demA, demC, demL, upC, upL, ScE.look, act, putE, litC, same, evBinQ, evBin, evUn, pint, getH, fget, hget, fset, hset, setH, e1, hn, mkA, cut, pvs]
  · have hlt : j < l.length := by omega
    have hn0 : n = 0 := by omega
    subst hn0
    cases o <;> simp [rowC, hBody, x5, hSt', headX, keepE, keepF, keptE, keptF, keptA, keptC, keptL, evC, stepsX, stepX, stepsD, stepD, dynD, isCall, avoidAs, avoidA, avoidC, freeAs, freeA, freeL, freeC, wantedX, rdOs, rdO, demA, demC, demL, upC, upL, ScE.look, act, putE, litC, same, evBinQ, evBin, evUn, pint, getH, fget, hget, fset, hset, setH, e1, hlt, mkA, cut, pvs]
theorem h_loop (C : Go.ScE.Callee) (N : Nat) (o : Bool) (l : List Dt) (up : List Fram) (hlen : l.length ≤ maxLen) : ∀ (r : List Dt) (j n fuel : Nat), l.drop j = r → j ≤ l.length → n ≤ 30001 →
    (∀ d ∈ r, ∀ m : Nat, m ≤ 30001 → C 14 [encA d, .c (.p (.lit (.int .i64 m)))] [] = (.c (.p (.lit (.int .i64 (leftD d m : Nat)))), [], true)) → r.length < fuel →
    ∃ e j', loopX (evC C N hBody) (headX [0, 3, 4] []) fuel (hSt' o l n j up) = (.exit 0, { env := [(0, .c (rowC o l)), (3, .c (.p (.lit (.int .i64 (leftDs r n : Nat))))), (4, j'), e], fr := [], up := up, ok := true })
  | [], j, n, fuel, hd, hjl, hn, hC, hf => by
    have hj : j = l.length := by have := congrArg List.length hd; simp at this; omega
    obtain ⟨q, rfl⟩ : ∃ q, fuel = q + 1 := ⟨fuel - 1, by simp at hf; omega⟩
    have he := h_end C N o l j n up (.inl (by omega))
    exact ⟨(12, .c (.p (.lit (.bool false)))), .c (.p (.lit (.int .i64 j))), by simp only [loopX, he, leftDs]⟩
  | d :: r, j, n, fuel, hd, hjl, hn, hC, hf => by
    obtain ⟨q, rfl⟩ : ∃ q, fuel = q + 1 := ⟨fuel - 1, by simp at hf; omega⟩
    have hlt : j < l.length := by have := congrArg List.length hd; simp at this; omega
    by_cases h0 : n = 0
    · subst h0
      have he := h_end C N o l j 0 up (.inr rfl)
      refine ⟨(12, .c (.p (.lit (.bool false)))), .c (.p (.lit (.int .i64 j))), ?_⟩
      simp only [loopX, he, leftDs, if_true]
    · have hg := List.drop_eq_getElem_cons hlt
      rw [hd] at hg
      obtain ⟨hd0, hdr⟩ := List.cons.inj hg
      obtain ⟨p0, p1, p2, p3, hp, hpa⟩ := encD_four d
      have hcall := hC d (by simp) n hn
      rw [hpa] at hcall
      have hm : maxLen = 9223372036854775807 := by decide
      have h1 := h_step C N o l j n (leftD d n) up hlt (by omega) p0 p1 p2 p3 (by rw [encDs_get l j hlt, ← hd0, hp]) (by omega) hcall
      have hle := leftD_le d n
      obtain ⟨e, j', h2⟩ := h_loop C N o l up hlen r (j + 1) (leftD d n) q hdr.symm (by omega) (by omega) (fun x hx => hC x (by simp [hx])) (by simp at hf; omega)
      refine ⟨e, j', ?_⟩
      simp only [loopX, h1, leftDs, if_neg h0]
      simpa using h2
theorem natbeq0 (x : Nat) : ((x : Int) == 0) = (x == 0) := by
  cases x with
  | zero => rfl
  | succ n => rw [beq_eq_false_iff_ne.2 (by omega), beq_eq_false_iff_ne.2 (by omega)]
def hugeP (l : List Dt) : Bool := leftDs l 30001 == 0
theorem huge_eq (ext : Go.ScE.Callee) (N : Nat) (o : Bool) (l : List Dt) (hl : l.length ≤ maxLen) (hall : ∀ d ∈ l, OkD d) (hN : wts l < N) : evF tblW ext (N + 1) 5 [.c (rowC o l)] [] = (.c (.p (.lit (.bool (hugeP l)))), [], true) := by
  have hwl := wts_len l
  have ht : tblW 5 = some x5 := rfl
  simp only [evF, ht]
  have hb : x5 = ⟨1, [.tmp 2], .seq (.region false [⟨some 2, none, .mv, [.k (pB false)]⟩] [0]) (.seq (.region false [⟨some 3, none, .mv, [.k (pI 30001)]⟩] [0, 3])
    (.seq (.seq (.region false [⟨some 4, none, .mv, [.k (pI 0)]⟩] [0, 3, 4]) (.block 0 (.loop [0, 3, 4] [] hBody))) (.seq (.region false [⟨some 21, none, .mv, [.t 3]⟩, ⟨some 22, none, .bin .eql false, [.t 21, .k (pI 0)]⟩, ⟨some 2, none, .mv, [.t 22]⟩] [2]) .ret)))⟩ := rfl
  rw [hb]
  obtain ⟨e, j', hloop⟩ := h_loop (evF tblW ext N) N o l [] hl l 0 30001 N (by simp) (by omega) (by omega) (fun d hd m hm => left_eq ext N d m (hall d hd) (by have := wts_mem hd; omega) hm) (by omega)
  simp only [hSt', Int.natCast_zero] at hloop
  have e1 : ((30001 : Nat) : Int) = 30001 := rfl
  rw [e1] at hloop
  have e2 : (((leftDs l 30001 : Nat) : Int) == 0) = hugeP l := by
    unfold hugeP
    exact natbeq0 _
  cases o <;> simp only [rowC] at hloop ⊢ <;> simp [runX, zipArgs, upAs, upA, keepE, keepF, keptE, keptF, keptA, keptC, keptL, evC, stepsX, stepX, wantedX, rdOs, rdO, demA, demC, demL, upC, upL, ScE.look, act, putE, litC, same, evBinQ, evBin, evUn, pint, getH, fget, hget, fset, hset, setH, mkA, cut, pvs, hhas, cellsA, hloop, resXs, resX, tupA, frzA, frzC, downA, downC, outA, outC, e2]
end Go.Sc2
