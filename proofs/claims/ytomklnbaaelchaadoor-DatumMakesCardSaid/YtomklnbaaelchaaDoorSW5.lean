/- W5: copies of data, as plain functions. -/
import Derived.Test.YtomklnbaaelchaaDoorSW4
set_option maxRecDepth 100000
set_option linter.unusedSimpArgs false
set_option linter.unusedVariables false
namespace Go.Sc2
open Go.ScE
mutual
def ct : Dt → Nat
  | .node _ _ _ l => 1 + cts l
def cts : List Dt → Nat
  | [] => 0
  | d :: r => ct d + cts r
end
mutual
theorem leftD_ct : ∀ (d : Dt) (n : Nat), leftD d n = n - ct d
  | .node _ _ _ l, n => by simp only [leftD, ct]; rw [leftDs_ct l]; omega
theorem leftDs_ct : ∀ (l : List Dt) (n : Nat), leftDs l n = n - cts l
  | [], n => by simp [leftDs, cts]
  | d :: r, n => by
    simp only [leftDs, cts]
    split
    · omega
    · rw [leftD_ct d, leftDs_ct r]; omega
end
theorem hugeP_small {l : List Dt} (h : hugeP l = false) : cts l ≤ 30000 := by
  simp only [hugeP, leftDs_ct, beq_eq_false_iff_ne] at h; omega
theorem cts_len : ∀ l : List Dt, l.length ≤ cts l
  | [] => by simp [cts]
  | d :: r => by have := cts_len r; obtain ⟨k, i, s, m⟩ := d; simp [cts, ct]; omega
theorem cts_mem {l : List Dt} {d : Dt} (h : d ∈ l) : ct d ≤ cts l := by
  induction l with
  | nil => cases h
  | cons a r ih =>
    simp only [cts]
    rcases List.mem_cons.1 h with e | e
    · subst e; omega
    · have := ih e; omega
/-- A datum, its row owned or by value. -/
def encG (o : Bool) : Dt → AV
  | .node k i s l => .agg [.p (.lit (.int .i64 k)), .p (.lit (.int .i64 i)), .p (.lit (.string s)), rowC o l]
theorem encG_false (d : Dt) : encG false d = encA d := by cases d; simp [encG, encA, encD, pvs, rowC]
theorem demA_encG (o : Bool) (d : Dt) : demA (encG o d) = encA d := by
  cases d; cases o <;> simp [encG, encA, encD, pvs, rowC, demA, demL, demC]
def aBody : XCode := match x21.body with
  | .seq _ (.seq _ (.seq (.seq _ (.block _ (.loop _ _ b))) _)) => b
  | _ => .skip
def aSt (acc : List (List PV)) (l : List Dt) (j : Int) (fr : Fram) (up : List Fram) : St := { env := [(3, .c (.own 4 acc)), (6, .c (.p (.sl 4 (encDs l)))), (7, .c (.p (.lit (.int .i64 l.length)))), (8, .c (.p (.lit (.int .i64 j))))], fr := fr, up := up, ok := true }
theorem a_step (C : Go.ScE.Callee) (N : Nat) (acc : List (List PV)) (l : List Dt) (j : Nat) (fr : Fram) (up : List Fram) (hj : j < l.length) (p0 p1 p2 : PV) (q : List (List PV))
    (hc : (encDs l)[j]'(by rw [encDs_length]; exact hj) = [p0, p1, p2, .sl 4 q]) (h63 : (j : Int) + 1 ≤ 9223372036854775807) (hroom : acc.length < 40000)
    (hC : C 20 [.agg [.p p0, .p p1, .p p2, .p (.sl 4 q)]] [] = (.agg [.p p0, .p p1, .p p2, .p (.sl 4 q)], [], true)) :
    ∃ fr', evC C N aBody (headX [3, 6, 7, 8] [] (aSt acc l j fr up)) = (.normal, aSt (acc ++ [[p0, p1, p2, .sl 4 q]]) l (j + 1) fr' up) := by
  have h2 : IntKind.wrap .i64 ((j : Int) + 1) = (j : Int) + 1 := IntWalk.i64_in _ ⟨by omega, h63⟩
  have e1 := encDs_length l
  have hj1 : j < (encDs l).length := by omega
  have hr : (acc.length + 1) * 56 ≤ roomy := by simp only [roomy]; omega
  refine ⟨[(0, .box [.p p0, .p p1, .p p2, .p (.sl 4 q)])], ?_⟩
  simp [aBody, x21, aSt, keepF_nil, headX, keepE, keptE, keptF, keptA, keptC, keptL, evC, stepsX, stepX, wantedX, rdOs, rdO, demA, demC, demL, upC, upL, downC, downL, outC, outL, ScE.look, act, putE, litC, same, evBinQ, evBin, evUn, pint, getH, fget, hget, fset, hset, setH, hhas, zvs, zC, put, cellsA, hj1, hc, e1, hj, h2, mkA, cut, pvs, hC, freeAs, freeA, freeL, freeC, fillS, toPs, toP, List.replicate, listOf, hr, undefA]
theorem evF_some2 (ext : Go.ScE.Callee) (M : Nat) {f : FuncId} {xf : XFunc} (h : tblW f = some xf) (args : List AV) (frames : List Fram) : evF tblW ext (M + 1) f args frames = runX (evF tblW ext M) M xf args frames := by simp only [evF, h]
theorem a_end (C : Go.ScE.Callee) (N : Nat) (acc : List (List PV)) (l : List Dt) (fr : Fram) (up : List Fram) :
    evC C N aBody (headX [3, 6, 7, 8] [] (aSt acc l l.length fr up)) = (.exit 0, { env := [(3, .c (.own 4 acc)), (6, .c (.p (.sl 4 (encDs l)))), (7, .c (.p (.lit (.int .i64 l.length)))), (8, .c (.p (.lit (.int .i64 l.length)))), (9, .c (.p (.lit (.bool false))))], fr := [], up := up, ok := true }) := by
  simp [aBody, x21, aSt, keepF_nil, headX, keepE, keptE, keptF, keptA, keptC, keptL, evC, stepsX, stepX, wantedX, rdOs, rdO, demA, demC, demL, upC, upL, ScE.look, act, putE, litC, same, evBinQ, evBin, evUn, pint]
theorem a_loop (C : Go.ScE.Callee) (N : Nat) (l : List Dt) (up : List Fram) (hlen : l.length ≤ 30000) : ∀ (r : List Dt) (j fuel : Nat) (acc : List (List PV)) (fr : Fram), l.drop j = r → j ≤ l.length → acc.length = j →
    (∀ d ∈ r, C 20 [encA d] [] = (encA d, [], true)) → r.length < fuel →
    loopX (evC C N aBody) (headX [3, 6, 7, 8] []) fuel (aSt acc l j fr up) = (.exit 0, { env := [(3, .c (.own 4 (acc ++ encDs r))), (6, .c (.p (.sl 4 (encDs l)))), (7, .c (.p (.lit (.int .i64 l.length)))), (8, .c (.p (.lit (.int .i64 l.length)))), (9, .c (.p (.lit (.bool false))))], fr := [], up := up, ok := true })
  | [], j, fuel, acc, fr, hd, hjl, ha, hC, hf => by
    have hj : j = l.length := by have := congrArg List.length hd; simp at this; omega
    obtain ⟨q, rfl⟩ : ∃ q, fuel = q + 1 := ⟨fuel - 1, by simp at hf; omega⟩
    subst hj
    simp only [loopX, a_end, encDs, List.append_nil]
  | d :: r, j, fuel, acc, fr, hd, hjl, ha, hC, hf => by
    obtain ⟨q, rfl⟩ : ∃ q, fuel = q + 1 := ⟨fuel - 1, by simp at hf; omega⟩
    have hlt : j < l.length := by have := congrArg List.length hd; simp at this; omega
    have hg := List.drop_eq_getElem_cons hlt
    rw [hd] at hg
    obtain ⟨hd0, hdr⟩ := List.cons.inj hg
    have hcall := hC d (by simp)
    obtain ⟨k, i, s, m⟩ := d
    have he := encDs_get l j hlt
    rw [← hd0] at he
    simp only [encD] at he
    simp only [encA, encD, pvs] at hcall
    obtain ⟨fr', h1⟩ := a_step C N acc l j fr up hlt _ _ _ _ he (by omega) (by omega) hcall
    have h2 := a_loop C N l up hlen r (j + 1) q (acc ++ [[.lit (.int .i64 k), .lit (.int .i64 i), .lit (.string s), .sl 4 (encDs m)]]) fr' hdr.symm (by omega) (by simp [ha]) (fun x hx => hC x (by simp [hx])) (by simp at hf; omega)
    simp only [loopX, h1]
    simpa [encDs, encD] using h2
theorem all_eq (ext : Go.ScE.Callee) (M : Nat) (l : List Dt) (hlen : l.length ≤ 30000) (hM : l.length < M) (hC : ∀ d ∈ l, evF tblW ext M 20 [encA d] [] = (encA d, [], true)) :
    evF tblW ext (M + 1) 21 [.c (.p (.sl 4 (encDs l)))] [] = (.c (.own 4 (encDs l)), [], true) := by
  have ht : tblW 21 = some x21 := rfl
  simp only [evF, ht]
  have hb : x21 = ⟨1, [.tmp 2], .seq (.region false [⟨some 2, none, .mv, [.kn 4]⟩] [0]) (.seq (.region false [⟨some 3, none, .mv, [.kn 4]⟩] [0, 3])
    (.seq (.seq (.region false [⟨some 6, none, .mv, [.tk 0]⟩, ⟨some 7, none, .lenL, [.t 6]⟩, ⟨some 8, none, .mv, [.k (pI 0)]⟩] [3, 6, 7, 8]) (.block 0 (.loop [3, 6, 7, 8] [] aBody)))
    (.seq (.region false [⟨some 18, none, .mv, [.tk 3]⟩, ⟨some 2, none, .mv, [.tk 18]⟩] [2]) .ret)))⟩ := rfl
  rw [hb]
  have e1 := encDs_length l
  have hloop := a_loop (evF tblW ext M) M l [] hlen l 0 M [] [] (by simp) (by omega) rfl hC hM
  simp only [aSt, Int.natCast_zero, List.nil_append] at hloop
  simp [runX, zipArgs, upAs, upA, upC, keepE, keepF, keptE, keptF, keptA, keptC, keptL, evC, stepsX, stepX, wantedX, rdOs, rdO, demA, demC, demL, upL, ScE.look, act, putE, litC, same, evBinQ, evBin, evUn, pint, e1, hloop, resXs, resX, tupA, mkA, frzA, frzC, downA, downC, outA, outC]
theorem copied_run (C : Go.ScE.Callee) (M : Nat) (p0 p1 p2 : PV) (q : List (List PV)) (h : C 21 [.c (.p (.sl 4 q))] [] = (.c (.own 4 q), [], true)) :
    runX C M x20 [.agg [.p p0, .p p1, .p p2, .p (.sl 4 q)]] [] = (.agg [.p p0, .p p1, .p p2, .p (.sl 4 q)], [], true) := by
  simp [x20, runX, zipArgs, upAs, upA, upC, keepE, keepF, keptE, keptF, keptA, keptC, keptL, evC, stepsX, stepX, wantedX, rdOs, rdO, demA, demC, demL, upL, outL, outC, downL, downC, ScE.look, act, putE, litC, same, evBinQ, evBin, evUn, pint, getH, fget, hget, fset, hset, setH, hhas, zvs, zC, put, cut, pvs, cellsA, undefA, h, freeAs, freeA, freeL, freeC, resXs, resX, tupA, mkA, frzA, frzC, frzL, downA, outA, untakeL, untake]
theorem copied_eq (ext : Go.ScE.Callee) : ∀ (N : Nat) (d : Dt), ct d ≤ 30001 → wt d < N → evF tblW ext N 20 [encA d] [] = (encA d, [], true)
  | 0, d, _, h => by omega
  | 1, d, _, h => by have := wt_two d; omega
  | M + 2, .node k i s l, hs, h => by
    have hw : 2 + wts l < M + 2 := by simpa [wt] using h
    have hwl := wts_len l
    have hcl := cts_len l
    have hs' : 1 + cts l ≤ 30001 := by simpa [ct] using hs
    have hcall := all_eq ext M l (by omega) (by omega) (fun d hd => copied_eq ext M d (by have := cts_mem hd; omega) (by have := wts_mem hd; omega))
    rw [evF_some2 ext (M + 1) (show tblW 20 = some x20 from rfl)]
    simp only [encA, encD, pvs]
    exact copied_run _ _ _ _ _ _ hcall
end Go.Sc2
