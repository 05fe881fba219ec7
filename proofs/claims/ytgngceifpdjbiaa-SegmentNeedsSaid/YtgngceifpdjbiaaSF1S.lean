/- F1: the search for a label, by a plain function. -/
import Derived.Test.YtgngceifpdjbiaaSKtS
import Derived.IntWalk
set_option linter.unusedSimpArgs false
set_option maxRecDepth 100000
namespace Go.ScX
open Go.ScE

def isItem : List PV → Bool
  | [.lit (.int .i64 _), _, _, _, _, _, .lit (.int .i64 _), _] => true
  | _ => false
def findP (n : Int) : List (List PV) → Int → Int
  | [], _ => -1
  | c :: r, i => match c with
    | [.lit (.int .i64 k), _, _, _, _, _, .lit (.int .i64 m), _] => if (k == 1 && m == n) = true then i else findP n r (i + 1)
    | _ => -1

def fBody : XCode := match x55.body with
  | .seq _ (.seq (.seq _ (.block _ (.loop _ _ b))) _) => b
  | _ => .skip
def fSt (l : List (List PV)) (n i : Int) (up : List Fram) : St := { env := [(0, .c (.p (.sl 8 l))), (1, .c (.p (.lit (.int .i64 n)))), (5, .c (.p (.lit (.int .i64 i))))], fr := [], up := up, ok := true }

theorem f_step (C : Go.ScE.Callee) (N : Nat) (l : List (List PV)) (n : Int) (i : Nat) (up : List Fram) (k m : Int) (a1 a2 a3 a4 a5 a7 : PV) (hi : i < l.length) (hc : l[i] = [.lit (.int .i64 k), a1, a2, a3, a4, a5, .lit (.int .i64 m), a7]) (h63 : (i : Int) + 1 ≤ 9223372036854775807) :
    evC C N fBody (headX [0, 1, 5] [] (fSt l n i up)) = if (k == 1 && m == n) = true then (.ret, { env := [(4, .c (.p (.lit (.int .i64 i))))], fr := [], up := up, ok := true }) else (.normal, fSt l n (i + 1) up) := by
  have h1 : decide ((i : Int) < (l.length : Int)) = true := by simpa using hi
  have h2 : IntKind.wrap .i64 ((i : Int) + 1) = (i : Int) + 1 := by
    exact IntWalk.i64_in _ ⟨by omega, h63⟩
  by_cases hk : k = 1
  · by_cases hm : m = n
    · simp [fBody, x55, fSt, headX, keepE, keepF, keptE, keptF, keptA, keptC, evC, stepsX, stepX, wantedX, rdOs, rdO, demA, demC, ScE.look, act, putE, litC, same, evBinQ, evBin, pint, h1, hc, hi, hk, hm, mkA, cut, pvs]
    · simp [fBody, x55, fSt, headX, keepE, keepF, keptE, keptF, keptA, keptC, evC, stepsX, stepX, wantedX, rdOs, rdO, demA, demC, ScE.look, act, putE, litC, same, evBinQ, evBin, pint, h1, hc, hi, hk, (by simpa using hm : (m == n) = false), mkA, cut, pvs, h2]
  · simp [fBody, x55, fSt, headX, keepE, keepF, keptE, keptF, keptA, keptC, evC, stepsX, stepX, wantedX, rdOs, rdO, demA, demC, ScE.look, act, putE, litC, same, evBinQ, evBin, pint, h1, hc, hi, (by simpa using hk : (k == 1) = false), mkA, cut, pvs, h2]

def fOut (l : List (List PV)) (n i : Int) (up : List Fram) : St := { env := [(0, .c (.p (.sl 8 l))), (1, .c (.p (.lit (.int .i64 n)))), (5, .c (.p (.lit (.int .i64 i)))), (9, .c (.p (.lit (.bool false))))], fr := [], up := up, ok := true }
theorem f_end (C : Go.ScE.Callee) (N : Nat) (l : List (List PV)) (n : Int) (i : Nat) (up : List Fram) (hi : i = l.length) :
    evC C N fBody (headX [0, 1, 5] [] (fSt l n i up)) = (.exit 0, fOut l n i up) := by
  subst hi
  simp [fBody, x55, fSt, fOut, headX, keepE, keepF, keptE, keptF, keptA, keptC, evC, stepsX, stepX, wantedX, rdOs, rdO, demA, demC, ScE.look, act, putE, litC, same, evBinQ, evBin, pint]
theorem isItem_form {c : List PV} (h : isItem c = true) : ∃ k m a1 a2 a3 a4 a5 a7, c = [.lit (.int .i64 k), a1, a2, a3, a4, a5, .lit (.int .i64 m), a7] := by
  unfold isItem at h
  split at h
  · exact ⟨_, _, _, _, _, _, _, _, rfl⟩
  · cases h
theorem findP_ge (n : Int) : ∀ (r : List (List PV)) (i : Int), 0 ≤ i → findP n r i = -1 ∨ i ≤ findP n r i
  | [], i, _ => .inl rfl
  | c :: r, i, hi => by
    unfold findP
    split
    · split
      · exact .inr (Int.le_refl _)
      · rcases findP_ge n r (i + 1) (by omega) with h | h
        · exact .inl h
        · exact .inr (by omega)
    · exact .inl rfl
theorem f_loop (C : Go.ScE.Callee) (N : Nat) (l : List (List PV)) (n : Int) (up : List Fram) (hl : l.length ≤ 9223372036854775806) : ∀ (r : List (List PV)) (i fuel : Nat), l.drop i = r → i ≤ l.length → r.all isItem = true → r.length < fuel →
    loopX (evC C N fBody) (headX [0, 1, 5] []) fuel (fSt l n i up) = if findP n r i = -1 then (.exit 0, fOut l n l.length up) else (.ret, { env := [(4, .c (.p (.lit (.int .i64 (findP n r i)))))], fr := [], up := up, ok := true })
  | [], i, fuel, hd, hi, _, hf => by
    have hie : i = l.length := by have := congrArg List.length hd; simp at this; omega
    obtain ⟨q, rfl⟩ : ∃ q, fuel = q + 1 := ⟨fuel - 1, by simp at hf; omega⟩
    simp only [loopX, f_end C N l n i up hie, findP, if_true]
    rw [hie]
  | c :: r, i, fuel, hd, hi, hall, hf => by
    simp only [List.all_cons, Bool.and_eq_true] at hall
    obtain ⟨hc, hall⟩ := hall
    obtain ⟨k, m, a1, a2, a3, a4, a5, a7, rfl⟩ := isItem_form hc
    obtain ⟨q, rfl⟩ : ∃ q, fuel = q + 1 := ⟨fuel - 1, by simp at hf; omega⟩
    have hlt : i < l.length := by
      have := congrArg List.length hd; simp at this; omega
    have hci : l[i] = [.lit (.int .i64 k), a1, a2, a3, a4, a5, .lit (.int .i64 m), a7] := by
      have := List.drop_eq_getElem_cons hlt
      rw [hd] at this
      exact (List.cons.inj this).1.symm
    have hdr : l.drop (i + 1) = r := by
      have := List.drop_eq_getElem_cons hlt
      rw [hd] at this
      exact (List.cons.inj this).2.symm
    simp only [loopX, f_step C N l n i up k m a1 a2 a3 a4 a5 a7 hlt hci (by omega), findP]
    by_cases hk : (k == 1 && m == n) = true
    · simp only [if_pos hk]
      rw [if_neg (by omega)]
    · simp only [if_neg hk]
      have := f_loop C N l n up hl r (i + 1) q hdr (by omega) hall (by simp at hf; omega)
      simpa using this

def itemsOk (l : List (List PV)) : Bool := l.all isItem && decide (l.length ≤ 2000)
theorem find_eq (ext : Go.ScE.Callee) (N : Nat) (hN : 2000 < N) (l : List (List PV)) (n : Int) (hl : itemsOk l = true) :
    evF tbl ext (N + 1) 55 [.c (.p (.sl 8 l)), .c (.p (.lit (.int .i64 n)))] [] = (.c (.p (.lit (.int .i64 (findP n l 0)))), [], true) := by
  simp only [itemsOk, Bool.and_eq_true, decide_eq_true_eq] at hl
  have ht : tbl 55 = some x55 := rfl
  simp only [evF, ht]
  have h := f_loop (evF tbl ext N) N l n [] (by omega) l 0 N (by simp) (by omega) hl.1 (by omega)
  have hb : x55 = ⟨2, [.tmp 4], .seq (.region false [⟨some 4, none, .mv, [.k (pI 0)]⟩] [0, 1]) (.seq (.seq (.region false [⟨some 5, none, .mv, [.k (pI 0)]⟩] [0, 1, 5]) (.block 0 (.loop [0, 1, 5] [] fBody))) (.seq (.region false [⟨some 4, none, .mv, [.k (pI (-1))]⟩] [4]) .ret))⟩ := rfl
  rw [hb]
  by_cases hq : findP n l 0 = -1
  · simp only [Int.natCast_zero, hq, if_true, fSt, fOut, Int.natCast_zero] at h
    simp [runX, zipArgs, upAs, upA, upC, evC, stepsX, stepX, wantedX, rdOs, rdO, demA, demC, ScE.look, act, putE, keepE, h, resXs, resX, tupA, frzA, frzC, mkA, downA, downC, outA, outC, hq]
  · simp only [Int.natCast_zero, hq, if_false, fSt, fOut] at h
    simp [runX, zipArgs, upAs, upA, upC, evC, stepsX, stepX, wantedX, rdOs, rdO, demA, demC, ScE.look, act, putE, keepE, h, resXs, resX, tupA, frzA, frzC, mkA, downA, downC, outA, outC]
end Go.ScX
