/- F5: SegmentErrors is true. -/
import Derived.Test.YtgngceifpdjbiaaSF4
set_option maxRecDepth 100000
set_option linter.unusedSimpArgs false
set_option linter.unusedVariables false
namespace Go.ScX
open Go.ScE Go.Proofs
theorem Le.refl (C : Go.ScE.Callee) : Le C C := fun _ _ _ _ _ h => h
/-- The runs, as they are proved elsewhere. -/
structure Runs : Prop where
  fixed : C23 7 [] [] = (pbool true, [], true)
  a : ∀ (m : Nat), m < 16 → ∀ b : Int, chk (runA (80 + m) b) = some (.c (.p (.lit (.int .i64 b))))
  b : ∀ (n : Nat), n < 7 → ∀ c : List CV, runB n c = (pbool true, [], true)
def sA (k b : Int) : St := ⟨[(1, .c (.p (.lit (.int .i64 b)))), (5, .c (.p (.lit (.int .i64 k))))], [], [], true⟩
theorem stepA {k b : Int} (h : chk (runA k b) = some (.c (.p (.lit (.int .i64 b))))) : ∃ q w c, evC C23 3000 cA (sA k b) = (.normal, ⟨[(1, .c (.p (.lit (.int .i64 b)))), (q, w)], [(0, .box c)], [], true⟩) := by
  have hz : (runA k b).2.2 = true := by
    generalize runA k b = z at h
    obtain ⟨v, fs, ok⟩ := z
    cases ok with
    | true => rfl
    | false => cases h
  obtain ⟨x, e, fr, up, h1, h2⟩ := evK_ok (Le.refl C23) 3000 cA (k := kA) (z := runA k b) rfl hz
  have h3 : chk (kA x e fr up) = some (.c (.p (.lit (.int .i64 b)))) := by rw [h2]; exact h
  clear h h2 hz
  unfold kA at h3
  split at h3
  · split at h3
    · split at h3
      · split at h3
        · split at h3
          · rename_i hb
            simp only [Bool.and_eq_true] at hb
            have e1 := Nat.eq_of_beq_eq_true hb.1
            have e2 := Nat.eq_of_beq_eq_true hb.2
            subst e1 e2
            simp only [chk, Option.some.injEq] at h3
            subst h3
            exact ⟨_, _, _, h1⟩
          · cases h3
        · cases h3
      · cases h3
    · cases h3
  · cases h3
theorem stepB {n : Int} {c : List CV} (h : runB n c = (pbool true, [], true)) : ∃ x e fr, evC C23 3000 cB ⟨[(8, .c (.p (.lit (.int .i64 n))))], [(0, .box c)], [], true⟩ = (x, ⟨e, fr, [], true⟩) ∧ (x = .normal ∨ x = .ret) ∧ finF x5 e fr [] = (pbool true, [], true) := by
  obtain ⟨x, e, fr, up, h1, h2⟩ := evK_ok (Le.refl C23) 3000 cB (k := kB) (z := runB n c) rfl (by rw [h])
  rw [h] at h2
  have fin : finF x5 e fr up = (pbool true, [], true) → up = [] := fun hf => by
    unfold finF at hf
    split at hf
    · cases hf
    · simp only [Prod.mk.injEq] at hf; exact hf.2.1
  cases x with
  | exit j => cases h2
  | normal => have := fin h2; subst this; exact ⟨_, _, _, h1, .inl rfl, h2⟩
  | ret => have := fin h2; subst this; exact ⟨_, _, _, h1, .inr rfl, h2⟩

def cR : XCode := match x5.body with
  | .seq _ (.seq _ (.seq _ r)) => r
  | _ => .skip
theorem x5_body : x5.body = .seq (.region false [⟨some 4, none, .mv, [.k (pB false)]⟩] [0, 1])
  (.seq (.seq (.region false [⟨some 13, none, .call 7, []⟩, ⟨some 14, none, .un .not, [.t 13]⟩] [0, 1, 14])
    (.cond (.t 14) (.seq (.region false [⟨some 4, none, .mv, [.k (pB false)]⟩] [4]) .ret) .skip))
  (.seq (.region false [⟨some 15, none, .mv, [.t 0]⟩, ⟨some 16, none, .bin .rem false, [.t 15, .k (pI 16)]⟩, ⟨some 17, none, .bin .add false, [.t 16, .k (pI 16)]⟩, ⟨some 18, none, .bin .rem false, [.t 17, .k (pI 16)]⟩, ⟨some 19, none, .bin .add false, [.k (pI 80), .t 18]⟩, ⟨some 5, none, .mv, [.t 19]⟩] [1, 5]) cR)) := rfl
def cS : XCode := match cR with
  | .seq _ (.seq _ r) => r
  | _ => .skip
theorem cR_eq : ∃ p q r, cA = .seq p (.seq q r) ∧ cR = .seq p (.seq (.seq q r) cS) := ⟨_, _, _, rfl, rfl⟩
theorem cS_eq : cS = .seq (.region false [⟨some 44, none, .mv, [.t 1]⟩, ⟨some 45, none, .bin .rem false, [.t 44, .k (pI 7)]⟩, ⟨some 46, none, .bin .add false, [.t 45, .k (pI 7)]⟩, ⟨some 47, none, .bin .rem false, [.t 46, .k (pI 7)]⟩, ⟨some 8, none, .mv, [.t 47]⟩] [8]) cB := rfl
theorem seq_skip {C : Go.ScE.Callee} {n : Nat} {p q r s : XCode} {σ τ : St} (h : evC C n (.seq p (.seq q r)) σ = (.normal, τ)) : evC C n (.seq p (.seq (.seq q r) s)) σ = evC C n s τ := by
  simp only [evC] at h ⊢
  generalize evC C n p σ = u at h ⊢
  obtain ⟨e1, σ1⟩ := u
  cases e1 with
  | normal => simp only at h ⊢; rw [h]
  | exit j => simp at h
  | ret => simp at h
theorem rem_in (a : Int) (p : Nat) (hp : 0 < p) (hb : p < 1000) : ∃ m : Nat, m < p ∧ (IntKind.wrap .i64 (a.tmod p + p)).tmod p = m := by
  have h1 : -(p : Int) < a.tmod p := by
    have := Int.lt_tmod_of_pos a (b := (p : Int)) (by omega); omega
  have h2 : a.tmod p < p := Int.tmod_lt_of_pos a (by omega)
  have h3 : IntKind.wrap .i64 (a.tmod p + p) = a.tmod p + p := IntWalk.i64_in _ ⟨by omega, by omega⟩
  rw [h3]
  have h4 : 0 ≤ (a.tmod p + p).tmod p := Int.tmod_nonneg _ (by omega)
  have h5 : (a.tmod p + p).tmod p < p := Int.tmod_lt_of_pos _ (by omega)
  exact ⟨((a.tmod p + p).tmod p).toNat, by omega, by omega⟩
theorem stepK0 (hR : Runs) (a b : Int) : ∃ m : Nat, m < 16 ∧ evC C23 3000 x5.body ⟨[(0, .c (.p (.lit (.int .i64 a)))), (1, .c (.p (.lit (.int .i64 b))))], [], [], true⟩ = evC C23 3000 cR (sA (80 + m) b) := by
  obtain ⟨m, hm, he⟩ := rem_in a 16 (by omega) (by omega)
  refine ⟨m, hm, ?_⟩
  have hf := hR.fixed
  have hw : IntKind.wrap .i64 (80 + (m : Int)) = 80 + m := IntWalk.i64_in _ ⟨by omega, by omega⟩
  have he : (IntKind.i64.wrap (a.tmod 16 + 16)).tmod 16 = m := he
  rw [x5_body]
  simp [sA, evC, stepsX, stepX, wantedX, rdOs, rdO, demA, demC, ScE.look, act, putE, keepE, litC, same, evBinQ, evBin, evUn, freeAs, freeA, freeC, pbool, hf, he, hw]
theorem stepS {b : Int} {q : Nat} {w : AV} {c : List CV} : ∃ n : Nat, n < 7 ∧ evC C23 3000 cS ⟨[(1, .c (.p (.lit (.int .i64 b)))), (q, w)], [(0, .box c)], [], true⟩ = evC C23 3000 cB ⟨[(8, .c (.p (.lit (.int .i64 n))))], [(0, .box c)], [], true⟩ := by
  obtain ⟨n, hn, he⟩ := rem_in b 7 (by omega) (by omega)
  refine ⟨n, hn, ?_⟩
  have he : (IntKind.i64.wrap (b.tmod 7 + 7)).tmod 7 = n := he
  rw [cS_eq]
  simp [evC, stepsX, stepX, wantedX, rdOs, rdO, demA, demC, ScE.look, act, putE, keepE, litC, same, evBinQ, evBin, he]
theorem law (hR : Runs) (a b : Int) : runX C23 3000 x5 [pint .i64 a, pint .i64 b] [] = (pbool true, [], true) := by
  obtain ⟨m, hm, h1⟩ := stepK0 hR a b
  obtain ⟨q, w, c, h2⟩ := stepA (hR.a m hm b)
  obtain ⟨n, hn, h3⟩ := stepS (b := b) (q := q) (w := w) (c := c)
  obtain ⟨x, e, fr, h4, hx, h5⟩ := stepB (hR.b n hn c)
  obtain ⟨p1, p2, p3, e1, e2⟩ := cR_eq
  rw [e1] at h2
  have h6 := seq_skip (s := cS) h2
  rw [← e2] at h6
  have hev : evC C23 3000 x5.body ⟨[(0, .c (.p (.lit (.int .i64 a)))), (1, .c (.p (.lit (.int .i64 b))))], [], [], true⟩ = (x, ⟨e, fr, [], true⟩) := by
    rw [h1, h6, h3, h4]
  have hz : zipArgs 0 (upAs 1 [pint .i64 a, pint .i64 b]) = [(0, .c (.p (.lit (.int .i64 a)))), (1, .c (.p (.lit (.int .i64 b))))] := rfl
  have hl : (([pint .i64 a, pint .i64 b] : List AV).length == x5.np) = true := rfl
  unfold runX
  rw [hz, hl, hev]
  have fin : (match resXs ⟨e, fr, [], true⟩ x5.res with
      | none => ((deadA, [], false) : AV × List Fram × Bool)
      | some rs => let t := frzA fr (tupA rs); (downA 1 t, [], true && outA 1 t)) = (pbool true, [], true) := by
    unfold finF at h5
    split at h5
    · cases h5
    · rename_i rs hrs
      simp only [hrs, Bool.true_and]; exact h5
  rcases hx with rfl | rfl <;> exact fin
end Go.ScX
