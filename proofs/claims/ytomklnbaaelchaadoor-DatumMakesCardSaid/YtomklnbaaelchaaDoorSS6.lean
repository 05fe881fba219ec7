/- S6: closed answers; answers that are kept. -/
import Derived.Test.YtomklnbaaelchaaDoorSS5
set_option linter.unusedVariables false
set_option linter.unusedSimpArgs false
namespace Go.ScE
def clCV : CV → Bool
  | .p p => clP p
  | .own sz l => okS sz && clPss l
  | .ipt cs _ => clPs cs
  | .aref _ _ sz _ _ => !(sz == SPAR)
  | .arr _ _ sz _ _ => !(sz == SPAR)
  | _ => true
def clL : List CV → Bool
  | [] => true
  | x :: r => clCV x && clL r
def clT : List (Bool × List CV) → Bool
  | [] => true
  | (_, l) :: r => clL l && clT r
def clA : AV → Bool
  | .c x => clCV x
  | .agg l => clL l
  | .tup l => clT l
section
variable {ρ : List Int}
theorem clCV_c {x : CV} (h : clCV x = true) : cC ρ x = x := by
  cases x with
  | p p => rw [cC_p, clP_c h]
  | own sz l => simp only [clCV, Bool.and_eq_true] at h; obtain ⟨g1, g2⟩ := okS_ok h.1; rw [cC_own g1 g2, clPss_c h.2]
  | ipt cs o => rw [cC_ipt, clPs_c h]
  | aref d k sz i o => rw [cC_aref, if_neg (nSP h)]
  | arr d k sz i o => rw [cC_arr, if_neg (nSP h)]
  | _ => rfl
theorem clL_c : ∀ {l : List CV} (_ : clL l = true), cCs ρ l = l
  | [], _ => rfl
  | x :: r, h => by simp only [clL, Bool.and_eq_true] at h; simp only [cCs, clCV_c h.1, clL_c h.2]
theorem clT_c : ∀ {l : List (Bool × List CV)} (_ : clT l = true), cT ρ l = l
  | [], _ => rfl
  | (b, x) :: r, h => by simp only [clT, Bool.and_eq_true] at h; simp only [cT, clL_c h.1, clT_c h.2]
theorem clA_c {x : AV} (h : clA x = true) : cA ρ x = x := by
  cases x with
  | c x => rw [cA_c, clCV_c h]
  | agg l => rw [cA_agg, clL_c h]
  | tup l => rw [cA_tup, clT_c h]
/-- Two rows of numbers that stand for the same. -/
def eqRow : List PV → List PV → Bool
  | [], [] => true
  | p :: r, q :: s => (match fmP p, fmP q with
    | some f, some g => decide (f.k = g.k) && eqF f g && eqRow r s
    | _, _ => false)
  | _, _ => false
def eqRows : List (List PV) → List (List PV) → Bool
  | [], [] => true
  | x :: r, y :: s => eqRow x y && eqRows r s
  | _, _ => false
theorem eqRow_c : ∀ {l m : List PV} (_ : eqRow l m = true), cPs ρ l = cPs ρ m
  | [], [], _ => rfl
  | p :: r, q :: s, h => by
    simp only [eqRow] at h
    split at h
    · rename_i f g hf hg
      simp only [Bool.and_eq_true, decide_eq_true_eq] at h
      simp only [cPs, fmP_c ρ hf, fmP_c ρ hg, h.1.1, eqF_ok ρ h.1.2, eqRow_c h.2]
    · cases h
  | [], _ :: _, h => by cases h
  | _ :: _, [], h => by cases h
theorem eqRows_c : ∀ {l m : List (List PV)} (_ : eqRows l m = true), cPss ρ l = cPss ρ m
  | [], [], _ => rfl
  | x :: r, y :: s, h => by
    simp only [eqRows, Bool.and_eq_true] at h
    simp only [cPss, eqRow_c h.1, eqRows_c h.2]
  | [], _ :: _, h => by cases h
  | _ :: _, [], h => by cases h
/-- An answer that is kept: of a function of one row. -/
noncomputable def memoE (f0 sz0 : Nat) (l0 : List (List PV)) (r0 : AV) (ext : Callee) : Callee := fun f args frames => Bool.rec (motive := fun _ => R0) (ext f args frames)
  (match args, frames with
    | [.c (.own sz l)], [] => Bool.rec (motive := fun _ => R0) fail0 (Bool.rec (motive := fun _ => R0) fail0 (r0, [], true) (eqRows l l0)) (Nat.beq sz sz0)
    | _, _ => fail0) (Nat.beq f f0)
/-- Of a function of nothing. -/
noncomputable def memo0 (f0 : Nat) (r0 : AV) (ext : Callee) : Callee := fun f args frames => Bool.rec (motive := fun _ => R0) (ext f args frames)
  (match args, frames with
    | [], [] => (r0, [], true)
    | _, _ => fail0) (Nat.beq f f0)
theorem memoE_nat {f0 sz0 : Nat} {l0 : List (List PV)} {r0 : AV} {ext D : Callee} (hs : okS sz0 = true) (hE : CNat ρ ext D) (hD : D f0 [.c (.own sz0 (cPss ρ l0))] [] = (cA ρ r0, [], true)) : CNat ρ (memoE f0 sz0 l0 r0 ext) D := by
  intro f args frames r frames' h
  unfold memoE at h
  cases hf : Nat.beq f f0 with
  | false => rw [hf] at h; exact hE f args frames r frames' h
  | true =>
    rw [hf] at h
    have := Nat.eq_of_beq_eq_true hf; subst this
    dsimp only at h
    split at h
    · rename_i sz l
      cases h1 : Nat.beq sz sz0 with
      | false => rw [h1] at h; cases h
      | true =>
        rw [h1] at h
        have := Nat.eq_of_beq_eq_true h1; subst this
        cases h2 : eqRows l l0 with
        | false => rw [h2] at h; cases h
        | true =>
          rw [h2] at h
          simp only [Prod.mk.injEq] at h
          obtain ⟨rfl, rfl, -⟩ := h
          obtain ⟨g1, g2⟩ := okS_ok hs
          simp only [cAs, cA_c, cC_own g1 g2, eqRows_c h2, cFs]
          exact hD
    · cases h
theorem memo0_nat {f0 : Nat} {r0 : AV} {ext D : Callee} (hE : CNat ρ ext D) (hD : D f0 [] [] = (cA ρ r0, [], true)) : CNat ρ (memo0 f0 r0 ext) D := by
  intro f args frames r frames' h
  unfold memo0 at h
  cases hf : Nat.beq f f0 with
  | false => rw [hf] at h; exact hE f args frames r frames' h
  | true =>
    rw [hf] at h
    have := Nat.eq_of_beq_eq_true hf; subst this
    dsimp only at h
    split at h
    · simp only [Prod.mk.injEq] at h
      obtain ⟨rfl, rfl, -⟩ := h
      exact hD
    · cases h
/-- No names at all. -/
def SN : Sy := ⟨[], [], []⟩
theorem holdsN : Holds SN [] := ⟨trivial, fun g hg => by cases hg⟩
theorem nat_closed {C D : Callee} (hC : CNat ρ C D) {f : FuncId} {r : AV} (h : C f [] [] = (r, [], true)) (hr : clA r = true) : D f [] [] = (r, [], true) := by
  have := hC f [] [] r [] h
  simp only [cAs, cFs, clA_c hr] at this
  exact this
end
end Go.ScE
