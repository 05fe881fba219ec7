/- W2: law 02: the callees that are known; they are fine. -/
import Derived.Test.YtomklnbaaelchaaDoorSW1
import Derived.IntWalk
set_option maxRecDepth 100000
set_option linter.unusedVariables false
set_option linter.unusedSimpArgs false
namespace Go.Sc2
open Go.ScE Go.Proofs
theorem fail_ne {r : AV} {fs : List Fram} : ¬ (fail0 = (r, fs, true)) := fun h => by cases h
theorem nbeq_t {a b : Nat} (h : Nat.beq a b = true) : a = b := Nat.eq_of_beq_eq_true h
/-- A callee that leaves the world as it is, by a contract. -/
theorem fine_still {P : Program} {C : Go.ScE.Callee} (h : ∀ f args frames r frames', C f args frames = (r, frames', true) → frames = [] ∧ frames' = [] ∧ fnOk P f = true ∧ ∀ (γ : Gh) (β : Bet) (c : Bud) (us : List Value) (w : World), RepAs γ β us args c →
    ∃ v, RepA γ β v r (fun _ => 0) ∧ Calls P f us.toArray w fun e w' => e = .returned v ∧ w' = w) : Fine P C := by
  constructor
  · intro f args frames r frames' hc
    obtain ⟨rfl, rfl, hf, hh⟩ := h f args frames r frames' hc
    refine ⟨fun d k hk => hk, fun γ β w m c1 c2 us hw hm ha hfs hs _ => ?_⟩
    obtain ⟨v, hv, hcall⟩ := hh γ β c1 us w ha
    refine hcall.mono fun e w' ⟨he, hw'⟩ => ?_
    subst hw'
    exact ⟨v, γ, m, fun _ => 0, c2, he, .refl hw hm, hv, hfs, fun g => by have := hs g; show 0 + c2 g ≤ m g; omega⟩
  · intro f args frames r frames' hc
    exact (h f args frames r frames' hc).2.2.1
theorem fine_extI : Fine Tryd.prog extI := fine_still fun f args frames r frames' h => by
  unfold extI at h
  cases hb : Nat.beq f 35 with
  | false => rw [hb] at h; exact absurd h fail_ne
  | true =>
    rw [hb] at h
    have := nbeq_t hb; subst this
    dsimp only at h
    split at h
    · rename_i s c
      simp only [Prod.mk.injEq] at h
      obtain ⟨rfl, rfl, -⟩ := h
      refine ⟨rfl, rfl, by kernel_rfl, fun γ β c0 us w ha => ?_⟩
      cases ha with
      | cons h1 r1 hc1 =>
        cases r1 with
        | cons h2 r2 hc2 =>
          cases r2
          obtain ⟨rfl, -⟩ := h1.litv
          obtain ⟨rfl, -⟩ := h2.litv
          exact ⟨_, .c (.p (.lit _ rfl)), Tryd.stringslite_IndexByte s c w⟩
    · exact absurd h fail_ne
theorem cnat_extI (ρ : List Int) : CNat ρ extI extI := fun f args frames r frames' h => by
  have h0 := h
  unfold extI at h
  cases hb : Nat.beq f 35 with
  | false => rw [hb] at h; exact absurd h fail_ne
  | true =>
    rw [hb] at h
    have := nbeq_t hb; subst this
    dsimp only at h
    split at h
    · rename_i s c
      simp only [Prod.mk.injEq] at h
      obtain ⟨rfl, rfl, -⟩ := h
      simp only [cAs, cFs, cA_c, cC_p, cP_lit]
      exact h0
    · exact absurd h fail_ne
theorem laid_of {t : FuncId → Option (XFunc × KS)} (h : ∀ f x, t f = some x → GoodS f x) : ∀ f, (t f = none → ((t f).map (·.1)) = none) ∧ ∀ xf c, t f = some (xf, c) → ((t f).map (·.1)) = some xf ∧ clC xf.body = true ∧ ∀ B C n, c B C n = evS B C n xf.body :=
  fun f => ⟨fun hn => by rw [hn]; rfl, fun xf c hx => ⟨by rw [hx]; rfl, (h f _ hx).2.1, (h f _ hx).2.2⟩⟩
theorem tbl_good : ∀ f xf, tbl f = some xf → agF Tryd.prog f xf = true := fun f xf h => by
  unfold tbl at h
  cases hk : stb f with
  | none => rw [hk] at h; cases h
  | some x => rw [hk] at h; cases h; exact (stb_good f x hk).1
theorem fixedOk : evSF SN stb extI 3000 6 [] [] = (pbool true, [], true) := by kernel_rfl
theorem fixed_f : evF tbl extI 3000 6 [] [] = (pbool true, [], true) := nat_closed (evSF_nat (ρ := []) holdsN (laid_of stb_good) (cnat_extI []) 3000) fixedOk rfl
/-- The fixed call kept; the search for a byte. -/
noncomputable def extW : Go.ScE.Callee := fun f args frames => bif Nat.beq f 6 then evF tbl extI 3000 f args frames else extI f args frames
noncomputable def tblW (f : FuncId) : Option XFunc := bif Nat.beq f 6 then none else tbl f
theorem extW_6 : extW 6 [] [] = (pbool true, [], true) := by
  unfold extW
  rw [show Nat.beq 6 6 = true from rfl, cond_true]
  exact fixed_f
theorem fine_extW : Fine Tryd.prog extW := by
  have key : ∀ f args frames r frames', extW f args frames = (r, frames', true) → ∃ D, Fine Tryd.prog D ∧ D f args frames = (r, frames', true) := fun f args frames r frames' h => by
    unfold extW at h
    cases h1 : Nat.beq f 6 with
    | true => rw [h1, cond_true] at h; exact ⟨_, fine_evF tbl_good fine_extI 3000, h⟩
    | false => rw [h1, cond_false] at h; exact ⟨_, fine_extI, h⟩
  exact ⟨fun f args frames r frames' hc => let ⟨D, hD, hd⟩ := key f args frames r frames' hc; hD.sound f args frames r frames' hd, fun f args frames r frames' hc => let ⟨D, hD, hd⟩ := key f args frames r frames' hc; hD.fn f args frames r frames' hd⟩
theorem tblW_good : ∀ f xf, tblW f = some xf → agF Tryd.prog f xf = true := fun f xf h => by
  unfold tblW at h
  cases h1 : Nat.beq f 6 with
  | true => rw [h1, cond_true] at h; cases h
  | false => rw [h1, cond_false] at h; exact tbl_good f xf h
theorem fineW (k : Nat) : Fine Tryd.prog (evF tblW extW k) := fine_evF tblW_good fine_extW k
end Go.Sc2
