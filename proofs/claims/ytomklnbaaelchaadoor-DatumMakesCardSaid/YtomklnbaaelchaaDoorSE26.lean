/- E26: tables, memory of answers, and what is sound. -/
import Derived.Test.YtomklnbaaelchaaDoorSE25
set_option linter.unusedVariables false
namespace Go.ScE
theorem tleaf {α : Type} {Q : Nat → α → Prop} {g : Nat} {x : α} (h : Q g x) : ∀ (f : Nat) (y : α), (bif Nat.beq f g then some x else none) = some y → Q f y := fun f y hh => by
  cases hb : Nat.beq f g with
  | false => rw [hb] at hh; cases hh
  | true => rw [hb] at hh; cases hh; have := Nat.eq_of_beq_eq_true hb; subst this; exact h
theorem tnode {α : Type} {Q : Nat → α → Prop} {a b : Nat → Option α} {m : Nat} (ha : ∀ f y, a f = some y → Q f y) (hb : ∀ f y, b f = some y → Q f y) : ∀ (f : Nat) (y : α), (bif Nat.blt f m then a f else b f) = some y → Q f y := fun f y hh => by
  cases hc : Nat.blt f m with
  | false => rw [hc] at hh; exact hb f y hh
  | true => rw [hc] at hh; exact ha f y hh
/-- A callee in a callee's place. -/
theorem CSound.le {P : Program} {C D : Callee} (hD : CSound P D) (h : Le C D) : CSound P C := fun f args frames r frames' hc => hD f args frames r frames' (h f args frames r frames' hc)
structure Fine (P : Program) (C : Callee) : Prop where
  sound : CSound P C
  fn : ∀ f args frames r frames', C f args frames = (r, frames', true) → fnOk P f = true
theorem Fine.le {P : Program} {C D : Callee} (hD : Fine P D) (h : Le C D) : Fine P C := ⟨hD.sound.le h, fun f args frames r frames' hc => hD.fn f args frames r frames' (h f args frames r frames' hc)⟩
theorem fine_none (P : Program) : Fine P fun _ _ _ => (deadA, [], false) := ⟨fun f args frames r frames' h => by simp at h, fun f args frames r frames' h => by simp at h⟩
theorem fine_evF {P : Program} {tbl : FuncId → Option XFunc} {ext : Callee} (hT : ∀ f xf, tbl f = some xf → agF P f xf = true) (hE : Fine P ext) (k : Nat) : Fine P (evF tbl ext k) :=
  ⟨(evF_sound hT hE.sound hE.fn k).1, (evF_sound hT hE.sound hE.fn k).2⟩
theorem fine_evKF {P : Program} {ktbl : FuncId → Option (XFunc × KC)} {ext : Callee} (hT : ∀ f x, ktbl f = some x → agF P f x.1 = true ∧ ∀ (C : Callee) (n : Nat), x.2 C n = evK C n x.1.body) (hE : Fine P ext) (k : Nat) : Fine P (evKF ktbl ext k) :=
  (fine_evF (tbl := fun f => (ktbl f).map (·.1)) (fun f xf h => by
    cases hk : ktbl f with
    | none => rw [hk] at h; cases h
    | some x => rw [hk] at h; cases h; exact (hT f x hk).1) hE k).le (evKF_le (fun f => ⟨fun h => by simp [h], fun xf c h => ⟨by simp [h], (hT f (xf, c) h).2⟩⟩) ext k)
end Go.ScE
