/- E21: a call from outside: what is evaluated to true answers true and leaves what was there. -/
import Derived.Test.YtomklnbaaelchaaDoorSE17
import Derived.RowKit3
set_option linter.unusedVariables false
set_option linter.unusedSimpArgs false
namespace Go.ScE
section
variable {P : Program}

def gh0 : Gh := ⟨fun _ _ => none, fun _ => none⟩
theorem keptBut_of_eq {w w' : World} (h1 : w'.os = w.os) (h2 : w'.output = w.output) (h : ∀ g, g < w.heap.size → w'.heap[g]? = w.heap[g]?) : w.keptBut w' (fun _ => False) := by
  refine ⟨h1, h2, fun i hi => ?_⟩
  rw [h i hi]
  split
  · rename_i e1 e2; rw [e1] at e2; cases e2; exact ⟨rfl, rfl, rfl, fun _ _ => rfl⟩
  · rename_i e1 e2; rw [e1] at e2; cases e2; exact .inr ⟨rfl, rfl⟩
  · rfl

theorem top_sound {C : Callee} (hC : CSound P C) (hall : ∀ f args frames r frames', C f args frames = (r, frames', true) → fnOk P f = true) {f : FuncId} {args : List AV} {b : Bool} {frames' : List Fram} (h : C f args [] = (pbool b, frames', true))
    {us : List Value} (hu : RepAs gh0 (fun _ _ => none) us args (fun _ => 0)) (W : World) : Calls P f us.toArray W fun e w' => e = .returned (.bool b) ∧ RowKit.Grown W w' := by
  have := (hC f args [] (pbool b) frames' h).2 gh0 (fun _ _ => none) W (fun _ => 0) (fun _ => 0) (fun _ => 0) us ⟨(fun _ _ _ h => nomatch h), (fun _ _ h => nomatch h)⟩ ⟨fun _ => Nat.zero_le _, fun _ _ => rfl⟩ hu .nil (fun _ => Nat.le_refl _) (hall _ _ _ _ _ h)
  refine this.mono fun e w' hh => ?_
  obtain ⟨v, γ', m', cr, cf, rfl, hs, hv, -, -⟩ := hh
  have : v = .bool b := by obtain ⟨e1, -⟩ := RepA.litv hv; exact e1
  subst this
  exact ⟨rfl, keptBut_of_eq hs.os hs.output (fun g hg => hs.keepH g hg rfl), hs.frz, hs.size⟩
end
end Go.ScE
