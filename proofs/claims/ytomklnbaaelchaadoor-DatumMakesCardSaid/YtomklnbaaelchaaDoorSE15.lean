/- E15: from operations to code. -/
import Derived.Test.YtomklnbaaelchaaDoorSE14
import Derived.LoopN
set_option linter.unusedVariables false
set_option linter.unusedSimpArgs false
namespace Go.ScE

def Keeps (a b : List Fram) : Prop := ∀ d k, hhas k (fget d a) = true → hhas k (fget d b) = true
theorem Keeps.refl (a : List Fram) : Keeps a a := fun _ _ h => h
theorem Keeps.trans {a b c : List Fram} (h : Keeps a b) (k : Keeps b c) : Keeps a c := fun d i x => k d i (h d i x)
theorem Keeps.tail {f g : Fram} {a b : List Fram} (h : Keeps (f :: a) (g :: b)) : Keeps a b := fun d k x => h (d + 1) k x
theorem fget_fset (d : Nat) (g : Fram) : ∀ (fs : List Fram) (e : Nat), fget e (fset d g fs) = if e = d ∧ d < fs.length then g else fget e fs
  | [], e => by cases d <;> cases e <;> simp [fset, fget]
  | f :: r, 0 => by
    cases d with
    | zero => simp [fset, fget]
    | succ d => simp [fset, fget]
  | f :: r, e + 1 => by
    cases d with
    | zero => simp [fset, fget]
    | succ d => simp only [fset, fget, fget_fset d g r e, List.length_cons, Nat.add_right_cancel_iff, Nat.add_lt_add_iff_right]
theorem keeps_setH (d k : Nat) (h : HO) (fs : List Fram) : Keeps fs (setH d k h fs) := fun e i x => by
  unfold setH
  rw [fget_fset]
  split
  · rename_i hc; obtain ⟨rfl, -⟩ := hc; exact hhas_set k i h _ x
  · exact x

theorem act_keeps {C : Callee} (hC : ∀ f args frames r frames', C f args frames = (r, frames', true) → Keeps frames frames') {k : XK} {vs : List AV} {fr fr' : Fram} {up up' : List Fram} {r : AV} (h : act C k vs fr up = (r, fr', up', true)) : Keeps up up' := by
  have fin : ∀ {x : AV} {a : Fram} {b : List Fram} {ok : Bool}, ((x, a, b, ok) : ActR) = (r, fr', up', true) → b = up' := fun h => by simp only [Prod.mk.injEq] at h; exact h.2.2.1
  have hset : ∀ {d k : Nat} {ho : HO} {a : Fram} {b : List Fram}, setH d k ho (fr :: up) = a :: b → Keeps up b := fun {d k ho a b} h => by
    have := keeps_setH d k ho (fr :: up); rw [h] at this; exact this.tail
  have hcall : ∀ {q : AV × List Fram × Bool} {f : FuncId} {xs : List AV}, C f xs (fr :: up) = q → (match q with | (r, fr' :: up', ok) => ((r, fr', up', ok) : ActR) | _ => bad fr up) = (r, fr', up', true) → Keeps up up' := fun {q f xs} hq h => by
    obtain ⟨r1, fs1, ok1⟩ := q
    cases fs1 with
    | nil => exact absurd h bad_ne
    | cons f1 u1 =>
      simp only [Prod.mk.injEq] at h
      obtain ⟨rfl, rfl, rfl, rfl⟩ := h
      exact (hC _ _ _ _ _ hq).tail
  cases k
  case call f =>
    simp only [act] at h
    split at h
    · generalize C f vs [] = q at h; obtain ⟨a, b, c⟩ := q; have := fin h; subst this; exact .refl _
    · exact hcall rfl h
  case callv =>
    simp only [act] at h
    split at h
    · split at h
      · rename_i f _ _ xs _ _ _ _; generalize C f xs [] = q at h; obtain ⟨a, b, c⟩ := q; have := fin h; subst this; exact .refl _
      · exact hcall rfl h
      · exact absurd h bad_ne
    · exact absurd h bad_ne
  case ld agg n take =>
    simp only [act] at h
    split at h
    · split at h
      · have := fin h; subst this; exact .refl _
      · split at h
        · split at h
          · split at h
            · rename_i hq; have := fin h; subst this; exact hset hq
            · exact absurd h bad_ne
          · have := fin h; subst this; exact .refl _
        · exact absurd h bad_ne
      · split at h
        · have := fin h; subst this; exact .refl _
        · exact absurd h bad_ne
      · exact absurd h bad_ne
    · exact absurd h bad_ne
  case st n =>
    simp only [act] at h
    split at h
    · split at h
      · split at h
        · split at h
          · rename_i hq; have := fin h; subst this; exact hset hq
          · exact absurd h bad_ne
        · exact absurd h bad_ne
      · split at h
        · split at h
          · rename_i hq; have := fin h; subst this; exact hset hq
          · exact absurd h bad_ne
        · exact absurd h bad_ne
      · exact absurd h bad_ne
    · exact absurd h bad_ne
  case mu =>
    simp only [act] at h
    split at h
    · split at h
      · split at h
        · rename_i hq; have := fin h; subst this; exact hset hq
        · exact absurd h bad_ne
      · exact absurd h bad_ne
    · exact absurd h bad_ne
  case copy sz =>
    simp only [act] at h
    split at h
    · split at h
      · split at h
        · rename_i hq; have := fin h; subst this; exact hset hq
        · exact absurd h bad_ne
      · exact absurd h bad_ne
    · exact absurd h bad_ne
  case slS lo hi => cases lo <;> cases hi <;> simp only [act] at h <;> (repeat' split at h) <;> first | exact absurd h bad_ne | (have := fin h; subst this; exact .refl _)
  case slL sz lo hi => cases lo <;> cases hi <;> simp only [act] at h <;> (repeat' split at h) <;> first | exact absurd h bad_ne | (have := fin h; subst this; exact .refl _)
  all_goals
    simp only [act, same] at h
    repeat' split at h
    all_goals first | exact absurd h bad_ne | (have := fin h; subst this; exact .refl _)
end Go.ScE
