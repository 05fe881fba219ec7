/- F4: the callee of law23 is fine. -/
import Derived.Test.YtgngceifpdjbiaaSF3
set_option linter.unusedVariables false
set_option maxRecDepth 100000
namespace Go.ScX
open Go.ScE Go.Proofs
theorem fine_of {P : Program} {C : Go.ScE.Callee} (h : ∀ f args frames r frames', C f args frames = (r, frames', true) → ∃ D, Fine P D ∧ D f args frames = (r, frames', true)) : Fine P C :=
  ⟨fun f args frames r frames' hc => let ⟨D, hD, hd⟩ := h f args frames r frames' hc; hD.sound f args frames r frames' hd, fun f args frames r frames' hc => let ⟨D, hD, hd⟩ := h f args frames r frames' hc; hD.fn f args frames r frames' hd⟩
theorem ktbl_good' : ∀ f x, ktbl f = some x → agF Try.prog f x.1 = true ∧ ∀ (C : Go.ScE.Callee) (n : Nat), x.2 C n = evK C n x.1.body := ktbl_good
theorem tbl_good : ∀ f xf, tbl f = some xf → agF Try.prog f xf = true := fun f xf h => by
  unfold tbl at h
  cases hk : ktbl f with
  | none => rw [hk] at h; cases h
  | some x => rw [hk] at h; cases h; exact (ktbl_good f x hk).1
theorem fine_k : Fine Try.prog (evKF ktbl ext0 3000) := fine_evKF ktbl_good' (fine_none _) 3000
theorem fine_f : Fine Try.prog (evF tbl ext0 2002) := fine_evF tbl_good (fine_none _) 2002
theorem ktbl1_good : ∀ f x, ktbl1 f = some x → agF Try.prog f x.1 = true ∧ ∀ (C : Go.ScE.Callee) (n : Nat), x.2 C n = evK C n x.1.body := fun f x h => by
  unfold ktbl1 at h
  cases h1 : Nat.beq f 55 with
  | true => rw [h1] at h; cases h
  | false =>
    cases h2 : Nat.beq f 59 with
    | true => rw [h1, h2] at h; cases h
    | false =>
      cases h3 : Nat.beq f 10 with
      | true => rw [h1, h2, h3] at h; cases h
      | false =>
        cases h4 : Nat.beq f 11 with
        | true => rw [h1, h2, h3, h4] at h; cases h
        | false => rw [h1, h2, h3, h4] at h; exact ktbl_good f x h
theorem nbeq_t {a b : Nat} (h : Nat.beq a b = true) : a = b := Nat.eq_of_beq_eq_true h
theorem fail_ne {r : AV} {fs : List Fram} : ¬ (fail0 = (r, fs, true)) := fun h => by cases h
theorem fine_ext1 : Fine Try.prog ext1 := fine_of fun f args frames r frames' h => by
  cases frames with
  | cons _ _ => exact absurd h fail_ne
  | nil =>
    replace h : (Bool.rec (motive := fun _ => R0) (Bool.rec (motive := fun _ => R0) (Bool.rec (motive := fun _ => R0) (Bool.rec (motive := fun _ => R0) fail0 (List.rec (motive := fun _ => R0) (gcV, [], true) (fun _ _ _ => fail0) args) (Nat.beq f 11))
      (List.rec (motive := fun _ => R0) (rtV, [], true) (fun _ _ _ => fail0) args) (Nat.beq f 10))
      (List.rec (motive := fun _ => R0) (rowsV, [], true) (fun _ _ _ => fail0) args) (Nat.beq f 59))
      (match (generalizing := false) args with
        | [.c (.p (.sl sz l)), y] => Bool.rec (motive := fun _ => R0) fail0 (VK.rec (motive := fun _ => R0) (fun k n => Bool.rec (motive := fun _ => R0) fail0 (rowF l n) (isI64 k)) fail0 (vk (litV y))) (Nat.beq sz 8)
        | _ => fail0) (Nat.beq f 55)) = (r, frames', true) := h
    cases h1 : Nat.beq f 55 with
    | true =>
      rw [h1] at h
      have := nbeq_t h1; subst this
      dsimp only at h
      split at h
      · rename_i sz l y
        cases h2 : Nat.beq sz 8 with
        | false => rw [h2] at h; exact absurd h fail_ne
        | true =>
          rw [h2] at h
          have := nbeq_t h2; subst this
          cases hy : vk (litV y) with
          | o => rw [hy] at h; exact absurd h fail_ne
          | i k n =>
            rw [hy] at h
            dsimp only at h
            cases hk : isI64 k with
            | false => rw [hk] at h; exact absurd h fail_ne
            | true =>
              rw [hk] at h
              have := isI64_ok hk; subst this
              have hyy := litV_i hy; subst hyy
              replace h : rowF l n = (r, frames', true) := h
              unfold rowF at h
              cases ht : labT l 0 with
              | none => rw [ht] at h; exact absurd h fail_ne
              | some t =>
                rw [ht] at h
                simp only [Prod.mk.injEq] at h
                obtain ⟨rfl, rfl, hlen⟩ := h
                have hle := Nat.le_of_ble_eq_true hlen
                rw [lenF_eq] at hle
                obtain ⟨q1, q2⟩ := findT_ok n l 0 t ht
                refine ⟨_, fine_f, ?_⟩
                have := find_eq ext0 2001 (by omega) l n (by simp only [itemsOk, q1, Bool.true_and, decide_eq_true_eq]; exact hle)
                rw [this]
                have q3 : findP n l 0 = findT n t := q2
                rw [q3]
      · exact absurd h fail_ne
    | false =>
      rw [h1] at h
      dsimp only at h
      cases h2 : Nat.beq f 59 with
      | true =>
        rw [h2] at h
        have := nbeq_t h2; subst this
        cases args with
        | cons _ _ => exact absurd h fail_ne
        | nil => exact ⟨_, fine_k, rows_eq.trans h⟩
      | false =>
        rw [h2] at h
        dsimp only at h
        cases h3 : Nat.beq f 10 with
        | true =>
          rw [h3] at h
          have := nbeq_t h3; subst this
          cases args with
          | cons _ _ => exact absurd h fail_ne
          | nil => exact ⟨_, fine_k, rt_eq.trans h⟩
        | false =>
          rw [h3] at h
          dsimp only at h
          cases h4 : Nat.beq f 11 with
          | true =>
            rw [h4] at h
            have := nbeq_t h4; subst this
            cases args with
            | cons _ _ => exact absurd h fail_ne
            | nil => exact ⟨_, fine_k, gc_eq.trans h⟩
          | false => rw [h4] at h; exact absurd h fail_ne
theorem fine_C23 : Fine Try.prog C23 := fine_evKF ktbl1_good fine_ext1 3000
end Go.ScX
