/- F4: the callee of law23 is fine. -/
import Derived.Test.YtgngceifpdjbiaaSF2S
set_option linter.unusedVariables false
set_option maxRecDepth 100000
namespace Go.ScX
open Go.ScE Go.Proofs
theorem fine_of {P : Program} {C : Go.ScE.Callee} (h : ∀ f args frames r frames', C f args frames = (r, frames', true) → ∃ D, Fine P D ∧ D f args frames = (r, frames', true)) : Fine P C :=
  ⟨fun f args frames r frames' hc => let ⟨D, hD, hd⟩ := h f args frames r frames' hc; hD.sound f args frames r frames' hd, fun f args frames r frames' hc => let ⟨D, hD, hd⟩ := h f args frames r frames' hc; hD.fn f args frames r frames' hd⟩
theorem tbl_good : ∀ f xf, tbl f = some xf → agF Try.prog f xf = true := fun f xf h => by
  unfold tbl at h
  cases hk : stb f with
  | none => rw [hk] at h; cases h
  | some x => rw [hk] at h; cases h; exact (stb_good f x hk).1
theorem laid_of {t : FuncId → Option (XFunc × KS)} (h : ∀ f x, t f = some x → GoodS f x) : ∀ f, (t f = none → ((t f).map (·.1)) = none) ∧ ∀ xf c, t f = some (xf, c) → ((t f).map (·.1)) = some xf ∧ clC xf.body = true ∧ ∀ B C n, c B C n = evS B C n xf.body :=
  fun f => ⟨fun hn => by rw [hn]; rfl, fun xf c hx => ⟨by rw [hx]; rfl, (h f _ hx).2.1, (h f _ hx).2.2⟩⟩
theorem fine_f : Fine Try.prog (evF tbl ext0 2002) := fine_evF tbl_good (fine_none _) 2002
theorem fine_k : Fine Try.prog (evF tbl ext0 3000) := fine_evF tbl_good (fine_none _) 3000
theorem nat_k (ρ : List Int) {B : Sy} (hB : Holds B ρ) (k : Nat) : CNat ρ (evSF B stb ext0 k) (evF tbl ext0 k) := evSF_nat hB (laid_of stb_good) (fun f args frames r frames' h => by cases h) k
theorem stb1_good : ∀ f x, stb1 f = some x → GoodS f x := fun f x h => by
  unfold stb1 at h
  cases h1 : Nat.beq f 55 with
  | true => rw [h1] at h; cases h
  | false =>
    cases h2 : Nat.beq f 59 with
    | true => rw [h1, h2] at h; cases h
    | false =>
      cases h3 : Nat.beq f 10 with
      | true => rw [h1, h2, h3] at h; cases h
      | false =>
        cases h4 : Nat.beq f 11 with
        | true => rw [h1, h2, h3, h4] at h; cases h
        | false => rw [h1, h2, h3, h4] at h; exact stb_good f x h
theorem tbl1_good : ∀ f xf, tbl1 f = some xf → agF Try.prog f xf = true := fun f xf h => by
  unfold tbl1 at h
  cases hk : stb1 f with
  | none => rw [hk] at h; cases h
  | some x => rw [hk] at h; cases h; exact (stb1_good f x hk).1
theorem rows_f : evF tbl ext0 3000 59 [] [] = (rowsV, [], true) := nat_closed (nat_k [] holdsN 3000) rows_eq (by kernel_rfl)
theorem rt_f : evF tbl ext0 3000 10 [] [] = (rtV, [], true) := nat_closed (nat_k [] holdsN 3000) rt_eq (by kernel_rfl)
theorem gc_f : evF tbl ext0 3000 11 [] [] = (gcV, [], true) := nat_closed (nat_k [] holdsN 3000) gc_eq (by kernel_rfl)
theorem nbeq_t {a b : Nat} (h : Nat.beq a b = true) : a = b := Nat.eq_of_beq_eq_true h
theorem fail_ne {r : AV} {fs : List Fram} : ¬ (fail0 = (r, fs, true)) := fun h => by cases h
theorem fine_ext1 : Fine Try.prog ext1 := fine_of fun f args frames r frames' h => by
  cases frames with
  | cons _ _ => exact absurd h fail_ne
  | nil =>
    replace h : (Bool.rec (motive := fun _ => R0) (Bool.rec (motive := fun _ => R0) (Bool.rec (motive := fun _ => R0) (Bool.rec (motive := fun _ => R0) fail0 (List.rec (motive := fun _ => R0) (gcV, [], true) (fun _ _ _ => fail0) args) (Nat.beq f 11))
      (List.rec (motive := fun _ => R0) (rtV, [], true) (fun _ _ _ => fail0) args) (Nat.beq f 10))
      (List.rec (motive := fun _ => R0) (rowsV, [], true) (fun _ _ _ => fail0) args) (Nat.beq f 59))
      (match (generalizing := false) args with
        | [.c (.p (.sl sz l)), y] => Bool.rec (motive := fun _ => R0) fail0 (VK.rec (motive := fun _ => R0) (fun k n => Bool.rec (motive := fun _ => R0) fail0 (rowF l n) (isI64 k)) fail0 (vk (litV y))) (Nat.beq sz 8)
        | _ => fail0) (Nat.beq f 55)) = (r, frames', true) := h
    cases h1 : Nat.beq f 55 with
    | true =>
      rw [h1] at h
      have := nbeq_t h1; subst this
      dsimp only at h
      split at h
      · rename_i sz l y
        cases h2 : Nat.beq sz 8 with
        | false => rw [h2] at h; exact absurd h fail_ne
        | true =>
          rw [h2] at h
          have := nbeq_t h2; subst this
          cases hy : vk (litV y) with
          | o => rw [hy] at h; exact absurd h fail_ne
          | i k n =>
            rw [hy] at h
            dsimp only at h
            cases hk : isI64 k with
            | false => rw [hk] at h; exact absurd h fail_ne
            | true =>
              rw [hk] at h
              have := isI64_ok hk; subst this
              have hyy := litV_i hy; subst hyy
              replace h : rowF l n = (r, frames', true) := h
              unfold rowF at h
              cases ht : labT l 0 with
              | none => rw [ht] at h; exact absurd h fail_ne
              | some t =>
                rw [ht] at h
                simp only [Prod.mk.injEq] at h
                obtain ⟨rfl, rfl, hlen⟩ := h
                have hle := Nat.le_of_ble_eq_true hlen
                rw [lenF_eq] at hle
                obtain ⟨q1, q2⟩ := findT_ok n l 0 t ht
                refine ⟨_, fine_f, ?_⟩
                have := find_eq ext0 2001 (by omega) l n (by simp only [itemsOk, q1, Bool.true_and, decide_eq_true_eq]; exact hle)
                rw [this]
                have q3 : findP n l 0 = findT n t := q2
                rw [q3]
      · exact absurd h fail_ne
    | false =>
      rw [h1] at h
      dsimp only at h
      cases h2 : Nat.beq f 59 with
      | true =>
        rw [h2] at h
        have := nbeq_t h2; subst this
        cases args with
        | cons _ _ => exact absurd h fail_ne
        | nil => exact ⟨_, fine_k, rows_f.trans h⟩
      | false =>
        rw [h2] at h
        dsimp only at h
        cases h3 : Nat.beq f 10 with
        | true =>
          rw [h3] at h
          have := nbeq_t h3; subst this
          cases args with
          | cons _ _ => exact absurd h fail_ne
          | nil => exact ⟨_, fine_k, rt_f.trans h⟩
        | false =>
          rw [h3] at h
          dsimp only at h
          cases h4 : Nat.beq f 11 with
          | true =>
            rw [h4] at h
            have := nbeq_t h4; subst this
            cases args with
            | cons _ _ => exact absurd h fail_ne
            | nil => exact ⟨_, fine_k, gc_f.trans h⟩
          | false => rw [h4] at h; exact absurd h fail_ne
theorem itemP_c {ρ : List Int} {c : List PV} {q : Int × Int} (h : itemP c = some q) : itemP (cPs ρ c) = some q := by
  obtain ⟨k, m⟩ := q
  obtain ⟨a1, a2, a3, a4, a5, a7, rfl⟩ := itemP_ok h
  simp only [cPs, cP_lit]
  exact h
theorem labT_c {ρ : List Int} : ∀ {l : List (List PV)} {i : Nat} {t : List (Int × Nat)} (_ : labT l i = some t), labT (cPss ρ l) i = some t
  | [], i, t, h => by simpa [cPss] using h
  | c :: l, i, t, h => by
    replace h : (Option.rec (motive := fun _ => Option (List (Int × Nat))) none
      (fun km => Option.rec (motive := fun _ => Option (List (Int × Nat))) none (fun t => Bool.rec (motive := fun _ => Option (List (Int × Nat))) (some t) (some ((km.2, i) :: t)) (ieqF km.1 1)) (labT l (Nat.succ i))) (itemP c)) = some t := h
    cases hc : itemP c with
    | none => rw [hc] at h; cases h
    | some km =>
      rw [hc] at h
      cases ht : labT l (Nat.succ i) with
      | none => rw [ht] at h; cases h
      | some t1 =>
        rw [ht] at h
        have e1 := itemP_c (ρ := ρ) hc
        have e2 := labT_c (ρ := ρ) ht
        simp only [cPss]
        show (Option.rec (motive := fun _ => Option (List (Int × Nat))) none
          (fun km => Option.rec (motive := fun _ => Option (List (Int × Nat))) none (fun t => Bool.rec (motive := fun _ => Option (List (Int × Nat))) (some t) (some ((km.2, i) :: t)) (ieqF km.1 1)) (labT (cPss ρ l) (Nat.succ i))) (itemP (cPs ρ c))) = some t
        rw [e1, e2]
        exact h
theorem cnat_ext1 (ρ : List Int) : CNat ρ ext1 ext1 := fun f args frames r frames' h => by
  cases frames with
  | cons _ _ => exact absurd h fail_ne
  | nil =>
    have h0 := h
    replace h : (Bool.rec (motive := fun _ => R0) (Bool.rec (motive := fun _ => R0) (Bool.rec (motive := fun _ => R0) (Bool.rec (motive := fun _ => R0) fail0 (List.rec (motive := fun _ => R0) (gcV, [], true) (fun _ _ _ => fail0) args) (Nat.beq f 11))
      (List.rec (motive := fun _ => R0) (rtV, [], true) (fun _ _ _ => fail0) args) (Nat.beq f 10))
      (List.rec (motive := fun _ => R0) (rowsV, [], true) (fun _ _ _ => fail0) args) (Nat.beq f 59))
      (match (generalizing := false) args with
        | [.c (.p (.sl sz l)), y] => Bool.rec (motive := fun _ => R0) fail0 (VK.rec (motive := fun _ => R0) (fun k n => Bool.rec (motive := fun _ => R0) fail0 (rowF l n) (isI64 k)) fail0 (vk (litV y))) (Nat.beq sz 8)
        | _ => fail0) (Nat.beq f 55)) = (r, frames', true) := h
    have fin : ∀ {v : AV}, clA v = true → args = [] → ext1 f [] [] = (v, [], true) → ext1 f (cAs ρ args) (cFs ρ []) = (cA ρ r, cFs ρ frames', true) := fun {v} hv ha he => by
      subst ha
      rw [he] at h0
      simp only [Prod.mk.injEq] at h0
      obtain ⟨rfl, rfl, -⟩ := h0
      simp only [cAs, cFs, clA_c hv]; exact he
    cases h1 : Nat.beq f 55 with
    | true =>
      rw [h1] at h
      have := nbeq_t h1; subst this
      dsimp only at h
      split at h
      · rename_i sz l y
        cases h2 : Nat.beq sz 8 with
        | false => rw [h2] at h; exact absurd h fail_ne
        | true =>
          rw [h2] at h
          have := nbeq_t h2; subst this
          cases hy : vk (litV y) with
          | o => rw [hy] at h; exact absurd h fail_ne
          | i k n =>
            rw [hy] at h
            dsimp only at h
            cases hk : isI64 k with
            | false => rw [hk] at h; exact absurd h fail_ne
            | true =>
              rw [hk] at h
              have := isI64_ok hk; subst this
              have hyy := litV_i hy; subst hyy
              replace h : rowF l n = (r, frames', true) := h
              unfold rowF at h
              cases ht : labT l 0 with
              | none => rw [ht] at h; exact absurd h fail_ne
              | some t =>
                rw [ht] at h
                simp only [Prod.mk.injEq] at h
                obtain ⟨rfl, rfl, hlen⟩ := h
                simp only [cAs, cA_c, cC_p, cP_lit, cP_sl (show 8 ≠ SYMI by decide) (show 8 ≠ SPAR by decide), cFs]
                show rowF (cPss ρ l) n = _
                unfold rowF
                rw [labT_c ht, lenF_eq, cPss_length, ← lenF_eq, hlen]
      · exact absurd h fail_ne
    | false =>
      rw [h1] at h
      dsimp only at h
      cases h2 : Nat.beq f 59 with
      | true =>
        rw [h2] at h
        have := nbeq_t h2; subst this
        cases args with
        | cons _ _ => exact absurd h fail_ne
        | nil => exact fin (v := rowsV) (by kernel_rfl) rfl rfl
      | false =>
        rw [h2] at h
        dsimp only at h
        cases h3 : Nat.beq f 10 with
        | true =>
          rw [h3] at h
          have := nbeq_t h3; subst this
          cases args with
          | cons _ _ => exact absurd h fail_ne
          | nil => exact fin (v := rtV) (by kernel_rfl) rfl rfl
        | false =>
          rw [h3] at h
          dsimp only at h
          cases h4 : Nat.beq f 11 with
          | true =>
            rw [h4] at h
            have := nbeq_t h4; subst this
            cases args with
            | cons _ _ => exact absurd h fail_ne
            | nil => exact fin (v := gcV) (by kernel_rfl) rfl rfl
          | false => rw [h4] at h; exact absurd h fail_ne
theorem nat1 (ρ : List Int) {B : Sy} (hB : Holds B ρ) (k : Nat) : CNat ρ (evSF B stb1 ext1 k) (evF tbl1 ext1 k) := evSF_nat hB (laid_of stb1_good) (cnat_ext1 ρ) k
theorem fine1 (k : Nat) : Fine Try.prog (evF tbl1 ext1 k) := fine_evF tbl1_good fine_ext1 k
end Go.ScX
