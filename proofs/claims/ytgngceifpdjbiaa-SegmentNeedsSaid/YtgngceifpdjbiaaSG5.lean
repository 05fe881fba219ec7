/- G5: the callees for SegmentStarts and SegmentNeeds; they are fine. -/
import Derived.Test.YtgngceifpdjbiaaSG2
import Derived.Test.YtgngceifpdjbiaaSG3
import Derived.Test.YtgngceifpdjbiaaSG4
set_option maxRecDepth 100000
set_option linter.unusedVariables false
set_option linter.unusedSimpArgs false
namespace Go.ScX
open Go.ScE Go.Proofs
noncomputable def stb2 (f : FuncId) : Option (XFunc × KS) := bif Nat.beq f 44 then none else bif Nat.beq f 7 then none else stb1 f
noncomputable def tbl2 (f : FuncId) : Option XFunc := (stb2 f).map (·.1)
noncomputable def extS : Go.ScE.Callee := memoE 44 8 itemsS asmS (memo0 7 (pbool true) ext1)
noncomputable def extN : Go.ScE.Callee := memoE 44 8 itemsN asmN (memo0 7 (pbool true) ext1)
noncomputable def extD : Go.ScE.Callee := fun f args frames => bif Nat.beq f 44 then evF tbl1 ext1 3000 f args frames else bif Nat.beq f 7 then evF tbl1 ext1 3000 f args frames else ext1 f args frames
theorem stb2_good : ∀ f x, stb2 f = some x → GoodS f x := fun f x h => by
  unfold stb2 at h
  cases h1 : Nat.beq f 44 with
  | true => rw [h1] at h; cases h
  | false =>
    cases h2 : Nat.beq f 7 with
    | true => rw [h1, h2] at h; cases h
    | false => rw [h1, h2] at h; exact stb1_good f x h
theorem tbl2_good : ∀ f xf, tbl2 f = some xf → agF Try.prog f xf = true := fun f xf h => by
  unfold tbl2 at h
  cases hk : stb2 f with
  | none => rw [hk] at h; cases h
  | some x => rw [hk] at h; cases h; exact (stb2_good f x hk).1
theorem fine_extD : Fine Try.prog extD := fine_of fun f args frames r frames' h => by
  unfold extD at h
  cases h1 : Nat.beq f 44 with
  | true => rw [h1] at h; exact ⟨_, fine1 3000, h⟩
  | false =>
    cases h2 : Nat.beq f 7 with
    | true => rw [h1, h2] at h; exact ⟨_, fine1 3000, h⟩
    | false => rw [h1, h2] at h; exact ⟨_, fine_ext1, h⟩
theorem extD_44 (args : List AV) (frames : List Fram) : extD 44 args frames = evF tbl1 ext1 3000 44 args frames := by
  unfold extD
  rw [show Nat.beq 44 44 = true from rfl, cond_true]
theorem extD_7 (args : List AV) (frames : List Fram) : extD 7 args frames = evF tbl1 ext1 3000 7 args frames := by
  unfold extD
  rw [show Nat.beq 7 44 = false from rfl, cond_false, show Nat.beq 7 7 = true from rfl, cond_true]
theorem ext1_44 (args : List AV) (frames : List Fram) : ext1 44 args frames = fail0 := by cases frames <;> rfl
theorem ext1_7 (args : List AV) (frames : List Fram) : ext1 7 args frames = fail0 := by cases frames <;> rfl
theorem cnat_D (ρ : List Int) : CNat ρ ext1 extD := fun f args frames r frames' h => by
  unfold extD
  cases h1 : Nat.beq f 44 with
  | true => have := nbeq_t h1; subst this; rw [ext1_44] at h; exact absurd h fail_ne
  | false =>
    cases h2 : Nat.beq f 7 with
    | true => have := nbeq_t h2; subst this; rw [ext1_7] at h; exact absurd h fail_ne
    | false => exact cnat_ext1 ρ f args frames r frames' h
theorem cl_true : clA (pbool true) = true := rfl
theorem fixed_f : evF tbl1 ext1 3000 7 [] [] = (pbool true, [], true) := nat_closed (nat1 [] holdsN 3000) fixedOk cl_true
theorem cnat_fix (ρ : List Int) : CNat ρ (memo0 7 (pbool true) ext1) extD := memo0_nat (cnat_D ρ) (by
  rw [clA_c cl_true, extD_7]; exact fixed_f)
theorem clS : clPss itemsS = true := by kernel_rfl
theorem clAS : clA asmS = true := by kernel_rfl
theorem asmS_f : evF tbl1 ext1 3000 44 [.c (.own 8 itemsS)] [] = (asmS, [], true) := by
  have := nat1 [] holdsN 3000 44 _ _ _ _ asmS_eq
  simp only [cAs, cA_c, cC_own (show 8 ≠ SYMI by decide) (show 8 ≠ SPAR by decide), clPss_c clS, clA_c clAS, cFs] at this
  exact this
theorem cnat_S (ρ : List Int) : CNat ρ extS extD := memoE_nat rfl (cnat_fix ρ) (by
  rw [clPss_c clS, clA_c clAS, extD_44]; exact asmS_f)
theorem cnat_N {ρ : List Int} (hB : Holds BN ρ) : CNat ρ extN extD := memoE_nat rfl (cnat_fix ρ) (by
  have := nat1 ρ hB 3000 44 _ _ _ _ asmN_eq
  rw [extD_44]
  simp only [cAs, cA_c, cC_own (show 8 ≠ SYMI by decide) (show 8 ≠ SPAR by decide), cFs] at this
  exact this)
noncomputable def D23 : Go.ScE.Callee := evF tbl2 extD 3000
theorem fine_D23 : Fine Try.prog D23 := fine_evF tbl2_good fine_extD 3000
theorem nat_S {ρ : List Int} {B : Sy} (hB : Holds B ρ) : CNat ρ (evSF B stb2 extS 3000) D23 := evSF_nat hB (laid_of stb2_good) (cnat_S ρ) 3000
theorem nat_N {ρ : List Int} {B : Sy} (hB : Holds B ρ) (hN : Holds BN ρ) : CNat ρ (evSF B stb2 extN 3000) D23 := evSF_nat hB (laid_of stb2_good) (cnat_N hN) 3000
/-- Two numbers with names. -/
def s0 : AV := .c (.p (mkF .i64 0 [1, 0]))
def s1 : AV := .c (.p (mkF .i64 0 [0, 1]))
theorem two_c (a b : Int) : cAs [a, b] [s0, s1] = [pint .i64 a, pint .i64 b] := by
  simp [cAs, s0, s1, cA_c, cC_p, mkF_c, dotI, pint]
theorem holds2 {a b l0 h0 l1 h1 : Int} {ex : List (Int × List Int)} (ha : l0 ≤ a ∧ a ≤ h0) (hb : l1 ≤ b ∧ b ≤ h1) (he : ∀ g ∈ ex, 0 ≤ g.1 + dotI g.2 [a, b]) : Holds ⟨[l0, l1], [h0, h1], ex⟩ [a, b] := ⟨⟨ha.1, ha.2, hb.1, hb.2, trivial⟩, he⟩
end Go.ScX
