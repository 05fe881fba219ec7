/- E20: a row of operations in any order that its edges and its shape allow. -/
import Derived.Test.YtomklnbaaelchaaDoorSE19
set_option linter.unusedVariables false
set_option linter.unusedSimpArgs false
namespace Go.ScE
section
variable {C : Callee}

theorem Spell.look {x : XOper} {σ τ : St} (h : Spell C x σ τ) (hok : τ.ok = true) {t : Nat} (h1 : t ∉ dstsX x) (h2 : t ∉ tksL x.xs) : look t τ.env = look t σ.env := by
  have hd : ¬ x.dst = some t := fun e => h1 (by simp [dstsX, e])
  rcases h.spell with ⟨_, b, _⟩ | ⟨r, ok, _, _, _, d⟩ | ⟨_, b⟩
  · rw [b, if_neg hd]
  · rw [d, if_neg hd, if_neg h2]
  · rw [b] at hok; cases hok
theorem tmps_of {x y : XOper} (h : tmpsOK x y = true) : disj (dstsX x) (rdsX y) = true ∧ disj (dstsX x) (dstsX y) = true ∧ disj (dstsX y) (rdsX x) = true ∧ disj (tksL x.xs) (rdsX y) = true ∧ disj (tksL y.xs) (rdsX x) = true := by
  simp only [tmpsOK, Bool.and_eq_true] at h
  exact ⟨h.1.1.1.1, h.1.1.1.2, h.1.1.2, h.1.2, h.2⟩
theorem disj_not' {a b : List Nat} (h : disj a b = true) {t : Nat} (hb : t ∈ b) : t ∉ a := fun ha => disj_not h ha hb
theorem reads_rds {x : XOper} {t : Nat} (h : t ∈ readsL x.xs) : t ∈ rdsX x := by simp [rdsX, h]
theorem guard_rds {x : XOper} {t : Nat} {b : Bool} (h : x.g = some (t, b)) : t ∈ rdsX x := by simp [rdsX, h]
theorem dst_mem {x : XOper} {t : Nat} (h : x.dst = some t) : t ∈ dstsX x := by simp [dstsX, h]

theorem dyn_true {o : XOperD} {σ : St} (h : dynD o σ = true) (hw : wantedX σ.env o.x.g = some true) : (!isCall o.x.op || o.iso || freeAs (rdOs σ.env o.x.xs).1) = true ∧ avoidAs o.forb (rdOs σ.env o.x.xs).1 = true := by
  unfold dynD at h
  rw [hw] at h
  simpa only [Bool.and_eq_true] using h

theorem swapX {x y : XOperD} (hc : compat x y = true) {σ : St} (hok : (stepD C y (stepD C x σ)).ok = true) : EqS (stepD C y (stepD C x σ)) (stepD C x (stepD C y σ)) := by
  simp only [compat, Bool.and_eq_true] at hc
  obtain ⟨ht, hc⟩ := hc
  obtain ⟨t1, t2, t3, t4, t5⟩ := tmps_of ht
  obtain ⟨hy1, hy2⟩ := stepD_ok hok
  have hxok : (stepD C x σ).ok = true := stepsD_ok (l := [y]) hok
  obtain ⟨hx1, hx2⟩ := stepD_ok hxok
  rw [stepD_eq hok]
  rw [stepD_eq hxok] at hy1 hy2 ⊢
  have sx := spell (C := C) x.x σ
  have sy := spell (C := C) y.x (stepX C x.x σ)
  generalize hσ1 : stepX C x.x σ = σ1 at *
  generalize hσ2 : stepX C y.x σ1 = σ2 at *
  have hlk : ∀ t, t ∈ rdsX y.x → look t σ1.env = look t σ.env := fun t h => sx.look hx1 (disj_not' t1 h) (disj_not' t4 h)
  have hwy : wantedX σ1.env y.x.g = wantedX σ.env y.x.g := wanted_look fun t b h => hlk t (guard_rds h)
  have hvy : (rdOs σ1.env y.x.xs).1 = (rdOs σ.env y.x.xs).1 := rdOs_vals _ _ _ fun t h => hlk t (reads_rds h)
  have hdy : dynD y σ = true := by rw [← hy2]; unfold dynD; rw [hwy, hvy]
  have sy' := spell (C := C) y.x σ
  -- the second alone is sound, and the first after it
  suffices hs : ∃ r : EqS σ2 (stepX C x.x (stepX C y.x σ)), (stepX C y.x σ).ok = true ∧ dynD x (stepX C y.x σ) = true by
    obtain ⟨r, h1, h2⟩ := hs
    have e1 : stepD C y σ = stepX C y.x σ := stepD_eq (by simp [stepD, h1, hdy])
    rw [e1]
    have e2 : stepD C x (stepX C y.x σ) = stepX C x.x (stepX C y.x σ) := stepD_eq (by simp only [stepD, h2, Bool.and_true]; rw [← r.ok]; exact hy1)
    rw [e2]; exact r
  generalize hσ1' : stepX C y.x σ = τ1 at *
  have sx' := spell (C := C) x.x τ1
  generalize hσ2' : stepX C x.x τ1 = τ2 at *
  have hσok : σ.ok = true := by
    rcases sx.spell with ⟨_, _, _, _, e⟩ | ⟨_, _, _, _, c, _⟩ | ⟨_, b⟩
    · rw [← e]; exact hx1
    · rw [c, Bool.and_eq_true] at hx1; exact hx1.1
    · rw [b] at hx1; cases hx1
  -- what the first one reads after the second
  have rest : τ1.ok = true → (∀ t, t ∈ rdsX x.x → look t τ1.env = look t σ.env) ∧ wantedX τ1.env x.x.g = wantedX σ.env x.x.g ∧ (rdOs τ1.env x.x.xs).1 = (rdOs σ.env x.x.xs).1 ∧ dynD x τ1 = true := fun h => by
    have hl : ∀ t, t ∈ rdsX x.x → look t τ1.env = look t σ.env := fun t ht => sy'.look h (disj_not' t3 ht) (disj_not' t5 ht)
    have hw : wantedX τ1.env x.x.g = wantedX σ.env x.x.g := wanted_look fun t b h => hl t (guard_rds h)
    have hv : (rdOs τ1.env x.x.xs).1 = (rdOs σ.env x.x.xs).1 := rdOs_vals _ _ _ fun t h => hl t (reads_rds h)
    exact ⟨hl, hw, hv, by rw [← hx2]; unfold dynD; rw [hw, hv]⟩
  have nd : ∀ t, x.x.dst = some t → y.x.dst ≠ some t := fun t h h' => disj_not t2 (dst_mem h) (dst_mem h')
  have ntx : ∀ t, x.x.dst = some t → t ∉ tksL y.x.xs := fun t h h' => disj_not t1 (dst_mem h) (reads_rds (tks_reads _ _ h'))
  have nty : ∀ t, y.x.dst = some t → t ∉ tksL x.x.xs := fun t h h' => disj_not t3 (dst_mem h) (reads_rds (tks_reads _ _ h'))
  have ntt : ∀ t, t ∈ tksL x.x.xs → t ∉ tksL y.x.xs := fun t h h' => disj_not t4 h (reads_rds (tks_reads _ _ h'))
  rcases sy.spell with ⟨yw, yl, yf, yu, yo⟩ | ⟨ry, oky, yw, ya, yo, yl⟩ | ⟨_, b⟩
  · -- the second is passed over
    rcases sy'.spell with ⟨yw', yl', yf', yu', yo'⟩ | ⟨_, _, yw', _⟩ | ⟨yw', _⟩
    · have hτ : τ1.ok = true := by rw [yo', hσok]
      obtain ⟨hl, hw, hv, hd⟩ := rest hτ
      rcases sx.spell with ⟨xw, xl, xf, xu, xo⟩ | ⟨rx, okx, xw, xa, xo, xl⟩ | ⟨_, b⟩
      · rcases sx'.spell with ⟨xw', xl', xf', xu', xo'⟩ | ⟨_, _, xw', _⟩ | ⟨xw', _⟩
        · refine ⟨⟨fun t => ?_, by rw [yf, xf, xf', yf'], by rw [yu, xu, xu', yu'], by rw [yo, xo, xo', yo']⟩, hτ, hd⟩
          rw [yl, xl, xl', yl']
          by_cases a : x.x.dst = some t <;> by_cases b : y.x.dst = some t <;> simp [a, b]
        · rw [hw, xw] at xw'; cases xw'
        · rw [hw, xw] at xw'; cases xw'
      · rcases sx'.spell with ⟨xw', _⟩ | ⟨rx', okx', xw', xa', xo', xl'⟩ | ⟨xw', _⟩
        · rw [hw, xw] at xw'; cases xw'
        · rw [hv, yf', yu', xa] at xa'
          simp only [Prod.mk.injEq] at xa'
          obtain ⟨rfl, f1, f2, rfl⟩ := xa'
          refine ⟨⟨fun t => ?_, by rw [yf, f1], by rw [yu, f2], by rw [yo, xo, xo', yo']⟩, hτ, hd⟩
          rw [yl, xl, xl', yl']
          by_cases b : y.x.dst = some t
          · have a : ¬ x.x.dst = some t := fun a => nd t a b
            have c : t ∉ tksL x.x.xs := nty t b
            simp [a, b, c]
          · simp [b]
        · rw [hw, xw] at xw'; cases xw'
      · rw [b] at hx1; cases hx1
    · rw [← hwy, yw] at yw'; cases yw'
    · rw [← hwy, yw] at yw'; cases yw'
  · -- the second is done
    have hoky : oky = true := by rw [yo, Bool.and_eq_true] at hy1; exact hy1.2
    subst hoky
    rcases sx.spell with ⟨xw, xl, xf, xu, xo⟩ | ⟨rx, okx, xw, xa, xo, xl⟩ | ⟨_, b⟩
    · rw [hvy, xf, xu] at ya
      rcases sy'.spell with ⟨yw', _⟩ | ⟨ry', oky', yw', ya', yo', yl'⟩ | ⟨yw', _⟩
      · rw [← hwy, yw] at yw'; cases yw'
      · rw [ya] at ya'
        simp only [Prod.mk.injEq] at ya'
        obtain ⟨rfl, f1, f2, rfl⟩ := ya'
        have hτ : τ1.ok = true := by rw [yo', hσok]; rfl
        obtain ⟨hl, hw, hv, hd⟩ := rest hτ
        rcases sx'.spell with ⟨xw', xl', xf', xu', xo'⟩ | ⟨_, _, xw', _⟩ | ⟨xw', _⟩
        · refine ⟨⟨fun t => ?_, by rw [xf', f1], by rw [xu', f2], by rw [yo, xo, xo', yo']⟩, hτ, hd⟩
          rw [yl, xl, xl', yl']
          by_cases a : x.x.dst = some t
          · have b : ¬ y.x.dst = some t := nd t a
            have c : t ∉ tksL y.x.xs := ntx t a
            simp [a, b, c]
          · simp [a]
        · rw [hw, xw] at xw'; cases xw'
        · rw [hw, xw] at xw'; cases xw'
      · rw [← hwy, yw] at yw'; cases yw'
    · have hokx : okx = true := by rw [xo, Bool.and_eq_true] at hx1; exact hx1.2
      subst hokx
      obtain ⟨dx, _⟩ := dyn_true hx2 xw
      obtain ⟨dy, ay⟩ := dyn_true hy2 yw
      obtain ⟨fr', up', hA, hB⟩ := actSwap hc xa ya dx dy ay
      rw [hvy] at hA
      rcases sy'.spell with ⟨yw', _⟩ | ⟨ry', oky', yw', ya', yo', yl'⟩ | ⟨yw', _⟩
      · rw [← hwy, yw] at yw'; cases yw'
      · rw [hA] at ya'
        simp only [Prod.mk.injEq] at ya'
        obtain ⟨rfl, rfl, rfl, rfl⟩ := ya'
        have hτ : τ1.ok = true := by rw [yo', hσok]; rfl
        obtain ⟨hl, hw, hv, hd⟩ := rest hτ
        rcases sx'.spell with ⟨xw', _⟩ | ⟨rx', okx', xw', xa', xo', xl'⟩ | ⟨xw', _⟩
        · rw [hw, xw] at xw'; cases xw'
        · rw [hv, hB] at xa'
          simp only [Prod.mk.injEq] at xa'
          obtain ⟨rfl, f1, f2, rfl⟩ := xa'
          refine ⟨⟨fun t => ?_, f1, f2, by rw [yo, xo, xo', yo']⟩, hτ, hd⟩
          rw [yl, xl, xl', yl']
          by_cases a : x.x.dst = some t
          · have b : ¬ y.x.dst = some t := nd t a
            have c : t ∉ tksL y.x.xs := ntx t a
            simp [a, b, c]
          · by_cases b : y.x.dst = some t
            · have c : t ∉ tksL x.x.xs := nty t b
              simp [a, b, c]
            · by_cases c : t ∈ tksL x.x.xs <;> by_cases d : t ∈ tksL y.x.xs <;> simp [a, b, c, d]
        · rw [hw, xw] at xw'; cases xw'
      · rw [← hwy, yw] at yw'; cases yw'
    · rw [b] at hx1; cases hx1
  · rw [b] at hy1; cases hy1

/-- One that may come first, first. -/
theorem bubble {y : XOperD} : ∀ {pre post : List XOperD} {σ : St}, (∀ x, x ∈ pre → compat x y = true) → (stepsD C (pre ++ y :: post) σ).ok = true → EqS (stepsD C (pre ++ y :: post) σ) (stepsD C (y :: (pre ++ post)) σ)
  | [], _, _, _, _ => .refl _
  | x :: pre, post, σ, h, hok => by
    have h1 : EqS (stepsD C (pre ++ y :: post) (stepD C x σ)) (stepsD C (y :: (pre ++ post)) (stepD C x σ)) := bubble (fun z hz => h z (by simp [hz])) hok
    have hok1 : (stepsD C (pre ++ post) (stepD C y (stepD C x σ))).ok = true := h1.ok.symm.trans hok
    have h2 : EqS (stepD C y (stepD C x σ)) (stepD C x (stepD C y σ)) := swapX (h x (by simp)) (stepsD_ok hok1)
    exact h1.trans (stepsD_eqS h2 hok1)
end
end Go.ScE
