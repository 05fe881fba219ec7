/- E4: sites: looked up, changed, laid anew; the operations on memory. -/
import Derived.Test.YtomklnbaaelchaaDoorSE3
set_option linter.unusedVariables false
namespace Go.ScE

section
variable {γ γ' : Gh} {β β' : Bet} {w w' : World}

theorem RepCs.length {vs : List Value} {xs : List CV} {c : Bud} (h : RepCs γ β vs xs c) : vs.length = xs.length := by
  induction h with
  | nil => rfl
  | cons _ _ _ ih => simp [ih]
theorem RepCs.split {vs : List Value} {xs : List CV} {c : Bud} (h : RepCs γ β vs xs c) : ∀ n, ∃ c1 c2, (∀ g, c1 g + c2 g ≤ c g) ∧ RepCs γ β (vs.take n) (xs.take n) c1 ∧ RepCs γ β (vs.drop n) (xs.drop n) c2 := by
  induction h with
  | nil => intro n; exact ⟨none0, none0, fun g => by simp, by simpa using .nil, by simpa using .nil⟩
  | cons h r hc ih =>
    intro n
    cases n with
    | zero => exact ⟨none0, _, fun g => by simp, .nil, .cons h r hc⟩
    | succ n =>
      obtain ⟨d1, d2, h1, h2, h3⟩ := ih n
      rename_i c1 c2 c
      exact ⟨fun g => c1 g + d1 g, d2, fun g => by have := hc g; have := h1 g; show c1 g + d1 g + d2 g ≤ c g; omega, .cons h h2 (fun g => Nat.le_refl _), h3⟩
theorem RepCs.append {vs us : List Value} {xs ys : List CV} {c1 c2 c : Bud} (h : RepCs γ β vs xs c1) (k : RepCs γ β us ys c2) (hc : ∀ g, c1 g + c2 g ≤ c g) : RepCs γ β (vs ++ us) (xs ++ ys) c := by
  induction h generalizing c with
  | nil => exact k.weak (le_of_split2 hc)
  | cons h r h1 ih =>
    rename_i d1 d2 d
    exact .cons h (ih (c := fun g => d2 g + c2 g) (fun g => Nat.le_refl _)) (fun g => by have := hc g; have := h1 g; show d1 g + (d2 g + c2 g) ≤ c g; omega)
theorem RepCs.untake {vs : List Value} {xs : List CV} {c : Bud} (h : RepCs γ β vs xs c) (c' : Bud) : RepCs γ β vs (untakeL xs) c' := by
  induction h with
  | nil => exact .nil
  | cons h r hc ih => exact .cons (c1 := none0) (by have := h.dem none0; revert this; generalize h = hh; cases hh <;> exact fun x => x) ih (fun g => by simp)
theorem untakeL_length (xs : List CV) : (untakeL xs).length = xs.length := by induction xs <;> simp_all [untakeL]

/-- A part of some cells. -/
theorem RepCs.cut {vs : List Value} {xs : List CV} {c : Bud} (h : RepCs γ β vs xs c) (off n : Nat) : RepCs γ β (ScE.cut off n vs) (ScE.cut off n xs) c := by
  obtain ⟨c1, c2, h1, h2, h3⟩ := h.split off
  obtain ⟨d1, d2, k1, k2, k3⟩ := h3.split n
  exact k2.weak fun g => by have := h1 g; have := k1 g; omega
/-- A part laid anew. -/
theorem RepCs.put {vs us : List Value} {xs ys : List CV} {c d e : Bud} (h : RepCs γ β vs xs c) (k : RepCs γ β us ys d) (off : Nat) (hc : ∀ g, c g + d g ≤ e g) : RepCs γ β (put vs off us) (put xs off ys) e := by
  obtain ⟨c1, c2, h1, h2, h3⟩ := h.split off
  obtain ⟨d1, d2, k1, k2, k3⟩ := h.split (off + us.length)
  obtain ⟨e1, e2, l1, l2, l3⟩ := h3.split us.length
  unfold ScE.put
  rw [← k.length]
  rw [List.drop_drop, List.drop_drop] at l3
  exact (h2.append k (c := fun g => c1 g + d g) (fun g => Nat.le_refl _)).append l3 (fun g => by have := hc g; have := h1 g; have := l1 g; show c1 g + d g + e2 g ≤ e g; omega)
/-- A part taken out: what stays may be read. -/
theorem RepCs.takeCut {vs : List Value} {xs : List CV} {c : Bud} (h : RepCs γ β vs xs c) (off n : Nat) (hn : off + n ≤ xs.length) :
    ∃ c1 c2, (∀ g, c1 g + c2 g ≤ c g) ∧ RepCs γ β (ScE.cut off n vs) (ScE.cut off n xs) c1 ∧ RepCs γ β vs (ScE.put xs off (untakeL (ScE.cut off n xs))) c2 := by
  obtain ⟨c1, c2, h1, h2, h3⟩ := h.split off
  obtain ⟨d1, d2, k1, k2, k3⟩ := h3.split n
  refine ⟨d1, fun g => c1 g + d2 g, fun g => by have := h1 g; have := k1 g; show d1 g + (c1 g + d2 g) ≤ c g; omega, k2, ?_⟩
  have e1 : vs = vs.take off ++ (vs.drop off).take n ++ (vs.drop off).drop n := by rw [List.append_assoc, List.take_append_drop, List.take_append_drop]
  rw [e1]
  unfold ScE.put
  have e2 : xs.drop (off + (untakeL (ScE.cut off n xs)).length) = (xs.drop off).drop n := by
    rw [untakeL_length, cut_length _ _ _ hn, List.drop_drop]
  rw [e2]
  exact (h2.append (k2.untake none0) (c := c1) (fun g => by simp)).append k3 (fun g => Nat.le_refl _)

/-! up and down -/
theorem RepC.up {v : Value} {x : CV} {c : Bud} {n : Nat} (h : RepC γ (β.sub n) v x c) : RepC γ β v (upC n x) c := by
  cases h with
  | p h => exact .p h
  | ownNil => exact .ownNil
  | own a b c d => exact .own a b c d
  | ipt val hs hr => exact .ipt val hs hr
  | ref h => exact .ref h
  | aref h => exact .aref h
  | arr h hc => exact .arr h hc
  | mp h => exact .mp h
  | dead h => exact .dead h
theorem RepC.down {v : Value} {x : CV} {c : Bud} {n : Nat} (h : RepC γ β v x c) (ho : outC n x = true) : RepC γ (β.sub n) v (downC n x) c := by
  cases h with
  | p h => exact .p h
  | ownNil => exact .ownNil
  | own a b c d => exact .own a b c d
  | ipt val hs hr => exact .ipt val hs hr
  | ref h => simp only [outC, decide_eq_true_eq] at ho; exact .ref (by unfold Bet.sub; rw [Nat.sub_add_cancel ho]; exact h)
  | aref h => simp only [outC, decide_eq_true_eq] at ho; exact .aref (by unfold Bet.sub; rw [Nat.sub_add_cancel ho]; exact h)
  | arr h hc => simp only [outC, decide_eq_true_eq] at ho; exact .arr (by unfold Bet.sub; rw [Nat.sub_add_cancel ho]; exact h) hc
  | mp h => simp only [outC, decide_eq_true_eq] at ho; exact .mp (by unfold Bet.sub; rw [Nat.sub_add_cancel ho]; exact h)
  | dead h => exact .dead h
theorem RepCs.up {n : Nat} {vs : List Value} {xs : List CV} {c : Bud} (h : RepCs γ (β.sub n) vs xs c) : RepCs γ β vs (upL n xs) c := by
  induction h with
  | nil => exact .nil
  | cons h r hc ih => exact .cons h.up ih hc
theorem RepCs.down {n : Nat} {vs : List Value} {xs : List CV} {c : Bud} (h : RepCs γ β vs xs c) (ho : outL n xs = true) : RepCs γ (β.sub n) vs (downL n xs) c := by
  induction h with
  | nil => exact .nil
  | cons h r hc ih =>
    simp only [outL, Bool.and_eq_true] at ho
    exact .cons (h.down ho.1) (ih ho.2) hc
theorem RepT.up {n : Nat} {vs : List Value} {xs : List (Bool × List CV)} {c : Bud} (h : RepT γ (β.sub n) vs xs c) : RepT γ β vs (upT n xs) c := by
  induction h with
  | nil => exact .nil
  | agg h t hc ih => exact .agg h.up ih hc
  | one h t hc ih => exact .one h.up ih hc
  | dead t ih => exact .dead ih
theorem RepT.down {n : Nat} {vs : List Value} {xs : List (Bool × List CV)} {c : Bud} (h : RepT γ β vs xs c) (ho : outT n xs = true) : RepT γ (β.sub n) vs (downT n xs) c := by
  induction h with
  | nil => exact .nil
  | agg h t hc ih => simp only [outT, Bool.and_eq_true] at ho; exact .agg (h.down ho.1) (ih ho.2) hc
  | one h t hc ih => simp only [outT, outL, Bool.and_eq_true] at ho; exact .one (h.down ho.1.1) (ih ho.2) hc
  | dead t ih => simp only [outT, outL, Bool.and_eq_true] at ho; exact .dead (ih ho.2)
theorem RepA.up {n : Nat} {v : Value} {x : AV} {c : Bud} (h : RepA γ (β.sub n) v x c) : RepA γ β v (upA n x) c := by
  cases h with
  | dead => exact .dead
  | c h => exact .c h.up
  | agg h => exact .agg h.up
  | tup h => exact .tup h.up
theorem RepA.down {n : Nat} {v : Value} {x : AV} {c : Bud} (h : RepA γ β v x c) (ho : outA n x = true) : RepA γ (β.sub n) v (downA n x) c := by
  cases h with
  | dead => exact .dead
  | c h => exact .c (h.down ho)
  | agg h => exact .agg (h.down ho)
  | tup h => exact .tup (h.down ho)
theorem RepAs.up {n : Nat} {vs : List Value} {xs : List AV} {c : Bud} (h : RepAs γ (β.sub n) vs xs c) : RepAs γ β vs (upAs n xs) c := by
  induction h with
  | nil => exact .nil
  | cons h r hc ih => exact .cons h.up ih hc
theorem RepC.free {v : Value} {x : CV} {c : Bud} (h : RepC γ β v x c) (ho : freeC x = true) : RepC γ β' v x c := by
  cases h with
  | p h => exact .p h
  | ownNil => exact .ownNil
  | own a b c d => exact .own a b c d
  | ipt val hs hr => exact .ipt val hs hr
  | dead h => exact .dead h
  | ref h => cases ho
  | aref h => cases ho
  | arr h hc => cases ho
  | mp h => cases ho
theorem RepCs.free {vs : List Value} {xs : List CV} {c : Bud} (h : RepCs γ β vs xs c) (ho : freeL xs = true) : RepCs γ β' vs xs c := by
  induction h with
  | nil => exact .nil
  | cons h r hc ih => simp only [freeL, Bool.and_eq_true] at ho; exact .cons (h.free ho.1) (ih ho.2) hc
theorem RepT.free {vs : List Value} {xs : List (Bool × List CV)} {c : Bud} (h : RepT γ β vs xs c) (ho : freeT xs = true) : RepT γ β' vs xs c := by
  induction h with
  | nil => exact .nil
  | agg h t hc ih => simp only [freeT, Bool.and_eq_true] at ho; exact .agg (h.free ho.1) (ih ho.2) hc
  | one h t hc ih => simp only [freeT, freeL, Bool.and_eq_true] at ho; exact .one (h.free ho.1.1) (ih ho.2) hc
  | dead t ih => simp only [freeT, freeL, Bool.and_eq_true] at ho; exact .dead (ih ho.2)
theorem RepA.free {v : Value} {x : AV} {c : Bud} (h : RepA γ β v x c) (ho : freeA x = true) : RepA γ β' v x c := by
  cases h with
  | dead => exact .dead
  | c h => exact .c (h.free ho)
  | agg h => exact .agg (h.free ho)
  | tup h => exact .tup (h.free ho)
theorem RepAs.free {vs : List Value} {xs : List AV} {c : Bud} (h : RepAs γ β vs xs c) (ho : freeAs xs = true) : RepAs γ β' vs xs c := by
  induction h with
  | nil => exact .nil
  | cons h r hc ih => simp only [freeAs, Bool.and_eq_true] at ho; exact .cons (h.free ho.1) (ih ho.2) hc

/-! ### a site -/
theorem RepFr.focus {f : Fram} {c : Bud} (h : RepFr γ w β f c) {k : Nat} {ho : HO} (hk : hget k f = some ho) :
    ∃ g c1 c2, β 0 k = some g ∧ RepH γ w β g ho c1 ∧ (∀ g, c1 g + c2 g ≤ c g) ∧
      ∀ {γ' : Gh} {w' : World} {β' : Bet} {ho' : HO} {c1' : Bud}, γ.le γ' → β.le β' → KeepW γ γ' w w' c2 → RepH γ' w' β' g ho' c1' → RepFr γ' w' β' (hset k ho' f) (fun g => c1' g + c2 g) := by
  induction h with
  | nil => simp [hget] at hk
  | cons hb hh t hc ih =>
    rename_i k' h r g c1 c2 c
    by_cases e : k' = k
    · subst e
      simp only [hget, if_true, Option.some.injEq] at hk
      subst hk
      exact ⟨g, c1, c2, hb, hh, hc, fun hγ hβ hK hH => by
        simp only [hset, if_true]
        exact .cons (hβ _ _ _ hb) hH (t.mono hγ hβ hK) (fun g => Nat.le_refl _)⟩
    · simp only [hget, if_neg e] at hk
      obtain ⟨g', d1, d2, a1, a2, a3, a4⟩ := ih hk
      refine ⟨g', d1, fun g => c1 g + d2 g, a1, a2, fun g => by have := hc g; have := a3 g; show d1 g + (c1 g + d2 g) ≤ c g; omega, fun hγ hβ hK hH => ?_⟩
      rename_i γ' w' β' ho' c1'
      simp only [hset, if_neg e]
      exact .cons (hβ _ _ _ hb) (hh.mono hγ hβ (hK.mono fun g => Nat.le_add_right _ _)) (a4 hγ hβ (hK.mono fun g => Nat.le_add_left _ _) hH) (fun g => by show c1 g + (c1' g + d2 g) ≤ c1' g + (c1 g + d2 g); omega)

theorem sub_zero : β.sub 0 = β := rfl
theorem sub_sub (n m : Nat) : (β.sub n).sub m = β.sub (m + n) := by
  funext d; unfold Bet.sub; rw [Nat.add_assoc]

theorem RepFs.focus : ∀ {fs : List Fram} {β : Bet} {c : Bud} (_ : RepFs γ w β fs c) {d k : Nat} {ho : HO} (_ : getH d k fs = some ho),
    ∃ g c1 c2, β d k = some g ∧ RepH γ w (β.sub d) g ho c1 ∧ (∀ g, c1 g + c2 g ≤ c g) ∧
      ∀ {γ' : Gh} {w' : World} {β' : Bet} {ho' : HO} {c1' : Bud}, γ.le γ' → β.le β' → KeepW γ γ' w w' c2 → RepH γ' w' (β'.sub d) g ho' c1' → RepFs γ' w' β' (setH d k ho' fs) (fun g => c1' g + c2 g)
  | [], β, c, _, d, k, ho, hk => by cases d <;> simp [getH, fget, hget] at hk
  | f :: r, β, c, h, 0, k, ho, hk => by
    cases h with
    | cons hf t hc =>
      rename_i c1 c2
      obtain ⟨g, d1, d2, a1, a2, a3, a4⟩ := hf.focus (k := k) (ho := ho) (by simpa [getH, fget] using hk)
      refine ⟨g, d1, fun g => d2 g + c2 g, a1, a2, fun g => by have := hc g; have := a3 g; show d1 g + (d2 g + c2 g) ≤ c g; omega, fun hγ hβ hK hH => ?_⟩
      rename_i γ' w' β' ho' c1'
      simp only [setH, fget, fset]
      exact .cons (a4 hγ hβ (hK.mono fun g => Nat.le_add_right _ _) hH) (t.mono hγ (hβ.sub 1) (hK.mono fun g => Nat.le_add_left _ _)) (fun g => by show c1' g + d2 g + c2 g ≤ c1' g + (d2 g + c2 g); omega)
  | f :: r, β, c, h, d + 1, k, ho, hk => by
    cases h with
    | cons hf t hc =>
      rename_i c1 c2
      obtain ⟨g, d1, d2, a1, a2, a3, a4⟩ := RepFs.focus t (d := d) (k := k) (ho := ho) (by simpa [getH, fget] using hk)
      rw [sub_sub] at a2
      refine ⟨g, d1, fun g => c1 g + d2 g, a1, a2, fun g => by have := hc g; have := a3 g; show d1 g + (c1 g + d2 g) ≤ c g; omega, fun hγ hβ hK hH => ?_⟩
      rename_i γ' w' β' ho' c1'
      simp only [setH, fget, fset]
      refine .cons (hf.mono hγ hβ (hK.mono fun g => Nat.le_add_right _ _)) (a4 (β' := β'.sub 1) hγ (hβ.sub 1) (hK.mono fun g => Nat.le_add_left _ _) (by rw [sub_sub]; exact hH)) (fun g => by show c1 g + (c1' g + d2 g) ≤ c1' g + (c1 g + d2 g); omega)

theorem hhas_set (k k' : Nat) (h : HO) : ∀ f : Fram, hhas k' f = true → hhas k' (hset k h f) = true
  | [], e => e
  | (j, x) :: r, e => by
    by_cases a : j = k
    · subst a
      by_cases b : j = k'
      · simp [hset, hhas, hget, b]
      · simp only [hset, if_true, hhas, hget, if_neg b] at e ⊢; exact e
    · by_cases b : j = k'
      · subst b; simp [hset, hhas, hget, a]
      · simp only [hset, if_neg a, hhas, hget, if_neg b] at e ⊢
        exact hhas_set k k' h r e

/-- The frame of a list whose site was changed. -/
theorem setH_cons (d k : Nat) (h : HO) (fr : Fram) (up : List Fram) : ∃ fr' up', setH d k h (fr :: up) = fr' :: up' ∧ ∀ k', hhas k' fr = true → hhas k' fr' = true := by
  cases d with
  | zero => exact ⟨hset k h fr, up, rfl, fun k' => hhas_set k k' h fr⟩
  | succ d => exact ⟨fr, fset d (hset k h (fget d up)) up, rfl, fun _ h => h⟩
end
end Go.ScE
