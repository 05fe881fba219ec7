/- F2: some functions by what they answer; the search for a label in a table that is kept. -/
import Derived.Test.YtgngceifpdjbiaaSM1S
set_option maxRecDepth 100000
set_option linter.unusedVariables false
namespace Go.ScX
open Go.ScE
noncomputable def pvV (p : PV) : Value := PV.casesOn (motive_1 := fun _ => Value) p (fun v => v) (fun _ _ => .nilFunc)
noncomputable def headP (l : List PV) : PV := List.rec (motive := fun _ => PV) (.sl 0 []) (fun x _ _ => x) l
noncomputable def intP (p : PV) : Option Int := VK.rec (motive := fun _ => Option Int) (fun k n => Bool.rec (motive := fun _ => Option Int) none (some n) (isI64 k)) none (vk (pvV p))
theorem intP_ok {p : PV} {n : Int} (h : intP p = some n) : p = .lit (.int .i64 n) := by
  unfold intP at h
  cases hv : vk (pvV p) with
  | o => rw [hv] at h; cases h
  | i k m =>
    rw [hv] at h
    have h1 := vk_i hv
    have h2 : (Bool.rec (motive := fun _ => Option Int) none (some m) (isI64 k)) = some n := h
    cases hk : isI64 k with
    | false => rw [hk] at h2; cases h2
    | true =>
      rw [hk] at h2
      have h2 : some m = some n := h2
      cases h2
      have := isI64_ok hk; subst this
      cases p with
      | lit v => have h1 : v = _ := h1; rw [h1]
      | sl _ _ => cases h1
/-- An item's kind and label. -/
noncomputable def itemP (c : List PV) : Option (Int × Int) := Bool.rec (motive := fun _ => Option (Int × Int)) none (Option.rec (motive := fun _ => Option (Int × Int)) none (fun k => Option.rec (motive := fun _ => Option (Int × Int)) none (fun m => some (k, m)) (intP (headP (dropF c 6)))) (intP (headP c))) (Nat.beq (lenF c) 8)
theorem itemP_ok {c : List PV} {k m : Int} (h : itemP c = some (k, m)) : ∃ a1 a2 a3 a4 a5 a7, c = [.lit (.int .i64 k), a1, a2, a3, a4, a5, .lit (.int .i64 m), a7] := by
  unfold itemP at h
  by_cases hl : lenF c = 8
  · rw [hl, Nat.beq_refl] at h
    rw [lenF_eq] at hl
    match c, hl, h with
    | [x0, a1, a2, a3, a4, a5, x6, a7], hl, h =>
      rw [dropF_eq] at h
      have h : (Option.rec (motive := fun _ => Option (Int × Int)) none (fun k => Option.rec (motive := fun _ => Option (Int × Int)) none (fun m => some (k, m)) (intP x6)) (intP x0)) = some (k, m) := h
      cases h0 : intP x0 with
      | none => rw [h0] at h; cases h
      | some k' =>
        rw [h0] at h
        have h : (Option.rec (motive := fun _ => Option (Int × Int)) none (fun m => some (k', m)) (intP x6)) = some (k, m) := h
        cases h6 : intP x6 with
        | none => rw [h6] at h; cases h
        | some m' =>
          rw [h6] at h
          have h : some (k', m') = some (k, m) := h
          cases h
          have := intP_ok h0; have := intP_ok h6; subst_vars
          exact ⟨_, _, _, _, _, _, rfl⟩
  · rw [nbeq_ne hl] at h; cases h
/-- The labels with their places; nothing where a row is no item. -/
noncomputable def labT (l : List (List PV)) : Nat → Option (List (Int × Nat)) := List.rec (motive := fun _ => Nat → Option (List (Int × Nat))) (fun _ => some []) (fun c _ ih i => Option.rec (motive := fun _ => Option (List (Int × Nat))) none
  (fun km => Option.rec (motive := fun _ => Option (List (Int × Nat))) none (fun t => Bool.rec (motive := fun _ => Option (List (Int × Nat))) (some t) (some ((km.2, i) :: t)) (ieqF km.1 1)) (ih (Nat.succ i))) (itemP c)) l
noncomputable def findT (n : Int) (t : List (Int × Nat)) : Int := List.rec (motive := fun _ => Int) (-1) (fun p _ ih => Bool.rec (motive := fun _ => Int) ih (Int.ofNat p.2) (ieqF p.1 n)) t
theorem findT_ok (n : Int) : ∀ (l : List (List PV)) (i : Nat) (t : List (Int × Nat)), labT l i = some t → l.all isItem = true ∧ findP n l i = findT n t
  | [], i, t, h => by
    have h : some [] = some t := h
    cases h; exact ⟨rfl, rfl⟩
  | c :: l, i, t, h => by
    have h : (Option.rec (motive := fun _ => Option (List (Int × Nat))) none
      (fun km => Option.rec (motive := fun _ => Option (List (Int × Nat))) none (fun t => Bool.rec (motive := fun _ => Option (List (Int × Nat))) (some t) (some ((km.2, i) :: t)) (ieqF km.1 1)) (labT l (Nat.succ i))) (itemP c)) = some t := h
    cases hc : itemP c with
    | none => rw [hc] at h; cases h
    | some km =>
      obtain ⟨k, m⟩ := km
      rw [hc] at h
      have h : (Option.rec (motive := fun _ => Option (List (Int × Nat))) none (fun t => Bool.rec (motive := fun _ => Option (List (Int × Nat))) (some t) (some ((m, i) :: t)) (ieqF k 1)) (labT l (Nat.succ i))) = some t := h
      cases ht : labT l (Nat.succ i) with
      | none => rw [ht] at h; cases h
      | some t1 =>
        rw [ht] at h
        have h5 : (Bool.rec (motive := fun _ => Option (List (Int × Nat))) (some t1) (some ((m, i) :: t1)) (ieqF k 1)) = some t := h
        clear h
        obtain ⟨h1, h2⟩ := findT_ok n l (Nat.succ i) t1 ht
        obtain ⟨a1, a2, a3, a4, a5, a7, rfl⟩ := itemP_ok hc
        refine ⟨by simp only [List.all_cons, h1, Bool.and_true]; rfl, ?_⟩
        simp only [findP]
        rw [ieqF_eq] at h5
        have h2 : findP n l ((i : Int) + 1) = findT n t1 := h2
        cases hk : (k == 1) with
        | false =>
          rw [hk] at h5
          have h5 : some t1 = some t := h5
          cases h5
          rw [if_neg (by simp)]; exact h2
        | true =>
          rw [hk] at h5
          have h5 : some ((m, i) :: t1) = some t := h5
          cases h5
          have e : findT n ((m, i) :: t1) = Bool.rec (motive := fun _ => Int) (findT n t1) (Int.ofNat i) (ieqF m n) := rfl
          rw [e, ieqF_eq]
          cases hm : (m == n) with
          | true => rw [if_pos (by simp)]; rfl
          | false => rw [if_neg (by simp)]; exact h2
noncomputable def rowF (l : List (List PV)) (n : Int) : AV × List Fram × Bool := Option.rec (motive := fun _ => R0) fail0 (fun t => (.c (.p (.lit (.int .i64 (findT n t)))), [], Nat.ble (lenF l) 2000)) (labT l 0)
noncomputable def ext1 : Go.ScE.Callee := fun f args frames => List.rec (motive := fun _ => R0)
   (Bool.rec (motive := fun _ => R0) (Bool.rec (motive := fun _ => R0) (Bool.rec (motive := fun _ => R0) (Bool.rec (motive := fun _ => R0) fail0 (List.rec (motive := fun _ => R0) (gcV, [], true) (fun _ _ _ => fail0) args) (Nat.beq f 11))
      (List.rec (motive := fun _ => R0) (rtV, [], true) (fun _ _ _ => fail0) args) (Nat.beq f 10))
      (List.rec (motive := fun _ => R0) (rowsV, [], true) (fun _ _ _ => fail0) args) (Nat.beq f 59))
      (match args with
        | [.c (.p (.sl sz l)), y] => Bool.rec (motive := fun _ => R0) fail0 (VK.rec (motive := fun _ => R0) (fun k n => Bool.rec (motive := fun _ => R0) fail0 (rowF l n) (isI64 k)) fail0 (vk (litV y))) (Nat.beq sz 8)
        | _ => fail0) (Nat.beq f 55)) (fun _ _ _ => fail0) frames
noncomputable def stb1 (f : FuncId) : Option (XFunc × KS) := bif Nat.beq f 55 then none else bif Nat.beq f 59 then none else bif Nat.beq f 10 then none else bif Nat.beq f 11 then none else stb f
noncomputable def tbl1 (f : FuncId) : Option XFunc := (stb1 f).map (·.1)
end Go.ScX
