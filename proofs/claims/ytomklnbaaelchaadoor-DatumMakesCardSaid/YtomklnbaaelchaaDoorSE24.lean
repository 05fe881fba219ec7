/- E24: the other operations with continuations; the evaluator with continuations is sound. -/
import Derived.Test.YtomklnbaaelchaaDoorSE23
set_option linter.unusedVariables false
set_option linter.unusedSimpArgs false
namespace Go.ScE

noncomputable def bvk (v : Value) : Option Bool := Value.casesOn (motive_1 := fun _ => Option Bool) v (fun b => some b) (fun _ _ => none) (fun _ _ => none) (fun _ _ _ => none) (fun _ => none) (fun _ => none) (fun _ _ _ => none) (fun _ => none) (fun _ => none) (fun _ _ _ => none) none (fun _ _ => none) none (fun _ => none) (fun _ => none)
theorem bvk_some {v : Value} {b : Bool} (h : bvk v = some b) : v = .bool b := by
  cases v <;> first | (cases h; rfl) | cases h
theorem litV_b {a : AV} {b : Bool} (h : bvk (litV a) = some b) : a = .c (.p (.lit (.bool b))) := by
  have h1 := bvk_some h
  have h2 := litV_ok (a := a) (by rw [h1]; simp)
  rw [h1] at h2; exact h2

noncomputable def hgetF (k : Nat) (f : Fram) : Option HO := List.rec (motive := fun _ => Option HO) none (fun p _ ih => Bool.rec (motive := fun _ => Option HO) ih (some p.2) (Nat.beq p.1 k)) f
theorem hgetF_eq (k : Nat) : ∀ f : Fram, hgetF k f = hget k f
  | [] => rfl
  | (k', h) :: r => by
    show (Bool.rec (motive := fun _ => Option HO) (hgetF k r) (some h) (Nat.beq k' k)) = if k' = k then some h else hget k r
    by_cases e : k' = k
    · subst e; rw [if_pos rfl, Nat.beq_refl]
    · rw [if_neg e, nbeq_ne e, hgetF_eq k r]
noncomputable def hsetF (k : Nat) (h : HO) (f : Fram) : Fram := List.rec (motive := fun _ => Fram) [] (fun p t ih => Bool.rec (motive := fun _ => Fram) (p :: ih) ((k, h) :: t) (Nat.beq p.1 k)) f
theorem hsetF_eq (k : Nat) (h : HO) : ∀ f : Fram, hsetF k h f = hset k h f
  | [] => rfl
  | (k', h') :: r => by
    show (Bool.rec (motive := fun _ => Fram) ((k', h') :: hsetF k h r) ((k, h) :: r) (Nat.beq k' k)) = if k' = k then (k, h) :: r else (k', h') :: hset k h r
    by_cases e : k' = k
    · subst e; rw [if_pos rfl, Nat.beq_refl]
    · rw [if_neg e, nbeq_ne e, hsetF_eq k h r]
noncomputable def fgetF (d : Nat) (fs : List Fram) : Fram := nthF [] fs d
theorem fgetF_eq : ∀ (d : Nat) (fs : List Fram), fgetF d fs = fget d fs
  | d, [] => by cases d <;> rfl
  | 0, f :: r => rfl
  | d + 1, f :: r => by show fgetF d r = fget d r; exact fgetF_eq d r
noncomputable def getHF (d k : Nat) (fs : List Fram) : Option HO := hgetF k (fgetF d fs)
theorem getHF_eq (d k : Nat) (fs : List Fram) : getHF d k fs = getH d k fs := by unfold getHF getH; rw [hgetF_eq, fgetF_eq]
noncomputable def fsetF (d : Nat) (g : Fram) (fs : List Fram) : List Fram := setF g fs d
theorem fsetF_eq : ∀ (d : Nat) (g : Fram) (fs : List Fram), fsetF d g fs = fset d g fs
  | d, g, [] => by cases d <;> rfl
  | 0, g, f :: r => rfl
  | d + 1, g, f :: r => by show f :: fsetF d g r = f :: fset d g r; rw [fsetF_eq d g r]
noncomputable def setHF (d k : Nat) (h : HO) (fs : List Fram) : List Fram := fsetF d (hsetF k h (fgetF d fs)) fs
theorem setHF_eq (d k : Nat) (h : HO) (fs : List Fram) : setHF d k h fs = setH d k h fs := by unfold setHF setH; rw [fsetF_eq, hsetF_eq, fgetF_eq]

noncomputable def hLenL (x : AV) (fr : Fram) (up : List Fram) (k : KA) : R0 := CV.rec (motive := fun _ => R0)
  (fun p => PV.casesOn (motive_1 := fun _ => R0) p (fun _ => fail0) (fun _ l => forceN (lenF l) fun n => k (.c (.p (.lit (.int .i64 (.ofNat n))))) fr up))
  (fun _ l => forceN (lenF l) fun n => k (.c (.p (.lit (.int .i64 (.ofNat n))))) fr up) (fun _ _ => fail0) (fun _ _ _ => fail0) (fun _ _ _ _ _ => fail0) (fun _ _ _ _ n => forceN n fun n => k (.c (.p (.lit (.int .i64 (.ofNat n))))) fr up) (fun _ _ => fail0) fail0 (cvA x)
theorem hLenL_ok (C : Callee) (x : AV) : HOk C .lenL [x] (hLenL x) := by
  intro fr up k z h g
  unfold hLenL at h
  cases x with
  | agg l => exact fail0_no h g
  | tup l => exact fail0_no h g
  | c x =>
    cases x with
    | p p => cases p with
      | lit v => exact fail0_no h g
      | sl sz l => refine ⟨_, fr, up, rfl, ?_⟩; rw [← h]; show _ = forceN (lenF l) _; rw [forceN_eq, lenF_eq]; rfl
    | own sz l => refine ⟨_, fr, up, rfl, ?_⟩; rw [← h]; show _ = forceN (lenF l) _; rw [forceN_eq, lenF_eq]; rfl
    | arr d j sz off n => refine ⟨_, fr, up, rfl, ?_⟩; rw [← h]; show _ = forceN n _; rw [forceN_eq]; rfl
    | _ => exact fail0_no h g

noncomputable def hFa (off : Nat) (x : AV) (fr : Fram) (up : List Fram) (k : KA) : R0 := CV.rec (motive := fun _ => R0) (fun _ => fail0) (fun _ _ => fail0)
  (fun cs o => forceN (Nat.add o off) fun o => k (.c (.ipt cs o)) fr up) (fun d j o => forceN (Nat.add o off) fun o => k (.c (.ref d j o)) fr up) (fun d j sz i o => forceN (Nat.add o off) fun o => k (.c (.aref d j sz i o)) fr up)
  (fun _ _ _ _ _ => fail0) (fun _ _ => fail0) fail0 (cvA x)
theorem hFa_ok (C : Callee) (off : Nat) (x : AV) : HOk C (.fa off) [x] (hFa off x) := by
  intro fr up k z h g
  unfold hFa at h
  cases x with
  | agg l => exact fail0_no h g
  | tup l => exact fail0_no h g
  | c x =>
    cases x with
    | ipt cs o => refine ⟨_, fr, up, rfl, ?_⟩; rw [← h]; exact (forceN_eq (Nat.add o off) fun o => k (.c (.ipt cs o)) fr up).symm
    | ref d j o => refine ⟨_, fr, up, rfl, ?_⟩; rw [← h]; exact (forceN_eq (Nat.add o off) fun o => k (.c (.ref d j o)) fr up).symm
    | aref d j sz i o => refine ⟨_, fr, up, rfl, ?_⟩; rw [← h]; exact (forceN_eq (Nat.add o off) fun o => k (.c (.aref d j sz i o)) fr up).symm
    | _ => exact fail0_no h g

/-- A row's chunk, if there is one. -/
noncomputable def nthO {α : Type} (l : List α) : Nat → Option α := List.rec (motive := fun _ => Nat → Option α) (fun _ => none) (fun x _ ih n => Nat.rec (motive := fun _ => Option α) (some x) (fun m _ => ih m) n) l
theorem nthO_eq {α : Type} : ∀ (l : List α) (n : Nat), nthO l n = l[n]?
  | [], n => by simp [nthO]
  | x :: l, 0 => rfl
  | x :: l, n + 1 => by show nthO l n = _; rw [nthO_eq l n]; simp
/-- The same by drops, which the kernel keeps from one index to the next. -/
noncomputable def tailF {α : Type} (l : List α) : List α := List.rec (motive := fun _ => List α) [] (fun _ t _ => t) l
noncomputable def dropF {α : Type} (l : List α) (n : Nat) : List α := Nat.rec (motive := fun _ => List α) l (fun _ ih => tailF ih) n
noncomputable def nthD {α : Type} (l : List α) (n : Nat) : Option α := List.rec (motive := fun _ => Option α) none (fun x _ _ => some x) (dropF l n)
theorem dropF_eq {α : Type} (l : List α) : ∀ n : Nat, dropF l n = l.drop n
  | 0 => by show l = _; simp
  | n + 1 => by
    show tailF (dropF l n) = _
    rw [dropF_eq l n, ← List.drop_drop (i := 1) (j := n) (l := l)]
    cases l.drop n <;> simp [tailF]
theorem nthD_eq {α : Type} (l : List α) (n : Nat) : nthD l n = l[n]? := by
  unfold nthD
  rw [dropF_eq]
  have : l[n]? = (l.drop n)[0]? := by simp
  rw [this]
  cases l.drop n <;> rfl
noncomputable def intAt (y : AV) (k : Nat → R0) : R0 := VK.rec (motive := fun _ => R0) (fun _ n => Int.rec (motive := fun _ => R0) k (fun _ => fail0) n) fail0 (vk (litV y))
theorem intAt_ok {y : AV} {k : Nat → R0} {z : R0} (h : intAt y k = z) (g : z.2.2 = true) : ∃ kk n, y = .c (.p (.lit (.int kk (.ofNat n)))) ∧ k n = z := by
  unfold intAt at h
  cases hy : vk (litV y) with
  | o => rw [hy] at h; exact fail0_no h g
  | i kk n =>
    rw [hy] at h
    cases n with
    | negSucc n => exact fail0_no h g
    | ofNat n => exact ⟨kk, n, litV_i hy, h⟩
noncomputable def hIaL (sz : Nat) (sz' : Nat) (l : List (List PV)) (n : Nat) (fr : Fram) (up : List Fram) (k : KA) : R0 := Bool.rec (motive := fun _ => R0) fail0 (Option.rec (motive := fun _ => R0) fail0 (fun c => k (.c (.ipt c 0)) fr up) (nthD l n)) (Nat.beq sz' sz)
noncomputable def hIa (sz : Nat) (x y : AV) (fr : Fram) (up : List Fram) (k : KA) : R0 := CV.rec (motive := fun _ => R0)
  (fun p => PV.casesOn (motive_1 := fun _ => R0) p (fun _ => fail0) (fun sz' l => intAt y fun n => hIaL sz sz' l n fr up k))
  (fun sz' l => intAt y fun n => hIaL sz sz' l n fr up k) (fun _ _ => fail0) (fun _ _ _ => fail0) (fun _ _ _ _ _ => fail0)
  (fun d j sz' off m => intAt y fun n => Bool.rec (motive := fun _ => R0) fail0 (Bool.rec (motive := fun _ => R0) fail0 (forceN (Nat.add off n) fun i => k (.c (.aref d j sz i 0)) fr up) (Nat.ble (Nat.succ n) m)) (Nat.beq sz' sz)) (fun _ _ => fail0) fail0 (cvA x)
theorem hIaL_ok {sz sz' : Nat} {l : List (List PV)} {n : Nat} {fr : Fram} {up : List Fram} {k : KA} {z : R0} (h : hIaL sz sz' l n fr up k = z) (g : z.2.2 = true) : sz' = sz ∧ n < l.length ∧ k (.c (.ipt (l.getD n []) 0)) fr up = z := by
  unfold hIaL at h
  by_cases e : sz' = sz
  · subst e
    rw [Nat.beq_refl, nthD_eq] at h
    cases hn : l[n]? with
    | none => rw [hn] at h; exact fail0_no h g
    | some c =>
      rw [hn] at h
      exact ⟨rfl, (List.getElem?_eq_some_iff.1 hn).1, by rw [List.getD_eq_getElem?_getD, hn]; exact h⟩
  · rw [nbeq_ne e] at h; exact fail0_no h g
theorem hIa_ok (C : Callee) (sz : Nat) (x y : AV) : HOk C (.ia sz) [x, y] (hIa sz x y) := by
  intro fr up k z h g
  unfold hIa at h
  have fin : ∀ {sz' : Nat} {l : List (List PV)} {n : Nat}, sz' = sz ∧ n < l.length ∧ k (.c (.ipt (l.getD n []) 0)) fr up = z → decide (sz' = sz ∧ 0 ≤ Int.ofNat n ∧ Int.ofNat n < l.length) = true := fun ⟨a, b, _⟩ => by
    simp only [decide_eq_true_eq, Int.ofNat_eq_natCast]; exact ⟨a, by omega, by omega⟩
  cases x with
  | agg l => exact fail0_no h g
  | tup l => exact fail0_no h g
  | c x =>
    cases x with
    | p p => cases p with
      | lit v => exact fail0_no h g
      | sl sz' l =>
        obtain ⟨kk, n, rfl, h2⟩ := intAt_ok h g
        have h3 := hIaL_ok h2 g
        exact ⟨_, fr, up, by simp only [act, fin h3]; rfl, h3.2.2⟩
    | own sz' l =>
      obtain ⟨kk, n, rfl, h2⟩ := intAt_ok h g
      have h3 := hIaL_ok h2 g
      exact ⟨_, fr, up, by simp only [act, fin h3]; rfl, h3.2.2⟩
    | arr d j sz' off m =>
      obtain ⟨kk, n, rfl, h2⟩ := intAt_ok h g
      by_cases e : sz' = sz
      · subst e
        rw [Nat.beq_refl] at h2
        cases hb : Nat.ble (Nat.succ n) m with
        | false => rw [hb] at h2; exact fail0_no h2 g
        | true =>
          rw [hb] at h2
          have hlt := Nat.le_of_ble_eq_true hb
          refine ⟨.c (.aref d j sz' (off + n) 0), fr, up, ?_, ?_⟩
          rotate_left
          · rw [← h2]; exact (forceN_eq (Nat.add off n) fun i => k (.c (.aref d j sz' i 0)) fr up).symm
          · have : decide (sz' = sz' ∧ 0 ≤ Int.ofNat n ∧ Int.ofNat n < m) = true := by
              simp only [decide_eq_true_eq, Int.ofNat_eq_natCast]; exact ⟨trivial, by omega, by omega⟩
            show ((_, fr, up, decide (sz' = sz' ∧ 0 ≤ Int.ofNat n ∧ Int.ofNat n < m)) : ActR) = _
            rw [this]; rfl
      · rw [nbeq_ne e] at h2; exact fail0_no h2 g
    | _ => exact fail0_no h g

noncomputable def hIaa (sz n : Nat) (x y : AV) (fr : Fram) (up : List Fram) (k : KA) : R0 := intAt y fun i => Bool.rec (motive := fun _ => R0) fail0 (CV.rec (motive := fun _ => R0) (fun _ => fail0) (fun _ _ => fail0)
  (fun cs o => forceN (Nat.add o (Nat.mul i sz)) fun o => k (.c (.ipt cs o)) fr up) (fun d j o => forceN (Nat.add o (Nat.mul i sz)) fun o => k (.c (.ref d j o)) fr up) (fun d j s q o => forceN (Nat.add o (Nat.mul i sz)) fun o => k (.c (.aref d j s q o)) fr up)
  (fun _ _ _ _ _ => fail0) (fun _ _ => fail0) fail0 (cvA x)) (Nat.ble (Nat.succ i) n)
theorem hIaa_ok (C : Callee) (sz n : Nat) (x y : AV) : HOk C (.iaa sz n) [x, y] (hIaa sz n x y) := by
  intro fr up k z h g
  unfold hIaa at h
  obtain ⟨kk, i, rfl, h1⟩ := intAt_ok h g
  clear h
  cases hb : Nat.ble (Nat.succ i) n with
  | false => rw [hb] at h1; exact fail0_no h1 g
  | true =>
    rw [hb] at h1
    have h := h1
    have hlt := Nat.le_of_ble_eq_true hb
    have hd : decide (0 ≤ Int.ofNat i ∧ Int.ofNat i < n) = true := by
      simp only [decide_eq_true_eq, Int.ofNat_eq_natCast]; exact ⟨by omega, by omega⟩
    cases x with
    | agg l => exact fail0_no h g
    | tup l => exact fail0_no h g
    | c x =>
      cases x with
      | ipt cs o => exact ⟨_, fr, up, by simp only [act, hd]; rfl, by rw [← h]; exact (forceN_eq (Nat.add o (Nat.mul i sz)) fun o => k (.c (.ipt cs o)) fr up).symm⟩
      | ref d j o => exact ⟨_, fr, up, by simp only [act, hd]; rfl, by rw [← h]; exact (forceN_eq (Nat.add o (Nat.mul i sz)) fun o => k (.c (.ref d j o)) fr up).symm⟩
      | aref d j s q o => exact ⟨_, fr, up, by simp only [act, hd]; rfl, by rw [← h]; exact (forceN_eq (Nat.add o (Nat.mul i sz)) fun o => k (.c (.aref d j s q o)) fr up).symm⟩
      | _ => exact fail0_no h g

noncomputable def hLd1 (x : AV) (fr : Fram) (up : List Fram) (k : KA) : R0 := CV.rec (motive := fun _ => R0) (fun _ => fail0) (fun _ _ => fail0)
  (fun cs o => Option.rec (motive := fun _ => R0) fail0 (fun p => forceP p fun p => k (.c (.p p)) fr up) (nthO cs o))
  (fun d j o => Option.rec (motive := fun _ => R0) fail0 (fun h => HO.rec (motive := fun _ => R0) (fun cs => Option.rec (motive := fun _ => R0) fail0 (fun c => forceC (upC d (demC c)) fun c => k (.c c) fr up) (nthO cs o)) (fun _ _ => fail0) (fun _ => fail0) h) (getHF d j (fr :: up)))
  (fun d j s q o => hGen (fun _ _ _ => fail0) (.ld false 1 false) [x] fr up k)
  (fun _ _ _ _ _ => fail0) (fun _ _ => fail0) fail0 (cvA x)
theorem cut1 {α : Type} {l : List α} {o : Nat} {c : α} (h : l[o]? = some c) : cut o 1 l = [c] := by
  have := (List.getElem?_eq_some_iff.1 h)
  obtain ⟨h1, h2⟩ := this
  unfold cut
  rw [List.drop_eq_getElem_cons h1, h2]; rfl
theorem hLd1_ok (C : Callee) (x : AV) : HOk C (.ld false 1 false) [x] (hLd1 x) := by
  intro fr up k z h g
  have h0 := h
  unfold hLd1 at h
  cases x with
  | agg l => exact fail0_no h g
  | tup l => exact fail0_no h g
  | c x =>
    cases x with
    | ipt cs o =>
      have h : (Option.rec (motive := fun _ => R0) fail0 (fun p => forceP p fun p => k (.c (.p p)) fr up) (nthO cs o)) = z := h
      rw [nthO_eq] at h
      cases hn : cs[o]? with
      | none => rw [hn] at h; exact fail0_no h g
      | some p =>
        rw [hn] at h
        have hlt := (List.getElem?_eq_some_iff.1 hn).1
        refine ⟨.c (.p p), fr, up, ?_, ?_⟩
        · simp only [act, cut1 hn, pvs, mkA, show decide (o + 1 ≤ cs.length) = true by simp; omega]
        · rw [← h]; exact (forceP_eq p fun p => k (.c (.p p)) fr up).symm
    | ref d j o =>
      have h : (Option.rec (motive := fun _ => R0) fail0 (fun h => HO.rec (motive := fun _ => R0) (fun cs => Option.rec (motive := fun _ => R0) fail0 (fun c => forceC (upC d (demC c)) fun c => k (.c c) fr up) (nthO cs o)) (fun _ _ => fail0) (fun _ => fail0) h) (getHF d j (fr :: up))) = z := h
      rw [getHF_eq] at h
      cases hh : getH d j (fr :: up) with
      | none => rw [hh] at h; exact fail0_no h g
      | some ho =>
        rw [hh] at h
        cases ho with
        | box cs =>
          have h : (Option.rec (motive := fun _ => R0) fail0 (fun c => forceC (upC d (demC c)) fun c => k (.c c) fr up) (nthO cs o)) = z := h
          rw [nthO_eq] at h
          cases hn : cs[o]? with
          | none => rw [hn] at h; exact fail0_no h g
          | some c =>
            rw [hn] at h
            have hlt := (List.getElem?_eq_some_iff.1 hn).1
            refine ⟨.c (upC d (demC c)), fr, up, ?_, ?_⟩
            · simp only [act, hh, cut1 hn, demL, upL, mkA, show decide (o + 1 ≤ cs.length) = true by simp; omega]; rfl
            · rw [← h]; exact (forceC_eq (upC d (demC c)) fun c => k (.c c) fr up).symm
        | arr _ _ => exact fail0_no h g
        | map _ => exact fail0_no h g
    | aref d j s q o => exact hGen_ok (fun _ _ _ => fail0) (.ld false 1 false) [_] fr up k z h g
    | _ => exact fail0_no h g
noncomputable def pvsF (l : List PV) : List CV := List.rec (motive := fun _ => List CV) [] (fun x _ ih => .p x :: ih) l
theorem pvsF_eq : ∀ l : List PV, pvsF l = pvs l
  | [] => rfl
  | x :: l => by show CV.p x :: pvsF l = _; rw [pvsF_eq l]; rfl
noncomputable def hLdA (n : Nat) (x : AV) (fr : Fram) (up : List Fram) (k : KA) : R0 := CV.rec (motive := fun _ => R0) (fun _ => fail0) (fun _ _ => fail0)
  (fun cs o => Bool.rec (motive := fun _ => R0) (hGen (fun _ _ _ => fail0) (.ld true n false) [x] fr up k) (Bool.rec (motive := fun _ => R0) (hGen (fun _ _ _ => fail0) (.ld true n false) [x] fr up k) (k (.agg (pvsF cs)) fr up) (Nat.beq (lenF cs) n)) (Nat.beq o 0))
  (fun _ _ _ => hGen (fun _ _ _ => fail0) (.ld true n false) [x] fr up k)
  (fun _ _ _ _ _ => hGen (fun _ _ _ => fail0) (.ld true n false) [x] fr up k)
  (fun _ _ _ _ _ => fail0) (fun _ _ => fail0) fail0 (cvA x)
theorem hLdA_ok (C : Callee) (n : Nat) (x : AV) : HOk C (.ld true n false) [x] (hLdA n x) := by
  have hg : HOk C (.ld true n false) [x] (hGen (fun _ _ _ => fail0) (.ld true n false) [x]) := hGen_ok (fun _ _ _ => fail0) (.ld true n false) [x]
  intro fr up k z h g
  unfold hLdA at h
  cases x with
  | agg l => exact fail0_no h g
  | tup l => exact fail0_no h g
  | c x =>
    cases x with
    | ipt cs o =>
      by_cases e : o = 0
      · subst e
        by_cases e2 : lenF cs = n
        · have h : (Bool.rec (motive := fun _ => R0) (hGen (fun _ _ _ => fail0) (.ld true n false) [.c (.ipt cs 0)] fr up k) (k (.agg (pvsF cs)) fr up) (Nat.beq (lenF cs) n)) = z := h
          rw [e2, Nat.beq_refl] at h
          rw [lenF_eq] at e2
          refine ⟨.agg (pvs cs), fr, up, ?_, by rw [← h, pvsF_eq]⟩
          have hc : cut 0 n cs = cs := by unfold cut; rw [← e2]; simp
          have hd : decide (0 + n ≤ cs.length) = true := by simp; omega
          simp only [act, hc, hd, mkA]
        · have h : (Bool.rec (motive := fun _ => R0) (hGen (fun _ _ _ => fail0) (.ld true n false) [.c (.ipt cs 0)] fr up k) (k (.agg (pvsF cs)) fr up) (Nat.beq (lenF cs) n)) = z := h
          rw [nbeq_ne e2] at h; exact hg fr up k z h g
      · have h : (Bool.rec (motive := fun _ => R0) (hGen (fun _ _ _ => fail0) (.ld true n false) [.c (.ipt cs o)] fr up k) (Bool.rec (motive := fun _ => R0) (hGen (fun _ _ _ => fail0) (.ld true n false) [.c (.ipt cs o)] fr up k) (k (.agg (pvsF cs)) fr up) (Nat.beq (lenF cs) n)) (Nat.beq o 0)) = z := h
        rw [nbeq_ne e] at h; exact hg fr up k z h g
    | ref _ _ _ => exact hg fr up k z h g
    | aref _ _ _ _ _ => exact hg fr up k z h g
    | _ => exact fail0_no h g
noncomputable def hLd (agg : Bool) (n : Nat) (take : Bool) (x : AV) (fr : Fram) (up : List Fram) (k : KA) : R0 :=
  Bool.rec (motive := fun _ => R0) (Bool.rec (motive := fun _ => R0) (Bool.rec (motive := fun _ => R0) (hGen (fun _ _ _ => fail0) (.ld agg n take) [x] fr up k) (hLd1 x fr up k) (Nat.beq n 1)) (hGen (fun _ _ _ => fail0) (.ld agg n take) [x] fr up k) take) (Bool.rec (motive := fun _ => R0) (hLdA n x fr up k) (hGen (fun _ _ _ => fail0) (.ld agg n take) [x] fr up k) take) agg
theorem hLd_ok (C : Callee) (agg : Bool) (n : Nat) (take : Bool) (x : AV) : HOk C (.ld agg n take) [x] (hLd agg n take x) := by
  have hg : HOk C (.ld agg n take) [x] (hGen (fun _ _ _ => fail0) (.ld agg n take) [x]) := hGen_ok (fun _ _ _ => fail0) (.ld agg n take) [x]
  intro fr up k z h g
  unfold hLd at h
  cases agg with
  | true => cases take with
    | true => exact hg fr up k z h g
    | false => exact hLdA_ok C n x fr up k z h g
  | false =>
    cases take with
    | true => exact hg fr up k z h g
    | false =>
      by_cases e : n = 1
      · subst e; exact hLd1_ok C x fr up k z h g
      · rw [nbeq_ne e] at h; exact hg fr up k z h g

noncomputable def hSt1 (x v : AV) (fr : Fram) (up : List Fram) (k : KA) : R0 := CV.rec (motive := fun _ => R0) (fun _ => fail0) (fun _ _ => fail0) (fun _ _ => fail0)
  (fun d j o => Option.rec (motive := fun _ => R0) fail0 (fun h => HO.rec (motive := fun _ => R0) (fun cs => CV.rec (motive := fun _ => R0)
      (fun p => go d j o cs (.p p)) (fun sz l => go d j o cs (.own sz l)) (fun l q => go d j o cs (.ipt l q)) (fun a b q => go d j o cs (.ref a b q)) (fun a b s i q => go d j o cs (.aref a b s i q)) (fun a b s q n => go d j o cs (.arr a b s q n)) (fun a b => go d j o cs (.mp a b)) fail0 (cvA v)) (fun _ _ => fail0) (fun _ => fail0) h) (getHF d j (fr :: up)))
  (fun _ _ _ _ _ => hGen (fun _ _ _ => fail0) (.st 1) [x, v] fr up k) (fun _ _ _ _ _ => fail0) (fun _ _ => fail0) fail0 (cvA x)
  where go (d j o : Nat) (cs : List CV) (c : CV) : R0 := Bool.rec (motive := fun _ => R0) fail0 (Bool.rec (motive := fun _ => R0) fail0 (List.rec (motive := fun _ => R0) fail0 (fun fr' up' _ => k undefA fr' up') (setHF d j (.box (setF (downC d c) cs o)) (fr :: up))) (Nat.ble (Nat.succ o) (lenF cs))) (outC d c)
theorem put1 {α : Type} (l : List α) (o : Nat) (c : α) (h : o < l.length) : put l o [c] = l.set o c := by
  rw [put_cons l o c [] (by simp; omega), put_nil]
theorem hSt1_ok (C : Callee) (x v : AV) : HOk C (.st 1) [x, v] (hSt1 x v) := by
  intro fr up k z h g
  unfold hSt1 at h
  cases x with
  | agg l => exact fail0_no h g
  | tup l => exact fail0_no h g
  | c x =>
    cases x with
    | ref d j o =>
      have h : (Option.rec (motive := fun _ => R0) fail0 (fun h => HO.rec (motive := fun _ => R0) (fun cs => CV.rec (motive := fun _ => R0)
      (fun p => hSt1.go fr up k d j o cs (.p p)) (fun sz l => hSt1.go fr up k d j o cs (.own sz l)) (fun l q => hSt1.go fr up k d j o cs (.ipt l q)) (fun a b q => hSt1.go fr up k d j o cs (.ref a b q)) (fun a b s i q => hSt1.go fr up k d j o cs (.aref a b s i q)) (fun a b s q n => hSt1.go fr up k d j o cs (.arr a b s q n)) (fun a b => hSt1.go fr up k d j o cs (.mp a b)) fail0 (cvA v)) (fun _ _ => fail0) (fun _ => fail0) h) (getHF d j (fr :: up))) = z := h
      rw [getHF_eq] at h
      cases hh : getH d j (fr :: up) with
      | none => rw [hh] at h; exact fail0_no h g
      | some ho =>
        rw [hh] at h
        cases ho with
        | arr _ _ => exact fail0_no h g
        | map _ => exact fail0_no h g
        | box cs =>
          have key : ∀ c : CV, c ≠ .dead → v = .c c → hSt1.go fr up k d j o cs c = z → ∃ r fr' up', act C (.st 1) [.c (.ref d j o), v] fr up = (r, fr', up', true) ∧ k r fr' up' = z := by
            intro c hd hv hgo
            subst hv
            unfold hSt1.go at hgo
            cases ho : outC d c with
            | false => rw [ho] at hgo; exact fail0_no hgo g
            | true =>
              rw [ho, lenF_eq] at hgo
              cases hb : Nat.ble (Nat.succ o) cs.length with
              | false => rw [hb] at hgo; exact fail0_no hgo g
              | true =>
                rw [hb] at hgo
                have hlt := Nat.le_of_ble_eq_true hb
                have hcell : cellsA (.c c) = some [c] := by cases c <;> first | rfl | exact absurd rfl hd
                have hput : put cs o (downL d [c]) = setF (downC d c) cs o := by
                  rw [setF_eq]; exact put1 cs o (downC d c) hlt
                rw [setHF_eq, ← hput] at hgo
                obtain ⟨fr2, up2, hq, -⟩ := setH_cons d j (.box (put cs o (downL d [c]))) fr up
                rw [hq] at hgo
                refine ⟨undefA, fr2, up2, ?_, hgo⟩
                simp only [act, hh, hcell, hq]
                have h1 : decide ([c].length = 1 ∧ o + 1 ≤ cs.length) = true := by simp; omega
                have h2 : outL d [c] = true := by simp [outL, ho]
                rw [h1, h2]; rfl
          cases v with
          | agg l => exact fail0_no h g
          | tup l => exact fail0_no h g
          | c c =>
            cases c with
            | dead => exact fail0_no h g
            | _ => exact key _ (by simp) rfl h
    | aref d j s q o => exact hGen_ok (fun _ _ _ => fail0) (.st 1) [_, v] fr up k z h g
    | _ => exact fail0_no h g
noncomputable def hSt (n : Nat) (x v : AV) (fr : Fram) (up : List Fram) (k : KA) : R0 := Bool.rec (motive := fun _ => R0) (hGen (fun _ _ _ => fail0) (.st n) [x, v] fr up k) (hSt1 x v fr up k) (Nat.beq n 1)
theorem hSt_ok (C : Callee) (n : Nat) (x v : AV) : HOk C (.st n) [x, v] (hSt n x v) := by
  intro fr up k z h g
  unfold hSt at h
  by_cases e : n = 1
  · subst e; exact hSt1_ok C x v fr up k z h g
  · rw [nbeq_ne e] at h; exact hGen_ok (fun _ _ _ => fail0) (.st n) [x, v] fr up k z h g

noncomputable def hPick (c x y : AV) (fr : Fram) (up : List Fram) (k : KA) : R0 := Option.rec (motive := fun _ => R0) fail0 (fun b => Bool.rec (motive := fun _ => R0) (force y fun y => k y fr up) (force x fun x => k x fr up) b) (bvk (litV c))
theorem hPick_ok (C : Callee) (c x y : AV) : HOk C .pick [c, x, y] (hPick c x y) := by
  intro fr up k z h g
  unfold hPick at h
  cases hb : bvk (litV c) with
  | none => rw [hb] at h; exact fail0_no h g
  | some b =>
    rw [hb] at h
    have := litV_b hb; subst this
    cases b with
    | true => exact ⟨x, fr, up, rfl, by rw [← h]; exact (force_eq x fun x => k x fr up).symm⟩
    | false => exact ⟨y, fr, up, rfl, by rw [← h]; exact (force_eq y fun y => k y fr up).symm⟩

noncomputable def hApp (sz bytes : Nat) (x y : AV) (fr : Fram) (up : List Fram) (k : KA) : R0 := CV.rec (motive := fun _ => R0) (fun _ => fail0)
  (fun sz' l => Option.rec (motive := fun _ => R0) fail0 (fun ys => Bool.rec (motive := fun _ => R0) fail0 (Bool.rec (motive := fun _ => R0) fail0 (k (.c (.own sz (appF l ys))) fr up) (Nat.ble (Nat.mul (Nat.add (lenF l) (lenF ys)) bytes) 70368744177664)) (Nat.beq sz' sz)) (listOf sz (fr :: up) y))
  (fun _ _ => fail0) (fun _ _ _ => fail0) (fun _ _ _ _ _ => fail0) (fun _ _ _ _ _ => fail0) (fun _ _ => fail0) fail0 (cvA x)
theorem hApp_ok (C : Callee) (sz bytes : Nat) (x y : AV) : HOk C (.app sz bytes) [x, y] (hApp sz bytes x y) := by
  intro fr up k z h g
  unfold hApp at h
  cases x with
  | agg l => exact fail0_no h g
  | tup l => exact fail0_no h g
  | c x =>
    cases x with
    | own sz' l =>
      have h : (Option.rec (motive := fun _ => R0) fail0 (fun ys => Bool.rec (motive := fun _ => R0) fail0 (Bool.rec (motive := fun _ => R0) fail0 (k (.c (.own sz (appF l ys))) fr up) (Nat.ble (Nat.mul (Nat.add (lenF l) (lenF ys)) bytes) 70368744177664)) (Nat.beq sz' sz)) (listOf sz (fr :: up) y)) = z := h
      cases hl : listOf sz (fr :: up) y with
      | none => rw [hl] at h; exact fail0_no h g
      | some ys =>
        rw [hl] at h
        by_cases e : sz' = sz
        · subst e
          have h : (Bool.rec (motive := fun _ => R0) fail0 (Bool.rec (motive := fun _ => R0) fail0 (k (.c (.own sz' (appF l ys))) fr up) (Nat.ble (Nat.mul (Nat.add (lenF l) (lenF ys)) bytes) 70368744177664)) (Nat.beq sz' sz')) = z := h
          rw [Nat.beq_refl] at h
          cases hb : Nat.ble (Nat.mul (Nat.add (lenF l) (lenF ys)) bytes) 70368744177664 with
          | false => rw [hb] at h; exact fail0_no h g
          | true =>
            rw [hb] at h
            have hle := Nat.le_of_ble_eq_true hb
            rw [lenF_eq, lenF_eq] at hle
            refine ⟨.c (.own sz' (l ++ ys)), fr, up, ?_, by rw [← h, appF_eq]⟩
            have : decide (True ∧ (l.length + ys.length) * bytes ≤ roomy) = true := by
              simp only [decide_eq_true_eq]; exact ⟨trivial, hle⟩
            simp only [act, hl]
            rw [this]
        · have h : (Bool.rec (motive := fun _ => R0) fail0 (Bool.rec (motive := fun _ => R0) fail0 (k (.c (.own sz (appF l ys))) fr up) (Nat.ble (Nat.mul (Nat.add (lenF l) (lenF ys)) bytes) 70368744177664)) (Nat.beq sz' sz)) = z := h
          rw [nbeq_ne e] at h; exact fail0_no h g
    | _ => exact fail0_no h g

noncomputable def hCall (C : Callee) (f : FuncId) (vs : List AV) (fr : Fram) (up : List Fram) (k : KA) : R0 := Bool.rec (motive := fun _ => R0)
  (Prod.rec (motive := fun _ => R0) (fun r q => Prod.rec (motive := fun _ => R0) (fun fs ok => Bool.rec (motive := fun _ => R0) fail0 (List.rec (motive := fun _ => R0) fail0 (fun fr' up' _ => force r fun r => k r fr' up') fs) ok) q) (C f vs (fr :: up)))
  (Prod.rec (motive := fun _ => R0) (fun r q => Prod.rec (motive := fun _ => R0) (fun _ ok => Bool.rec (motive := fun _ => R0) fail0 (Bool.rec (motive := fun _ => R0) fail0 (force r fun r => k r fr up) (freeA r)) ok) q) (C f vs []))
  (freeAs vs)
theorem hCall_ok (C : Callee) (f : FuncId) (vs : List AV) : HOk C (.call f) vs (hCall C f vs) := by
  intro fr up k z h g
  unfold hCall at h
  cases hf : freeAs vs with
  | true =>
    rw [hf] at h
    simp only [act, hf]
    generalize C f vs [] = q at h ⊢
    obtain ⟨r, fs, ok⟩ := q
    cases ok with
    | false => exact fail0_no h g
    | true =>
      have h : (Bool.rec (motive := fun _ => R0) fail0 (force r fun r => k r fr up) (freeA r)) = z := h
      cases hr : freeA r with
      | false => rw [hr] at h; exact fail0_no h g
      | true => rw [hr] at h; exact ⟨r, fr, up, by simp [hr], by rw [← h]; exact (force_eq r fun r => k r fr up).symm⟩
  | false =>
    rw [hf] at h
    simp only [act, hf]
    generalize C f vs (fr :: up) = q at h ⊢
    obtain ⟨r, fs, ok⟩ := q
    cases ok with
    | false => exact fail0_no h g
    | true =>
      cases fs with
      | nil => exact fail0_no h g
      | cons fr' up' => exact ⟨r, fr', up', rfl, by rw [← h]; exact (force_eq r fun r => k r fr' up').symm⟩

/-- Structs built. -/
noncomputable def fillK (len : Nat) (offs : List (Nat × Nat)) : List AV → List CV → (List CV → R0) → R0 := List.rec (motive := fun _ => List AV → List CV → (List CV → R0) → R0)
  (fun vs cs k => List.rec (motive := fun _ => R0) (k cs) (fun _ _ _ => fail0) vs)
  (fun p _ ih vs cs k => List.rec (motive := fun _ => R0) fail0 (fun v r _ => AV.rec (motive := fun _ => R0)
    (fun c => CV.rec (motive := fun _ => R0) (fun x => go p ih r cs k (.p x)) (fun sz l => go p ih r cs k (.own sz l)) (fun l q => go p ih r cs k (.ipt l q)) (fun a b q => go p ih r cs k (.ref a b q)) (fun a b s i q => go p ih r cs k (.aref a b s i q)) (fun a b s q n => go p ih r cs k (.arr a b s q n)) (fun a b => go p ih r cs k (.mp a b)) fail0 c)
    (fun l => Bool.rec (motive := fun _ => R0) fail0 (Bool.rec (motive := fun _ => R0) fail0 (ih r (put cs p.1 l) k) (Nat.ble (Nat.add p.1 p.2) len)) (Nat.beq (lenF l) p.2))
    (fun _ => fail0) v) vs) offs
  where go (p : Nat × Nat) (ih : List AV → List CV → (List CV → R0) → R0) (r : List AV) (cs : List CV) (k : List CV → R0) (c : CV) : R0 := Bool.rec (motive := fun _ => R0) fail0 (Bool.rec (motive := fun _ => R0) fail0 (ih r (setF c cs p.1) k) (Nat.ble (Nat.succ p.1) len)) (Nat.beq p.2 1)
theorem fillK_ok (len : Nat) : ∀ (offs : List (Nat × Nat)) (vs : List AV) (cs : List CV) (k : List CV → R0) (z : R0), cs.length = len → fillK len offs vs cs k = z → z.2.2 = true → ∃ l, fillX cs offs vs = some l ∧ k l = z
  | [], [], cs, k, z, hl, h, g => ⟨cs, rfl, h⟩
  | [], _ :: _, cs, k, z, hl, h, g => fail0_no h g
  | p :: offs, [], cs, k, z, hl, h, g => fail0_no h g
  | (off, n) :: offs, v :: r, cs, k, z, hl, h, g => by
    have one : ∀ c : CV, c ≠ .dead → v = .c c → fillK.go len (off, n) (fillK len offs) r cs k c = z → ∃ l, fillX cs ((off, n) :: offs) (v :: r) = some l ∧ k l = z := by
      intro c hd hv hgo
      subst hv
      unfold fillK.go at hgo
      by_cases e : n = 1
      · subst e
        have hgo : (Bool.rec (motive := fun _ => R0) fail0 (Bool.rec (motive := fun _ => R0) fail0 (fillK len offs r (setF c cs off) k) (Nat.ble (Nat.succ off) len)) (Nat.beq 1 1)) = z := hgo
        rw [Nat.beq_refl] at hgo
        cases hb : Nat.ble (Nat.succ off) len with
        | false => rw [hb] at hgo; exact fail0_no hgo g
        | true =>
          rw [hb] at hgo
          have hlt := Nat.le_of_ble_eq_true hb
          have hgo : fillK len offs r (setF c cs off) k = z := hgo
          rw [setF_eq, ← put1 cs off c (by omega)] at hgo
          obtain ⟨l, h1, h2⟩ := fillK_ok len offs r _ k z (by rw [put_length _ _ _ (by simp; omega)]; exact hl) hgo g
          refine ⟨l, ?_, h2⟩
          have hcell : cellsA (.c c) = some [c] := by cases c <;> first | rfl | exact absurd rfl hd
          simp only [fillX, hcell]
          rw [if_pos (by simp; omega)]; exact h1
      · have hgo : (Bool.rec (motive := fun _ => R0) fail0 (Bool.rec (motive := fun _ => R0) fail0 (fillK len offs r (setF c cs off) k) (Nat.ble (Nat.succ off) len)) (Nat.beq n 1)) = z := hgo
        rw [nbeq_ne e] at hgo; exact fail0_no hgo g
    cases v with
    | tup l => exact fail0_no h g
    | agg l =>
      have h : (Bool.rec (motive := fun _ => R0) fail0 (Bool.rec (motive := fun _ => R0) fail0 (fillK len offs r (put cs off l) k) (Nat.ble (Nat.add off n) len)) (Nat.beq (lenF l) n)) = z := h
      by_cases e : lenF l = n
      · rw [e, Nat.beq_refl] at h
        cases hb : Nat.ble (Nat.add off n) len with
        | false => rw [hb] at h; exact fail0_no h g
        | true =>
          rw [hb] at h
          have hlt := Nat.le_of_ble_eq_true hb
          have hlt : off + n ≤ len := hlt
          rw [lenF_eq] at e
          obtain ⟨l', h1, h2⟩ := fillK_ok len offs r _ k z (by rw [put_length _ _ _ (by omega)]; exact hl) h g
          refine ⟨l', ?_, h2⟩
          simp only [fillX, cellsA]
          rw [if_pos ⟨e, by omega⟩]; exact h1
      · rw [nbeq_ne e] at h; exact fail0_no h g
    | c c =>
      cases c with
      | dead => exact fail0_no h g
      | _ => exact one _ (by simp) rfl h
noncomputable def hBld (z : List PV) (offs : List (Nat × Nat)) (vs : List AV) (fr : Fram) (up : List Fram) (k : KA) : R0 := fillK (lenF (zvs z)) offs vs (zvs z) fun l => k (.agg l) fr up
theorem hBld_ok (C : Callee) (z : List PV) (offs : List (Nat × Nat)) (vs : List AV) : HOk C (.bld z offs) vs (hBld z offs vs) := by
  intro fr up k y h g
  obtain ⟨l, h1, h2⟩ := fillK_ok _ offs vs (zvs z) (fun l => k (.agg l) fr up) y (lenF_eq _).symm h g
  exact ⟨.agg l, fr, up, by simp only [act, h1], h2⟩
noncomputable def toPsF (l : List CV) (k : List PV → R0) : R0 := List.rec (motive := fun _ => (List PV → R0) → R0) (fun k => k []) (fun c _ ih k => CV.rec (motive := fun _ => R0) (fun p => ih fun ps => k (p :: ps)) (fun sz l => ih fun ps => k (.sl sz l :: ps)) (fun _ _ => fail0) (fun _ _ _ => fail0) (fun _ _ _ _ _ => fail0) (fun _ _ _ _ _ => fail0) (fun _ _ => fail0) fail0 c) l k
theorem toPsF_ok : ∀ (l : List CV) (k : List PV → R0) (z : R0), toPsF l k = z → z.2.2 = true → ∃ ps, toPs l = some ps ∧ k ps = z
  | [], k, z, h, g => ⟨[], rfl, h⟩
  | c :: l, k, z, h, g => by
    cases c with
    | p p =>
      have h : toPsF l (fun ps => k (p :: ps)) = z := h
      obtain ⟨ps, h1, h2⟩ := toPsF_ok l _ z h g
      exact ⟨p :: ps, by simp only [toPs, toP, h1], h2⟩
    | own sz m =>
      have h : toPsF l (fun ps => k (.sl sz m :: ps)) = z := h
      obtain ⟨ps, h1, h2⟩ := toPsF_ok l _ z h g
      exact ⟨.sl sz m :: ps, by simp only [toPs, toP, h1], h2⟩
    | _ => exact fail0_no h g
/-- A slice of one element (what is appended). -/
noncomputable def hBlds (sz : Nat) (z : List PV) (n : Nat) (idx : List Nat) (vs : List AV) (fr : Fram) (up : List Fram) (k : KA) : R0 := Bool.rec (motive := fun _ => R0) (hGen (fun _ _ _ => fail0) (.blds sz z n idx) vs fr up k)
  (List.rec (motive := fun _ => R0) (hGen (fun _ _ _ => fail0) (.blds sz z n idx) vs fr up k) (fun i is _ => List.rec (motive := fun _ => R0) (Bool.rec (motive := fun _ => R0) (hGen (fun _ _ _ => fail0) (.blds sz z n idx) vs fr up k)
    (List.rec (motive := fun _ => R0) fail0 (fun v r _ => List.rec (motive := fun _ => R0) (AV.rec (motive := fun _ => R0)
      (fun c => one [c]) (fun l => one l) (fun _ => fail0) v) (fun _ _ _ => fail0) r) vs) (Nat.beq i 0)) (fun _ _ _ => hGen (fun _ _ _ => fail0) (.blds sz z n idx) vs fr up k) is) idx) (Nat.beq n 1)
  where one (l : List CV) : R0 := Bool.rec (motive := fun _ => R0) fail0 (Bool.rec (motive := fun _ => R0) fail0 (toPsF l fun ps => k (.c (.own sz [ps])) fr up) (Nat.ble sz 16777216)) (Nat.beq (lenF l) sz)
theorem hBlds_ok (C : Callee) (sz : Nat) (z : List PV) (n : Nat) (idx : List Nat) (vs : List AV) : HOk C (.blds sz z n idx) vs (hBlds sz z n idx vs) := by
  have hg : HOk C (.blds sz z n idx) vs (hGen (fun _ _ _ => fail0) (.blds sz z n idx) vs) := hGen_ok (fun _ _ _ => fail0) (.blds sz z n idx) vs
  intro fr up k y h g
  unfold hBlds at h
  by_cases e : n = 1
  · subst e
    rw [Nat.beq_refl] at h
    match idx, h, hg with
    | [], h, hg => exact hg fr up k y h g
    | _ :: _ :: _, h, hg => exact hg fr up k y h g
    | [i], h, hg =>
      by_cases e2 : i = 0
      · subst e2
        have h : (List.rec (motive := fun _ => R0) fail0 (fun v r _ => List.rec (motive := fun _ => R0) (AV.rec (motive := fun _ => R0)
          (fun c => hBlds.one sz fr up k [c]) (fun l => hBlds.one sz fr up k l) (fun _ => fail0) v) (fun _ _ _ => fail0) r) vs) = y := h
        have key : ∀ (v : AV) (l : List CV), (∀ ps, toPs l = some ps → cellsA v = some l) → hBlds.one sz fr up k l = y → ∃ r fr' up', act C (.blds sz z 1 [0]) [v] fr up = (r, fr', up', true) ∧ k r fr' up' = y := by
          intro v l hcell hone
          unfold hBlds.one at hone
          by_cases e3 : lenF l = sz
          · rw [e3, Nat.beq_refl] at hone
            cases hb : Nat.ble sz 16777216 with
            | false => rw [hb] at hone; exact fail0_no hone g
            | true =>
              rw [hb] at hone
              have hle := Nat.le_of_ble_eq_true hb
              obtain ⟨ps, h1, h2⟩ := toPsF_ok l _ y hone g
              rw [lenF_eq] at e3
              have hpl : ∀ (l : List CV) (ps : List PV), toPs l = some ps → ps.length = l.length := by
                intro l
                induction l with
                | nil => intro ps h; simp only [toPs, Option.some.injEq] at h; subst h; rfl
                | cons c l ih =>
                  intro ps h
                  simp only [toPs] at h
                  split at h
                  · rename_i h1 h2
                    simp only [Option.some.injEq] at h; subst h
                    simp [ih _ h2]
                  · cases h
              refine ⟨.c (.own sz [ps]), fr, up, ?_, h2⟩
              have hd : decide (1 * sz ≤ 16777216) = true := by simp; omega
              have hlp : ps.length = sz ∧ 0 < (List.replicate 1 z).length := ⟨by rw [hpl l ps h1]; exact e3, by simp⟩
              simp only [act, fillS, hcell ps h1, Option.bind_some, h1]
              rw [if_pos hlp, hd]; rfl
          · rw [nbeq_ne e3] at hone; exact fail0_no hone g
        match vs, h with
        | [], h => exact fail0_no h g
        | _ :: _ :: _, h => exact fail0_no h g
        | [.c c], h => exact key (.c c) [c] (fun ps hps => by cases c <;> first | rfl | (simp [toPs, toP] at hps)) h
        | [.agg l], h => exact key (.agg l) l (fun _ _ => rfl) h
        | [.tup l], h => exact fail0_no h g
      · have h : (Bool.rec (motive := fun _ => R0) (hGen (fun _ _ _ => fail0) (.blds sz z 1 [i]) vs fr up k)
          (List.rec (motive := fun _ => R0) fail0 (fun v r _ => List.rec (motive := fun _ => R0) (AV.rec (motive := fun _ => R0)
          (fun c => hBlds.one sz fr up k [c]) (fun l => hBlds.one sz fr up k l) (fun _ => fail0) v) (fun _ _ _ => fail0) r) vs) (Nat.beq i 0)) = y := h
        rw [nbeq_ne e2] at h; exact hg fr up k y h g
  · rw [nbeq_ne e] at h; exact hg fr up k y h g

/-! ### all of them -/
abbrev HL := List AV → Fram → List Fram → KA → R0
noncomputable def l1 (h : AV → Fram → List Fram → KA → R0) : HL := fun vs fr up k => List.rec (motive := fun _ => R0) fail0 (fun x r _ => List.rec (motive := fun _ => R0) (h x fr up k) (fun _ _ _ => fail0) r) vs
noncomputable def l2 (h : AV → AV → Fram → List Fram → KA → R0) : HL := fun vs fr up k => List.rec (motive := fun _ => R0) fail0 (fun x r _ => List.rec (motive := fun _ => R0) fail0 (fun y r _ => List.rec (motive := fun _ => R0) (h x y fr up k) (fun _ _ _ => fail0) r) r) vs
noncomputable def l3 (h : AV → AV → AV → Fram → List Fram → KA → R0) : HL := fun vs fr up k => List.rec (motive := fun _ => R0) fail0 (fun x r _ => List.rec (motive := fun _ => R0) fail0 (fun y r _ => List.rec (motive := fun _ => R0) fail0 (fun z r _ => List.rec (motive := fun _ => R0) (h x y z fr up k) (fun _ _ _ => fail0) r) r) r) vs
theorem l1_ok {C : Callee} {op : XK} {h : AV → Fram → List Fram → KA → R0} (hh : ∀ x, HOk C op [x] (h x)) (vs : List AV) : HOk C op vs (l1 h vs) := by
  intro fr up k z hz g
  match vs, hz with
  | [], hz => exact fail0_no hz g
  | [x], hz => exact hh x fr up k z hz g
  | _ :: _ :: _, hz => exact fail0_no hz g
theorem l2_ok {C : Callee} {op : XK} {h : AV → AV → Fram → List Fram → KA → R0} (hh : ∀ x y, HOk C op [x, y] (h x y)) (vs : List AV) : HOk C op vs (l2 h vs) := by
  intro fr up k z hz g
  match vs, hz with
  | [], hz => exact fail0_no hz g
  | [x], hz => exact fail0_no hz g
  | [x, y], hz => exact hh x y fr up k z hz g
  | _ :: _ :: _ :: _, hz => exact fail0_no hz g
theorem l3_ok {C : Callee} {op : XK} {h : AV → AV → AV → Fram → List Fram → KA → R0} (hh : ∀ x y z, HOk C op [x, y, z] (h x y z)) (vs : List AV) : HOk C op vs (l3 h vs) := by
  intro fr up k z hz g
  match vs, hz with
  | [], hz => exact fail0_no hz g
  | [x], hz => exact fail0_no hz g
  | [x, y], hz => exact fail0_no hz g
  | [x, y, w], hz => exact hh x y w fr up k z hz g
  | _ :: _ :: _ :: _ :: _, hz => exact fail0_no hz g
noncomputable def opK (C : Callee) (op : XK) : HL := XK.rec (motive := fun _ => HL) (l1 hMv) (l3 hPick)
  (fun s a z => hGen C (.alloc s a z)) (fun s => hGen C (.box s)) (fun z o => hBld z o) (fun s z n i => hBlds s z n i) (fun a n t => l1 (hLd a n t)) (fun n => l2 (hSt n)) (hGen C .nck) (fun o b => l2 (hBin o b)) (fun o => hGen C (.un o))
  (fun k => hGen C (.cvi k)) (hGen C .cbs) (hGen C .csb) (fun a o n => hGen C (.fld a o n)) (fun b n => hGen C (.beq b n)) (fun o => l1 (hFa o)) (fun s => l2 (hIa s)) (fun s n => l2 (hIaa s n)) (hGen C .ixs) (fun a b => hGen C (.slS a b)) (fun s a b => hGen C (.slL s a b)) (fun s n a b => hGen C (.slA s n a b))
  (fun i => hGen C (.ext i)) (hGen C .lenS) (l1 hLenL) (hGen C .lenM) (fun s b => l2 (hApp s b)) (hGen C .mx) (hGen C .mn) (fun f => hCall C f) (hGen C .callv) (fun s => hGen C (.mkm s)) (fun s z l => hGen C (.mks s z l)) (fun a z o => hGen C (.lk a z o)) (hGen C .mu) (hGen C .del) (fun s => hGen C (.copy s)) op
theorem opK_ok (C : Callee) (op : XK) (vs : List AV) : HOk C op vs (opK C op vs) := by
  cases op
  case mv => exact l1_ok (hMv_ok C) vs
  case pick => exact l3_ok (hPick_ok C) vs
  case ld a n t => exact l1_ok (hLd_ok C a n t) vs
  case bld z o => exact hBld_ok C z o vs
  case blds s z n i => exact hBlds_ok C s z n i vs
  case st n => exact l2_ok (hSt_ok C n) vs
  case bin o b => exact l2_ok (hBin_ok C o b) vs
  case fa o => exact l1_ok (hFa_ok C o) vs
  case ia s => exact l2_ok (hIa_ok C s) vs
  case iaa s n => exact l2_ok (hIaa_ok C s n) vs
  case lenL => exact l1_ok (hLenL_ok C) vs
  case app s b => exact l2_ok (hApp_ok C s b) vs
  case call f => exact hCall_ok C f vs
  all_goals exact hGen_ok C _ vs
end Go.ScE
