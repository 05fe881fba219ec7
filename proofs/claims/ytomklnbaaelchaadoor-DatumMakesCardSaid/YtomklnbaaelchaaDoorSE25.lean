/- E25: the evaluator with continuations; what it answers, the evaluator answers. -/
import Derived.Test.YtomklnbaaelchaaDoorSE24
set_option linter.unusedVariables false
set_option linter.unusedSimpArgs false
namespace Go.ScE

abbrev KE := Env → Fram → List Fram → R0
abbrev KX := Ex → Env → Fram → List Fram → R0
noncomputable def look' (t : Nat) (e : Env) : AV := List.rec (motive := fun _ => AV) deadA (fun p _ ih => Bool.rec (motive := fun _ => AV) ih p.2 (Nat.beq p.1 t)) e
theorem look'_eq (t : Nat) : ∀ e : Env, look' t e = look t e
  | [] => rfl
  | (t', x) :: r => by
    show (Bool.rec (motive := fun _ => AV) (look' t r) x (Nat.beq t' t)) = if t' = t then x else look t r
    by_cases h : t' = t
    · subst h; rw [if_pos rfl, Nat.beq_refl]
    · rw [if_neg h, nbeq_ne h, look'_eq t r]
noncomputable def demK (x : AV) : AV := AV.rec (motive := fun _ => AV) (fun x => .c (CV.rec (motive := fun _ => CV) (fun p => .p p) (fun sz l => .p (.sl sz l)) (fun l o => .ipt l o) (fun d j o => .ref d j o) (fun d j s i o => .aref d j s i o) (fun d j s o n => .arr d j s o n) (fun d j => .mp d j) .dead x)) (fun l => .agg (demL l)) (fun l => .tup (demT l)) x
theorem demK_eq (x : AV) : demK x = demA x := by
  cases x with
  | c x => cases x <;> rfl
  | _ => rfl
noncomputable def rdK (x : XO) (e : Env) (k : AV → Env → R0) : R0 := XO.rec (motive := fun _ => R0) (fun n => k (demK (look' n e)) e) (fun n => k (look' n e) ((n, demK (look' n e)) :: e)) (fun p => k (.c (.p p)) e) (fun sz => k (.c (.own sz [])) e) (fun cs => k (.agg (zvs cs)) e) x
theorem rdK_eq (x : XO) (e : Env) (k : AV → Env → R0) : rdK x e k = k (rdO e x).1 (rdO e x).2 := by
  cases x <;> simp only [rdK, rdO, look'_eq, demK_eq]
noncomputable def rdsK (xs : List XO) : Env → (List AV → Env → R0) → R0 := List.rec (motive := fun _ => Env → (List AV → Env → R0) → R0) (fun e k => k [] e) (fun x _ ih e k => rdK x e fun v e1 => ih e1 fun vs e2 => k (v :: vs) e2) xs
theorem rdsK_eq : ∀ (xs : List XO) (e : Env) (k : List AV → Env → R0), rdsK xs e k = k (rdOs e xs).1 (rdOs e xs).2
  | [], e, k => rfl
  | x :: r, e, k => by
    show (rdK x e fun v e1 => rdsK r e1 fun vs e2 => k (v :: vs) e2) = _
    rw [rdK_eq, rdsK_eq]; rfl
noncomputable def putK (dst : Option Nat) (r : AV) (e : Env) : Env := Option.rec (motive := fun _ => Env) e (fun d => (d, r) :: e) dst
theorem putK_eq (dst : Option Nat) (r : AV) (e : Env) : putK dst r e = putE dst r e := by cases dst <;> rfl
/-- Reading without taking. -/
noncomputable def rdQ (x : XO) (e : Env) (k : AV → R0) : R0 := XO.rec (motive := fun _ => R0) (fun n => k (demK (look' n e))) (fun _ => fail0) (fun p => k (.c (.p p))) (fun sz => k (.c (.own sz []))) (fun cs => k (.agg (zvs cs))) x
theorem rdQ_ok {x : XO} {e : Env} {k : AV → R0} {z : R0} (h : rdQ x e k = z) (g : z.2.2 = true) : (rdO e x).2 = e ∧ k (rdO e x).1 = z := by
  cases x with
  | t n => refine ⟨rfl, ?_⟩; rw [← h]; simp only [rdQ, rdO, look'_eq, demK_eq]
  | tk n => exact fail0_no h g
  | k p => exact ⟨rfl, h⟩
  | kn sz => exact ⟨rfl, h⟩
  | ka cs => exact ⟨rfl, h⟩
noncomputable def rdsQ (xs : List XO) (e : Env) : (List AV → R0) → R0 := List.rec (motive := fun _ => (List AV → R0) → R0) (fun k => k []) (fun x _ ih k => rdQ x e fun v => ih fun vs => k (v :: vs)) xs
theorem rdsQ_ok : ∀ {xs : List XO} {e : Env} {k : List AV → R0} {z : R0} (_ : rdsQ xs e k = z) (_ : z.2.2 = true), (rdOs e xs).2 = e ∧ k (rdOs e xs).1 = z
  | [], e, k, z, h, g => ⟨rfl, h⟩
  | x :: r, e, k, z, h, g => by
    have h : (rdQ x e fun v => rdsQ r e fun vs => k (v :: vs)) = z := h
    obtain ⟨h1, h2⟩ := rdQ_ok h g
    obtain ⟨h3, h4⟩ := rdsQ_ok h2 g
    cases hq : rdO e x with
    | mk v e1 =>
      rw [hq] at h1 h4
      subst h1
      exact ⟨by simp only [rdOs, hq]; exact h3, by simp only [rdOs, hq]; exact h4⟩
/-- Wanted? -/
noncomputable def guardK (b : Bool) (v : AV) (yes : KA → R0) (fr : Fram) (up : List Fram) (k : KA) : R0 := AV.rec (motive := fun _ => R0) (fun x => Option.rec (motive := fun _ => R0) fail0 (fun c => Bool.rec (motive := fun _ => R0) (Bool.rec (motive := fun _ => R0) (yes k) (k undefA fr up) b) (Bool.rec (motive := fun _ => R0) (k undefA fr up) (yes k) b) c) (bvk (litV (.c x)))) (fun _ => fail0) (fun l => List.rec (motive := fun _ => R0) (k undefA fr up) (fun _ _ _ => fail0) l) v
theorem guardK_ok {t : Nat} {b : Bool} {e : Env} {yes : KA → R0} {fr : Fram} {up : List Fram} {k : KA} {z : R0} (h : guardK b (look' t e) yes fr up k = z) (hg : z.2.2 = true) : (wantedX e (some (t, b)) = some true ∧ yes k = z) ∨ (wantedX e (some (t, b)) = some false ∧ k undefA fr up = z) := by
  unfold guardK at h
  rw [look'_eq] at h
  cases hl : look t e with
  | agg l => rw [hl] at h; exact fail0_no h hg
  | tup l =>
    rw [hl] at h
    cases l with
    | nil => exact .inr ⟨by simp only [wantedX, hl], h⟩
    | cons _ _ => exact fail0_no h hg
  | c x =>
    rw [hl] at h
    have h : (Option.rec (motive := fun _ => R0) fail0 (fun c => Bool.rec (motive := fun _ => R0) (Bool.rec (motive := fun _ => R0) (yes k) (k undefA fr up) b) (Bool.rec (motive := fun _ => R0) (k undefA fr up) (yes k) b) c) (bvk (litV (.c x)))) = z := h
    cases hb : bvk (litV (.c x)) with
    | none => rw [hb] at h; exact fail0_no h hg
    | some c =>
      rw [hb] at h
      have hx := litV_b hb
      rw [hx] at hl
      cases c <;> cases b
      · exact .inl ⟨by simp only [wantedX, hl]; rfl, h⟩
      · exact .inr ⟨by simp only [wantedX, hl]; rfl, h⟩
      · exact .inr ⟨by simp only [wantedX, hl]; rfl, h⟩
      · exact .inl ⟨by simp only [wantedX, hl]; rfl, h⟩

noncomputable def stepK (C : Callee) (o : XOper) (e : Env) (fr : Fram) (up : List Fram) (k : KE) : R0 := XOper.rec (motive := fun _ => R0) (fun dst g op xs => Option.rec (motive := fun _ => R0)
  (rdsK xs e fun vs e1 => opK C op vs fr up fun r fr' up' => k (putK dst r e1) fr' up')
  (fun p => guardK p.2 (look' p.1 e) (fun kk => rdsQ xs e fun vs => opK C op vs fr up kk) fr up fun r fr' up' => k (putK dst r e) fr' up') g) o
theorem stepK_ok {C D : Callee} (hL : Le C D) {o : XOper} {e : Env} {fr : Fram} {up : List Fram} {k : KE} {z : R0} (h : stepK C o e fr up k = z) (g : z.2.2 = true) : ∃ e' fr' up', stepX D o ⟨e, fr, up, true⟩ = ⟨e', fr', up', true⟩ ∧ k e' fr' up' = z := by
  obtain ⟨dst, gd, op, xs⟩ := o
  cases gd with
  | none =>
    have h : (rdsK xs e fun vs e1 => opK C op vs fr up fun r fr' up' => k (putK dst r e1) fr' up') = z := h
    rw [rdsK_eq] at h
    obtain ⟨r, fr', up', h3, h4⟩ := opK_ok C op _ fr up _ z h g
    refine ⟨putE dst r (rdOs e xs).2, fr', up', ?_, by rw [← h4, putK_eq]⟩
    simp only [stepX, wantedX, act_le hL h3, Bool.and_self]
  | some p =>
    obtain ⟨t, b⟩ := p
    have h : (guardK b (look' t e) (fun kk => rdsQ xs e fun vs => opK C op vs fr up kk) fr up fun r fr' up' => k (putK dst r e) fr' up') = z := h
    rcases guardK_ok h g with ⟨h1, h2⟩ | ⟨h1, h2⟩
    · obtain ⟨h5, h6⟩ := rdsQ_ok h2 g
      obtain ⟨r, fr', up', h3, h4⟩ := opK_ok C op _ fr up _ z h6 g
      refine ⟨putE dst r e, fr', up', ?_, by rw [← h4, putK_eq]⟩
      simp only [stepX, h1, act_le hL h3, Bool.and_self, h5]
    · exact ⟨putE dst undefA e, fr, up, by simp only [stepX, h1], by rw [← h2, putK_eq]⟩
noncomputable def stepsK (C : Callee) (ops : List XOper) : Env → Fram → List Fram → KE → R0 := List.rec (motive := fun _ => Env → Fram → List Fram → KE → R0) (fun e fr up k => k e fr up) (fun o _ ih e fr up k => stepK C o e fr up fun e fr up => ih e fr up k) ops
theorem stepsK_ok {C D : Callee} (hL : Le C D) : ∀ {ops : List XOper} {e : Env} {fr : Fram} {up : List Fram} {k : KE} {z : R0} (_ : stepsK C ops e fr up k = z) (_ : z.2.2 = true), ∃ e' fr' up', stepsX D ops ⟨e, fr, up, true⟩ = ⟨e', fr', up', true⟩ ∧ k e' fr' up' = z
  | [], e, fr, up, k, z, h, g => ⟨e, fr, up, rfl, h⟩
  | o :: r, e, fr, up, k, z, h, g => by
    have h : (stepK C o e fr up fun e fr up => stepsK C r e fr up k) = z := h
    obtain ⟨e1, fr1, up1, h1, h2⟩ := stepK_ok hL h g
    obtain ⟨e2, fr2, up2, h3, h4⟩ := stepsK_ok hL h2 g
    exact ⟨e2, fr2, up2, by simp only [stepsX, h1, h3], h4⟩
/-- The check of an operation in a region that draws its order. -/
noncomputable def chkD (op : XK) (iso : Bool) (forb : List Nat) (vs : List AV) : Bool := List.rec (motive := fun _ => Bool) (Bool.rec (motive := fun _ => Bool) true (Bool.rec (motive := fun _ => Bool) (freeAs vs) true iso) (isCall op)) (fun _ _ _ => ((!isCall op || iso || freeAs vs) && avoidAs forb vs)) forb
theorem avoidA_nil (x : AV) : avoidA [] x = true := by
  cases x with
  | c x => cases x <;> simp [avoidA, avoidC]
  | _ => rfl
theorem avoidAs_nil : ∀ vs : List AV, avoidAs [] vs = true
  | [] => rfl
  | x :: r => by simp only [avoidAs, avoidA_nil, avoidAs_nil r, Bool.and_self]
theorem chkD_eq (op : XK) (iso : Bool) (forb : List Nat) (vs : List AV) : chkD op iso forb vs = ((!isCall op || iso || freeAs vs) && avoidAs forb vs) := by
  cases forb with
  | cons _ _ => rfl
  | nil =>
    rw [avoidAs_nil, Bool.and_true]
    show (Bool.rec (motive := fun _ => Bool) true (Bool.rec (motive := fun _ => Bool) (freeAs vs) true iso) (isCall op)) = _
    cases isCall op <;> cases iso <;> simp
noncomputable def stepDK (C : Callee) (o : XOperD) (e : Env) (fr : Fram) (up : List Fram) (k : KE) : R0 := XOperD.rec (motive := fun _ => R0) (fun x forb iso => XOper.rec (motive := fun _ => R0) (fun dst g op xs => Option.rec (motive := fun _ => R0)
  (rdsK xs e fun vs e1 => Bool.rec (motive := fun _ => R0) fail0 (opK C op vs fr up fun r fr' up' => k (putK dst r e1) fr' up') (chkD op iso forb vs))
  (fun p => guardK p.2 (look' p.1 e) (fun kk => rdsQ xs e fun vs => Bool.rec (motive := fun _ => R0) fail0 (opK C op vs fr up kk) (chkD op iso forb vs)) fr up fun r fr' up' => k (putK dst r e) fr' up') g) x) o
theorem stepDK_ok {C D : Callee} (hL : Le C D) {o : XOperD} {e : Env} {fr : Fram} {up : List Fram} {k : KE} {z : R0} (h : stepDK C o e fr up k = z) (g : z.2.2 = true) : ∃ e' fr' up', stepD D o ⟨e, fr, up, true⟩ = ⟨e', fr', up', true⟩ ∧ k e' fr' up' = z := by
  obtain ⟨⟨dst, gd, op, xs⟩, forb, iso⟩ := o
  cases gd with
  | none =>
    have h : (rdsK xs e fun vs e1 => Bool.rec (motive := fun _ => R0) fail0 (opK C op vs fr up fun r fr' up' => k (putK dst r e1) fr' up') (chkD op iso forb vs)) = z := h
    rw [rdsK_eq, chkD_eq] at h
    cases hd : ((!isCall op || iso || freeAs (rdOs e xs).1) && avoidAs forb (rdOs e xs).1) with
    | false => rw [hd] at h; exact fail0_no h g
    | true =>
      rw [hd] at h
      obtain ⟨r, fr', up', h3, h4⟩ := opK_ok C op _ fr up _ z h g
      refine ⟨putE dst r (rdOs e xs).2, fr', up', ?_, by rw [← h4, putK_eq]⟩
      simp only [stepD, stepX, dynD, wantedX, act_le hL h3, hd, Bool.and_self]
  | some p =>
    obtain ⟨t, b⟩ := p
    have h : (guardK b (look' t e) (fun kk => rdsQ xs e fun vs => Bool.rec (motive := fun _ => R0) fail0 (opK C op vs fr up kk) (chkD op iso forb vs)) fr up fun r fr' up' => k (putK dst r e) fr' up') = z := h
    rcases guardK_ok h g with ⟨h1, h2⟩ | ⟨h1, h2⟩
    · obtain ⟨h5, h6⟩ := rdsQ_ok h2 g
      rw [chkD_eq] at h6
      cases hd : ((!isCall op || iso || freeAs (rdOs e xs).1) && avoidAs forb (rdOs e xs).1) with
      | false => rw [hd] at h6; exact fail0_no h6 g
      | true =>
        rw [hd] at h6
        obtain ⟨r, fr', up', h3, h4⟩ := opK_ok C op _ fr up _ z h6 g
        refine ⟨putE dst r e, fr', up', ?_, by rw [← h4, putK_eq]⟩
        simp only [stepD, stepX, dynD, h1, act_le hL h3, hd, Bool.and_self, h5]
    · exact ⟨putE dst undefA e, fr, up, by simp only [stepD, stepX, dynD, h1, Bool.and_self], by rw [← h2, putK_eq]⟩
noncomputable def stepsDK (C : Callee) (ops : List XOperD) : Env → Fram → List Fram → KE → R0 := List.rec (motive := fun _ => Env → Fram → List Fram → KE → R0) (fun e fr up k => k e fr up) (fun o _ ih e fr up k => stepDK C o e fr up fun e fr up => ih e fr up k) ops
theorem stepsDK_ok {C D : Callee} (hL : Le C D) : ∀ {ops : List XOperD} {e : Env} {fr : Fram} {up : List Fram} {k : KE} {z : R0} (_ : stepsDK C ops e fr up k = z) (_ : z.2.2 = true), ∃ e' fr' up', stepsD D ops ⟨e, fr, up, true⟩ = ⟨e', fr', up', true⟩ ∧ k e' fr' up' = z
  | [], e, fr, up, k, z, h, g => ⟨e, fr, up, rfl, h⟩
  | o :: r, e, fr, up, k, z, h, g => by
    have h : (stepDK C o e fr up fun e fr up => stepsDK C r e fr up k) = z := h
    obtain ⟨e1, fr1, up1, h1, h2⟩ := stepDK_ok hL h g
    obtain ⟨e2, fr2, up2, h3, h4⟩ := stepsDK_ok hL h2 g
    exact ⟨e2, fr2, up2, by simp only [stepsD, h1, h3], h4⟩
noncomputable def headK (v : AV) (k : AV → R0) : R0 := AV.rec (motive := fun _ => R0) (fun x => k (.c x)) (fun l => k (.agg l)) (fun l => k (.tup l)) v
theorem headK_eq (v : AV) (k : AV → R0) : headK v k = k v := by cases v <;> rfl
noncomputable def kepK (ts : List Nat) : Env → (Env → R0) → R0 := List.rec (motive := fun _ => Env → (Env → R0) → R0) (fun _ k => k []) (fun t _ ih e k => headK (look' t e) fun v => ih e fun e' => k ((t, v) :: e')) ts
theorem kepK_eq : ∀ (ts : List Nat) (e : Env) (k : Env → R0), kepK ts e k = k (keepE ts e)
  | [], e, k => rfl
  | t :: r, e, k => by
    have ih := fun k => kepK_eq r e k
    show (headK (look' t e) fun v => kepK r e fun e' => k ((t, v) :: e')) = _
    rw [headK_eq, ih, look'_eq]; rfl
noncomputable def keptCK (ks : List Nat) (x : CV) : Bool := CV.rec (motive := fun _ => Bool) (fun _ => true) (fun _ _ => true) (fun _ _ => true) (fun d j o => keptC ks (.ref d j o)) (fun d j s i o => keptC ks (.aref d j s i o)) (fun d j s o n => keptC ks (.arr d j s o n)) (fun d j => keptC ks (.mp d j)) true x
theorem keptCK_eq (ks : List Nat) (x : CV) : keptCK ks x = keptC ks x := by cases x <;> rfl
noncomputable def keptLK (ks : List Nat) (l : List CV) : Bool := List.rec (motive := fun _ => Bool) true (fun x _ ih => Bool.rec (motive := fun _ => Bool) false ih (keptCK ks x)) l
theorem keptLK_eq (ks : List Nat) : ∀ l : List CV, keptLK ks l = keptL ks l
  | [] => rfl
  | x :: l => by
    show (Bool.rec (motive := fun _ => Bool) false (keptLK ks l) (keptCK ks x)) = (keptC ks x && keptL ks l)
    rw [keptCK_eq, keptLK_eq]; cases keptC ks x <;> rfl
noncomputable def keptEK (ks : List Nat) (e : Env) : Bool := List.rec (motive := fun _ => Bool) true (fun p _ ih => Bool.rec (motive := fun _ => Bool) false ih (AV.rec (motive := fun _ => Bool) (fun x => keptCK ks x) (fun l => keptLK ks l) (fun l => keptT ks l) p.2)) e
theorem keptEK_eq (ks : List Nat) : ∀ e : Env, keptEK ks e = keptE ks e
  | [] => rfl
  | (t, x) :: r => by
    have e1 : (AV.rec (motive := fun _ => Bool) (fun x => keptCK ks x) (fun l => keptLK ks l) (fun l => keptT ks l) x) = keptA ks x := by
      cases x with
      | c x => exact keptCK_eq ks x
      | agg l => exact keptLK_eq ks l
      | tup l => rfl
    show (Bool.rec (motive := fun _ => Bool) false (keptEK ks r) (AV.rec (motive := fun _ => Bool) (fun x => keptCK ks x) (fun l => keptLK ks l) (fun l => keptT ks l) x)) = (keptA ks x && keptE ks r)
    rw [e1, keptEK_eq ks r]; cases keptA ks x <;> rfl
noncomputable def frK (keep : List Nat) (fr : Fram) (k : Fram → R0) : R0 := List.rec (motive := fun _ => R0) (k []) (fun p r _ => Bool.rec (motive := fun _ => R0) fail0 (k (keepF keep (p :: r))) (keptF keep (keepF keep (p :: r)))) fr
theorem frK_ok {keep : List Nat} {fr : Fram} {k : Fram → R0} {z : R0} (h : frK keep fr k = z) (g : z.2.2 = true) : keptF keep (keepF keep fr) = true ∧ k (keepF keep fr) = z := by
  cases fr with
  | nil => exact ⟨rfl, h⟩
  | cons p r =>
    have h : (Bool.rec (motive := fun _ => R0) fail0 (k (keepF keep (p :: r))) (keptF keep (keepF keep (p :: r)))) = z := h
    cases hk : keptF keep (keepF keep (p :: r)) with
    | false => rw [hk] at h; exact fail0_no h g
    | true => rw [hk] at h; exact ⟨rfl, h⟩
noncomputable def loopK (body : Env → Fram → List Fram → KX → R0) (live keep : List Nat) (n : Nat) : Env → Fram → List Fram → KX → R0 := Nat.rec (motive := fun _ => Env → Fram → List Fram → KX → R0) (fun _ _ _ _ => fail0) (fun _ ih e fr up k => kepK live e fun e1 =>
    Bool.rec (motive := fun _ => R0) fail0 (frK keep fr fun fr1 => body e1 fr1 up fun x e2 fr2 up2 => Ex.rec (motive := fun _ => R0) (ih e2 fr2 up2 k) (fun j => k (.exit j) e2 fr2 up2) (k .ret e2 fr2 up2) x) (keptEK keep e1)) n
noncomputable def regK (C : Callee) (ops : List XOper) (live : List Nat) : Env → Fram → List Fram → KX → R0 := fun e fr up k => stepsK C ops e fr up fun e1 fr1 up1 => kepK live e1 fun e2 => k .normal e2 fr1 up1
noncomputable def regDK (C : Callee) (ops : List XOperD) (live : List Nat) : Env → Fram → List Fram → KX → R0 := fun e fr up k => stepsDK C ops e fr up fun e1 fr1 up1 => kepK live e1 fun e2 => k .normal e2 fr1 up1
noncomputable def seqK (a b : Env → Fram → List Fram → KX → R0) : Env → Fram → List Fram → KX → R0 := fun e fr up k => a e fr up fun x e1 fr1 up1 => Ex.rec (motive := fun _ => R0) (b e1 fr1 up1 k) (fun j => k (.exit j) e1 fr1 up1) (k .ret e1 fr1 up1) x
noncomputable def condK (c : XO) (a b : Env → Fram → List Fram → KX → R0) : Env → Fram → List Fram → KX → R0 := fun e fr up k => rdK c e fun v _ => Option.rec (motive := fun _ => R0) fail0 (fun t => Bool.rec (motive := fun _ => R0) (b e fr up k) (a e fr up k) t) (bvk (litV v))
noncomputable def blockK (id : Nat) (b : Env → Fram → List Fram → KX → R0) : Env → Fram → List Fram → KX → R0 := fun e fr up k => b e fr up fun x e1 fr1 up1 => Ex.rec (motive := fun _ => R0) (k .normal e1 fr1 up1) (fun j => Bool.rec (motive := fun _ => R0) (k (.exit j) e1 fr1 up1) (k .normal e1 fr1 up1) (Nat.beq j id)) (k .ret e1 fr1 up1) x
noncomputable def loopsK (live keep : List Nat) (b : Env → Fram → List Fram → KX → R0) (n : Nat) : Env → Fram → List Fram → KX → R0 := fun e fr up k => loopK b live keep n e fr up k
noncomputable def skipK : Env → Fram → List Fram → KX → R0 := fun e fr up k => k .normal e fr up
noncomputable def exitK (id : Nat) : Env → Fram → List Fram → KX → R0 := fun e fr up k => k (.exit id) e fr up
noncomputable def retK : Env → Fram → List Fram → KX → R0 := fun e fr up k => k .ret e fr up
noncomputable def evK (C : Callee) (n : Nat) (c : XCode) : Env → Fram → List Fram → KX → R0 := XCode.rec (motive := fun _ => Env → Fram → List Fram → KX → R0)
  skipK (fun ops live => regDK C ops live) (fun _ ops live => regK C ops live) (fun _ _ iha ihb => seqK iha ihb) (fun c _ _ iha ihb => condK c iha ihb) (fun id _ ih => blockK id ih) (fun live keep _ ih => loopsK live keep ih n) (fun id => exitK id) retK c
theorem loopK_ok {D : Callee} {N : Nat} {b : XCode} {body : Env → Fram → List Fram → KX → R0} (hb : ∀ {e fr up k z}, body e fr up k = z → z.2.2 = true → ∃ x e' fr' up', evC D N b ⟨e, fr, up, true⟩ = (x, ⟨e', fr', up', true⟩) ∧ k x e' fr' up' = z) {live keep : List Nat} :
    ∀ {n : Nat} {e : Env} {fr : Fram} {up : List Fram} {k : KX} {z : R0} (_ : loopK body live keep n e fr up k = z) (_ : z.2.2 = true), ∃ x e' fr' up', loopX (evC D N b) (headX live keep) n ⟨e, fr, up, true⟩ = (x, ⟨e', fr', up', true⟩) ∧ k x e' fr' up' = z
  | 0, e, fr, up, k, z, h, g => fail0_no h g
  | n + 1, e, fr, up, k, z, h, g => by
    have h : (kepK live e fun e1 => Bool.rec (motive := fun _ => R0) fail0 (frK keep fr fun fr1 => body e1 fr1 up fun x e2 fr2 up2 => Ex.rec (motive := fun _ => R0) (loopK body live keep n e2 fr2 up2 k) (fun j => k (.exit j) e2 fr2 up2) (k .ret e2 fr2 up2) x) (keptEK keep e1)) = z := h
    rw [kepK_eq, keptEK_eq] at h
    cases hk : keptE keep (keepE live e) with
    | false => rw [hk] at h; exact fail0_no h g
    | true =>
      rw [hk] at h
      obtain ⟨hk2, h⟩ := frK_ok h g
      obtain ⟨x, e2, fr2, up2, h1, h2⟩ := hb h g
      have h3 : headX live keep ⟨e, fr, up, true⟩ = ⟨keepE live e, keepF keep fr, up, true⟩ := by
        simp only [headX, Bool.true_and, hk, hk2]
      cases x with
      | normal =>
        obtain ⟨y, e4, fr4, up4, h5, h6⟩ := loopK_ok hb (n := n) h2 g
        exact ⟨y, e4, fr4, up4, by simp only [loopX, h3, h1, h5], h6⟩
      | exit j => exact ⟨.exit j, e2, fr2, up2, by simp only [loopX, h3, h1], h2⟩
      | ret => exact ⟨.ret, e2, fr2, up2, by simp only [loopX, h3, h1], h2⟩
theorem evK_ok {C D : Callee} (hL : Le C D) (n : Nat) : ∀ (c : XCode) {e : Env} {fr : Fram} {up : List Fram} {k : KX} {z : R0} (_ : evK C n c e fr up k = z) (_ : z.2.2 = true), ∃ x e' fr' up', evC D n c ⟨e, fr, up, true⟩ = (x, ⟨e', fr', up', true⟩) ∧ k x e' fr' up' = z := by
  intro c
  induction c with
  | skip => intro e fr up k z h g; exact ⟨.normal, e, fr, up, rfl, h⟩
  | regionD ops live =>
    intro e fr up k z h g
    obtain ⟨e1, fr1, up1, h1, h2⟩ := stepsDK_ok hL (ops := ops) (e := e) (fr := fr) (up := up) (k := fun e1 fr1 up1 => kepK live e1 fun e2 => k .normal e2 fr1 up1) h g
    rw [kepK_eq] at h2
    exact ⟨.normal, _, fr1, up1, by simp only [evC, h1], h2⟩
  | region d ops live =>
    intro e fr up k z h g
    obtain ⟨e1, fr1, up1, h1, h2⟩ := stepsK_ok hL (ops := ops) (e := e) (fr := fr) (up := up) (k := fun e1 fr1 up1 => kepK live e1 fun e2 => k .normal e2 fr1 up1) h g
    rw [kepK_eq] at h2
    exact ⟨.normal, _, fr1, up1, by simp only [evC, h1], h2⟩
  | seq a b iha ihb =>
    intro e fr up k z h g
    obtain ⟨x, e1, fr1, up1, h1, h2⟩ := iha (e := e) (fr := fr) (up := up) (k := fun x e1 fr1 up1 => Ex.rec (motive := fun _ => R0) (evK C n b e1 fr1 up1 k) (fun j => k (.exit j) e1 fr1 up1) (k .ret e1 fr1 up1) x) h g
    cases x with
    | normal =>
      obtain ⟨y, e2, fr2, up2, h3, h4⟩ := ihb h2 g
      exact ⟨y, e2, fr2, up2, by simp only [evC, h1, h3], h4⟩
    | exit j => exact ⟨.exit j, e1, fr1, up1, by simp only [evC, h1], h2⟩
    | ret => exact ⟨.ret, e1, fr1, up1, by simp only [evC, h1], h2⟩
  | cond c a b iha ihb =>
    intro e fr up k z h g
    have h : (rdK c e fun v _ => Option.rec (motive := fun _ => R0) fail0 (fun t => Bool.rec (motive := fun _ => R0) (evK C n b e fr up k) (evK C n a e fr up k) t) (bvk (litV v))) = z := h
    rw [rdK_eq] at h
    cases hb : bvk (litV (rdO e c).1) with
    | none => rw [hb] at h; exact fail0_no h g
    | some t =>
      rw [hb] at h
      have hv := litV_b hb
      cases t with
      | true =>
        obtain ⟨x, e1, fr1, up1, h1, h2⟩ := iha h g
        exact ⟨x, e1, fr1, up1, by simp only [evC, hv, h1], h2⟩
      | false =>
        obtain ⟨x, e1, fr1, up1, h1, h2⟩ := ihb h g
        exact ⟨x, e1, fr1, up1, by simp only [evC, hv, h1], h2⟩
  | block id b ih =>
    intro e fr up k z h g
    obtain ⟨x, e1, fr1, up1, h1, h2⟩ := ih (e := e) (fr := fr) (up := up) (k := fun x e1 fr1 up1 => Ex.rec (motive := fun _ => R0) (k .normal e1 fr1 up1) (fun j => Bool.rec (motive := fun _ => R0) (k (.exit j) e1 fr1 up1) (k .normal e1 fr1 up1) (Nat.beq j id)) (k .ret e1 fr1 up1) x) h g
    cases x with
    | normal => exact ⟨.normal, e1, fr1, up1, by simp only [evC, h1], h2⟩
    | ret => exact ⟨.ret, e1, fr1, up1, by simp only [evC, h1], h2⟩
    | exit j =>
      by_cases hj : j = id
      · subst hj
        have h2 : (Bool.rec (motive := fun _ => R0) (k (.exit j) e1 fr1 up1) (k .normal e1 fr1 up1) (Nat.beq j j)) = z := h2
        rw [Nat.beq_refl] at h2
        exact ⟨.normal, e1, fr1, up1, by simp only [evC, h1, if_true], h2⟩
      · have h2 : (Bool.rec (motive := fun _ => R0) (k (.exit j) e1 fr1 up1) (k .normal e1 fr1 up1) (Nat.beq j id)) = z := h2
        rw [nbeq_ne hj] at h2
        exact ⟨.exit j, e1, fr1, up1, by simp only [evC, h1, if_neg hj], h2⟩
  | loop live keep b ih =>
    intro e fr up k z h g
    exact loopK_ok (D := D) (N := n) (b := b) (body := evK C n b) (fun hh gg => ih hh gg) h g
  | exit i => intro e fr up k z h g; exact ⟨.exit i, e, fr, up, rfl, h⟩
  | ret => intro e fr up k z h g; exact ⟨.ret, e, fr, up, rfl, h⟩

/-- A function's code, as a list of operations or laid out. -/
abbrev KC := Callee → Nat → Env → Fram → List Fram → KX → R0
noncomputable def runK (C : Callee) (n : Nat) (xf : XFunc) (c : KC) (args : List AV) (frames : List Fram) : R0 :=
  Bool.rec (motive := fun _ => R0) fail0 (c C n (zipArgs 0 (upAs 1 args)) [] frames fun x e fr up => Ex.rec (motive := fun _ => R0) (finF xf e fr up) (fun _ => fail0) (finF xf e fr up) x) (args.length == xf.np)
noncomputable def evKF (tbl : FuncId → Option (XFunc × KC)) (ext : Callee) (k : Nat) : Callee := Nat.rec (motive := fun _ => Callee) (fun _ _ _ => (deadA, [], false)) (fun k ih f args frames => Option.rec (motive := fun _ => R0) (ext f args frames) (fun xf => Prod.rec (motive := fun _ => R0) (fun xf c => runK ih k xf c args frames) xf) (tbl f)) k
noncomputable def asIs (xf : XFunc) : XFunc × KC := (xf, fun C n => evK C n xf.body)
theorem runK_ok {C D : Callee} (hL : Le C D) {n : Nat} {xf : XFunc} {c : KC} (hc : c C n = evK C n xf.body) {args : List AV} {frames frames' : List Fram} {r : AV} (hr : runK C n xf c args frames = (r, frames', true)) : runX D n xf args frames = (r, frames', true) := by
  unfold runK at hr
  rw [hc] at hr
  unfold runX
  cases hl : (args.length == xf.np) with
  | false => rw [hl] at hr; exact fail0_no hr rfl
  | true =>
    rw [hl] at hr
    obtain ⟨x, e, fr, up, h1, h2⟩ := evK_ok hL n xf.body (k := fun x e fr up => Ex.rec (motive := fun _ => R0) (finF xf e fr up) (fun _ => fail0) (finF xf e fr up) x) hr rfl
    have hfin : finF xf e fr up = (r, frames', true) → (match resXs ⟨e, fr, up, true⟩ xf.res with
        | none => ((deadA, [], false) : AV × List Fram × Bool)
        | some rs => let t := frzA fr (tupA rs); (downA 1 t, up, true && outA 1 t)) = (r, frames', true) := fun hf => by
      unfold finF at hf
      split at hf
      · simp at hf
      · rename_i rs hrs
        simp only [hrs, Bool.true_and]; exact hf
    rw [h1]
    cases x with
    | exit j => exact fail0_no h2 rfl
    | normal => exact hfin h2
    | ret => exact hfin h2
/-- A table of functions with their codes laid out, beside the table of functions. -/
def Laid (tbl : FuncId → Option XFunc) (ktbl : FuncId → Option (XFunc × KC)) : Prop := ∀ f, (ktbl f = none → tbl f = none) ∧ ∀ xf c, ktbl f = some (xf, c) → tbl f = some xf ∧ ∀ C n, c C n = evK C n xf.body
theorem evKF_le {tbl : FuncId → Option XFunc} {ktbl : FuncId → Option (XFunc × KC)} (hT : Laid tbl ktbl) (ext : Callee) : ∀ k, Le (evKF ktbl ext k) (evF tbl ext k)
  | 0 => fun f args frames r frames' h => by
    have : ((deadA, [], false) : AV × List Fram × Bool) = (r, frames', true) := h
    simp at this
  | k + 1 => fun f args frames r frames' h => by
    have h : (Option.rec (motive := fun _ => R0) (ext f args frames) (fun xf => Prod.rec (motive := fun _ => R0) (fun xf c => runK (evKF ktbl ext k) k xf c args frames) xf) (ktbl f)) = (r, frames', true) := h
    simp only [evF]
    cases hx : ktbl f with
    | none => rw [hx] at h; simp only [(hT f).1 hx]; exact h
    | some xc =>
      obtain ⟨xf, c⟩ := xc
      rw [hx] at h
      obtain ⟨h1, h2⟩ := (hT f).2 xf c hx
      simp only [h1]
      exact runK_ok (evKF_le hT ext k) (h2 _ _) h
end Go.ScE
