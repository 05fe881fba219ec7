/- S4: operations with continuations on values with names. -/
import Derived.Test.YtomklnbaaelchaaDoorSS3
set_option linter.unusedVariables false
set_option linter.unusedSimpArgs false
namespace Go.ScE

/-- What an operation on values with names is to be. -/
def SOk (ρ : List Int) (D : Callee) (op : XK) (vs : List AV) (h : Fram → List Fram → KA → R0) : Prop := ∀ (fr : Fram) (up : List Fram) (k : KA) (x : R0), h fr up k = x → x.2.2 = true →
  ∃ r fr' up', act D op (cAs ρ vs) (cF ρ fr) (cFs ρ up) = (cA ρ r, cF ρ fr', cFs ρ up', true) ∧ k r fr' up' = x
theorem nat_ok {ρ : List Int} {C D : Callee} (hC : CNat ρ C D) {op : XK} {vs : List AV} {h : Fram → List Fram → KA → R0} (hh : HOk C op vs h) (hc : clK op = true) (hs : safeK op vs = true) : SOk ρ D op vs h := by
  intro fr up k x hx g
  obtain ⟨r, fr', up', h1, h2⟩ := hh fr up k x hx g
  exact ⟨r, fr', up', act_nat hC h1 hc hs, h2⟩
abbrev fc : Callee := fun _ _ _ => fail0
theorem cnat_fc (ρ : List Int) (D : Callee) : CNat ρ fc D := fun f args frames r frames' h => by cases h

noncomputable def forceRow (l : List PV) : (List PV → R0) → R0 := List.rec (motive := fun _ => (List PV → R0) → R0) (fun k => k []) (fun p _ ih k => forceP p fun p => ih fun r => k (p :: r)) l
theorem forceRow_eq : ∀ (l : List PV) (k : List PV → R0), forceRow l k = k l
  | [], k => rfl
  | p :: l, k => by
    have ih := forceRow_eq l
    show (forceP p fun p => forceRow l fun r => k (p :: r)) = _
    rw [forceP_eq, ih]
noncomputable def forceS (p : PV) (k : PV → R0) : R0 := PV.casesOn (motive_1 := fun _ => R0) p (fun v => forceV v fun v => k (.lit v)) (fun sz l => List.rec (motive := fun _ => R0) (k (.sl sz [])) (fun row r _ => forceRow row fun row => k (.sl sz (row :: r))) l)
theorem forceS_eq (p : PV) (k : PV → R0) : forceS p k = k p := by
  cases p with
  | lit v => exact forceV_eq v fun v => k (.lit v)
  | sl sz l =>
    cases l with
    | nil => rfl
    | cons row r => exact forceRow_eq row fun row => k (.sl sz (row :: r))
noncomputable def isSy (x : AV) : Bool := AV.rec (motive := fun _ => Bool) (fun x => CV.rec (motive := fun _ => Bool) (fun p => PV.casesOn (motive_1 := fun _ => Bool) p (fun _ => false) (fun sz _ => Nat.beq sz SYMI)) (fun _ _ => false) (fun _ _ => false) (fun _ _ _ => false) (fun _ _ _ _ _ => false) (fun _ _ _ _ _ => false) (fun _ _ => false) false x) (fun _ => false) (fun _ => false) x
/-- A row that is kept by its places. -/
noncomputable def isSp (x : AV) : Bool := AV.rec (motive := fun _ => Bool) (fun x => CV.rec (motive := fun _ => Bool) (fun p => PV.casesOn (motive_1 := fun _ => Bool) p (fun _ => false) (fun sz _ => Nat.beq sz SPAR)) (fun _ _ => false) (fun _ _ => false) (fun _ _ _ => false) (fun _ _ _ _ _ => false) (fun _ _ sz _ _ => Nat.beq sz SPAR) (fun _ _ => false) false x) (fun _ => false) (fun _ => false) x
noncomputable def isSr (x : AV) : Bool := AV.rec (motive := fun _ => Bool) (fun x => CV.rec (motive := fun _ => Bool) (fun _ => false) (fun _ _ => false) (fun _ _ => false) (fun _ _ _ => false) (fun _ _ sz _ _ => Nat.beq sz SPAR) (fun _ _ _ _ _ => false) (fun _ _ => false) false x) (fun _ => false) (fun _ => false) x
theorem nbeq_f {a b : Nat} (h : Nat.beq a b = false) : a ≠ b := fun e => by subst e; rw [Nat.beq_refl] at h; cases h
noncomputable def symK (o : Option PV) (k : PV → R0) : R0 := Option.rec (motive := fun _ => R0) fail0 (fun p => forceS p k) o
theorem symK_ok {o : Option PV} {k : PV → R0} {z : R0} (h : symK o k = z) (g : z.2.2 = true) : ∃ p, o = some p ∧ k p = z := by
  cases o with
  | none => exact fail0_no h g
  | some p => exact ⟨p, rfl, by rw [← h]; exact (forceS_eq p k).symm⟩
/-- Two numbers, one of them with names. -/
def binS (B : Sy) (op : BinOp) (x y : AV) : Option PV := match fmA x, fmA y with
  | some f, some g => symBin B op f g
  | _, _ => none
theorem binS_ok {B : Sy} {ρ : List Int} (hB : Holds B ρ) {D : Callee} {op : BinOp} {bq : Bool} {x y : AV} {p : PV} (h : binS B op x y = some p) (fr : Fram) (up : List Fram) : act D (.bin op bq) (cAs ρ [x, y]) fr up = (cA ρ (.c (.p p)), fr, up, true) := by
  unfold binS at h
  split at h
  · rename_i f g hf hg
    obtain ⟨v, h1, h2⟩ := symBin_ok hB h bq
    simp only [cAs, fmA_c ρ hf, fmA_c ρ hg, act, h1, litC, same, cA_c, cC_p, h2]
  · cases h
noncomputable def hBinS (B : Sy) (op : BinOp) (bq : Bool) (x y : AV) (fr : Fram) (up : List Fram) (k : KA) : R0 := VK.rec (motive := fun _ => R0)
  (fun kx n => VK.rec (motive := fun _ => R0) (fun ky m => ibin op kx ky n m fun r => k r fr up) (symK (binS B op x y) fun p => k (.c (.p p)) fr up) (vk (litV y)))
  (Bool.rec (motive := fun _ => R0) (hGen fc (.bin op bq) [x, y] fr up k) (symK (binS B op x y) fun p => k (.c (.p p)) fr up) (isSy x)) (vk (litV x))
theorem hBinS_ok {B : Sy} {ρ : List Int} (hB : Holds B ρ) (D : Callee) (op : BinOp) (bq : Bool) (x y : AV) : SOk ρ D (.bin op bq) [x, y] (hBinS B op bq x y) := by
  intro fr up k z h g
  have sym : (symK (binS B op x y) fun p => k (.c (.p p)) fr up) = z → ∃ r fr' up', act D (.bin op bq) (cAs ρ [x, y]) (cF ρ fr) (cFs ρ up) = (cA ρ r, cF ρ fr', cFs ρ up', true) ∧ k r fr' up' = z := fun h => by
    obtain ⟨p, h1, h2⟩ := symK_ok h g
    exact ⟨_, fr, up, binS_ok hB h1 _ _, h2⟩
  unfold hBinS at h
  cases hx : vk (litV x) with
  | o =>
    rw [hx] at h
    cases hs : isSy x with
    | false => rw [hs] at h; exact nat_ok (cnat_fc ρ D) (hGen_ok fc (.bin op bq) [x, y]) rfl rfl fr up k z h g
    | true => rw [hs] at h; exact sym h
  | i kx n =>
    rw [hx] at h
    have h1 := litV_i hx
    cases hy : vk (litV y) with
    | o => rw [hy] at h; exact sym h
    | i ky m =>
      rw [hy] at h
      have h2 := litV_i hy
      subst h1 h2
      obtain ⟨v, e1, e2⟩ := ibin_ok op bq kx ky n m (fun r => k r fr up) z h g
      exact ⟨_, fr, up, by simp only [cAs, cA_c, cC_p, cP_lit, act, e1, litC, same], e2⟩

/-! ### rows kept by their places -/
def hdrS (l : List (List PV)) : Option (PV × Fm × List (List PV)) := match l with
  | [p] :: r => (match fmP p with
    | some f => some (p, f, r)
    | none => none)
  | _ => none
def decF (i : Nat) : Fm := ⟨.i64, ((i % BAS : Nat) : Int), [((i / BAS % BAS : Nat) : Int), ((i / BAS / BAS : Nat) : Int)]⟩
theorem decF_ev (ρ : List Int) (i : Nat) : decN ρ i = ((decF i).ev ρ).toNat := rfl
def geF (B : Sy) (f : Fm) : Bool := ge0 B f.c f.ds
theorem geF_ok {B : Sy} {ρ : List Int} (hB : Holds B ρ) {f : Fm} (h : geF B f = true) : 0 ≤ f.ev ρ := ge0_ok hB h
/-- f is below g. -/
def ltF (B : Sy) (f g : Fm) : Bool := ge0 B (g.c - f.c - 1) (subL g.ds f.ds)
theorem ltF_ok {B : Sy} {ρ : List Int} (hB : Holds B ρ) {f g : Fm} (h : ltF B f g = true) : f.ev ρ < g.ev ρ := by
  have := ge0_ok hB h
  rw [dot_sub] at this
  simp only [Fm.ev]; omega
def eqF (f g : Fm) : Bool := zeroL (subL f.ds g.ds) && decide (f.c = g.c)
theorem eqF_ok (ρ : List Int) {f g : Fm} (h : eqF f g = true) : f.ev ρ = g.ev ρ := by
  simp only [eqF, Bool.and_eq_true, decide_eq_true_eq] at h
  have := dot_zero ρ h.1
  rw [dot_sub] at this
  simp only [Fm.ev]; omega
def encF (f : Fm) : Option Nat := if eqF (decF (f.c.toNat + BAS * ((f.ds.getD 0 0).toNat + BAS * (f.ds.getD 1 0).toNat))) f = true then some (f.c.toNat + BAS * ((f.ds.getD 0 0).toNat + BAS * (f.ds.getD 1 0).toNat)) else none
theorem encF_ok (ρ : List Int) {f : Fm} {i : Nat} (h : encF f = some i) : decN ρ i = (f.ev ρ).toNat := by
  unfold encF at h
  split at h
  · rename_i he; cases h; rw [decF_ev, eqF_ok ρ he]
  · cases h
def lkS (B : Sy) (g : Fm) : List (List PV) → Option PV
  | [] => some (.lit (.int .i64 0))
  | [a, v] :: r => (match fmP a with
    | some f => (match eqS B (f.c - g.c) (subL f.ds g.ds) with
      | some true => some v
      | some false => lkS B g r
      | none => none)
    | none => none)
  | _ => none
theorem eqS_ev {B : Sy} {ρ : List Int} (hB : Holds B ρ) {f g : Fm} {b : Bool} (h : eqS B (f.c - g.c) (subL f.ds g.ds) = some b) : b = decide (f.ev ρ = g.ev ρ) := by
  have := eqS_ok hB h
  rw [this, dot_sub]
  have e : f.ev ρ - g.ev ρ = f.c - g.c + (dotI f.ds ρ - dotI g.ds ρ) := by simp only [Fm.ev]; omega
  rw [← e]
  by_cases h : f.ev ρ = g.ev ρ
  · rw [decide_eq_true h, decide_eq_true (by omega)]
  · rw [decide_eq_false h, decide_eq_false (by omega)]
theorem lkS_ok {B : Sy} {ρ : List Int} (hB : Holds B ρ) {g : Fm} : ∀ {r : List (List PV)} {v : PV} (_ : lkS B g r = some v), lkO (g.ev ρ) (cPss ρ r) = cP ρ v
  | [], v, h => by cases h; simp [cPss, lkO]
  | [a, w] :: r, v, h => by
    simp only [lkS] at h
    cases hf : fmP a with
    | none => rw [hf] at h; cases h
    | some f =>
      rw [hf] at h
      simp only at h
      cases hq : eqS B (f.c - g.c) (subL f.ds g.ds) with
      | none => rw [hq] at h; cases h
      | some b =>
        rw [hq] at h
        have hb := eqS_ev hB hq
        simp only [cPss, cPs, fmP_c ρ hf, lkO]
        cases b with
        | true =>
          cases h
          rw [if_pos (of_decide_eq_true hb.symm)]
        | false =>
          rw [if_neg (of_decide_eq_false hb.symm)]
          exact lkS_ok hB h
  | [] :: _, v, h => by cases h
  | [_] :: _, v, h => by cases h
  | (_ :: _ :: _ :: _) :: _, v, h => by cases h
def upS (B : Sy) (g : Fm) (gp p : PV) : List (List PV) → Option (List (List PV))
  | [] => some [[gp, p]]
  | [a, v] :: r => (match fmP a with
    | some f => (match eqS B (f.c - g.c) (subL f.ds g.ds) with
      | some true => some ([a, p] :: r)
      | some false => (match upS B g gp p r with
        | some r' => some ([a, v] :: r')
        | none => none)
      | none => none)
    | none => none)
  | _ => none
theorem upS_ok {B : Sy} {ρ : List Int} (hB : Holds B ρ) {g : Fm} {gp p : PV} {kk : IntKind} (hg : cP ρ gp = .lit (.int kk (g.ev ρ))) : ∀ {r r' : List (List PV)} (_ : upS B g gp p r = some r') (j : Int), lkO j (cPss ρ r') = if j = g.ev ρ then cP ρ p else lkO j (cPss ρ r)
  | [], r', h, j => by
    cases h
    simp only [cPss, cPs, hg, lkO]
    by_cases e : j = g.ev ρ
    · rw [if_pos e.symm, if_pos e]
    · rw [if_neg (fun x => e x.symm), if_neg e]
  | [a, w] :: r, r', h, j => by
    simp only [upS] at h
    cases hf : fmP a with
    | none => rw [hf] at h; cases h
    | some f =>
      rw [hf] at h
      simp only at h
      cases hq : eqS B (f.c - g.c) (subL f.ds g.ds) with
      | none => rw [hq] at h; cases h
      | some b =>
        rw [hq] at h
        have hb := eqS_ev hB hq
        cases b with
        | true =>
          cases h
          have e := of_decide_eq_true hb.symm
          simp only [cPss, cPs, fmP_c ρ hf, lkO, e]
          by_cases e2 : j = g.ev ρ
          · rw [if_pos e2.symm, if_pos e2]
          · rw [if_neg (fun x => e2 x.symm), if_neg e2, if_neg (fun x => e2 x.symm)]
        | false =>
          have e := of_decide_eq_false hb.symm
          cases hu : upS B g gp p r with
          | none => rw [hu] at h; cases h
          | some r2 =>
            rw [hu] at h; cases h
            have ih := upS_ok hB hg hu j
            simp only [cPss, cPs, fmP_c ρ hf, lkO, ih]
            by_cases e2 : f.ev ρ = j
            · rw [if_pos e2, if_pos e2, if_neg (fun x => e (e2.trans x))]
            · rw [if_neg e2, if_neg e2]
  | [] :: _, r', h, j => by cases h
  | [_] :: _, r', h, j => by cases h
  | (_ :: _ :: _ :: _) :: _, r', h, j => by cases h
theorem hdrS_ok (ρ : List Int) {l : List (List PV)} {p : PV} {f : Fm} {r : List (List PV)} (h : hdrS l = some (p, f, r)) : l = [p] :: r ∧ cP ρ p = .lit (.int f.k (f.ev ρ)) ∧ expL (cPss ρ l) = (List.range (f.ev ρ).toNat).map fun (i : Nat) => [lkO (i : Int) (cPss ρ r)] := by
  unfold hdrS at h
  split at h
  · split at h
    · rename_i f hf
      cases h
      have := fmP_c ρ hf
      exact ⟨rfl, this, by simp only [cPss, cPs, this, expL]⟩
    · cases h
  · cases h
theorem exp_len (n : Nat) (g : Nat → List PV) : ((List.range n).map g).length = n := by simp
theorem exp_get {n i : Nat} (g : Nat → List PV) (h : i < n) : ((List.range n).map g).getD i [] = g i := by
  rw [List.getD_eq_getElem?_getD, List.getElem?_map, List.getElem?_range h]; rfl

def isZ1 (z : List PV) : Bool := match z with
  | [.lit (.int k n)] => decide (k = .i64) && decide (n = 0)
  | _ => false
theorem isZ1_ok {z : List PV} (h : isZ1 z = true) : z = [.lit (.int .i64 0)] := by
  unfold isZ1 at h
  split at h
  · simp only [Bool.and_eq_true, decide_eq_true_eq] at h; rw [h.1, h.2]
  · cases h
def mksS (B : Sy) (s sz : Nat) (z : List PV) (x y : AV) (fr : Fram) : Option (AV × Fram) := match x, y with
  | .c (.p p), .c (.p q) => (match fmP p, fmP q with
    | some f, some g => (match encF f with
      | some i => if sz = 1 ∧ isZ1 z = true ∧ f.k = .i64 ∧ g.k = .i64 ∧ eqF f g = true ∧ inR B (64 * f.c) (sclL 64 f.ds) roomy = true ∧ hhas s fr = false then some (.c (.arr 0 s SPAR 0 i), (s, .arr SPAR [[p]]) :: fr) else none
      | none => none)
    | _, _ => none)
  | _, _ => none
theorem mksS_ok {B : Sy} {ρ : List Int} (hB : Holds B ρ) {D : Callee} {s sz : Nat} {z : List PV} {x y r : AV} {fr fr' : Fram} (h : mksS B s sz z x y fr = some (r, fr')) (up : List Fram) :
    act D (.mks s sz z) (cAs ρ [x, y]) (cF ρ fr) (cFs ρ up) = (cA ρ r, cF ρ fr', cFs ρ up, true) := by
  unfold mksS at h
  split at h
  · rename_i p q
    split at h
    · rename_i f g hf hg
      split at h
      · rename_i i hi
        split at h
        · rename_i hc
          obtain ⟨rfl, hz, hk, hk', he, hr, hh⟩ := hc
          cases h
          have := isZ1_ok hz; subst this
          have e1 := fmP_c ρ hf
          have e2 := fmP_c ρ hg
          rw [hk] at e1
          rw [hk', ← eqF_ok ρ he] at e2
          obtain ⟨a1, a2⟩ := inR_ok hB hr
          rw [dot_scl] at a1 a2
          have a3 : 64 * f.c + 64 * dotI f.ds ρ = f.ev ρ * 64 := by simp only [Fm.ev]; omega
          rw [a3] at a1 a2
          simp only [cAs, cA_c, cC_p, e1, e2, act, cF, cH_arr, hhas_c, hh, cC_arr, if_true, encF_ok ρ hi]
          have e3 : expL (cPss ρ [[p]]) = List.replicate (f.ev ρ).toNat [.lit (.int .i64 0)] := by
            simp only [cPss, cPs, e1, expL, lkO]
            apply List.ext_getElem
            · simp
            · intro n h1 h2; simp
          rw [e3]
          have e4 : decide (0 ≤ f.ev ρ ∧ True ∧ f.ev ρ * 64 ≤ (roomy : Int)) = true := by
            rw [decide_eq_true_eq]; exact ⟨by omega, trivial, a2⟩
          simp only [e4]; rfl
        · cases h
      · cases h
    · cases h
  · cases h
def iaS (B : Sy) (sz : Nat) (x y : AV) : Option AV := match x with
  | .c (.arr d j sz' off m) => (match fmA y with
    | some g => (match encF g with
      | some i => if sz = 1 ∧ sz' = SPAR ∧ off = 0 ∧ geF B g = true ∧ ltF B g (decF m) = true then some (.c (.aref d j SPAR i 0)) else none
      | none => none)
    | none => none)
  | .c (.p (.sl sz' l)) => (match fmA y, hdrS l with
    | some g, some (p, f, r) => if sz = 1 ∧ sz' = SPAR ∧ geF B g = true ∧ ltF B g f = true then (match lkS B g r with
        | some v => some (.c (.ipt [v] 0))
        | none => none) else none
    | _, _ => none)
  | _ => none
theorem iaS_ok {B : Sy} {ρ : List Int} (hB : Holds B ρ) {D : Callee} {sz : Nat} {x y r : AV} (h : iaS B sz x y = some r) (fr : Fram) (up : List Fram) : act D (.ia sz) (cAs ρ [x, y]) fr up = (cA ρ r, fr, up, true) := by
  unfold iaS at h
  split at h
  · rename_i d j sz' off m
    split at h
    · rename_i g hg
      split at h
      · rename_i i hi
        split at h
        · rename_i hc
          obtain ⟨rfl, rfl, rfl, h1, h2⟩ := hc
          cases h
          have a1 := geF_ok hB h1
          have a2 := ltF_ok hB h2
          have e1 := encF_ok ρ hi
          simp only [cAs, fmA_c ρ hg, cA_c, cC_arr, cC_aref, if_true, act, e1, decF_ev ρ m]
          have e2 : decide (True ∧ 0 ≤ g.ev ρ ∧ g.ev ρ < (((decF m).ev ρ).toNat : Int)) = true := by
            rw [decide_eq_true_eq]; exact ⟨trivial, a1, by omega⟩
          simp only [e2, Nat.zero_add]
        · cases h
      · cases h
    · cases h
  · rename_i sz' l
    split at h
    · rename_i g p f r hg hh
      split at h
      · rename_i hc
        obtain ⟨rfl, rfl, h1, h2⟩ := hc
        have a1 := geF_ok hB h1
        have a2 := ltF_ok hB h2
        split at h
        · rename_i v hv
          cases h
          obtain ⟨rfl, b1, b2⟩ := hdrS_ok ρ hh
          have e3 := lkS_ok hB hv
          simp only [cAs, fmA_c ρ hg, cA_c, cC_p, cP_spar, b2, act, exp_len]
          have e2 : decide (True ∧ 0 ≤ g.ev ρ ∧ g.ev ρ < ((f.ev ρ).toNat : Int)) = true := by
            rw [decide_eq_true_eq]; exact ⟨trivial, a1, by omega⟩
          simp only [e2]
          rw [exp_get _ (by omega)]
          have e4 : (((g.ev ρ).toNat : Nat) : Int) = g.ev ρ := by omega
          simp only [e4, e3, cC_ipt, cPs]
        · cases h
      · cases h
    · cases h
  · cases h
def ldS (B : Sy) (agg : Bool) (n : Nat) (x : AV) (fs : List Fram) : Option PV := match x with
  | .c (.aref d j sz i o) => (match getH d j fs with
    | some (.arr sz' l) => (match hdrS l with
      | some (p, f, r) => if agg = false ∧ n = 1 ∧ o = 0 ∧ sz = SPAR ∧ sz' = SPAR ∧ geF B (decF i) = true ∧ ltF B (decF i) f = true then lkS B (decF i) r else none
      | none => none)
    | _ => none)
  | _ => none
theorem ldS_ok {B : Sy} {ρ : List Int} (hB : Holds B ρ) {D : Callee} {agg take : Bool} {n : Nat} {x : AV} {v : PV} {fr : Fram} {up : List Fram} (h : ldS B agg n x (fr :: up) = some v) : act D (.ld agg n take) (cAs ρ [x]) (cF ρ fr) (cFs ρ up) = (cA ρ (.c (.p v)), cF ρ fr, cFs ρ up, true) := by
  unfold ldS at h
  split at h
  · rename_i d j sz i o
    split at h
    · rename_i sz' l hg
      split at h
      · rename_i p f r hh
        split at h
        · rename_i hc
          obtain ⟨rfl, rfl, rfl, rfl, rfl, h1, h2⟩ := hc
          have a1 := geF_ok hB h1
          have a2 := ltF_ok hB h2
          obtain ⟨rfl, b1, b2⟩ := hdrS_ok ρ hh
          have e3 := lkS_ok hB h
          have hg2 : getH d j (cF ρ fr :: cFs ρ up) = some (.arr 1 ((List.range (f.ev ρ).toNat).map fun (i : Nat) => [lkO (i : Int) (cPss ρ r)])) := by
            have := getH_c (ρ := ρ) d j (fr :: up)
            rw [hg] at this
            simp only [cFs] at this
            rw [this, Option.map_some, cH_arr, if_pos rfl, b2]
          simp only [cAs, cA_c, cC_aref, if_true, act, hg2, decF_ev ρ i, exp_len]
          rw [exp_get _ (by omega)]
          have e4 : ((((decF i).ev ρ).toNat : Nat) : Int) = (decF i).ev ρ := by omega
          have e2 : decide (True ∧ ((decF i).ev ρ).toNat < (f.ev ρ).toNat ∧ 0 + 1 ≤ 1) = true := by
            rw [decide_eq_true_eq]; exact ⟨trivial, by omega, by omega⟩
          simp only [e2, e4, e3]
          rfl
        · cases h
      · cases h
    · cases h
  · cases h
def isF (gp : PV) (f : Fm) : Bool := match fmP gp with
  | some g => eqF g f
  | none => false
theorem isF_ok (ρ : List Int) {gp : PV} {f : Fm} (h : isF gp f = true) : ∃ kk, cP ρ gp = .lit (.int kk (f.ev ρ)) := by
  unfold isF at h
  split at h
  · rename_i g hg; exact ⟨g.k, by rw [fmP_c ρ hg, eqF_ok ρ h]⟩
  · cases h
def stS (B : Sy) (gp : PV) (n : Nat) (x v : AV) (fr : Fram) (up : List Fram) : Option (Fram × List Fram) := match x with
  | .c (.aref d j sz i o) => (match getH d j (fr :: up), (cellsA v).bind toPs with
    | some (.arr sz' l), some [p] => (match hdrS l with
      | some (hp, f, r) => if n = 1 ∧ o = 0 ∧ sz = SPAR ∧ sz' = SPAR ∧ geF B (decF i) = true ∧ ltF B (decF i) f = true ∧ isF gp (decF i) = true then (match upS B (decF i) gp p r with
          | some r' => (match setH d j (.arr SPAR ([hp] :: r')) (fr :: up) with
            | fr' :: up' => some (fr', up')
            | [] => none)
          | none => none) else none
      | none => none)
    | _, _ => none)
  | _ => none
theorem stS_ok {B : Sy} {ρ : List Int} (hB : Holds B ρ) {D : Callee} {gp : PV} {n : Nat} {x v : AV} {fr fr' : Fram} {up up' : List Fram} (h : stS B gp n x v fr up = some (fr', up')) : act D (.st n) (cAs ρ [x, v]) (cF ρ fr) (cFs ρ up) = (cA ρ undefA, cF ρ fr', cFs ρ up', true) := by
  unfold stS at h
  split at h
  · rename_i d j sz i o
    split at h
    · rename_i sz' l p hg hv
      split at h
      · rename_i hp f r hh
        split at h
        · rename_i hc
          obtain ⟨rfl, rfl, rfl, rfl, h1, h2, hgp⟩ := hc
          have a1 := geF_ok hB h1
          have a2 := ltF_ok hB h2
          obtain ⟨rfl, b1, b2⟩ := hdrS_ok ρ hh
          split at h
          · rename_i r' hu
            split at h
            · rename_i a b hq
              cases h
              have hg2 : getH d j (cF ρ fr :: cFs ρ up) = some (.arr 1 ((List.range (f.ev ρ).toNat).map fun (i : Nat) => [lkO (i : Int) (cPss ρ r)])) := by
                have := getH_c (ρ := ρ) d j (fr :: up)
                rw [hg] at this
                simp only [cFs] at this
                rw [this, Option.map_some, cH_arr, if_pos rfl, b2]
              have hv2 : (cellsA (cA ρ v)).bind toPs = some [cP ρ p] := by rw [cellsP_c hv]; simp [cPs]
              have hup := upS_ok hB (g := decF i) (p := p) (isF_ok ρ hgp).choose_spec hu
              have e4 : ((((decF i).ev ρ).toNat : Nat) : Int) = (decF i).ev ρ := by omega
              have hb3 : expL (cPss ρ ([hp] :: r')) = ((List.range (f.ev ρ).toNat).map fun (i : Nat) => [lkO (i : Int) (cPss ρ r)]).set ((decF i).ev ρ).toNat (ScE.put (((List.range (f.ev ρ).toNat).map fun (i : Nat) => [lkO (i : Int) (cPss ρ r)]).getD ((decF i).ev ρ).toNat []) 0 [cP ρ p]) := by
                rw [exp_get _ (by omega)]
                simp only [cPss, cPs, b1, expL]
                apply List.ext_getElem
                · simp
                · intro m h3 h4
                  simp only [List.length_map, List.length_range] at h3
                  rw [List.getElem_map, List.getElem_range, List.getElem_set, hup]
                  by_cases e5 : ((decF i).ev ρ).toNat = m
                  · rw [if_pos e5, if_pos (by omega)]; rfl
                  · rw [if_neg e5, if_neg (by omega), List.getElem_map, List.getElem_range]
              have hq2 : setH d j (.arr 1 (expL (cPss ρ ([hp] :: r')))) (cF ρ fr :: cFs ρ up) = cF ρ fr' :: cFs ρ up' := by
                have := setH_c (ρ := ρ) d j (.arr SPAR ([hp] :: r')) (fr :: up)
                rw [hq, cH_arr, if_pos rfl] at this
                exact this
              simp only [cAs, cA_c, cC_aref, if_true, act, hg2, hv2, decF_ev ρ i, exp_len]
              rw [← hb3, hq2]
              have e2 : decide (True ∧ [cP ρ p].length = 1 ∧ ((decF i).ev ρ).toNat < (f.ev ρ).toNat ∧ 0 + 1 ≤ 1) = true := by
                rw [decide_eq_true_eq]; exact ⟨trivial, rfl, by omega, by omega⟩
              simp only [e2]
              rfl
            · cases h
          · cases h
        · cases h
      · cases h
    · cases h
  · cases h
def lenS (B : Sy) (x : AV) : Option PV := match x with
  | .c (.arr _ _ sz _ m) => if sz = SPAR ∧ geF B (decF m) = true then some (mkF .i64 (decF m).c (decF m).ds) else none
  | .c (.p (.sl sz l)) => (match hdrS l with
    | some (p, f, r) => if sz = SPAR ∧ f.k = .i64 ∧ geF B f = true then some p else none
    | none => none)
  | _ => none
theorem lenS_ok {B : Sy} {ρ : List Int} (hB : Holds B ρ) {D : Callee} {x : AV} {p : PV} (h : lenS B x = some p) (fr : Fram) (up : List Fram) : act D .lenL (cAs ρ [x]) fr up = (cA ρ (.c (.p p)), fr, up, true) := by
  unfold lenS at h
  split at h
  · rename_i d j sz off m
    split at h
    · rename_i hc
      obtain ⟨rfl, h1⟩ := hc
      cases h
      have a1 := geF_ok hB h1
      simp only [cAs, cA_c, cC_arr, if_true, act, pint, cC_p, mkF_c, decF_ev ρ m]
      have e4 : ((((decF m).ev ρ).toNat : Nat) : Int) = (decF m).ev ρ := by omega
      rw [e4]; rfl
    · cases h
  · rename_i sz l
    split at h
    · rename_i p' f r hh
      split at h
      · rename_i hc
        obtain ⟨rfl, h1, h2⟩ := hc
        cases h
        obtain ⟨rfl, b1, b2⟩ := hdrS_ok ρ hh
        have a1 := geF_ok hB h2
        simp only [cAs, cA_c, cC_p, cP_spar, b2, act, exp_len, pint, b1, h1]
        have e4 : (((f.ev ρ).toNat : Nat) : Int) = f.ev ρ := by omega
        rw [e4]
      · cases h
    · cases h
  · cases h
def copyS (B : Sy) (sz : Nat) (x y : AV) (fr : Fram) (up : List Fram) : Option (PV × Fram × List Fram) := match x, y with
  | .c (.arr d j sz' off m), .c (.p (.sl sz2 l2)) => (match getH d j (fr :: up) with
    | some (.arr sz3 l1) => (match hdrS l1, hdrS l2 with
      | some (p1, f1, r1), some (p2, f2, r2) => if sz = 1 ∧ sz' = SPAR ∧ sz2 = SPAR ∧ sz3 = SPAR ∧ off = 0 ∧ eqF f1 f2 = true ∧ eqF (decF m) f2 = true ∧ f2.k = .i64 ∧ geF B f2 = true then (match setH d j (.arr SPAR l2) (fr :: up) with
          | fr' :: up' => some (p2, fr', up')
          | [] => none) else none
      | _, _ => none)
    | _ => none)
  | _, _ => none
theorem copyS_ok {B : Sy} {ρ : List Int} (hB : Holds B ρ) {D : Callee} {sz : Nat} {x y : AV} {p : PV} {fr fr' : Fram} {up up' : List Fram} (h : copyS B sz x y fr up = some (p, fr', up')) : act D (.copy sz) (cAs ρ [x, y]) (cF ρ fr) (cFs ρ up) = (cA ρ (.c (.p p)), cF ρ fr', cFs ρ up', true) := by
  unfold copyS at h
  split at h
  · rename_i d j sz' off m sz2 l2
    split at h
    · rename_i sz3 l1 hg
      split at h
      · rename_i p1 f1 r1 p2 f2 r2 hh1 hh2
        split at h
        · rename_i hc
          obtain ⟨rfl, rfl, rfl, rfl, rfl, h1, h2, hk, h3⟩ := hc
          split at h
          · rename_i a b hq
            cases h
            obtain ⟨rfl, b1, b2⟩ := hdrS_ok ρ hh1
            obtain ⟨rfl, c1, c2⟩ := hdrS_ok ρ hh2
            have a1 := geF_ok hB h3
            have e1 := eqF_ok ρ h1
            have e2 := eqF_ok ρ h2
            have hg2 : getH d j (cF ρ fr :: cFs ρ up) = some (.arr 1 ((List.range (f1.ev ρ).toNat).map fun (i : Nat) => [lkO (i : Int) (cPss ρ r1)])) := by
              have := getH_c (ρ := ρ) d j (fr :: up)
              rw [hg] at this
              simp only [cFs] at this
              rw [this, Option.map_some, cH_arr, if_pos rfl, b2]
            have hq2 : setH d j (.arr 1 ((List.range (f2.ev ρ).toNat).map fun (i : Nat) => [lkO (i : Int) (cPss ρ r2)])) (cF ρ fr :: cFs ρ up) = cF ρ fr' :: cFs ρ up' := by
              have := setH_c (ρ := ρ) d j (.arr SPAR ([p] :: r2)) (fr :: up)
              rw [hq, cH_arr, if_pos rfl, c2] at this
              exact this
            simp only [cAs, cA_c, cC_arr, cC_p, cP_spar, c2, if_true, act, hg2, listOf, decF_ev ρ m, e2, c1, hk]
            have hput : ScE.put ((List.range (f1.ev ρ).toNat).map fun (i : Nat) => [lkO (i : Int) (cPss ρ r1)]) 0 ((List.range (f2.ev ρ).toNat).map fun (i : Nat) => [lkO (i : Int) (cPss ρ r2)]) = (List.range (f2.ev ρ).toNat).map fun (i : Nat) => [lkO (i : Int) (cPss ρ r2)] := by
              unfold ScE.put
              rw [List.drop_of_length_le (by simp; omega)]
              simp
            rw [hput, hq2]
            simp only [exp_len]
            have e5 : decide (True ∧ True ∧ 0 + (f2.ev ρ).toNat ≤ (f1.ev ρ).toNat ∧ (f2.ev ρ).toNat ≤ (f2.ev ρ).toNat) = true := by
              rw [decide_eq_true_eq]; exact ⟨trivial, trivial, by omega, by omega⟩
            have e4 : (((f2.ev ρ).toNat : Nat) : Int) = f2.ev ρ := by omega
            simp only [e5, pint, e4]
          · cases h
        · cases h
      · cases h
    · cases h
  · cases h
def cviS (B : Sy) (k : IntKind) (x : AV) : Option PV := match fmA x with
  | some f => if inK B k f.c f.ds = true then some (mkF k f.c f.ds) else none
  | none => none
theorem cviS_ok {B : Sy} {ρ : List Int} (hB : Holds B ρ) {D : Callee} {k : IntKind} {x : AV} {p : PV} (h : cviS B k x = some p) (fr : Fram) (up : List Fram) : act D (.cvi k) (cAs ρ [x]) fr up = (cA ρ (.c (.p p)), fr, up, true) := by
  unfold cviS at h
  split at h
  · rename_i f hf
    split at h
    · rename_i hc
      cases h
      simp only [cAs, fmA_c ρ hf, act, pint, cA_c, cC_p, mkF_c, Fm.ev, inK_ok hB hc]
    · cases h
  · cases h
end Go.ScE
