/- S5: the evaluator on values with names, in the form that the kernel runs; it is sound. -/
import Derived.Test.YtomklnbaaelchaaDoorSS4
set_option linter.unusedVariables false
set_option linter.unusedSimpArgs false
namespace Go.ScE

noncomputable def forceY (r : AV) (k : AV → R0) : R0 := AV.rec (motive := fun _ => R0) (fun x => CV.rec (motive := fun _ => R0) (fun p => forceS p fun p => k (.c (.p p))) (fun sz l => k (.c (.own sz l))) (fun l o => k (.c (.ipt l o))) (fun d j o => k (.c (.ref d j o)))
  (fun d j s i o => forceN i fun i => k (.c (.aref d j s i o))) (fun d j s o n => forceN n fun n => k (.c (.arr d j s o n))) (fun d j => k (.c (.mp d j))) (k (.c .dead)) x) (fun l => k (.agg l)) (fun l => k (.tup l)) r
theorem forceY_eq (r : AV) (k : AV → R0) : forceY r k = k r := by
  cases r with
  | c x =>
    cases x with
    | p p => exact forceS_eq p fun p => k (.c (.p p))
    | aref d j s i o => exact forceN_eq i fun i => k (.c (.aref d j s i o))
    | arr d j s o n => exact forceN_eq n fun n => k (.c (.arr d j s o n))
    | _ => rfl
  | _ => rfl
section
variable {B : Sy} {ρ : List Int}

noncomputable def hMksS (B : Sy) (s sz : Nat) (z : List PV) (x y : AV) (fr : Fram) (up : List Fram) (k : KA) : R0 := Bool.rec (motive := fun _ => R0) (hGen fc (.mks s sz z) [x, y] fr up k)
  (Option.rec (motive := fun _ => R0) fail0 (fun q => Prod.rec (motive := fun _ => R0) (fun a fr' => forceY a fun a => k a fr' up) q) (mksS B s sz z x y fr)) (isSy x)
theorem hMksS_ok (hB : Holds B ρ) (D : Callee) (s sz : Nat) (z : List PV) (hc : clK (.mks s sz z) = true) (x y : AV) : SOk ρ D (.mks s sz z) [x, y] (hMksS B s sz z x y) := by
  intro fr up k v h g
  unfold hMksS at h
  cases hs : isSy x with
  | false => rw [hs] at h; exact nat_ok (cnat_fc ρ D) (hGen_ok fc (.mks s sz z) [x, y]) hc rfl fr up k v h g
  | true =>
    rw [hs] at h
    cases hq : mksS B s sz z x y fr with
    | none => rw [hq] at h; exact fail0_no h g
    | some q =>
      obtain ⟨a, fr'⟩ := q
      rw [hq] at h
      exact ⟨a, fr', up, mksS_ok hB hq up, by rw [← h]; exact (forceY_eq a fun a => k a fr' up).symm⟩
noncomputable def hIaS (B : Sy) (sz : Nat) (x y : AV) (fr : Fram) (up : List Fram) (k : KA) : R0 := Bool.rec (motive := fun _ => R0) (hIa sz x y fr up k) (Option.rec (motive := fun _ => R0) fail0 (fun a => forceY a fun a => k a fr up) (iaS B sz x y)) (isSp x)
theorem hIaS_ok (hB : Holds B ρ) (D : Callee) (sz : Nat) (hc : clK (.ia sz) = true) (x y : AV) : SOk ρ D (.ia sz) [x, y] (hIaS B sz x y) := by
  intro fr up k v h g
  unfold hIaS at h
  cases hs : isSp x with
  | false => rw [hs] at h; exact nat_ok (cnat_fc ρ D) (hIa_ok fc sz x y) hc rfl fr up k v h g
  | true =>
    rw [hs] at h
    cases hq : iaS B sz x y with
    | none => rw [hq] at h; exact fail0_no h g
    | some a =>
      rw [hq] at h
      exact ⟨a, fr, up, iaS_ok hB hq _ _, by rw [← h]; exact (forceY_eq a fun a => k a fr up).symm⟩
noncomputable def hLdS (B : Sy) (agg : Bool) (n : Nat) (take : Bool) (x : AV) (fr : Fram) (up : List Fram) (k : KA) : R0 := Bool.rec (motive := fun _ => R0) (hLd agg n take x fr up k) (symK (ldS B agg n x (fr :: up)) fun p => k (.c (.p p)) fr up) (isSr x)
theorem hLdS_ok (hB : Holds B ρ) (D : Callee) (agg : Bool) (n : Nat) (take : Bool) (x : AV) : SOk ρ D (.ld agg n take) [x] (hLdS B agg n take x) := by
  intro fr up k v h g
  unfold hLdS at h
  cases hs : isSr x with
  | false =>
    rw [hs] at h
    refine nat_ok (cnat_fc ρ D) (hLd_ok fc agg n take x) rfl ?_ fr up k v h g
    cases x with
    | c x => cases x with
      | aref d j sz i o => exact (by have := nbeq_f (show Nat.beq sz SPAR = false from hs); simpa [safeK] using this)
      | _ => rfl
    | _ => rfl
  | true =>
    rw [hs] at h
    obtain ⟨p, h1, h2⟩ := symK_ok h g
    exact ⟨_, fr, up, ldS_ok hB h1, h2⟩
noncomputable def hStS (B : Sy) (n : Nat) (x v : AV) (fr : Fram) (up : List Fram) (k : KA) : R0 := Bool.rec (motive := fun _ => R0) (hSt n x v fr up k)
  (forceS (match x with | .c (.aref _ _ _ i _) => mkF .i64 (decF i).c (decF i).ds | _ => .lit .nilFunc) fun gp => Option.rec (motive := fun _ => R0) fail0 (fun q => Prod.rec (motive := fun _ => R0) (fun fr' up' => k undefA fr' up') q) (stS B gp n x v fr up)) (isSr x)
theorem hStS_ok (hB : Holds B ρ) (D : Callee) (n : Nat) (x v : AV) : SOk ρ D (.st n) [x, v] (hStS B n x v) := by
  intro fr up k z h g
  unfold hStS at h
  cases hs : isSr x with
  | false =>
    rw [hs] at h
    refine nat_ok (cnat_fc ρ D) (hSt_ok fc n x v) rfl ?_ fr up k z h g
    cases x with
    | c x => cases x with
      | aref d j sz i o => exact (by have := nbeq_f (show Nat.beq sz SPAR = false from hs); simpa [safeK] using this)
      | _ => rfl
    | _ => rfl
  | true =>
    rw [hs] at h
    dsimp only at h
    rw [forceS_eq] at h
    generalize (match x with | .c (.aref _ _ _ i _) => mkF .i64 (decF i).c (decF i).ds | _ => PV.lit .nilFunc) = gp at h
    cases hq : stS B gp n x v fr up with
    | none => rw [hq] at h; exact fail0_no h g
    | some q =>
      obtain ⟨fr', up'⟩ := q
      rw [hq] at h
      exact ⟨undefA, fr', up', stS_ok hB hq, h⟩
noncomputable def lenG (x : AV) : Bool := AV.rec (motive := fun _ => Bool) (fun x => CV.rec (motive := fun _ => Bool) (fun p => PV.casesOn (motive_1 := fun _ => Bool) p (fun _ => true) (fun sz _ => okS sz)) (fun sz _ => okS sz) (fun _ _ => true) (fun _ _ _ => true) (fun _ _ _ _ _ => true) (fun _ _ sz _ _ => !(sz == SPAR)) (fun _ _ => true) true x) (fun _ => true) (fun _ => true) x
noncomputable def hLenLS (B : Sy) (x : AV) (fr : Fram) (up : List Fram) (k : KA) : R0 := Bool.rec (motive := fun _ => R0) (symK (lenS B x) fun p => k (.c (.p p)) fr up) (hLenL x fr up k) (lenG x)
theorem hLenLS_ok (hB : Holds B ρ) (D : Callee) (x : AV) : SOk ρ D .lenL [x] (hLenLS B x) := by
  intro fr up k v h g
  unfold hLenLS at h
  cases hs : lenG x with
  | true =>
    rw [hs] at h
    refine nat_ok (cnat_fc ρ D) (hLenL_ok fc x) rfl ?_ fr up k v h g
    cases x with
    | c x => cases x with
      | p p => cases p with
        | lit v => rfl
        | sl sz l => exact hs
      | own sz l => exact hs
      | arr d j sz o n => exact hs
      | _ => rfl
    | _ => rfl
  | false =>
    rw [hs] at h
    obtain ⟨p, h1, h2⟩ := symK_ok h g
    exact ⟨_, fr, up, lenS_ok hB h1 _ _, h2⟩
noncomputable def hCopyS (B : Sy) (sz : Nat) (x y : AV) (fr : Fram) (up : List Fram) (k : KA) : R0 := Bool.rec (motive := fun _ => R0) (hGen fc (.copy sz) [x, y] fr up k)
  (Option.rec (motive := fun _ => R0) fail0 (fun q => Prod.rec (motive := fun _ => R0) (fun p q => Prod.rec (motive := fun _ => R0) (fun fr' up' => k (.c (.p p)) fr' up') q) q) (copyS B sz x y fr up)) (isSp x)
theorem hCopyS_ok (hB : Holds B ρ) (D : Callee) (sz : Nat) (hc : clK (.copy sz) = true) (x y : AV) : SOk ρ D (.copy sz) [x, y] (hCopyS B sz x y) := by
  intro fr up k v h g
  unfold hCopyS at h
  cases hs : isSp x with
  | false => rw [hs] at h; exact nat_ok (cnat_fc ρ D) (hGen_ok fc (.copy sz) [x, y]) hc rfl fr up k v h g
  | true =>
    rw [hs] at h
    cases hq : copyS B sz x y fr up with
    | none => rw [hq] at h; exact fail0_no h g
    | some q =>
      obtain ⟨p, fr', up'⟩ := q
      rw [hq] at h
      exact ⟨_, fr', up', copyS_ok hB hq, h⟩
noncomputable def hCviS (B : Sy) (kk : IntKind) (x : AV) (fr : Fram) (up : List Fram) (k : KA) : R0 := Bool.rec (motive := fun _ => R0) (hGen fc (.cvi kk) [x] fr up k) (symK (cviS B kk x) fun p => k (.c (.p p)) fr up) (isSy x)
theorem hCviS_ok (hB : Holds B ρ) (D : Callee) (kk : IntKind) (x : AV) : SOk ρ D (.cvi kk) [x] (hCviS B kk x) := by
  intro fr up k v h g
  unfold hCviS at h
  cases hs : isSy x with
  | false => rw [hs] at h; exact nat_ok (cnat_fc ρ D) (hGen_ok fc (.cvi kk) [x]) rfl rfl fr up k v h g
  | true =>
    rw [hs] at h
    obtain ⟨p, h1, h2⟩ := symK_ok h g
    exact ⟨_, fr, up, cviS_ok hB h1 _ _, h2⟩
theorem l1_okS {D : Callee} {op : XK} {h : AV → Fram → List Fram → KA → R0} (hh : ∀ x, SOk ρ D op [x] (h x)) (vs : List AV) : SOk ρ D op vs (l1 h vs) := by
  intro fr up k z hz g
  match vs, hz with
  | [], hz => exact fail0_no hz g
  | [x], hz => exact hh x fr up k z hz g
  | _ :: _ :: _, hz => exact fail0_no hz g
theorem l2_okS {D : Callee} {op : XK} {h : AV → AV → Fram → List Fram → KA → R0} (hh : ∀ x y, SOk ρ D op [x, y] (h x y)) (vs : List AV) : SOk ρ D op vs (l2 h vs) := by
  intro fr up k z hz g
  match vs, hz with
  | [], hz => exact fail0_no hz g
  | [x], hz => exact fail0_no hz g
  | [x, y], hz => exact hh x y fr up k z hz g
  | _ :: _ :: _ :: _, hz => exact fail0_no hz g
/-- The same, opened first by the kernel. -/
noncomputable abbrev m1 (h : AV → Fram → List Fram → KA → R0) : HL := fun vs fr up k => List.rec (motive := fun _ => R0) fail0 (fun x r _ => List.rec (motive := fun _ => R0) (h x fr up k) (fun _ _ _ => fail0) r) vs
noncomputable abbrev m2 (h : AV → AV → Fram → List Fram → KA → R0) : HL := fun vs fr up k => List.rec (motive := fun _ => R0) fail0 (fun x r _ => List.rec (motive := fun _ => R0) fail0 (fun y r _ => List.rec (motive := fun _ => R0) (h x y fr up k) (fun _ _ _ => fail0) r) r) vs
noncomputable abbrev m3 (h : AV → AV → AV → Fram → List Fram → KA → R0) : HL := fun vs fr up k => List.rec (motive := fun _ => R0) fail0 (fun x r _ => List.rec (motive := fun _ => R0) fail0 (fun y r _ => List.rec (motive := fun _ => R0) fail0 (fun z r _ => List.rec (motive := fun _ => R0) (h x y z fr up k) (fun _ _ _ => fail0) r) r) r) vs
noncomputable def opS (B : Sy) (C : Callee) (op : XK) : HL := XK.rec (motive := fun _ => HL) (m1 hMv) (m3 hPick)
  (fun s a z => hGen C (.alloc s a z)) (fun s => hGen C (.box s)) (fun z o => hBld z o) (fun s z n i => hBlds s z n i) (fun a n t => m1 (hLdS B a n t)) (fun n => m2 (hStS B n)) (hGen C .nck) (fun o b => m2 (hBinS B o b)) (fun o => hGen C (.un o))
  (fun k => m1 (hCviS B k)) (hGen C .cbs) (hGen C .csb) (fun a o n => hGen C (.fld a o n)) (fun b n => hGen C (.beq b n)) (fun o => m1 (hFa o)) (fun s => m2 (hIaS B s)) (fun s n => m2 (hIaa s n)) (hGen C .ixs) (fun a b => hGen C (.slS a b)) (fun s a b => hGen C (.slL s a b)) (fun s n a b => hGen C (.slA s n a b))
  (fun i => hGen C (.ext i)) (hGen C .lenS) (m1 (hLenLS B)) (hGen C .lenM) (fun s b => m2 (hApp s b)) (hGen C .mx) (hGen C .mn) (fun f => hCall C f) (hGen C .callv) (fun s => hGen C (.mkm s)) (fun s z l => m2 (hMksS B s z l)) (fun a z o => hGen C (.lk a z o)) (hGen C .mu) (hGen C .del) (fun s => m2 (hCopyS B s)) op
theorem opS_ok (hB : Holds B ρ) {C D : Callee} (hC : CNat ρ C D) (op : XK) (hc : clK op = true) (vs : List AV) : SOk ρ D op vs (opS B C op vs) := by
  cases op
  case mv => exact nat_ok hC (l1_ok (hMv_ok C) vs) hc rfl
  case pick => exact nat_ok hC (l3_ok (hPick_ok C) vs) hc rfl
  case ld a n t => exact l1_okS (hLdS_ok hB D a n t) vs
  case bld z o => exact nat_ok hC (hBld_ok C z o vs) hc rfl
  case blds s z n i => exact nat_ok hC (hBlds_ok C s z n i vs) hc rfl
  case st n => exact l2_okS (hStS_ok hB D n) vs
  case bin o b => exact l2_okS (hBinS_ok hB D o b) vs
  case cvi k => exact l1_okS (hCviS_ok hB D k) vs
  case fa o => exact nat_ok hC (l1_ok (hFa_ok C o) vs) hc rfl
  case ia s => exact l2_okS (hIaS_ok hB D s hc) vs
  case iaa s n => exact nat_ok hC (l2_ok (hIaa_ok C s n) vs) hc rfl
  case lenL => exact l1_okS (hLenLS_ok hB D) vs
  case app s b => exact nat_ok hC (l2_ok (hApp_ok C s b) vs) hc rfl
  case call f => exact nat_ok hC (hCall_ok C f vs) hc rfl
  case mks s sz z => exact l2_okS (hMksS_ok hB D s sz z hc) vs
  case copy s => exact l2_okS (hCopyS_ok hB D s hc) vs
  all_goals exact nat_ok hC (hGen_ok C _ vs) hc rfl

/-! ### code -/
def clO : XO → Bool
  | .k p => clP p
  | .kn sz => okS sz
  | .ka cs => clPs cs
  | _ => true
def clOs : List XO → Bool
  | [] => true
  | x :: r => clO x && clOs r
def clX (o : XOper) : Bool := clK o.op && clOs o.xs
def clXs : List XOper → Bool
  | [] => true
  | o :: r => clX o && clXs r
def clD : List XOperD → Bool
  | [] => true
  | o :: r => clX o.x && clD r
def clC : XCode → Bool
  | .skip => true
  | .regionD ops _ => clD ops
  | .region _ ops _ => clXs ops
  | .seq a b => clC a && clC b
  | .cond c a b => clO c && clC a && clC b
  | .block _ b => clC b
  | .loop _ _ b => clC b
  | .exit _ => true
  | .ret => true
theorem rdO_c {x : XO} (h : clO x = true) (e : Env) : rdO (cE ρ e) x = (cA ρ (rdO e x).1, cE ρ (rdO e x).2) := by
  cases x with
  | t n => simp only [rdO, look_c, demA_c]
  | tk n => simp only [rdO, look_c, demA_c, cE]
  | k p => simp only [rdO, cA_c, cC_p, clP_c (show clP p = true from h)]
  | kn sz => obtain ⟨g1, g2⟩ := okS_ok (show okS sz = true from h); simp only [rdO, cA_c, cC_own g1 g2, cPss]
  | ka cs => simp only [rdO, cA_agg, zvs_c (show clPs cs = true from h)]
theorem rdOs_c : ∀ {xs : List XO} (_ : clOs xs = true) (e : Env), rdOs (cE ρ e) xs = (cAs ρ (rdOs e xs).1, cE ρ (rdOs e xs).2)
  | [], _, e => rfl
  | x :: r, h, e => by
    simp only [clOs, Bool.and_eq_true] at h
    simp only [rdOs, rdO_c h.1, rdOs_c h.2, cAs]
theorem wantedX_c {e : Env} {g : Option (Nat × Bool)} {b : Bool} (h : wantedX e g = some b) : wantedX (cE ρ e) g = some b := by
  cases g with
  | none => exact h
  | some p =>
    obtain ⟨t, c⟩ := p
    simp only [wantedX, look_c] at h ⊢
    split at h
    · rename_i hl; rw [hl]; simp only [cA_c, cC_p, cP_lit]; exact h
    · rename_i hl; rw [hl]; simp only [cA_tup, cT]; exact h
    · cases h
theorem putE_c (dst : Option Nat) (r : AV) (e : Env) : putE dst (cA ρ r) (cE ρ e) = cE ρ (putE dst r e) := by cases dst <;> rfl
abbrev cσ (ρ : List Int) (e : Env) (fr : Fram) (up : List Fram) : St := ⟨cE ρ e, cF ρ fr, cFs ρ up, true⟩

/-- Operands, opened first by the kernel. -/
noncomputable abbrev rdA (x : XO) (e : Env) (k : AV → Env → R0) : R0 := XO.rec (motive := fun _ => R0) (fun n => k (demK (look' n e)) e) (fun n => k (look' n e) ((n, demK (look' n e)) :: e)) (fun p => k (.c (.p p)) e) (fun sz => k (.c (.own sz [])) e) (fun cs => k (.agg (zvs cs)) e) x
noncomputable abbrev rdsA (xs : List XO) : Env → (List AV → Env → R0) → R0 := List.rec (motive := fun _ => Env → (List AV → Env → R0) → R0) (fun e k => k [] e) (fun x _ ih e k => rdA x e fun v e1 => ih e1 fun vs e2 => k (v :: vs) e2) xs
noncomputable abbrev rdqA (x : XO) (e : Env) (k : AV → R0) : R0 := XO.rec (motive := fun _ => R0) (fun n => k (demK (look' n e))) (fun _ => fail0) (fun p => k (.c (.p p))) (fun sz => k (.c (.own sz []))) (fun cs => k (.agg (zvs cs))) x
noncomputable abbrev rdsqA (xs : List XO) (e : Env) : (List AV → R0) → R0 := List.rec (motive := fun _ => (List AV → R0) → R0) (fun k => k []) (fun x _ ih k => rdqA x e fun v => ih fun vs => k (v :: vs)) xs
noncomputable abbrev putA (dst : Option Nat) (r : AV) (e : Env) : Env := Option.rec (motive := fun _ => Env) e (fun d => (d, r) :: e) dst
noncomputable abbrev stepS (B : Sy) (C : Callee) (o : XOper) (e : Env) (fr : Fram) (up : List Fram) (k : KE) : R0 := XOper.rec (motive := fun _ => R0) (fun dst g op xs => Option.rec (motive := fun _ => R0)
  (rdsA xs e fun vs e1 => opS B C op vs fr up fun r fr' up' => k (putA dst r e1) fr' up')
  (fun p => guardK p.2 (look' p.1 e) (fun kk => rdsqA xs e fun vs => opS B C op vs fr up kk) fr up fun r fr' up' => k (putA dst r e) fr' up') g) o
theorem stepS_ok (hB : Holds B ρ) {C D : Callee} (hC : CNat ρ C D) {o : XOper} (hc : clX o = true) {e : Env} {fr : Fram} {up : List Fram} {k : KE} {z : R0} (h : stepS B C o e fr up k = z) (g : z.2.2 = true) : ∃ e' fr' up', stepX D o (cσ ρ e fr up) = cσ ρ e' fr' up' ∧ k e' fr' up' = z := by
  obtain ⟨dst, gd, op, xs⟩ := o
  simp only [clX, Bool.and_eq_true] at hc
  cases gd with
  | none =>
    have h : (rdsK xs e fun vs e1 => opS B C op vs fr up fun r fr' up' => k (putK dst r e1) fr' up') = z := h
    rw [rdsK_eq] at h
    obtain ⟨r, fr', up', h3, h4⟩ := opS_ok hB hC op hc.1 _ fr up _ z h g
    refine ⟨putE dst r (rdOs e xs).2, fr', up', ?_, by rw [← h4, putK_eq]⟩
    simp only [stepX, wantedX, rdOs_c hc.2, h3, Bool.and_self, putE_c]
  | some p =>
    obtain ⟨t, b⟩ := p
    have h : (guardK b (look' t e) (fun kk => rdsQ xs e fun vs => opS B C op vs fr up kk) fr up fun r fr' up' => k (putK dst r e) fr' up') = z := h
    rcases guardK_ok h g with ⟨h1, h2⟩ | ⟨h1, h2⟩
    · obtain ⟨h5, h6⟩ := rdsQ_ok h2 g
      obtain ⟨r, fr', up', h3, h4⟩ := opS_ok hB hC op hc.1 _ fr up _ z h6 g
      refine ⟨putE dst r e, fr', up', ?_, by rw [← h4, putK_eq]⟩
      simp only [stepX, wantedX_c h1, rdOs_c hc.2, h5, h3, Bool.and_self, putE_c]
    · refine ⟨putE dst undefA e, fr, up, ?_, by rw [← h2, putK_eq]⟩
      have : putE dst undefA (cE ρ e) = cE ρ (putE dst undefA e) := putE_c dst undefA e
      simp only [stepX, wantedX_c h1, this]
noncomputable abbrev stepsS (B : Sy) (C : Callee) (ops : List XOper) : Env → Fram → List Fram → KE → R0 := List.rec (motive := fun _ => Env → Fram → List Fram → KE → R0) (fun e fr up k => k e fr up) (fun o _ ih e fr up k => stepS B C o e fr up fun e fr up => ih e fr up k) ops
theorem stepsS_ok (hB : Holds B ρ) {C D : Callee} (hC : CNat ρ C D) : ∀ {ops : List XOper} (_ : clXs ops = true) {e : Env} {fr : Fram} {up : List Fram} {k : KE} {z : R0} (_ : stepsS B C ops e fr up k = z) (_ : z.2.2 = true), ∃ e' fr' up', stepsX D ops (cσ ρ e fr up) = cσ ρ e' fr' up' ∧ k e' fr' up' = z
  | [], _, e, fr, up, k, z, h, g => ⟨e, fr, up, rfl, h⟩
  | o :: r, hc, e, fr, up, k, z, h, g => by
    simp only [clXs, Bool.and_eq_true] at hc
    have h : (stepS B C o e fr up fun e fr up => stepsS B C r e fr up k) = z := h
    obtain ⟨e1, fr1, up1, h1, h2⟩ := stepS_ok hB hC hc.1 h g
    obtain ⟨e2, fr2, up2, h3, h4⟩ := stepsS_ok hB hC hc.2 h2 g
    exact ⟨e2, fr2, up2, by simp only [stepsX, h1, h3], h4⟩
noncomputable abbrev stepDS (B : Sy) (C : Callee) (o : XOperD) (e : Env) (fr : Fram) (up : List Fram) (k : KE) : R0 := XOperD.rec (motive := fun _ => R0) (fun x forb iso => XOper.rec (motive := fun _ => R0) (fun dst g op xs => Option.rec (motive := fun _ => R0)
  (rdsA xs e fun vs e1 => Bool.rec (motive := fun _ => R0) fail0 (opS B C op vs fr up fun r fr' up' => k (putA dst r e1) fr' up') (chkD op iso forb vs))
  (fun p => guardK p.2 (look' p.1 e) (fun kk => rdsqA xs e fun vs => Bool.rec (motive := fun _ => R0) fail0 (opS B C op vs fr up kk) (chkD op iso forb vs)) fr up fun r fr' up' => k (putA dst r e) fr' up') g) x) o
theorem stepDS_ok (hB : Holds B ρ) {C D : Callee} (hC : CNat ρ C D) {o : XOperD} (hc : clX o.x = true) {e : Env} {fr : Fram} {up : List Fram} {k : KE} {z : R0} (h : stepDS B C o e fr up k = z) (g : z.2.2 = true) : ∃ e' fr' up', stepD D o (cσ ρ e fr up) = cσ ρ e' fr' up' ∧ k e' fr' up' = z := by
  obtain ⟨⟨dst, gd, op, xs⟩, forb, iso⟩ := o
  simp only [clX, Bool.and_eq_true] at hc
  cases gd with
  | none =>
    have h : (rdsK xs e fun vs e1 => Bool.rec (motive := fun _ => R0) fail0 (opS B C op vs fr up fun r fr' up' => k (putK dst r e1) fr' up') (chkD op iso forb vs)) = z := h
    rw [rdsK_eq, chkD_eq] at h
    cases hd : ((!isCall op || iso || freeAs (rdOs e xs).1) && avoidAs forb (rdOs e xs).1) with
    | false => rw [hd] at h; exact fail0_no h g
    | true =>
      rw [hd] at h
      obtain ⟨r, fr', up', h3, h4⟩ := opS_ok hB hC op hc.1 _ fr up _ z h g
      refine ⟨putE dst r (rdOs e xs).2, fr', up', ?_, by rw [← h4, putK_eq]⟩
      simp only [stepD, stepX, dynD, wantedX, rdOs_c hc.2, h3, freeAs_c, avoidAs_c, hd, Bool.and_self, putE_c]
  | some p =>
    obtain ⟨t, b⟩ := p
    have h : (guardK b (look' t e) (fun kk => rdsQ xs e fun vs => Bool.rec (motive := fun _ => R0) fail0 (opS B C op vs fr up kk) (chkD op iso forb vs)) fr up fun r fr' up' => k (putK dst r e) fr' up') = z := h
    rcases guardK_ok h g with ⟨h1, h2⟩ | ⟨h1, h2⟩
    · obtain ⟨h5, h6⟩ := rdsQ_ok h2 g
      rw [chkD_eq] at h6
      cases hd : ((!isCall op || iso || freeAs (rdOs e xs).1) && avoidAs forb (rdOs e xs).1) with
      | false => rw [hd] at h6; exact fail0_no h6 g
      | true =>
        rw [hd] at h6
        obtain ⟨r, fr', up', h3, h4⟩ := opS_ok hB hC op hc.1 _ fr up _ z h6 g
        refine ⟨putE dst r e, fr', up', ?_, by rw [← h4, putK_eq]⟩
        simp only [stepD, stepX, dynD, wantedX_c h1, rdOs_c hc.2, h5, h3, freeAs_c, avoidAs_c, hd, Bool.and_self, putE_c]
    · refine ⟨putE dst undefA e, fr, up, ?_, by rw [← h2, putK_eq]⟩
      have : putE dst undefA (cE ρ e) = cE ρ (putE dst undefA e) := putE_c dst undefA e
      simp only [stepD, stepX, dynD, wantedX_c h1, this, Bool.and_self]
noncomputable abbrev stepsDS (B : Sy) (C : Callee) (ops : List XOperD) : Env → Fram → List Fram → KE → R0 := List.rec (motive := fun _ => Env → Fram → List Fram → KE → R0) (fun e fr up k => k e fr up) (fun o _ ih e fr up k => stepDS B C o e fr up fun e fr up => ih e fr up k) ops
theorem stepsDS_ok (hB : Holds B ρ) {C D : Callee} (hC : CNat ρ C D) : ∀ {ops : List XOperD} (_ : clD ops = true) {e : Env} {fr : Fram} {up : List Fram} {k : KE} {z : R0} (_ : stepsDS B C ops e fr up k = z) (_ : z.2.2 = true), ∃ e' fr' up', stepsD D ops (cσ ρ e fr up) = cσ ρ e' fr' up' ∧ k e' fr' up' = z
  | [], _, e, fr, up, k, z, h, g => ⟨e, fr, up, rfl, h⟩
  | o :: r, hc, e, fr, up, k, z, h, g => by
    simp only [clD, Bool.and_eq_true] at hc
    have h : (stepDS B C o e fr up fun e fr up => stepsDS B C r e fr up k) = z := h
    obtain ⟨e1, fr1, up1, h1, h2⟩ := stepDS_ok hB hC hc.1 h g
    obtain ⟨e2, fr2, up2, h3, h4⟩ := stepsDS_ok hB hC hc.2 h2 g
    exact ⟨e2, fr2, up2, by simp only [stepsD, h1, h3], h4⟩
noncomputable abbrev regS (B : Sy) (C : Callee) (ops : List XOper) (live : List Nat) : Env → Fram → List Fram → KX → R0 := fun e fr up k => stepsS B C ops e fr up fun e1 fr1 up1 => kepK live e1 fun e2 => k .normal e2 fr1 up1
noncomputable abbrev regDS (B : Sy) (C : Callee) (ops : List XOperD) (live : List Nat) : Env → Fram → List Fram → KX → R0 := fun e fr up k => stepsDS B C ops e fr up fun e1 fr1 up1 => kepK live e1 fun e2 => k .normal e2 fr1 up1
noncomputable def evS (B : Sy) (C : Callee) (n : Nat) (c : XCode) : Env → Fram → List Fram → KX → R0 := XCode.rec (motive := fun _ => Env → Fram → List Fram → KX → R0)
  skipK (fun ops live => regDS B C ops live) (fun _ ops live => regS B C ops live) (fun _ _ iha ihb => seqK iha ihb) (fun c _ _ iha ihb => condK c iha ihb) (fun id _ ih => blockK id ih) (fun live keep _ ih => loopsK live keep ih n) (fun id => exitK id) retK c
theorem loopS_ok {D : Callee} {N : Nat} {b : XCode} {body : Env → Fram → List Fram → KX → R0} (hb : ∀ {e fr up k z}, body e fr up k = z → z.2.2 = true → ∃ x e' fr' up', evC D N b (cσ ρ e fr up) = (x, cσ ρ e' fr' up') ∧ k x e' fr' up' = z) {live keep : List Nat} :
    ∀ {n : Nat} {e : Env} {fr : Fram} {up : List Fram} {k : KX} {z : R0} (_ : loopK body live keep n e fr up k = z) (_ : z.2.2 = true), ∃ x e' fr' up', loopX (evC D N b) (headX live keep) n (cσ ρ e fr up) = (x, cσ ρ e' fr' up') ∧ k x e' fr' up' = z
  | 0, e, fr, up, k, z, h, g => fail0_no h g
  | n + 1, e, fr, up, k, z, h, g => by
    have h : (kepK live e fun e1 => Bool.rec (motive := fun _ => R0) fail0 (frK keep fr fun fr1 => body e1 fr1 up fun x e2 fr2 up2 => Ex.rec (motive := fun _ => R0) (loopK body live keep n e2 fr2 up2 k) (fun j => k (.exit j) e2 fr2 up2) (k .ret e2 fr2 up2) x) (keptEK keep e1)) = z := h
    rw [kepK_eq, keptEK_eq] at h
    cases hk : keptE keep (keepE live e) with
    | false => rw [hk] at h; exact fail0_no h g
    | true =>
      rw [hk] at h
      obtain ⟨hk2, h⟩ := frK_ok h g
      obtain ⟨x, e2, fr2, up2, h1, h2⟩ := hb h g
      have h3 : headX live keep (cσ ρ e fr up) = cσ ρ (keepE live e) (keepF keep fr) up := by
        simp only [headX, Bool.true_and, keepE_c, keepF_c, keptE_c, keptF_c, hk, hk2]
      cases x with
      | normal =>
        obtain ⟨y, e4, fr4, up4, h5, h6⟩ := loopS_ok hb (n := n) h2 g
        exact ⟨y, e4, fr4, up4, by simp only [loopX, h3, h1, h5], h6⟩
      | exit j => exact ⟨.exit j, e2, fr2, up2, by simp only [loopX, h3, h1], h2⟩
      | ret => exact ⟨.ret, e2, fr2, up2, by simp only [loopX, h3, h1], h2⟩
theorem evS_ok (hB : Holds B ρ) {C D : Callee} (hC : CNat ρ C D) (n : Nat) : ∀ (c : XCode) (_ : clC c = true) {e : Env} {fr : Fram} {up : List Fram} {k : KX} {z : R0} (_ : evS B C n c e fr up k = z) (_ : z.2.2 = true), ∃ x e' fr' up', evC D n c (cσ ρ e fr up) = (x, cσ ρ e' fr' up') ∧ k x e' fr' up' = z := by
  intro c
  induction c with
  | skip => intro _ e fr up k z h g; exact ⟨.normal, e, fr, up, rfl, h⟩
  | regionD ops live =>
    intro hc e fr up k z h g
    obtain ⟨e1, fr1, up1, h1, h2⟩ := stepsDS_ok hB hC (ops := ops) hc (e := e) (fr := fr) (up := up) (k := fun e1 fr1 up1 => kepK live e1 fun e2 => k .normal e2 fr1 up1) h g
    rw [kepK_eq] at h2
    exact ⟨.normal, _, fr1, up1, by simp only [evC, h1, keepE_c], h2⟩
  | region d ops live =>
    intro hc e fr up k z h g
    obtain ⟨e1, fr1, up1, h1, h2⟩ := stepsS_ok hB hC (ops := ops) hc (e := e) (fr := fr) (up := up) (k := fun e1 fr1 up1 => kepK live e1 fun e2 => k .normal e2 fr1 up1) h g
    rw [kepK_eq] at h2
    exact ⟨.normal, _, fr1, up1, by simp only [evC, h1, keepE_c], h2⟩
  | seq a b iha ihb =>
    intro hc e fr up k z h g
    simp only [clC, Bool.and_eq_true] at hc
    obtain ⟨x, e1, fr1, up1, h1, h2⟩ := iha hc.1 (e := e) (fr := fr) (up := up) (k := fun x e1 fr1 up1 => Ex.rec (motive := fun _ => R0) (evS B C n b e1 fr1 up1 k) (fun j => k (.exit j) e1 fr1 up1) (k .ret e1 fr1 up1) x) h g
    cases x with
    | normal =>
      obtain ⟨y, e2, fr2, up2, h3, h4⟩ := ihb hc.2 h2 g
      exact ⟨y, e2, fr2, up2, by simp only [evC, h1, h3], h4⟩
    | exit j => exact ⟨.exit j, e1, fr1, up1, by simp only [evC, h1], h2⟩
    | ret => exact ⟨.ret, e1, fr1, up1, by simp only [evC, h1], h2⟩
  | cond c a b iha ihb =>
    intro hc e fr up k z h g
    simp only [clC, Bool.and_eq_true] at hc
    have h : (rdK c e fun v _ => Option.rec (motive := fun _ => R0) fail0 (fun t => Bool.rec (motive := fun _ => R0) (evS B C n b e fr up k) (evS B C n a e fr up k) t) (bvk (litV v))) = z := h
    rw [rdK_eq] at h
    cases hb : bvk (litV (rdO e c).1) with
    | none => rw [hb] at h; exact fail0_no h g
    | some t =>
      rw [hb] at h
      have hv := litV_b hb
      have hv2 : (rdO (cE ρ e) c).1 = .c (.p (.lit (.bool t))) := by rw [rdO_c hc.1.1, hv]; simp only [cA_c, cC_p, cP_lit]
      cases t with
      | true =>
        obtain ⟨x, e1, fr1, up1, h1, h2⟩ := iha hc.1.2 h g
        exact ⟨x, e1, fr1, up1, by simp only [evC, hv2, h1], h2⟩
      | false =>
        obtain ⟨x, e1, fr1, up1, h1, h2⟩ := ihb hc.2 h g
        exact ⟨x, e1, fr1, up1, by simp only [evC, hv2, h1], h2⟩
  | block id b ih =>
    intro hc e fr up k z h g
    obtain ⟨x, e1, fr1, up1, h1, h2⟩ := ih hc (e := e) (fr := fr) (up := up) (k := fun x e1 fr1 up1 => Ex.rec (motive := fun _ => R0) (k .normal e1 fr1 up1) (fun j => Bool.rec (motive := fun _ => R0) (k (.exit j) e1 fr1 up1) (k .normal e1 fr1 up1) (Nat.beq j id)) (k .ret e1 fr1 up1) x) h g
    cases x with
    | normal => exact ⟨.normal, e1, fr1, up1, by simp only [evC, h1], h2⟩
    | ret => exact ⟨.ret, e1, fr1, up1, by simp only [evC, h1], h2⟩
    | exit j =>
      by_cases hj : j = id
      · subst hj
        have h2 : (Bool.rec (motive := fun _ => R0) (k (.exit j) e1 fr1 up1) (k .normal e1 fr1 up1) (Nat.beq j j)) = z := h2
        rw [Nat.beq_refl] at h2
        exact ⟨.normal, e1, fr1, up1, by simp only [evC, h1, if_true], h2⟩
      · have h2 : (Bool.rec (motive := fun _ => R0) (k (.exit j) e1 fr1 up1) (k .normal e1 fr1 up1) (Nat.beq j id)) = z := h2
        rw [nbeq_ne hj] at h2
        exact ⟨.exit j, e1, fr1, up1, by simp only [evC, h1, if_neg hj], h2⟩
  | loop live keep b ih =>
    intro hc e fr up k z h g
    exact loopS_ok (D := D) (N := n) (b := b) (body := evS B C n b) (fun hh gg => ih hc hh gg) h g
  | exit i => intro _ e fr up k z h g; exact ⟨.exit i, e, fr, up, rfl, h⟩
  | ret => intro _ e fr up k z h g; exact ⟨.ret, e, fr, up, rfl, h⟩

/-! ### a function's end -/
theorem resX_c {σ σ1 : St} {r : XRes} {x : Bool × List CV} (h : resX σ r = some (x, σ1)) : resX (cS ρ σ) r = some ((x.1, cCs ρ x.2), cS ρ σ1) := by
  unfold resX at h
  split at h
  · rename_i t
    split at h
    · rename_i y hl
      cases h
      simp only [resX, cS, look_c, hl, cA_c, cCs, cE, demC_c]
    · rename_i l hl
      cases h
      simp only [resX, cS, look_c, hl, cA_agg, cE, demL_c]
    · cases h
  · rename_i t agg n
    split at h
    · rename_i k off hl
      split at h
      · rename_i cs hg
        split at h
        · rename_i hc
          cases h
          simp only [resX, cS, look_c, hl, cA_c, cC_ref, hget_c, hg, Option.map_some, cH_box, cCs_length, if_pos hc, cut_c, ← untakeL_c, put_c]
          have := hset_c (ρ := ρ) k (.box (put cs off (untakeL (cut off n cs)))) σ.fr
          rw [cH_box] at this
          rw [this]
        · cases h
      · cases h
    · cases h
theorem resXs_c : ∀ {rs : List XRes} {σ : St} {l : List (Bool × List CV)} (_ : resXs σ rs = some l), resXs (cS ρ σ) rs = some (cT ρ l)
  | [], σ, l, h => by cases h; rfl
  | r :: rs, σ, l, h => by
    simp only [resXs] at h
    cases h1 : resX σ r with
    | none => rw [h1] at h; cases h
    | some p =>
      obtain ⟨x, σ1⟩ := p
      rw [h1] at h
      simp only at h
      cases h2 : resXs σ1 rs with
      | none => rw [h2] at h; cases h
      | some xs =>
        rw [h2] at h; cases h
        obtain ⟨b, cs⟩ := x
        simp only [resXs, resX_c h1, resXs_c h2, cT]
theorem tupA_c (l : List (Bool × List CV)) : cA ρ (tupA l) = tupA (cT ρ l) := by
  cases l with
  | nil => rfl
  | cons p r =>
    obtain ⟨b, l⟩ := p
    cases r with
    | nil => exact mkA_c b l
    | cons q r => rfl
/-- A row that was made here, handed out. -/
def frzS (fr : Fram) : CV → Option CV
  | .arr 0 k sz off n => if sz = SPAR then (match hget k fr with
      | some (.arr sz' l) => (match hdrS l with
        | some (p, f, r) => if sz' = SPAR ∧ off = 0 ∧ eqF (decF n) f = true then some (.p (.sl SPAR l)) else none
        | none => none)
      | _ => none) else if sz = SYMI then none else (match hget k fr with
      | some (.arr sz' l) => if sz' = sz then some (frzC fr (.arr 0 k sz off n)) else none
      | _ => none)
  | x => some x
def frzSL (fr : Fram) : List CV → Option (List CV)
  | [] => some []
  | x :: r => (match frzS fr x, frzSL fr r with
    | some y, some s => some (y :: s)
    | _, _ => none)
def frzST (fr : Fram) : List (Bool × List CV) → Option (List (Bool × List CV))
  | [] => some []
  | (b, l) :: r => (match frzSL fr l, frzST fr r with
    | some y, some s => some ((b, y) :: s)
    | _, _ => none)
def frzSA (fr : Fram) : AV → Option AV
  | .c x => (match frzS fr x with
    | some y => some (.c y)
    | none => none)
  | .agg l => (match frzSL fr l with
    | some y => some (.agg y)
    | none => none)
  | .tup l => (match frzST fr l with
    | some y => some (.tup y)
    | none => none)
theorem frzC_other {fr : Fram} {x : CV} (h : ∀ k sz off n, x ≠ .arr 0 k sz off n) : frzC fr x = x := by
  unfold frzC
  split
  · rename_i k sz off n; exact absurd rfl (h k sz off n)
  · rfl
theorem frzS_c {fr : Fram} {x y : CV} (h : frzS fr x = some y) : frzC (cF ρ fr) (cC ρ x) = cC ρ y := by
  unfold frzS at h
  split at h
  · rename_i k sz off n
    split at h
    · rename_i hz; subst hz
      split at h
      · rename_i sz' l hg
        split at h
        · rename_i p f r hh
          split at h
          · rename_i hc
            obtain ⟨rfl, rfl, he⟩ := hc
            cases h
            obtain ⟨rfl, b1, b2⟩ := hdrS_ok ρ hh
            simp only [cC_arr, if_true, frzC, hget_c, hg, Option.map_some, cH_arr, b2, exp_len, cC_p, cP_spar, decF_ev ρ n, eqF_ok ρ he]
            rw [if_pos ⟨trivial, by omega⟩, List.drop_zero, List.take_of_length_le (by simp)]
          · cases h
        · cases h
      · cases h
    · rename_i hz
      split at h
      · cases h
      · rename_i h3
        split at h
        · rename_i sz' l hg
          split at h
          · rename_i he; subst he
            cases h
            simp only [cC_arr, if_neg hz, frzC, hget_c, hg, Option.map_some, cH_arr, cPss_length]
            by_cases h1 : off + n ≤ l.length
            · rw [if_pos ⟨trivial, h1⟩, if_pos ⟨trivial, h1⟩]
              simp only [cC_p, cP_sl h3 hz, cPss_map, List.map_take, List.map_drop]
            · rw [if_neg (fun h => h1 h.2), if_neg (fun h => h1 h.2)]; simp only [cC_arr, if_neg hz]
          · cases h
        · cases h
  · rename_i hx
    cases h
    refine frzC_other fun k sz off n he => ?_
    cases x with
    | arr d k2 sz2 off2 n2 =>
      simp only [cC_arr] at he
      split at he
      · cases he; exact hx _ _ _ _ rfl
      · cases he; exact hx _ _ _ _ rfl
    | aref d k2 sz2 i2 o2 => simp only [cC_aref] at he; split at he <;> cases he
    | own sz2 l2 => simp only [cC] at he; split at he
                    · cases he
                    · split at he <;> cases he
    | _ => cases he
theorem frzSL_c {fr : Fram} : ∀ {l m : List CV} (_ : frzSL fr l = some m), frzL (cF ρ fr) (cCs ρ l) = cCs ρ m
  | [], m, h => by cases h; rfl
  | x :: r, m, h => by
    simp only [frzSL] at h
    cases h1 : frzS fr x with
    | none => rw [h1] at h; cases h
    | some y =>
      cases h2 : frzSL fr r with
      | none => rw [h1, h2] at h; cases h
      | some s =>
        rw [h1, h2] at h; cases h
        simp only [cCs, frzL, frzS_c h1, frzSL_c h2]
theorem frzST_c {fr : Fram} : ∀ {l m : List (Bool × List CV)} (_ : frzST fr l = some m), frzT (cF ρ fr) (cT ρ l) = cT ρ m
  | [], m, h => by cases h; rfl
  | (b, x) :: r, m, h => by
    simp only [frzST] at h
    cases h1 : frzSL fr x with
    | none => rw [h1] at h; cases h
    | some y =>
      cases h2 : frzST fr r with
      | none => rw [h1, h2] at h; cases h
      | some s =>
        rw [h1, h2] at h; cases h
        simp only [cT, frzT, frzSL_c h1, frzST_c h2]
theorem frzSA_c {fr : Fram} {x y : AV} (h : frzSA fr x = some y) : frzA (cF ρ fr) (cA ρ x) = cA ρ y := by
  cases x with
  | c x =>
    simp only [frzSA] at h
    cases h1 : frzS fr x with
    | none => rw [h1] at h; cases h
    | some z => rw [h1] at h; cases h; simp only [cA_c, frzA, frzS_c h1]
  | agg l =>
    simp only [frzSA] at h
    cases h1 : frzSL fr l with
    | none => rw [h1] at h; cases h
    | some z => rw [h1] at h; cases h; simp only [cA_agg, frzA, frzSL_c h1]
  | tup l =>
    simp only [frzSA] at h
    cases h1 : frzST fr l with
    | none => rw [h1] at h; cases h
    | some z => rw [h1] at h; cases h; simp only [cA_tup, frzA, frzST_c h1]
noncomputable def finS (xf : XFunc) (e : Env) (fr : Fram) (up : List Fram) : R0 := match resXs ⟨e, fr, up, true⟩ xf.res with
  | none => (deadA, [], false)
  | some rs => (match frzSA fr (tupA rs) with
    | some t => (downA 1 t, up, outA 1 t)
    | none => (deadA, [], false))
theorem finS_c {xf : XFunc} {e : Env} {fr : Fram} {up frames' : List Fram} {r : AV} (h : finS xf e fr up = (r, frames', true)) : finF xf (cE ρ e) (cF ρ fr) (cFs ρ up) = (cA ρ r, cFs ρ frames', true) := by
  unfold finS at h
  split at h
  · simp at h
  · rename_i rs hrs
    split at h
    · rename_i t ht
      simp only [Prod.mk.injEq] at h
      obtain ⟨rfl, rfl, ho⟩ := h
      have h1 := resXs_c (ρ := ρ) hrs
      simp only [cS] at h1
      unfold finF
      rw [h1]
      simp only [← tupA_c, frzSA_c ht, ← downA_c, outA_c, ho]
    · simp at h
/-- A function's code. -/
abbrev KS := Sy → Callee → Nat → Env → Fram → List Fram → KX → R0
noncomputable def runS (B : Sy) (C : Callee) (n : Nat) (xf : XFunc) (c : KS) (args : List AV) (frames : List Fram) : R0 :=
  Bool.rec (motive := fun _ => R0) fail0 (c B C n (zipArgs 0 (upAs 1 args)) [] frames fun x e fr up => Ex.rec (motive := fun _ => R0) (finS xf e fr up) (fun _ => fail0) (finS xf e fr up) x) (args.length == xf.np)
noncomputable def evSF (B : Sy) (tbl : FuncId → Option (XFunc × KS)) (ext : Callee) (k : Nat) : Callee := Nat.rec (motive := fun _ => Callee) (fun _ _ _ => (deadA, [], false)) (fun k ih f args frames => Option.rec (motive := fun _ => R0) (ext f args frames) (fun xf => Prod.rec (motive := fun _ => R0) (fun xf c => runS B ih k xf c args frames) xf) (tbl f)) k
noncomputable def plainS (xf : XFunc) : XFunc × KS := (xf, fun B C n => evS B C n xf.body)
theorem zipArgs_c : ∀ (n : Nat) (l : List AV), zipArgs n (cAs ρ l) = cE ρ (zipArgs n l)
  | n, [] => rfl
  | n, x :: r => by simp only [cAs, zipArgs, cE, zipArgs_c (n + 1) r]
theorem runS_ok (hB : Holds B ρ) {C D : Callee} (hC : CNat ρ C D) {n : Nat} {xf : XFunc} {c : KS} (hc : c B C n = evS B C n xf.body) (hcl : clC xf.body = true) {args : List AV} {frames frames' : List Fram} {r : AV} (hr : runS B C n xf c args frames = (r, frames', true)) :
    runX D n xf (cAs ρ args) (cFs ρ frames) = (cA ρ r, cFs ρ frames', true) := by
  unfold runS at hr
  rw [hc] at hr
  unfold runX
  cases hl : (args.length == xf.np) with
  | false => rw [hl] at hr; exact fail0_no hr rfl
  | true =>
    rw [hl] at hr
    obtain ⟨x, e, fr, up, h1, h2⟩ := evS_ok hB hC n xf.body hcl (k := fun x e fr up => Ex.rec (motive := fun _ => R0) (finS xf e fr up) (fun _ => fail0) (finS xf e fr up) x) hr rfl
    have hfin : finS xf e fr up = (r, frames', true) → (match resXs (cσ ρ e fr up) xf.res with
        | none => ((deadA, [], false) : AV × List Fram × Bool)
        | some rs => let t := frzA (cF ρ fr) (tupA rs); (downA 1 t, cFs ρ up, true && outA 1 t)) = (cA ρ r, cFs ρ frames', true) := fun hf => by
      have := finS_c (ρ := ρ) hf
      unfold finF at this
      split at this
      · simp at this
      · rename_i rs hrs
        simp only [hrs, Bool.true_and]; exact this
    rw [← upAs_c, zipArgs_c, cAs_length, hl]
    have h1' : evC D n xf.body { env := cE ρ (zipArgs 0 (upAs 1 args)), fr := [], up := cFs ρ frames, ok := true } = (x, cσ ρ e fr up) := h1
    rw [h1']
    cases x with
    | exit j => exact fail0_no h2 rfl
    | normal => exact hfin h2
    | ret => exact hfin h2
theorem evSF_nat (hB : Holds B ρ) {tbl : FuncId → Option XFunc} {stbl : FuncId → Option (XFunc × KS)} (hT : ∀ f, (stbl f = none → tbl f = none) ∧ ∀ xf c, stbl f = some (xf, c) → tbl f = some xf ∧ clC xf.body = true ∧ ∀ B C n, c B C n = evS B C n xf.body) {ext ext' : Callee} (hE : CNat ρ ext ext') : ∀ k, CNat ρ (evSF B stbl ext k) (evF tbl ext' k)
  | 0 => fun f args frames r frames' h => by
    have : ((deadA, [], false) : AV × List Fram × Bool) = (r, frames', true) := h
    simp at this
  | k + 1 => fun f args frames r frames' h => by
    have h : (Option.rec (motive := fun _ => R0) (ext f args frames) (fun xf => Prod.rec (motive := fun _ => R0) (fun xf c => runS B (evSF B stbl ext k) k xf c args frames) xf) (stbl f)) = (r, frames', true) := h
    simp only [evF]
    cases hx : stbl f with
    | none => rw [hx] at h; simp only [(hT f).1 hx]; exact hE _ _ _ _ _ h
    | some xc =>
      obtain ⟨xf, c⟩ := xc
      rw [hx] at h
      obtain ⟨h1, h2, h3⟩ := (hT f).2 xf c hx
      simp only [h1]
      exact runS_ok hB (evSF_nat hB hT hE k) (h3 _ _ _) h2 h
end
end Go.ScE
