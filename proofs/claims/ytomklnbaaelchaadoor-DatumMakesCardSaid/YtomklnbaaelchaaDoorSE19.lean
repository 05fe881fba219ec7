/- E19: two operations in either order; any order. -/
import Derived.Test.YtomklnbaaelchaaDoorSE18
set_option linter.unusedVariables false
set_option linter.unusedSimpArgs false
namespace Go.ScE

def readsO : XO → List Nat
  | .t n | .tk n => [n]
  | _ => []
def tksO : XO → List Nat
  | .tk n => [n]
  | _ => []
def readsL : List XO → List Nat
  | [] => []
  | x :: r => readsO x ++ readsL r
def tksL : List XO → List Nat
  | [] => []
  | x :: r => tksO x ++ tksL r
def rdsX (o : XOper) : List Nat := readsL o.xs ++ (match o.g with | some (t, _) => [t] | none => [])
def dstsX (o : XOper) : List Nat := match o.dst with | some d => [d] | none => []
def disj (a b : List Nat) : Bool := a.all fun d => !b.contains d
def tmpsOK (x y : XOper) : Bool := disj (dstsX x) (rdsX y) && disj (dstsX x) (dstsX y) && disj (dstsX y) (rdsX x) && disj (tksL x.xs) (rdsX y) && disj (tksL y.xs) (rdsX x)
def clsOK (x y : XOperD) : Bool := match clsD x, clsD y with
  | .P, _ => true
  | _, .P => true
  | .R, .R => true
  | .R, .A _ => true
  | .R, .T => true
  | .T, .R => true
  | .A s, .R => y.forb.contains s
  | .A s, .T => y.forb.contains s
  | .T, .A _ => true
  | _, _ => false
def compat (x y : XOperD) : Bool := tmpsOK x.x y.x && clsOK x y

theorem disj_not {a b : List Nat} (h : disj a b = true) {t : Nat} (ha : t ∈ a) : t ∉ b := by
  unfold disj at h
  rw [List.all_eq_true] at h
  have := h t ha
  simpa using this

theorem demA_idem (x : AV) : demA (demA x) = demA x := by
  have hL : ∀ l : List CV, demL (demL l) = demL l := fun l => by induction l <;> simp_all [demL, demC_idem]
  have hT : ∀ l : List (Bool × List CV), demT (demT l) = demT l := fun l => by induction l with | nil => rfl | cons p r ih => obtain ⟨b, l⟩ := p; simp only [demT, ih, hL]
  cases x with
  | c x => simp [demA, demC_idem]
  | agg l => simp [demA, hL]
  | tup l => simp [demA, hT]

theorem rdOs_look : ∀ (xs : List XO) (e : Env) (t : Nat), look t (rdOs e xs).2 = if t ∈ tksL xs then demA (look t e) else look t e
  | [], e, t => by simp [rdOs, tksL]
  | x :: r, e, t => by
    simp only [rdOs, tksL]
    have h1 : look t (rdO e x).2 = if t ∈ tksO x then demA (look t e) else look t e := by
      cases x <;> simp only [rdO, tksO, List.not_mem_nil, if_false]
      rename_i n
      by_cases h : n = t
      · subst h; simp [look]
      · simp [look, h, Ne.symm h]
    rw [rdOs_look r _ t, h1]
    by_cases a : t ∈ tksO x <;> by_cases b : t ∈ tksL r <;> simp [a, b, demA_idem]
theorem rdOs_vals : ∀ (xs : List XO) (e e' : Env), (∀ t, t ∈ readsL xs → look t e = look t e') → (rdOs e xs).1 = (rdOs e' xs).1
  | [], _, _, _ => rfl
  | x :: r, e, e', h => by
    simp only [rdOs]
    have h1 : (rdO e x).1 = (rdO e' x).1 := by
      cases x <;> simp only [rdO] <;> rw [h _ (by simp [readsL, readsO])]
    have h2 : (rdOs (rdO e x).2 r).1 = (rdOs (rdO e' x).2 r).1 := rdOs_vals r _ _ fun t ht => by
      have hr := h t (by simp [readsL, ht])
      have e1 := rdOs_look [x] e t
      have e2 := rdOs_look [x] e' t
      simp only [rdOs] at e1 e2
      rw [e1, e2, hr]
    rw [h1, h2]
theorem tks_reads : ∀ (xs : List XO) (t : Nat), t ∈ tksL xs → t ∈ readsL xs
  | [], _, h => h
  | x :: r, t, h => by
    simp only [tksL, readsL, List.mem_append] at h ⊢
    rcases h with h | h
    · left; cases x <;> simp_all [tksO, readsO]
    · right; exact tks_reads r t h

structure EqS (σ σ' : St) : Prop where
  env : ∀ t, look t σ.env = look t σ'.env
  fr : σ.fr = σ'.fr
  up : σ.up = σ'.up
  ok : σ.ok = σ'.ok
theorem EqS.refl (σ : St) : EqS σ σ := ⟨fun _ => rfl, rfl, rfl, rfl⟩
theorem EqS.trans {a b c : St} (h : EqS a b) (k : EqS b c) : EqS a c := ⟨fun t => (h.env t).trans (k.env t), h.fr.trans k.fr, h.up.trans k.up, h.ok.trans k.ok⟩

section
variable {C : Callee}
theorem wanted_look {g : Option (Nat × Bool)} {e e' : Env} (h : ∀ t b, g = some (t, b) → look t e = look t e') : wantedX e g = wantedX e' g := by
  cases g with
  | none => rfl
  | some p => obtain ⟨t, b⟩ := p; simp only [wantedX, h t b rfl]
theorem putE_look (d : Option Nat) (x : AV) (e : Env) (t : Nat) : look t (putE d x e) = if d = some t then x else look t e := by
  cases d with
  | none => simp [putE]
  | some d => by_cases h : d = t <;> simp [putE, look, h]

/-- What a step comes to, spelled. -/
structure Spell (C : Callee) (x : XOper) (σ τ : St) : Prop where
  spell : (wantedX σ.env x.g = some false ∧ (∀ t, look t τ.env = if x.dst = some t then undefA else look t σ.env) ∧ τ.fr = σ.fr ∧ τ.up = σ.up ∧ τ.ok = σ.ok) ∨
    (∃ r ok, wantedX σ.env x.g = some true ∧ act C x.op (rdOs σ.env x.xs).1 σ.fr σ.up = (r, τ.fr, τ.up, ok) ∧ τ.ok = (σ.ok && ok) ∧ ∀ t, look t τ.env = if x.dst = some t then r else if t ∈ tksL x.xs then demA (look t σ.env) else look t σ.env) ∨
    (wantedX σ.env x.g = none ∧ τ.ok = false)
theorem spell (x : XOper) (σ : St) : Spell C x σ (stepX C x σ) := by
  constructor
  unfold stepX
  cases hw : wantedX σ.env x.g with
  | none => exact .inr (.inr ⟨rfl, rfl⟩)
  | some b =>
    cases b with
    | false => exact .inl ⟨rfl, fun t => putE_look _ _ _ t, rfl, rfl, rfl⟩
    | true =>
      right; left
      generalize hq : act C x.op (rdOs σ.env x.xs).1 σ.fr σ.up = q
      obtain ⟨r, fr, up, ok⟩ := q
      refine ⟨r, ok, rfl, ?_, ?_, fun t => ?_⟩
      · simp only [hq]
      · simp only [hq]
      · simp only [hq]; rw [putE_look, rdOs_look]
theorem spell_eq {x : XOper} {σ τ τ' : St} (h : Spell C x σ τ) (h' : Spell C x σ τ') (hok : τ.ok = true) : EqS τ τ' := by
  rcases h.spell with ⟨a, b, c, d, e⟩ | ⟨r, ok, a, b, c, d⟩ | ⟨a, b⟩
  · rcases h'.spell with ⟨a', b', c', d', e'⟩ | ⟨r', ok', a', b', c', d'⟩ | ⟨a', b'⟩
    · exact ⟨fun t => by rw [b, b'], by rw [c, c'], by rw [d, d'], by rw [e, e']⟩
    · rw [a] at a'; cases a'
    · rw [a] at a'; cases a'
  · rcases h'.spell with ⟨a', b', c', d', e'⟩ | ⟨r', ok', a', b', c', d'⟩ | ⟨a', b'⟩
    · rw [a] at a'; cases a'
    · rw [b] at b'
      simp only [Prod.mk.injEq] at b'
      obtain ⟨rfl, h2, h3, rfl⟩ := b'
      exact ⟨fun t => by rw [d, d'], h2, h3, by rw [c, c']⟩
    · rw [a] at a'; cases a'
  · rw [b] at hok; cases hok
theorem Spell.congr {x : XOper} {σ σ' τ : St} (h : Spell C x σ τ) (he : EqS σ σ') : Spell C x σ' τ := by
  have hw : wantedX σ.env x.g = wantedX σ'.env x.g := wanted_look fun t b _ => he.env t
  have hv : (rdOs σ.env x.xs).1 = (rdOs σ'.env x.xs).1 := rdOs_vals _ _ _ fun t _ => he.env t
  constructor
  rcases h.spell with ⟨a, b, c, d, e⟩ | ⟨r, ok, a, b, c, d⟩ | ⟨a, b⟩
  · exact .inl ⟨by rw [← hw, a], fun t => by rw [b t, he.env], by rw [c, he.fr], by rw [d, he.up], by rw [e, he.ok]⟩
  · exact .inr (.inl ⟨r, ok, by rw [← hw, a], by rw [← hv, ← he.fr, ← he.up, b], by rw [c, he.ok], fun t => by rw [d t, he.env]⟩)
  · exact .inr (.inr ⟨by rw [← hw, a], b⟩)
theorem stepX_eqS {x : XOper} {σ σ' : St} (he : EqS σ σ') (hok : (stepX C x σ).ok = true) : EqS (stepX C x σ) (stepX C x σ') := spell_eq ((spell x σ).congr he) (spell x σ') hok
theorem dynD_eqS {o : XOperD} {σ σ' : St} (he : EqS σ σ') : dynD o σ = dynD o σ' := by
  unfold dynD
  rw [wanted_look (g := o.x.g) (e := σ.env) (e' := σ'.env) fun t b _ => he.env t, rdOs_vals o.x.xs σ.env σ'.env fun t _ => he.env t]
theorem stepD_ok {o : XOperD} {σ : St} (h : (stepD C o σ).ok = true) : (stepX C o.x σ).ok = true ∧ dynD o σ = true := by
  simp only [stepD, Bool.and_eq_true] at h; exact h
theorem stepD_eq {o : XOperD} {σ : St} (h : (stepD C o σ).ok = true) : stepD C o σ = stepX C o.x σ := by
  obtain ⟨h1, h2⟩ := stepD_ok h
  unfold stepD
  simp only [h1, h2, Bool.and_self]
  generalize hq : stepX C o.x σ = q at h1
  obtain ⟨a, b, c, d⟩ := q
  simp only at h1
  rw [h1]
theorem stepD_eqS {o : XOperD} {σ σ' : St} (he : EqS σ σ') (hok : (stepD C o σ).ok = true) : EqS (stepD C o σ) (stepD C o σ') := by
  obtain ⟨h1, h2⟩ := stepD_ok hok
  have h3 := stepX_eqS he h1
  have h4 : dynD o σ' = true := by rw [← dynD_eqS he]; exact h2
  exact ⟨h3.env, h3.fr, h3.up, by simp only [stepD, h2, h4, Bool.and_true]; exact h3.ok⟩
theorem stepsD_ok : ∀ {l : List XOperD} {σ : St}, (stepsD C l σ).ok = true → σ.ok = true
  | [], _, h => h
  | o :: r, σ, h => by
    have := stepsD_ok (l := r) h
    have h1 := (stepD_ok this).1
    rcases (spell (C := C) o.x σ).spell with ⟨_, _, _, _, e⟩ | ⟨_, _, _, _, c, _⟩ | ⟨_, b⟩
    · rw [← e]; exact h1
    · rw [c, Bool.and_eq_true] at h1; exact h1.1
    · rw [b] at h1; cases h1
theorem stepsD_eqS : ∀ {l : List XOperD} {σ σ' : St}, EqS σ σ' → (stepsD C l σ).ok = true → EqS (stepsD C l σ) (stepsD C l σ')
  | [], _, _, he, _ => he
  | o :: r, σ, σ', he, hok => stepsD_eqS (l := r) (stepD_eqS he (stepsD_ok hok)) hok

/-! ### two acts in either order -/
theorem Hext.rfl' (av : List Nat) (fs : List Fram) : Hext av fs fs := fun _ _ h _ hg => ⟨h, hg, rfl⟩
theorem Hext.cons (s : Nat) (h : HO) {fr : Fram} {up : List Fram} (hs : hhas s fr = false) : Hext [] (fr :: up) (((s, h) :: fr) :: up) := fun d k x _ hg => by
  cases d with
  | zero =>
    have hg' : hget k fr = some x := hg
    have hne : s ≠ k := fun e => by subst e; unfold hhas at hs; rw [hg'] at hs; cases hs
    exact ⟨x, by show hget k ((s, h) :: fr) = _; simp [hget, hne, hg'], rfl⟩
  | succ d => exact ⟨x, hg, rfl⟩
theorem Hext.uncons (s : Nat) (h : HO) (av : List Nat) (hav : av.contains s = true) {fr : Fram} {up : List Fram} : Hext av (((s, h) :: fr) :: up) (fr :: up) := fun d k x ha hg => by
  cases d with
  | zero =>
    have hg' : hget k ((s, h) :: fr) = some x := hg
    have hne : s ≠ k := fun e => by subst e; rw [ha rfl] at hav; cases hav
    exact ⟨x, by show hget k fr = some x; simpa [hget, hne] using hg', rfl⟩
  | succ d => exact ⟨x, hg, rfl⟩
theorem Hext.take {d k off n : Nat} {cs : List CV} {fs : List Fram} (hg : getH d k fs = some (.box cs)) (hn : off + n ≤ cs.length) :
    Hext [] fs (setH d k (.box (put cs off (untakeL (cut off n cs)))) fs) ∧ Hext [] (setH d k (.box (put cs off (untakeL (cut off n cs)))) fs) fs := by
  have hl := cut_length off n cs hn
  have hd : demL (put cs off (untakeL (cut off n cs))) = demL cs := untake_dem off _ cs (by rw [hl]) (by rw [hl]; exact hn)
  constructor
  · intro e j x _ hx
    rw [getH_setH hg]
    by_cases h : e = d ∧ j = k
    · obtain ⟨rfl, rfl⟩ := h
      rw [hg] at hx; cases hx
      exact ⟨_, by rw [if_pos ⟨rfl, rfl⟩], by simp only [demH, hd]⟩
    · exact ⟨x, by rw [if_neg h]; exact hx, rfl⟩
  · intro e j x _ hx
    rw [getH_setH hg] at hx
    by_cases h : e = d ∧ j = k
    · obtain ⟨rfl, rfl⟩ := h
      rw [if_pos ⟨rfl, rfl⟩] at hx
      cases hx
      exact ⟨_, hg, by simp only [demH, hd]⟩
    · rw [if_neg h] at hx; exact ⟨x, hx, rfl⟩

theorem cls_T {k : XK} (h : cls k = .T) : ∃ agg n, k = .ld agg n true := by
  cases k <;> simp only [cls] at h <;> try cases h
  case ld agg n take => cases take <;> simp at h; exact ⟨_, _, rfl⟩
theorem avoid_nil : ∀ vs : List AV, avoidAs [] vs = true
  | [] => rfl
  | x :: r => by
    simp only [avoidAs, avoid_nil r, Bool.and_true]
    cases x with
    | c x => cases x <;> simp [avoidA, avoidC]
    | _ => rfl

theorem setH_cons0 (d k s : Nat) (h x : HO) (fr : Fram) (up : List Fram) (hne : ¬ (d = 0 ∧ k = s)) : ∀ fr1 up1, setH d k x (fr :: up) = fr1 :: up1 → setH d k x (((s, h) :: fr) :: up) = ((s, h) :: fr1) :: up1 := by
  intro fr1 up1 he
  cases d with
  | zero =>
    have hks : ¬ s = k := fun e => hne ⟨rfl, e.symm⟩
    simp only [setH, fget, fset, hset, if_neg hks, List.cons.injEq] at he ⊢
    obtain ⟨rfl, rfl⟩ := he
    simp
  | succ d =>
    simp only [setH, fget, fset, List.cons.injEq] at he ⊢
    obtain ⟨rfl, rfl⟩ := he
    simp
theorem hhas_setH0 (d k s : Nat) (x : HO) (fr fr1 : Fram) (up up1 : List Fram) (he : setH d k x (fr :: up) = fr1 :: up1) : hhas s fr1 = hhas s fr := by
  cases d with
  | zero => simp only [setH, fget, fset, List.cons.injEq] at he; obtain ⟨rfl, rfl⟩ := he; exact hhas_hset k s x fr
  | succ d => simp only [setH, fget, fset, List.cons.injEq] at he; obtain ⟨rfl, rfl⟩ := he; rfl
theorem getH_cons0 (d k s : Nat) (h : HO) (fr : Fram) (up : List Fram) (hne : ¬ (d = 0 ∧ k = s)) : getH d k (((s, h) :: fr) :: up) = getH d k (fr :: up) := by
  cases d with
  | zero =>
    have hks : ¬ s = k := fun e => hne ⟨rfl, e.symm⟩
    simp [getH, fget, hget, hks]
  | succ d => rfl

theorem actSwap {x y : XOperD} {vx vy : List AV} {fr fr1 fr2 : Fram} {up up1 up2 : List Fram} {rx ry : AV} (hc : clsOK x y = true) (hx : act C x.x.op vx fr up = (rx, fr1, up1, true)) (hy : act C y.x.op vy fr1 up1 = (ry, fr2, up2, true))
    (dx : (!isCall x.x.op || x.iso || freeAs vx) = true) (dy : (!isCall y.x.op || y.iso || freeAs vy) = true) (ay : avoidAs y.forb vy = true) :
    ∃ fr' up', act C y.x.op vy fr up = (ry, fr', up', true) ∧ act C x.x.op vx fr' up' = (rx, fr2, up2, true) := by
  have isP : ∀ {o : XOperD} {vs : List AV}, clsD o = .P → (!isCall o.x.op || o.iso || freeAs vs) = true → ∃ r ok, ∀ fr up, act C o.x.op vs fr up = (r, fr, up, ok) := fun {o vs} h hd => by
    unfold clsD at h
    cases hi : isCall o.x.op with
    | true =>
      rw [hi] at h hd
      cases hiso : o.iso with
      | true => simp [hiso] at h
      | false => exact act_call hi (by simpa [hiso] using hd)
    | false => rw [hi] at h; exact act_P h
  have cl : ∀ {o : XOperD} {c : Cls}, clsD o = c → c ≠ .P → c ≠ .W → cls o.x.op = c := fun {o c} h h1 h2 => by
    unfold clsD at h
    cases hi : isCall o.x.op with
    | true => rw [hi] at h; cases hiso : o.iso <;> simp [hiso] at h <;> subst h <;> first | exact absurd rfl h1 | exact absurd rfl h2
    | false => rw [hi] at h; exact h
  have xP : clsD x = .P → ∃ fr' up', act C y.x.op vy fr up = (ry, fr', up', true) ∧ act C x.x.op vx fr' up' = (rx, fr2, up2, true) := fun h => by
    obtain ⟨r, ok, ha⟩ := isP (vs := vx) h dx
    rw [ha] at hx
    simp only [Prod.mk.injEq] at hx
    obtain ⟨rfl, rfl, rfl, rfl⟩ := hx
    exact ⟨fr2, up2, hy, ha _ _⟩
  have yP : clsD y = .P → ∃ fr' up', act C y.x.op vy fr up = (ry, fr', up', true) ∧ act C x.x.op vx fr' up' = (rx, fr2, up2, true) := fun h => by
    obtain ⟨r, ok, ha⟩ := isP (vs := vy) h dy
    rw [ha] at hy
    simp only [Prod.mk.injEq] at hy
    obtain ⟨rfl, rfl, rfl, rfl⟩ := hy
    exact ⟨fr, up, ha _ _, hx⟩
  unfold clsOK at hc
  cases hcx : clsD x with
  | P => exact xP hcx
  | W => rw [hcx] at hc; cases hcy : clsD y <;> rw [hcy] at hc <;> first | exact yP hcy | cases hc
  | R =>
    rw [hcx] at hc
    obtain ⟨rfl, rfl, hext⟩ := act_R (cl hcx (by simp) (by simp)) hx
    cases hcy : clsD y with
    | P => exact yP hcy
    | R =>
      obtain ⟨rfl, rfl, -⟩ := act_R (cl hcy (by simp) (by simp)) hy
      exact ⟨_, _, hy, hx⟩
    | A s =>
      rcases act_A (C := C) (vs := vy) (cl hcy (by simp) (by simp)) with h | ⟨r, h, ha⟩
      · have := h fr1 up1; rw [hy] at this; cases this
      · rw [ha] at hy
        simp only [Prod.mk.injEq, Bool.not_eq_true'] at hy
        obtain ⟨rfl, rfl, rfl, hs⟩ := hy
        exact ⟨_, _, by rw [ha, hs]; rfl, hext [] _ _ (Hext.cons s h hs) (avoid_nil _)⟩
    | T =>
      obtain ⟨agg, n, hk⟩ := cls_T (cl hcy (by simp) (by simp))
      rw [hk] at hy ⊢
      rcases act_T hy with ⟨rfl, rfl, -⟩ | ⟨rfl, rfl, -⟩ | ⟨d, k, off, cs, -, hg, hn, hset, -⟩
      · exact ⟨_, _, hy, hx⟩
      · exact ⟨_, _, hy, hx⟩
      · exact ⟨_, _, hy, hext [] _ _ (by rw [hset]; exact (Hext.take hg hn).1) (avoid_nil _)⟩
    | W => rw [hcy] at hc; cases hc
  | A s =>
    rw [hcx] at hc
    rcases act_A (C := C) (vs := vx) (cl hcx (by simp) (by simp)) with h | ⟨r, h, ha⟩
    · have := h fr up; rw [hx] at this; cases this
    rw [ha] at hx
    simp only [Prod.mk.injEq, Bool.not_eq_true'] at hx
    obtain ⟨rfl, rfl, rfl, hs⟩ := hx
    cases hcy : clsD y with
    | P => exact yP hcy
    | R =>
      rw [hcy] at hc
      obtain ⟨rfl, rfl, hext⟩ := act_R (cl hcy (by simp) (by simp)) hy
      exact ⟨_, _, hext y.forb _ _ (Hext.uncons s h y.forb hc) ay, by rw [ha, hs]; rfl⟩
    | T =>
      rw [hcy] at hc
      obtain ⟨agg, n, hk⟩ := cls_T (cl hcy (by simp) (by simp))
      rw [hk] at hy ⊢
      rcases act_T hy with ⟨rfl, rfl, _, _, -, h2⟩ | ⟨rfl, rfl, d, k, sz, i, off, hv, hR, h2⟩ | ⟨d, k, off, cs, hv, hg, hn, hset, h2⟩
      · exact ⟨_, _, h2 _ _, by rw [ha, hs]; rfl⟩
      · rw [h2] at hy
        obtain ⟨-, -, hext⟩ := act_R hR hy
        exact ⟨_, _, by rw [h2]; exact hext y.forb _ _ (Hext.uncons s h y.forb hc) ay, by rw [ha, hs]; rfl⟩
      · have hne : ¬ (d = 0 ∧ k = s) := by
          rintro ⟨rfl, rfl⟩
          rw [hv] at ay
          simp only [avoidAs, avoidA, avoidC, Bool.and_true, bne_self_eq_false, Bool.false_or, Bool.not_eq_true'] at ay
          have hc' := hc
          dsimp only at hc'
          rw [ay] at hc'; cases hc'
        rw [getH_cons0 d k s h fr up hne] at hg
        obtain ⟨f1, u1, hq, -⟩ := setH_cons d k (.box (put cs off (untakeL (cut off n cs)))) fr up
        have := setH_cons0 d k s h _ fr up hne f1 u1 hq
        rw [this] at hset
        simp only [List.cons.injEq] at hset
        obtain ⟨rfl, rfl⟩ := hset
        exact ⟨f1, _, h2 _ _ _ _ hg hq, by rw [ha, hhas_setH0 d k s _ fr f1 up _ hq, hs]; rfl⟩
    | A s' => rw [hcy] at hc; cases hc
    | W => rw [hcy] at hc; cases hc
  | T =>
    rw [hcx] at hc
    obtain ⟨agg, n, hk⟩ := cls_T (cl hcx (by simp) (by simp))
    rw [hk] at hx ⊢
    cases hcy : clsD y with
    | P => rw [hk] at yP; exact yP hcy
    | R =>
      obtain ⟨rfl, rfl, hext⟩ := act_R (cl hcy (by simp) (by simp)) hy
      rcases act_T hx with ⟨rfl, rfl, -⟩ | ⟨rfl, rfl, -⟩ | ⟨d, k, off, cs, -, hg, hn, hset, -⟩
      · exact ⟨_, _, hy, hx⟩
      · exact ⟨_, _, hy, hx⟩
      · exact ⟨_, _, hext [] fr up (by rw [hset]; exact (Hext.take hg hn).2) (avoid_nil _), hx⟩
    | A s =>
      rcases act_A (C := C) (vs := vy) (cl hcy (by simp) (by simp)) with h | ⟨r, h, ha⟩
      · have := h fr1 up1; rw [hy] at this; cases this
      rw [ha] at hy
      simp only [Prod.mk.injEq, Bool.not_eq_true'] at hy
      obtain ⟨rfl, rfl, rfl, hs⟩ := hy
      rcases act_T hx with ⟨rfl, rfl, _, _, -, h2⟩ | ⟨rfl, rfl, d, k, sz, i, off, hv, hR, h2⟩ | ⟨d, k, off, cs, hv, hg, hn, hset, h2⟩
      · exact ⟨_, _, by rw [ha, hs]; rfl, h2 _ _⟩
      · rw [h2] at hx
        obtain ⟨-, -, hext⟩ := act_R hR hx
        exact ⟨_, _, by rw [ha, hs]; rfl, by rw [h2]; exact hext [] _ _ (Hext.cons s h hs) (avoid_nil _)⟩
      · have hs0 : hhas s fr = false := by rw [← hhas_setH0 d k s _ fr fr1 up _ hset.symm]; exact hs
        have hne : ¬ (d = 0 ∧ k = s) := by
          rintro ⟨rfl, rfl⟩
          have hg' : hget k fr = some (.box cs) := hg
          unfold hhas at hs0; rw [hg'] at hs0; cases hs0
        exact ⟨_, _, by rw [ha, hs0]; rfl, h2 _ _ _ _ (by rw [getH_cons0 d k s h fr up hne]; exact hg) (setH_cons0 d k s h _ fr up hne _ _ hset.symm)⟩
    | T => rw [hcy] at hc; cases hc
    | W => rw [hcy] at hc; cases hc
end
end Go.ScE
