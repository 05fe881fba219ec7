/- E16: regions, loops, code. -/
import Derived.Test.YtomklnbaaelchaaDoorSE20
set_option linter.unusedVariables false
set_option linter.unusedSimpArgs false
namespace Go.ScE

/-- A state's values are those of a world. -/
structure SInv (N : Nat) (γ : Gh) (β : Bet) (w : World) (a : Act) (σ : St) (m : Bud) : Prop where
  wok : WOk γ w
  mok : Mok w m
  dom : ∀ k g, β 0 k = some g → hhas k σ.fr = true
  defers : a.defers = []
  size : a.tmps.size = N
  rep : ∃ ce cf, RepE γ β a.tmps [] σ.env ce ∧ RepFs γ w β (σ.fr :: σ.up) cf ∧ ∀ g, ce g + cf g ≤ m g

structure Aft (N : Nat) (m : Bud) (w : World) (γ : Gh) (β : Bet) (σ σ' : St) (a' : Act) (w' : World) (γ' : Gh) (β' : Bet) (m' : Bud) : Prop where
  inv : SInv N γ' β' w' a' σ' m'
  stp : Stp m w γ w' γ' m'
  betu : ∀ d k, β' (d + 1) k = β (d + 1) k
  keeps : Keeps σ.up σ'.up
def After (N : Nat) (m : Bud) (w : World) (γ : Gh) (β : Bet) (σ σ' : St) (a' : Act) (w' : World) : Prop := ∃ γ' β' m', Aft N m w γ β σ σ' a' w' γ' β' m'

theorem After.refl {N : Nat} {m : Bud} {w : World} {γ : Gh} {β : Bet} {σ : St} {a : Act} (h : SInv N γ β w a σ m) : After N m w γ β σ σ a w :=
  ⟨γ, β, m, h, .refl h.wok h.mok, fun _ _ => rfl, .refl _⟩
theorem After.trans {N : Nat} {m m1 : Bud} {w w1 w2 : World} {γ γ1 : Gh} {β β1 : Bet} {σ σ1 σ2 : St} {a1 a2 : Act} (h : Aft N m w γ β σ σ1 a1 w1 γ1 β1 m1) (k : After N m1 w1 γ1 β1 σ1 σ2 a2 w2) : After N m w γ β σ σ2 a2 w2 := by
  obtain ⟨γ2, β2, m2, k⟩ := k
  exact ⟨γ2, β2, m2, k.inv, h.stp.trans k.stp, fun d i => (k.betu d i).trans (h.betu d i), h.keeps.trans k.keeps⟩

section
variable {P : Program} {C : Callee} {N : Nat}

def agG (ops : Array Oper) : Option (Nat × Bool) → Option (Nat × Bool) → Bool
  | none, none => true
  | some (t, b), some (j, b') => b == b' && (ops[j]?).bind (·.dst) == some t
  | _, _ => false
def dstOk (N : Nat) : Option Nat → Bool
  | some d => decide (d < N)
  | none => true
def agX (P : Program) (N : Nat) (ops : Array Oper) (x : XOper) (o : Oper) : Bool := x.dst == o.dst && dstOk N o.dst && agG ops x.g o.guard && agK P x.op x.xs o.op
def agXs (P : Program) (N : Nat) (ops : Array Oper) : List XOper → List Oper → Bool
  | [], [] => true
  | x :: r, o :: s => agX P N ops x o && agXs P N ops r s
  | _, _ => false

theorem wanted_sound {γ : Gh} {β : Bet} {a : Act} {e : Env} {ce : Bud} (he : RepE γ β a.tmps [] e ce) {ops : Array Oper} {g : Option (Nat × Bool)} {o : Oper} (hg : agG ops g o.guard = true) {b : Bool} (hw : wantedX e g = some b) : Region.wanted o (yielded ops a.tmps) = b := by
  unfold agG at hg
  unfold wantedX at hw
  unfold Region.wanted
  split at hg
  · rename_i ho; rw [ho]; simpa using hw
  · rename_i t b1 j b2 ho
    rw [ho]
    simp only [Bool.and_eq_true, beq_iff_eq] at hg
    obtain ⟨rfl, hd⟩ := hg
    have hl := he.look t (by simp)
    simp only at hw
    split at hw
    · rename_i c hc
      rw [hc] at hl
      obtain ⟨hv, -⟩ := hl.litv
      have : a.tmps[t]? = some (.bool c) := by
        rw [Array.getD_eq_getD_getElem?] at hv
        cases h : a.tmps[t]? with
        | none => rw [h] at hv; simp [undef] at hv
        | some v => rw [h] at hv; simpa using hv
      simp only [Option.some.injEq] at hw
      subst hw
      simp only [yielded, hd, Option.bind_some, this]
      cases c <;> cases b1 <;> rfl
    · rename_i hc
      rw [hc] at hl
      simp only [Option.some.injEq] at hw
      subst hw
      have hv : a.tmps.getD t undef = .tuple #[] := by
        generalize a.tmps.getD t undef = v at hl
        cases hl with
        | tup h => rename_i vs; cases hvs : vs.toList with
          | nil => rw [show vs = #[] from by apply Array.ext'; simpa using hvs]
          | cons x r => rw [hvs] at h; cases h
      have : ∀ b, yielded ops a.tmps j ≠ some b := fun b => by
        simp only [yielded, hd, Option.bind_some]
        cases h : a.tmps[t]? with
        | none => simp
        | some v =>
          have : v = .tuple #[] := by rw [Array.getD_eq_getD_getElem?, h] at hv; simpa using hv
          subst this; simp
      simpa using this b1
    · cases hw
  · cases hg

theorem stepX_ok {x : XOper} {σ : St} (h : (stepX C x σ).ok = true) : σ.ok = true := by
  unfold stepX at h
  split at h
  · simp only [Bool.and_eq_true] at h; exact h.1
  · exact h
  · cases h

theorem eval_put_size (a : Act) (d : Option Nat) (v : Value) : (a.put d v).tmps.size = a.tmps.size := by cases d <;> simp [Act.put]
theorem put_defers' (a : Act) (d : Option Nat) (v : Value) : (a.put d v).defers = a.defers := by cases d <;> rfl

/-- An operation. -/
theorem stepX_sound (hC : CSound P C) (hall : ∀ f args frames r frames', C f args frames = (r, frames', true) → fnOk P f = true) {ops : Array Oper} {x : XOper} {o : Oper} (hag : agX P N ops x o = true)
    {γ : Gh} {β : Bet} {w : World} {a : Act} {σ : St} {m : Bud} (h : SInv N γ β w a σ m) (hok : (stepX C x σ).ok = true) {K : Act → World → Prop} {Q : Exit → Act → World → Prop} (hK : ∀ a' w', After N m w γ β σ (stepX C x σ) a' w' → K a' w') :
    if Region.wanted o (yielded ops a.tmps) then o.wp P a w K Q ∨ (o.asks P a w ∧ LetsOut Q) else K (a.put o.dst undef) w := by
  obtain ⟨ce, cf, he, hf, hs⟩ := h.rep
  unfold agX at hag
  simp only [Bool.and_eq_true, beq_iff_eq] at hag
  obtain ⟨⟨⟨hd, hdN⟩, hg⟩, hk⟩ := hag
  unfold stepX at hok hK
  cases hw : wantedX σ.env x.g with
  | none => rw [hw] at hok; cases hok
  | some b =>
    rw [wanted_sound he hg hw]
    rw [hw] at hok hK
    cases b with
    | false =>
      simp only [Bool.false_eq_true, if_false]
      refine hK _ _ ⟨γ, β, m, ⟨h.wok, h.mok, h.dom, by rw [put_defers']; exact h.defers, by rw [eval_put_size]; exact h.size, ce, cf, ?_, hf, hs⟩, .refl h.wok h.mok, fun _ _ => rfl, .refl _⟩
      rw [hd]
      cases ho : o.dst with
      | none => exact he
      | some d =>
        rw [ho] at hdN
        exact he.put (by rw [h.size]; simpa [dstOk] using hdN) (x := undefA) (c1 := none0) (.tup .nil) (fun g => by simp)
    | true =>
      simp only [if_true]
      refine .inl ?_
      simp only at hok hK
      generalize hrd : rdOs σ.env x.xs = q at hok hK
      obtain ⟨vs, e1⟩ := q
      simp only at hok hK
      generalize hact : act C x.op vs σ.fr σ.up = q at hok hK
      obtain ⟨r, fr', up', ok⟩ := q
      simp only [Bool.and_eq_true] at hok
      obtain ⟨-, rfl⟩ := hok
      obtain ⟨os, hos, hcore⟩ := op_core (w := w) (γ := γ) (β := β) hC hall hk (a := a)
      obtain ⟨c1, c2, hc, hvals, he1⟩ := rds_sound (a := a) he hos
      rw [hrd] at hvals he1
      have hm1 : Mok w fun g => c1 g + cf g := ⟨fun g => by have := h.mok.one g; have := hs g; have := hc g; show c1 g + cf g ≤ 1; omega, fun g hg => by have := h.mok.out g hg; have := hs g; have := hc g; show c1 g + cf g = 0; omega⟩
      have hm2 : Mok w fun g => (c1 g + cf g) + c2 g := ⟨fun g => by have := h.mok.one g; have := hs g; have := hc g; show c1 g + cf g + c2 g ≤ 1; omega, fun g hg => by have := h.mok.out g hg; have := hs g; have := hc g; show c1 g + cf g + c2 g = 0; omega⟩
      have hpre : Pre (fun g => c1 g + cf g) w γ β (os.map a.eval) vs σ.fr σ.up c1 cf := ⟨h.wok, hm1, h.dom, hvals, hf, fun g => Nat.le_refl _⟩
      refine (hcore vs r σ.fr fr' σ.up up' _ c1 cf hpre hact).wp fun v w' hout => ?_
      obtain ⟨γ', β', mo', cr, cf', hout⟩ := hout
      obtain ⟨hkeep, hstp⟩ := hout.stp.frame hm2
      have hle : ∀ g, c1 g + cf g + c2 g ≤ m g := fun g => by have := hs g; have := hc g; omega
      have hstp' : Stp m w γ w' γ' fun g => mo' g + c2 g := ⟨hstp.os, hstp.tape, hstp.output, hstp.size, hstp.le, hstp.ok, fun g hg h0 => hstp.keepH g hg (Nat.le_antisymm (by rw [← h0]; exact hle g) (Nat.zero_le _)), fun g hg h0 => hstp.keepS g hg (Nat.le_antisymm (by rw [← h0]; exact hle g) (Nat.zero_le _)), fun g hg => Nat.le_trans (hstp.bud g hg) (hle g), hstp.mok, hstp.frz⟩
      have he2 := he1.mono hout.stp.le hout.bet hkeep.s
      refine hK _ _ ⟨γ', β', fun g => mo' g + c2 g, ⟨hstp.ok, hstp.mok, hout.dom, by rw [put_defers']; exact h.defers, by rw [eval_put_size]; exact h.size, fun g => cr g + c2 g, cf', ?_, hout.fs, fun g => by have := hout.sum g; show cr g + c2 g + cf' g ≤ mo' g + c2 g; omega⟩, hstp', hout.betu, act_keeps (fun f args frames r frames' hh => (hC f args frames r frames' hh).1) hact⟩
      show RepE γ' β' (a.put o.dst v).tmps [] (putE x.dst r e1) fun g => cr g + c2 g
      rw [hd]
      cases ho : o.dst with
      | none => exact he2.weak fun g => Nat.le_add_left _ _
      | some d =>
        rw [ho] at hdN
        exact he2.put (by rw [h.size]; simpa [dstOk] using hdN) hout.val (fun g => Nat.le_refl _)

theorem stepsX_ok : ∀ {xs : List XOper} {σ : St}, (stepsX C xs σ).ok = true → σ.ok = true
  | [], _, h => h
  | _ :: _, _, h => stepX_ok (stepsX_ok h)

/-- A row of operations, in the order of the text. -/
theorem stepsX_sound (hC : CSound P C) (hall : ∀ f args frames r frames', C f args frames = (r, frames', true) → fnOk P f = true) {ops : Array Oper} {Q : Exit → Act → World → Prop} :
    ∀ {xs : List XOper} {os : List Oper} (i : Nat) (_ : agXs P N ops xs os = true) (_ : ∀ j, os[j]? = ops[i + j]?) {γ : Gh} {β : Bet} {w : World} {a : Act} {σ : St} {m : Bud} (_ : SInv N γ β w a σ m) (_ : (stepsX C xs σ).ok = true)
      (_ : ∀ a' w', After N m w γ β σ (stepsX C xs σ) a' w' → Q .normal a' w'), wpOps P ops Q (List.range' i os.length) a w
  | [], [], i, _, _, γ, β, w, a, σ, m, h, hok, hQ => by
    simp only [List.length_nil, List.range'_zero, wpOps]
    exact hQ _ _ (.refl h)
  | x :: xs, o :: os, i, hag, hops, γ, β, w, a, σ, m, h, hok, hQ => by
    simp only [agXs, Bool.and_eq_true] at hag
    simp only [List.length_cons, List.range'_succ, wpOps]
    have h0 : ops[i]? = some o := by simpa using (hops 0).symm
    simp only [h0]
    have := stepX_sound (K := wpOps P ops Q (List.range' (i + 1) os.length)) (Q := Q) hC hall hag.1 h (stepsX_ok hok) (fun a' w' hA => by
      obtain ⟨γ1, β1, m1, hA⟩ := hA
      refine stepsX_sound hC hall (i + 1) hag.2 (fun j => by have := hops (j + 1); simpa [Nat.add_assoc, Nat.add_comm 1 j] using this) hA.inv hok (fun a2 w2 hA2 => ?_)
      exact hQ a2 w2 (After.trans hA hA2))
    exact this
  | [], _ :: _, _, hag, _, _, _, _, _, _, _, _, _, _ => by simp [agXs] at hag
  | _ :: _, [], _, hag, _, _, _, _, _, _, _, _, _, _ => by simp [agXs] at hag

/-! ### a region that draws its order -/
def edgeTo (o : Oper) (i : Nat) : Bool := o.after.toList.any fun e => Region.binds .any e && e.on == i
def backE (o : Oper) (i : Nat) : Bool := o.after.toList.all fun e => !Region.binds .any e || decide (e.on < i)
def agD (P : Program) (N : Nat) (ops : Array Oper) (xs : List XOperD) : Bool := xs.length == ops.size && (List.range xs.length).all fun j =>
  match xs[j]?, ops[j]? with
  | some x, some o => agX P N ops x.x o && backE o j && (List.range j).all fun i =>
    match xs[i]? with
    | some y => compat y x || edgeTo o i
    | none => true
  | _, _ => false

structure DOk (P : Program) (N : Nat) (ops : Array Oper) (xs : List XOperD) : Prop where
  len : xs.length = ops.size
  at_ : ∀ j x, xs[j]? = some x → ∃ o, ops[j]? = some o ∧ agX P N ops x.x o = true ∧ (∀ e ∈ o.after, Region.binds .any e = true → e.on < j) ∧
    ∀ i y, i < j → xs[i]? = some y → compat y x = true ∨ ∃ e ∈ o.after, Region.binds .any e = true ∧ e.on = i
theorem agD_ok {ops : Array Oper} {xs : List XOperD} (h : agD P N ops xs = true) : DOk P N ops xs := by
  unfold agD at h
  rw [Bool.and_eq_true, beq_iff_eq, List.all_eq_true] at h
  obtain ⟨hl, h⟩ := h
  refine ⟨hl, fun j x hx => ?_⟩
  have hj : j < xs.length := (List.getElem?_eq_some_iff.1 hx).1
  have hh := h j (List.mem_range.2 hj)
  rw [hx] at hh
  cases ho : ops[j]? with
  | none => rw [ho] at hh; cases hh
  | some o =>
    rw [ho] at hh
    simp only [Bool.and_eq_true] at hh
    obtain ⟨⟨h1, h2⟩, h3⟩ := hh
    refine ⟨o, rfl, h1, fun e he hb => ?_, fun i y hi hy => ?_⟩
    · unfold backE at h2
      rw [List.all_eq_true] at h2
      have := h2 e (by simpa using he)
      simpa [hb] using this
    · rw [List.all_eq_true] at h3
      have := h3 i (List.mem_range.2 hi)
      rw [hy] at this
      simp only [Bool.or_eq_true] at this
      refine this.imp id fun h => ?_
      unfold edgeTo at h
      rw [List.any_eq_true] at h
      obtain ⟨e, he, hb⟩ := h
      simp only [Bool.and_eq_true, beq_iff_eq] at hb
      exact ⟨e, by simpa using he, hb.1, hb.2⟩

theorem SInv.drawn {γ : Gh} {β : Bet} {w : World} {a : Act} {σ : St} {m : Bud} (h : SInv N γ β w a σ m) (d : Nat) : Aft N m w γ β σ σ a { w with drawn := d } γ β m := by
  obtain ⟨ce, cf, he, hf, hs⟩ := h.rep
  have hw : WOk γ { w with drawn := d } := ⟨h.wok.cell, h.wok.size⟩
  have hm : Mok { w with drawn := d } m := ⟨h.mok.one, h.mok.out⟩
  have hf' : RepFs γ { w with drawn := d } β (σ.fr :: σ.up) cf := hf.mono (.refl γ) (fun _ _ _ h => h) ⟨fun _ _ _ => rfl, fun _ _ => rfl⟩
  exact ⟨⟨hw, hm, h.dom, h.defers, h.size, ce, cf, he, hf', hs⟩, ⟨rfl, rfl, rfl, Nat.le_refl _, .refl γ, hw, fun _ _ _ => rfl, fun _ _ _ _ => rfl, fun _ _ => Nat.le_refl _, hm, fun _ => rfl⟩, fun _ _ => rfl, .refl _⟩

theorem getD_no {l : Array Bool} {i : Nat} (h : l.getD i true = false) : l.getD i false = false := by
  rw [Array.getD_eq_getD_getElem?] at h ⊢
  cases e : l[i]? with
  | none => rfl
  | some b => rw [e] at h; exact h
theorem getD_yes {l : Array Bool} {i : Nat} (hi : i < l.size) (h : l.getD i true = true) : l.getD i false = true := by
  rw [Array.getD_eq_getD_getElem?] at h ⊢
  rw [Array.getElem?_eq_getElem hi] at h ⊢
  exact h

theorem draw_sound (hC : CSound P C) (hall : ∀ f args frames r frames', C f args frames = (r, frames', true) → fnOk P f = true) {ops : Array Oper} {xs : List XOperD} (hag : DOk P N ops xs) {Q : Exit → Act → World → Prop} :
    ∀ (fuel : Nat) (rest : List (Nat × XOperD)) (listed : Array Bool) {γ : Gh} {β : Bet} {w : World} {a : Act} {σ : St} {m : Bud} (_ : SInv N γ β w a σ m) (_ : listed.size = ops.size) (_ : rest.Pairwise (fun p q => p.1 < q.1))
      (_ : ∀ p ∈ rest, xs[p.1]? = some p.2 ∧ listed.getD p.1 true = false) (_ : ∀ i, listed.getD i true = false → ∃ x, (i, x) ∈ rest) (_ : rest.length ≤ fuel) (_ : (stepsD C (rest.map (·.2)) σ).ok = true)
      (_ : ∀ a' w' σ', EqS (stepsD C (rest.map (·.2)) σ) σ' → After N m w γ β σ σ' a' w' → Q .normal a' w'), wpAny P .any ops Q fuel listed a w
  | 0, rest, listed, γ, β, w, a, σ, m, h, hsz, hpw, hin, hout, hlen, hok, hQ => by
    have : rest = [] := List.length_eq_zero_iff.1 (Nat.le_zero.1 hlen)
    subst this
    refine ⟨?_, hQ _ _ σ (.refl σ) (.refl h)⟩
    rw [List.eq_nil_iff_forall_not_mem]
    intro i hi
    obtain ⟨x, hx⟩ := hout i (mem_ready.1 hi).1
    cases hx
  | fuel + 1, rest, listed, γ, β, w, a, σ, m, h, hsz, hpw, hin, hout, hlen, hok, hQ => by
    refine ⟨fun hr => ?_, fun i hi => ?_⟩
    · cases rest with
      | nil => exact hQ _ _ σ (.refl σ) (.refl h)
      | cons p rest =>
        exfalso
        obtain ⟨hx, hl⟩ := hin p (by simp)
        obtain ⟨o, ho, -, hback, -⟩ := hag.at_ _ _ hx
        have : p.1 ∈ Region.ready .any ops listed := mem_ready.2 ⟨hl, o, ho, fun e he hb => by
          have hlt := hback e he hb
          have hps : p.1 < ops.size := (Array.getElem?_eq_some_iff.1 ho).1
          refine getD_yes (by omega) ?_
          cases hq : listed.getD e.on true with
          | true => rfl
          | false =>
            obtain ⟨y, hy⟩ := hout _ hq
            rcases List.mem_cons.1 hy with hy | hy
            · rw [← hy] at hlt; simp at hlt
            · have := (List.pairwise_cons.1 hpw).1 _ hy
              simp at this; omega⟩
        rw [hr] at this; cases this
    · obtain ⟨hl, o, ho, hed⟩ := mem_ready.1 hi
      obtain ⟨y, hy⟩ := hout i hl
      obtain ⟨pre, post, rfl⟩ := List.append_of_mem hy
      obtain ⟨o', ho', hagx, -, hcm⟩ := hag.at_ _ _ (hin _ hy).1
      rw [ho] at ho'; cases ho'
      have hpw' := List.pairwise_append.1 hpw
      have hpre : ∀ x, x ∈ pre.map (·.2) → compat x y = true := fun x hx => by
        obtain ⟨p, hp, rfl⟩ := List.mem_map.1 hx
        have hlt : p.1 < i := hpw'.2.2 p hp (i, y) (by simp)
        obtain ⟨hpx, hpl⟩ := hin p (by simp [hp])
        rcases hcm p.1 p.2 hlt hpx with hc | ⟨e, he, hb, hon⟩
        · exact hc
        · have := hed e he hb
          rw [hon, getD_no hpl] at this; cases this
      rw [List.map_append, List.map_cons] at hok hQ
      have hbub := bubble (C := C) hpre hok
      have hok2 : (stepsD C (pre.map (·.2) ++ post.map (·.2)) (stepD C y σ)).ok = true := hbub.ok.symm.trans hok
      have hoky : (stepD C y σ).ok = true := stepsD_ok hok2
      have heq := stepD_eq hoky
      have hokx := (stepD_ok hoky).1
      unfold wpOp
      simp only [ho]
      refine stepX_sound hC hall hagx h hokx (fun a' w' hA => ?_)
      obtain ⟨γ1, β1, m1, hA⟩ := hA
      rw [heq] at hok2
      have hne : ∀ p, p ∈ pre ++ post → p.1 ≠ i := fun p hp => by
        rcases List.mem_append.1 hp with hp | hp
        · exact Nat.ne_of_lt (hpw'.2.2 p hp (i, y) (by simp))
        · exact (Nat.ne_of_lt ((List.pairwise_cons.1 hpw'.2.1).1 p hp)).symm
      refine draw_sound hC hall hag fuel (pre ++ post) (listed.setIfInBounds i true) hA.inv (by simpa using hsz) ?_ ?_ ?_ (by simp at hlen ⊢; omega) (by rw [List.map_append]; exact hok2) ?_
      · refine List.pairwise_append.2 ⟨hpw'.1, (List.pairwise_cons.1 hpw'.2.1).2, fun p hp q hq => hpw'.2.2 p hp q (by simp [hq])⟩
      · intro p hp
        have hp' : p ∈ pre ++ (i, y) :: post := by
          rcases List.mem_append.1 hp with hp | hp <;> simp [hp]
        obtain ⟨h1, h2⟩ := hin p hp'
        exact ⟨h1, by rw [getD_set_ne true (Ne.symm (hne p hp))]; exact h2⟩
      · intro k hk
        by_cases hki : k = i
        · subst hki
          have hks : k < listed.size := by rw [hsz]; exact (Array.getElem?_eq_some_iff.1 ho).1
          rw [Array.getD_eq_getD_getElem?, Array.getElem?_setIfInBounds] at hk
          simp [hks] at hk
        · rw [getD_set_ne true (fun e => hki e.symm)] at hk
          obtain ⟨x, hx⟩ := hout k hk
          refine ⟨x, ?_⟩
          rcases List.mem_append.1 hx with hx | hx
          · simp [hx]
          · rcases List.mem_cons.1 hx with hx | hx
            · cases hx; exact absurd rfl hki
            · simp [hx]
      · intro a2 w2 σ2 he hA2
        refine hQ a2 w2 σ2 ?_ (After.trans hA hA2)
        rw [List.map_append, ← heq] at he
        exact hbub.trans he

/-! ### slots kept, sites kept -/
theorem RepE.keep {γ : Gh} {β : Bet} {tm : Array Value} {e : Env} : ∀ (live : List Nat) {s : List Nat} {c : Bud} (_ : RepE γ β tm s e c), RepE γ β tm s (keepE live e) c
  | [], _, _, _ => .nil
  | t :: r, s, c, h => by
    simp only [keepE]
    by_cases ht : t ∈ s
    · exact .skip ht (RepE.keep r h)
    · obtain ⟨c1, c2, hc, ha, he⟩ := h.take t ht
      exact .cons ht ha (RepE.keep r he) hc

theorem keepE_eq : ∀ (live : List Nat) {e e' : Env}, (∀ t, look t e = look t e') → keepE live e = keepE live e'
  | [], _, _, _ => rfl
  | t :: r, e, e', h => by simp only [keepE, h t, keepE_eq r h]

theorem SInv.keepE {γ : Gh} {β : Bet} {w : World} {a : Act} {σ : St} {m : Bud} (h : SInv N γ β w a σ m) (live : List Nat) : SInv N γ β w a { σ with env := keepE live σ.env } m := by
  obtain ⟨ce, cf, he, hf, hs⟩ := h.rep
  exact ⟨h.wok, h.mok, h.dom, h.defers, h.size, ce, cf, he.keep live, hf, hs⟩

def Bet.cut (β : Bet) (ks : List Nat) : Bet := fun d k => if d = 0 ∧ ks.contains k = false then none else β d k
section cutting
variable {γ : Gh} {β : Bet} {ks : List Nat}
theorem Bet.cut_of {d k g : Nat} (h : β d k = some g) (hk : (d != 0 || ks.contains k) = true) : β.cut ks d k = some g := by
  unfold Bet.cut
  rw [if_neg]; exact h
  rintro ⟨rfl, h2⟩
  rw [h2] at hk; simp at hk
theorem RepC.cut {v : Value} {x : CV} {c : Bud} (h : RepC γ β v x c) (hk : keptC ks x = true) : RepC γ (β.cut ks) v x c := by
  cases h with
  | p h => exact .p h
  | ownNil => exact .ownNil
  | own a b c d => exact .own a b c d
  | ipt val hs hr => exact .ipt val hs hr
  | ref h => exact .ref (Bet.cut_of h hk)
  | aref h => exact .aref (Bet.cut_of h hk)
  | arr h hc => exact .arr (Bet.cut_of h hk) hc
  | mp h => exact .mp (Bet.cut_of h hk)
  | dead h => exact .dead h
theorem RepCs.cutB {vs : List Value} {xs : List CV} {c : Bud} (h : RepCs γ β vs xs c) (ho : keptL ks xs = true) : RepCs γ (β.cut ks) vs xs c := by
  induction h with
  | nil => exact .nil
  | cons h r hc ih => simp only [keptL, Bool.and_eq_true] at ho; exact .cons (h.cut ho.1) (ih ho.2) hc
theorem RepT.cutB {vs : List Value} {xs : List (Bool × List CV)} {c : Bud} (h : RepT γ β vs xs c) (ho : keptT ks xs = true) : RepT γ (β.cut ks) vs xs c := by
  induction h with
  | nil => exact .nil
  | agg h t hc ih => simp only [keptT, Bool.and_eq_true] at ho; exact .agg (h.cutB ho.1) (ih ho.2) hc
  | one h t hc ih => simp only [keptT, keptL, Bool.and_eq_true] at ho; exact .one (h.cut ho.1.1) (ih ho.2) hc
  | dead t ih => simp only [keptT, keptL, Bool.and_eq_true] at ho; exact .dead (ih ho.2)
theorem RepA.cutB {v : Value} {x : AV} {c : Bud} (h : RepA γ β v x c) (ho : keptA ks x = true) : RepA γ (β.cut ks) v x c := by
  cases h with
  | dead => exact .dead
  | c h => exact .c (h.cut ho)
  | agg h => exact .agg (h.cutB ho)
  | tup h => exact .tup (h.cutB ho)
theorem RepE.cutB {tm : Array Value} {s : List Nat} {e : Env} {c : Bud} (h : RepE γ β tm s e c) (ho : keptE ks e = true) : RepE γ (β.cut ks) tm s e c := by
  induction h with
  | nil => exact .nil
  | skip h e ih => simp only [keptE, Bool.and_eq_true] at ho; exact .skip h (ih ho.2)
  | cons h a e hc ih => simp only [keptE, Bool.and_eq_true] at ho; exact .cons h (a.cutB ho.1) (ih ho.2) hc
theorem RepFr.keep {w : World} {f : Fram} {c : Bud} (h : RepFr γ w β f c) (ho : keptF ks (keepF ks f) = true) : RepFr γ w (β.cut ks) (keepF ks f) c := by
  induction h with
  | nil => exact .nil
  | cons hb hh t hc ih =>
    rename_i k h r g c1 c2 c
    simp only [keepF] at ho ⊢
    split
    · rename_i hk
      rw [if_pos hk] at ho
      have hb' : β.cut ks 0 k = some g := Bet.cut_of hb (by rw [hk]; simp)
      cases hh with
      | box a b d e =>
        simp only [keptF, Bool.and_eq_true] at ho
        exact .cons hb' (.box a (b.cutB ho.1) d e) (ih ho.2) hc
      | arr a b d e f g => simp only [keptF] at ho; exact .cons hb' (.arr a b d e f g) (ih ho) hc
      | map a b d e => simp only [keptF] at ho; exact .cons hb' (.map a b d e) (ih ho) hc
    · rename_i hk
      rw [if_neg hk] at ho
      exact (ih ho).weak (le_of_split2 hc)
theorem hhas_keepF {k : Nat} (hk : ks.contains k = true) : ∀ {f : Fram}, hhas k f = true → hhas k (keepF ks f) = true
  | [], h => h
  | (j, x) :: r, h => by
    simp only [keepF]
    by_cases e : j = k
    · subst e; rw [if_pos hk]; simp [hhas, hget]
    · have h' : hhas k r = true := by simpa [hhas, hget, e] using h
      have := hhas_keepF hk h'
      split
      · simpa [hhas, hget, e] using this
      · exact this
end cutting

theorem headX_ok {live keep : List Nat} {σ : St} (h : (headX live keep σ).ok = true) : σ.ok = true := by
  simp only [headX, Bool.and_eq_true] at h; exact h.1.1
theorem headX_sound {live keep : List Nat} {γ : Gh} {β : Bet} {w : World} {a : Act} {σ : St} {m : Bud} (h : SInv N γ β w a σ m) (hok : (headX live keep σ).ok = true) : After N m w γ β σ (headX live keep σ) a w := by
  obtain ⟨ce, cf, he, hf, hs⟩ := h.rep
  simp only [headX, Bool.and_eq_true] at hok
  refine ⟨γ, β.cut keep, m, ⟨h.wok, h.mok, fun k g hk => ?_, h.defers, h.size, ce, cf, (he.keep live).cutB hok.1.2, ?_, hs⟩, .refl h.wok h.mok, fun d k => by simp [Bet.cut], .refl _⟩
  · unfold Bet.cut at hk
    split at hk
    · cases hk
    · rename_i hc
      have hc' : keep.contains k = true := by
        cases e : keep.contains k with
        | true => rfl
        | false => exact absurd ⟨rfl, e⟩ hc
      exact hhas_keepF hc' (h.dom k g hk)
  · cases hf with
    | cons hfr t hc =>
      refine .cons (hfr.keep hok.2) ?_ hc
      have : (β.cut keep).sub 1 = β.sub 1 := by funext d k; simp [Bet.cut, Bet.sub]
      rw [this]; exact t

/-! ### code -/
def toExit : Ex → Exit
  | .normal => .normal
  | .exit id => .exit id
  | .ret => .ret

def agC (P : Program) (N : Nat) : XCode → Code → Bool
  | .skip, .skip => true
  | .region false ops _, .region _ os false => agXs P N os ops os.toList
  | .regionD ops _, .region _ os true => P.follows .mixedOrders && agD P N os ops
  | .seq a b, .seq c d => agC P N a c && agC P N b d
  | .cond x a b, .cond y c d => agO x y && agC P N a c && agC P N b d
  | .block i b, .block j c => i == j && agC P N b c
  | .loop _ _ b, .loop c => agC P N b c
  | .exit i, .exit j => i == j
  | .ret, .ret => true
  | _, _ => false

theorem loopX_ok {body : St → Ex × St} {head : St → St} (hb : ∀ σ, (body σ).2.ok = true → σ.ok = true) (hh : ∀ σ, (head σ).ok = true → σ.ok = true) : ∀ {n : Nat} {σ : St}, (loopX body head n σ).2.ok = true → σ.ok = true
  | 0, _, h => by simp [loopX] at h
  | n + 1, σ, h => by
    simp only [loopX] at h
    split at h
    · rename_i σ1 hq
      have h1 := loopX_ok hb hh h
      have h2 := hb (head σ) (by rw [hq]; exact h1)
      exact hh σ h2
    · exact hh σ (hb (head σ) h)

theorem evC_ok {n : Nat} : ∀ {x : XCode} {σ : St}, (evC C n x σ).2.ok = true → σ.ok = true
  | .skip, _, h => h
  | .region _ ops live, σ, h => stepsX_ok (xs := ops) (by simpa [evC] using h)
  | .regionD ops live, σ, h => stepsD_ok (l := ops) (by simpa [evC] using h)
  | .seq a b, σ, h => by
    simp only [evC] at h
    split at h
    · rename_i σ1 hq
      have h1 := evC_ok (x := b) h
      exact evC_ok (x := a) (by rw [hq]; exact h1)
    · exact evC_ok (x := a) h
  | .cond c a b, σ, h => by
    simp only [evC] at h
    split at h
    · split at h
      · exact evC_ok (x := a) h
      · exact evC_ok (x := b) h
    · cases h
  | .block id b, σ, h => by
    simp only [evC] at h
    split at h
    · rename_i j σ1 hq
      refine evC_ok (n := n) (x := b) ?_
      rw [hq]
      split at h <;> exact h
    · exact evC_ok (x := b) h
  | .loop live keep b, σ, h => by
    simp only [evC] at h
    exact loopX_ok (fun σ h => evC_ok (x := b) h) (fun σ h => headX_ok h) h
  | .exit _, _, h => h
  | .ret, _, h => h

theorem evC_sound (hC : CSound P C) (hall : ∀ f args frames r frames', C f args frames = (r, frames', true) → fnOk P f = true) (n : Nat) : ∀ {x : XCode} {c : Code} (_ : agC P N x c = true) {γ : Gh} {β : Bet} {w : World} {a : Act} {σ : St} {m : Bud} (_ : SInv N γ β w a σ m) (_ : (evC C n x σ).2.ok = true),
    c.wp P (fun e a' w' => e = toExit (evC C n x σ).1 ∧ After N m w γ β σ (evC C n x σ).2 a' w') a w
  | .skip, c, hag, γ, β, w, a, σ, m, h, hok => by
    cases c <;> simp [agC] at hag
    exact wp_skip ⟨rfl, .refl h⟩
  | .region dr ops live, c, hag, γ, β, w, a, σ, m, h, hok => by
    cases c <;> try (cases dr <;> simp [agC] at hag; done)
    rename_i id os draw
    cases dr <;> cases draw <;> simp only [agC, Bool.false_eq_true] at hag
    refine wp_region ?_
    rw [List.range_eq_range']
    have := stepsX_sound (Q := fun e a' w' => e = toExit (evC C n (.region false ops live) σ).1 ∧ After N m w γ β σ (evC C n (.region false ops live) σ).2 a' w') hC hall 0 hag (fun j => by simp) h (by simpa [evC] using hok) (fun a' w' hA => ⟨rfl, by
      obtain ⟨γ', β', m', hA⟩ := hA
      exact ⟨γ', β', m', hA.inv.keepE live, hA.stp, hA.betu, hA.keeps⟩⟩)
    simpa using this
  | .regionD xs live, c, hag, γ, β, w, a, σ, m, h, hok => by
    cases c <;> try (simp [agC] at hag; done)
    rename_i id os draw
    cases draw <;> simp only [agC, Bool.false_eq_true, Bool.and_eq_true] at hag
    obtain ⟨hm, hag⟩ := hag
    have hD := agD_ok hag
    refine wp_region_any hm ?_
    have hdr := h.drawn (w.drawn + 1)
    have hok' : (stepsD C xs σ).ok = true := by simpa [evC] using hok
    have hfst : (xs.zipIdx.map fun p => (p.2, p.1)).map (·.2) = xs := by simp [Function.comp_def]
    refine draw_sound hC hall hD os.size (xs.zipIdx.map fun p => (p.2, p.1)) (Array.replicate os.size false) hdr.inv (by simp) ?_ ?_ ?_ (by simp [hD.len]) (by rw [hfst]; exact hok') ?_
    · rw [List.pairwise_map]
      rw [List.pairwise_iff_getElem]
      intro i j hi hj hij
      simp [hij]
    · intro p hp
      obtain ⟨q, hq, rfl⟩ := List.mem_map.1 hp
      obtain ⟨x, i⟩ := q
      have := List.mem_zipIdx_iff_getElem?.1 hq
      simp only at this ⊢
      have hi : i < os.size := by rw [← hD.len]; exact (List.getElem?_eq_some_iff.1 this).1
      exact ⟨this, by simp [Array.getD, hi]⟩
    · intro i hi
      have hlt : i < os.size := by
        rcases Nat.lt_or_ge i os.size with h | h
        · exact h
        · simp [Array.getD, Nat.not_lt.2 h] at hi
      rw [← hD.len] at hlt
      exact ⟨xs[i], List.mem_map.2 ⟨(xs[i], i), List.mem_zipIdx_iff_getElem?.2 (by simp [hlt]), rfl⟩⟩
    · intro a' w' σ' he hA
      rw [hfst] at he
      refine ⟨rfl, ?_⟩
      have hA' := After.trans hdr hA
      obtain ⟨γ', β', m', hA⟩ := hA'
      have hE : ({ stepsD C xs σ with env := keepE live (stepsD C xs σ).env } : St) = { σ' with env := keepE live σ'.env } := by
        have h1 : keepE live (stepsD C xs σ).env = keepE live σ'.env := keepE_eq live he.env
        have h2 := he.fr
        have h3 := he.up
        have h4 := he.ok
        show St.mk _ _ _ _ = St.mk _ _ _ _
        rw [h1, h2, h3, h4]
      simp only [evC]
      rw [hE]
      exact ⟨γ', β', m', hA.inv.keepE live, hA.stp, hA.betu, hA.keeps⟩
  | .seq x y, c, hag, γ, β, w, a, σ, m, h, hok => by
    cases c <;> simp [agC] at hag
    rename_i c d
    simp only [evC] at hok ⊢
    cases hq : evC C n x σ with
    | mk e1 σ1 =>
      rw [hq] at hok
      cases e1 with
      | normal =>
        simp only [hq] at hok ⊢
        have ih := evC_sound hC hall n hag.1 h (by rw [hq]; exact evC_ok hok)
        rw [hq] at ih
        refine wp_seq (wp_mono ih ?_)
        rintro e a' w' ⟨rfl, hA⟩
        obtain ⟨γ1, β1, m1, hA⟩ := hA
        show d.wp P _ a' w'
        refine wp_mono (evC_sound hC hall n hag.2 hA.inv hok) ?_
        rintro e a2 w2 ⟨rfl, hA2⟩
        exact ⟨rfl, After.trans hA hA2⟩
      | exit i =>
        have ih := evC_sound hC hall n hag.1 h (by rw [hq]; exact hok)
        rw [hq] at ih
        refine wp_seq (wp_mono ih ?_)
        rintro e a' w' ⟨rfl, hA⟩
        exact ⟨rfl, hA⟩
      | ret =>
        have ih := evC_sound hC hall n hag.1 h (by rw [hq]; exact hok)
        rw [hq] at ih
        refine wp_seq (wp_mono ih ?_)
        rintro e a' w' ⟨rfl, hA⟩
        exact ⟨rfl, hA⟩
  | .cond xo x y, c, hag, γ, β, w, a, σ, m, h, hok => by
    cases c <;> simp [agC] at hag
    rename_i o c d
    obtain ⟨ce, cf, he, hf, hs⟩ := h.rep
    obtain ⟨c1, c2, -, hv, -⟩ := rd_sound (a := a) he hag.1.1
    simp only [evC] at hok ⊢
    split at hok
    · rename_i t ht
      rw [ht] at hv
      obtain ⟨hev, -⟩ := hv.litv
      refine wp_cond hev ?_
      cases t with
      | true =>
        simp only [if_true] at hok ⊢
        exact evC_sound hC hall n hag.1.2 h hok
      | false =>
        simp only [Bool.false_eq_true, if_false] at hok ⊢
        exact evC_sound hC hall n hag.2 h hok
    · cases hok
  | .block id x, c, hag, γ, β, w, a, σ, m, h, hok => by
    cases c <;> simp [agC] at hag
    rename_i j c
    obtain ⟨rfl, hag⟩ := hag
    simp only [evC] at hok ⊢
    cases hq : evC C n x σ with
    | mk e1 σ1 =>
      rw [hq] at hok
      have hok1 : σ1.ok = true := by
        cases e1 with
        | exit j => simp only at hok; split at hok <;> exact hok
        | normal => exact hok
        | ret => exact hok
      have ih := evC_sound hC hall n hag h (by rw [hq]; exact hok1)
      rw [hq] at ih
      refine wp_block (wp_mono ih ?_)
      rintro e a' w' ⟨rfl, hA⟩
      cases e1 with
      | normal => exact ⟨rfl, hA⟩
      | ret => exact ⟨rfl, hA⟩
      | exit j =>
        show Exit.inBlock id _ (.exit j) a' w'
        simp only [Exit.inBlock]
        split
        · rename_i e; simp only [if_pos e]; exact ⟨rfl, hA⟩
        · rename_i e; simp only [if_neg e]; exact ⟨rfl, hA⟩
  | .loop live keep x, c, hag, γ, β, w, a, σ, m, h, hok => by
    cases c <;> simp [agC] at hag
    rename_i c
    simp only [evC] at hok ⊢
    refine wp_loop_rounds n ?_
    have key : ∀ (k : Nat) {γ : Gh} {β : Bet} {w : World} {a : Act} {σ : St} {m : Bud} (_ : SInv N γ β w a σ m) (_ : (loopX (evC C n x) (headX live keep) k σ).2.ok = true) {Q : Exit → Act → World → Prop}
        (_ : ∀ a' w', After N m w γ β σ (loopX (evC C n x) (headX live keep) k σ).2 a' w' → Q (toExit (loopX (evC C n x) (headX live keep) k σ).1) a' w'), Code.rounds P c Q k a w := by
      intro k
      induction k with
      | zero => intro γ β w a σ m h hok; simp [loopX] at hok
      | succ k ih =>
        intro γ β w a σ m h hok Q hQ
        rw [rounds_succ]
        simp only [loopX] at hok hQ
        cases hq : evC C n x (headX live keep σ) with
        | mk e1 σ1 =>
          rw [hq] at hok hQ
          have hok1 : σ1.ok = true := by
            cases e1 with
            | normal => exact loopX_ok (fun σ h => evC_ok (x := x) h) (fun σ h => headX_ok h) hok
            | exit j => exact hok
            | ret => exact hok
          have hokh : (headX live keep σ).ok = true := evC_ok (x := x) (n := n) (C := C) (by rw [hq]; exact hok1)
          obtain ⟨γ1, β1, m1, hA⟩ := headX_sound h hokh
          have ihx := evC_sound hC hall n hag hA.inv (by rw [hq]; exact hok1)
          rw [hq] at ihx
          refine wp_mono ihx ?_
          rintro e a' w' ⟨rfl, hB⟩
          obtain ⟨γ2, β2, m2, hB⟩ := hB
          obtain ⟨γ3, β3, m3, hAB⟩ := After.trans hA ⟨γ2, β2, m2, hB⟩
          cases e1 with
          | normal =>
            obtain ⟨γ3, β3, m3, hAB⟩ : ∃ γ3 β3 m3, Aft N m w γ β σ σ1 a' w' γ3 β3 m3 := ⟨γ3, β3, m3, hAB⟩
            exact ih hAB.inv hok (fun a2 w2 hC2 => hQ a2 w2 (After.trans hAB hC2))
          | exit j => exact hQ a' w' ⟨γ3, β3, m3, hAB⟩
          | ret => exact hQ a' w' ⟨γ3, β3, m3, hAB⟩
    exact key n h hok (fun a' w' hA => ⟨rfl, hA⟩)
  | .exit i, c, hag, γ, β, w, a, σ, m, h, hok => by
    cases c <;> simp [agC] at hag
    subst hag
    exact wp_exit ⟨rfl, .refl h⟩
  | .ret, c, hag, γ, β, w, a, σ, m, h, hok => by
    cases c <;> simp [agC] at hag
    exact wp_ret ⟨rfl, .refl h⟩
end
end Go.ScE
