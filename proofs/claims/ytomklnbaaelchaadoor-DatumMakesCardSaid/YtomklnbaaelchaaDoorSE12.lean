/- E12: the small code beside the model's: when they agree; each operation. -/
import Derived.Test.YtomklnbaaelchaaDoorSE11
set_option linter.unusedVariables false
set_option linter.unusedSimpArgs false
namespace Go.ScE

def isInt : Option TypeDesc → Bool
  | some (.int _) => true
  | _ => false
def optOs : Option Operand → List Operand
  | some x => [x]
  | none => []
def zeroAg (P : Program) (t : TypeId) (zagg : Bool) (z : List PV) : Bool := match (P.info? t).bind (·.zero) with
  | some zv => (match zagg, zv, z with
    | true, .agg cs, z => agZs z cs.toList
    | false, v, [p] => agZ p v
    | _, _, _ => false)
  | none => false
def zeroCs (P : Program) (t : TypeId) (z : List PV) : Bool := match (P.info? t).bind (·.zero) with
  | some zv => agZs z zv.cells.toList
  | none => false
def fnOk (P : Program) (f : FuncId) : Bool := match P.funcs[f]? with
  | some fn => fn.name != "runtime.NumGoroutine" && fn.body.isSome
  | none => false

def agK (P : Program) : XK → List XO → Op → Bool
  | .mv, xs, .move y => agOs xs [y]
  | .mv, xs, .assign y => agOs xs [y]
  | .pick, xs, .pick c a b => agOs xs [c, a, b]
  | .alloc _ _ z, xs, .alloc e => agOs xs [] && zeroCs P e z
  | .box _, xs, .box _ y => agOs xs [y]
  | .bld z offs, xs, .build t parts => zeroCs P t z && (match placeB P t with | some place => agPlaces place offs (parts.toList.map (·.1)) | none => false) && agOs xs (parts.toList.map (·.2))
  | .blds sz z n idx, xs, .buildSlice t len parts => n == len && (match P.underlying t with
      | some (.slice e) => (match P.info? e with
        | some i => (match i.zero with
          | some zv => zv.cells.size == sz && i.size == sz && decide (0 < sz) && agZs z zv.cells.toList
          | none => false)
        | none => false)
      | _ => false) && (idx == parts.toList.map (·.1)) && agOs xs (parts.toList.map (·.2))
  | .ld agg n _, xs, .load t y => aggB P t == some agg && sizeB P t == some n && (agg || n == 1) && agOs xs [y]
  | .st n, xs, .store t a y => sizeB P t == some n && agOs xs [a, y]
  | .nck, xs, .nilCheck y => agOs xs [y]
  | .bin op bq, xs, .binOp op' t x y _ => decide (op = op') && (!bq || (match P.underlying t with | some .bool => true | _ => false)) && agOs xs [x, y]
  | .beq neg n, xs, .binOp op t x y _ => decide (op = if neg then .neq else .eql) && (match P.underlying t with | some (.struct fs) => flatD P 2 fs.toList == some n | _ => false) && !P.stoodInHeld t && !P.eqGuardType P.depth t && agOs xs [x, y]
  | .un op, xs, .unOp op' _ x => decide (op = op') && agOs xs [x]
  | .cvi k, xs, .convert s t x => (P.underlying s).isSome && (match P.underlying t with | some (.int k') => decide (k = k') | _ => false) && agOs xs [x]
  | .cbs, xs, .convert s t x => (match P.underlying s, P.underlying t with
      | some (.slice e), some .string => (match P.underlying e with | some (.int .u8) => true | _ => false)
      | _, _ => false) && agOs xs [x]
  | .fa off, xs, .fieldAddr t x f => (match P.underlying t with
      | some (.struct fs) => (match fs[f]? with
        | some fl => fl.offset == off && (match sizeB P fl.type with | some n => n != 0 | none => false)
        | none => false)
      | _ => false) && agOs xs [x]
  | .ia sz, xs, .indexAddr t x i => (match P.underlying t with | some (.slice e) => sizeB P e == some sz | _ => false) && agOs xs [x, i]
  | .iaa sz n, xs, .indexAddr t x i => (match P.underlying t with | some (.array m e) => m == n && sizeB P e == some sz | _ => false) && agOs xs [x, i]
  | .ixs, xs, .index t x i => (match P.underlying t with | some .string => true | _ => false) && agOs xs [x, i]
  | .fld agg off n, xs, .field t x f => (match P.underlying t with
      | some (.struct fs) => (match fs[f]? with
        | some fl => fl.offset == off && aggB P fl.type == some agg && sizeB P fl.type == some n
        | none => false)
      | _ => false) && agOs xs [x]
  | .ext i, xs, .extract x j => i == j && agOs xs [x]
  | .lenS, xs, .call { callee := .builtin .len, args, argTypes } => (match argTypes.toList with | [t] => (match P.underlying t with | some .string => true | _ => false) | _ => false) && agOs xs args.toList
  | .lenL, xs, .call { callee := .builtin .len, args, argTypes } => (match argTypes.toList with | [t] => (match P.underlying t with | some (.slice _) => true | _ => false) | _ => false) && agOs xs args.toList
  | .lenM, xs, .call { callee := .builtin .len, args, argTypes } => (match argTypes.toList with | [t] => (match P.underlying t with | some (.map _ _) => true | _ => false) | _ => false) && agOs xs args.toList
  | .app sz bytes, xs, .call { callee := .builtin .append, args, argTypes } => (match argTypes.toList with
      | [t, ut] => (match P.underlying t with
        | some (.slice e) => (match P.info? e with
          | some i => (match i.zero with
            | some z => (P.underlying ut).isSome && !isInt (P.underlying ut) && i.size == sz && i.bytes == bytes && z.cells.size == sz && decide (0 < sz) && decide (0 < bytes)
            | none => false)
          | none => false)
        | _ => false)
      | _ => false) && agOs xs args.toList
  | .copy sz, xs, .call { callee := .builtin .copy, args, argTypes } => (match argTypes.toList with
      | [t, _] => (match P.underlying t with | some (.slice e) => sizeB P e == some sz && decide (0 < sz) | _ => false)
      | _ => false) && agOs xs args.toList
  | .call f, xs, .call { callee := .value (.func f'), args, argTypes := _ } => f == f' && fnOk P f && agOs xs args.toList
  | .callv, xs, .call { callee := .value y, args, argTypes := _ } => agOs xs (y :: args.toList)
  | .mkm _, xs, .makeMap _ none => agOs xs []
  | .mks _ sz z, xs, .makeSlice t l c => (match P.underlying t with
      | some (.slice e) => (match P.info? e with
        | some i => (match i.zero with
          | some zv => zv.cells.size == sz && i.size == sz && decide (0 < sz) && agZs z zv.cells.toList && decide (i.bytes ≤ 64)
          | none => false)
        | none => false)
      | _ => false) && agOs xs [l, c]
  | .lk zagg z ok, xs, .lookup t x i ok' => (ok == ok') && (match P.underlying t with
      | some (.map kt et) => (match P.underlying kt with | some .string => true | _ => false) && zeroAg P et zagg z
      | _ => false) && agOs xs [x, i]
  | .mu, xs, .mapUpdate t m k v => (match P.underlying t with
      | some (.map kt _) => (match P.underlying kt with | some .string => true | _ => false)
      | _ => false) && agOs xs [m, k, v]
  | .slS lo hi, xs, .slice t x l h none => (match P.underlying t with | some .string => true | _ => false) && (lo == l.isSome) && (hi == h.isSome) && agOs xs ([x] ++ optOs l ++ optOs h)
  | .slL sz lo hi, xs, .slice t x l h none => (match P.underlying t with | some (.slice e) => sizeB P e == some sz | _ => false) && (lo == l.isSome) && (hi == h.isSome) && agOs xs ([x] ++ optOs l ++ optOs h)
  | .mx, xs, .call { callee := .builtin .max, args, argTypes := _ } => agOs xs args.toList && args.size == 2
  | .mn, xs, .call { callee := .builtin .min, args, argTypes := _ } => agOs xs args.toList && args.size == 2
  | .csb, [], _ => true
  | _, _, _ => false

/-- What an operation comes to, on the model's side. -/
def OpGood (P : Program) (o : Oper) (a : Act) (w : World) (Φ : Value → World → Prop) : Prop :=
  (∃ v w', (execOp a.eval o).run P w = .ok (.value v) w' ∧ Φ v w') ∨ (∃ w', (execOp a.eval o).run P w = .ok .skip w' ∧ Φ undef w') ∨
  (∃ f args, (execOp a.eval o).run P w = .ok (.enter f args) w ∧ Calls P f args w (fun e w' => ∃ v, e = .returned v ∧ Φ v w'))

theorem OpGood.wp {P : Program} {o : Oper} {a : Act} {w : World} {Φ : Value → World → Prop} (h : OpGood P o a w Φ) {K : Act → World → Prop} {Q : Exit → Act → World → Prop} (hK : ∀ v w', Φ v w' → K (a.put o.dst v) w') : o.wp P a w K Q := by
  unfold Oper.wp
  rcases h with ⟨v, w', hr, hp⟩ | ⟨w', hr, hp⟩ | ⟨f, args, hr, hc⟩
  · rw [hr]; exact hK v w' hp
  · rw [hr]; exact hK _ w' hp
  · rw [hr]
    exact hc.mono fun e w' ⟨v, he, hp⟩ => by subst he; exact hK v w' hp

section
variable {P : Program} {mo cv cf : Bud} {w : World} {γ γ' : Gh} {β : Bet} {us : List Value} {vs : List AV} {fr : Fram} {up : List Fram} {sz : Nat}

theorem good_value {o : Oper} {a : Act} {s : Sem Value} (he : execOp a.eval o = (do pure (.value (← s)))) {Φ : Value → World → Prop} (h : ∃ v w', s.run P w = .ok v w' ∧ Φ v w') : OpGood P o a w Φ := by
  obtain ⟨v, w', hr, hp⟩ := h
  exact .inl ⟨v, w', by rw [he]; simp [hr], hp⟩
theorem good_skip {o : Oper} {a : Act} {s : Sem Unit} (he : execOp a.eval o = (do s; pure .skip)) {Φ : Value → World → Prop} (h : ∃ w', s.run P w = .ok () w' ∧ Φ undef w') : OpGood P o a w Φ := by
  obtain ⟨w', hr, hp⟩ := h
  exact .inr (.inl ⟨w', by rw [he]; simp [hr], hp⟩)

/-- The callees' contract. -/
def CSound (P : Program) (C : Callee) : Prop := ∀ f args frames r frames', C f args frames = (r, frames', true) →
  (∀ d k, hhas k (fget d frames) = true → hhas k (fget d frames') = true) ∧
  ∀ (γ : Gh) (β : Bet) (w : World) (m c1 c2 : Bud) (us : List Value), WOk γ w → Mok w m → RepAs γ β us args c1 → RepFs γ w β frames c2 → (∀ g, c1 g + c2 g ≤ m g) → fnOk P f = true →
    Calls P f us.toArray w fun e w' => ∃ v γ' m' cr cf, e = .returned v ∧ Stp m w γ w' γ' m' ∧ RepA γ' β v r cr ∧ RepFs γ' w' β frames' cf ∧ ∀ g, cr g + cf g ≤ m' g

theorem run_callFunc {f : FuncId} (h : fnOk P f = true) (args : Array Value) (w : World) : (callFunc f args).run P w = .ok (.enter f args) w := by
  unfold fnOk at h
  unfold callFunc
  cases hf : P.funcs[f]? with
  | none => simp [hf] at h
  | some fn =>
    simp only [hf, Bool.and_eq_true, bne_iff_ne, ne_eq] at h
    have h1 : (fn.name == "runtime.NumGoroutine") = false := by simpa using h.1
    cases hb : fn.body with
    | none => simp [hb] at h
    | some b => simp [hf, hb, h.1]

theorem Pre.callX (h : Pre mo w γ β us vs fr up cv cf) {C : Callee} (hC : CSound P C) {f : FuncId} (hf : fnOk P f = true) {r : AV} {fr' : Fram} {up' : List Fram}
    (hact : (match freeAs vs with
      | true => let (r, _, ok) := C f vs []; (r, fr, up, ok && freeA r)
      | false => match C f vs (fr :: up) with
        | (r, fr' :: up', ok) => (r, fr', up', ok)
        | _ => bad fr up) = ((r, fr', up', true) : ActR)) :
    Calls P f us.toArray w fun e w' => ∃ v, e = .returned v ∧ Outs mo w γ β w' v r fr' up' := by
  cases hfree : freeAs vs with
  | true =>
    rw [hfree] at hact
    generalize hcall : C f vs [] = q at hact
    obtain ⟨r1, fs1, ok1⟩ := q
    simp only [Prod.mk.injEq, Bool.and_eq_true] at hact
    obtain ⟨rfl, rfl, rfl, rfl, hfr⟩ := hact
    have hm1 : Mok w cv := ⟨fun g => by have := h.mok.one g; have := h.sum g; omega, fun g hg => by have := h.mok.out g hg; have := h.sum g; omega⟩
    refine ((hC f vs [] r1 fs1 hcall).2 γ β w cv cv none0 us h.wok hm1 h.vals .nil (fun g => by simp) hf).mono ?_
    rintro e w' ⟨v, γ', m', cr, cf', rfl, hstp, hv, -, hs⟩
    have hm2 : Mok w fun g => cv g + cf g := ⟨fun g => Nat.le_trans (h.sum g) (h.mok.one g), fun g hg => Nat.le_antisymm (Nat.le_trans (h.sum g) (by rw [h.mok.out g hg]; exact Nat.le_refl _)) (Nat.zero_le _)⟩
    obtain ⟨hk, hstp2⟩ := hstp.frame hm2
    refine ⟨v, rfl, γ', β, fun g => m' g + cf g, cr, cf, ⟨hstp2.os, hstp2.tape, hstp2.output, hstp2.size, hstp2.le, hstp2.ok, fun g hg h0 => hstp2.keepH g hg (Nat.le_antisymm (Nat.le_trans (h.sum g) (by omega)) (Nat.zero_le _)),
      fun g hg h0 => hstp2.keepS g hg (Nat.le_antisymm (Nat.le_trans (h.sum g) (by omega)) (Nat.zero_le _)), fun g hg => Nat.le_trans (hstp2.bud g hg) (h.sum g), hstp2.mok, hstp2.frz⟩, fun _ _ _ h => h, fun _ _ => rfl, h.dom, hv, h.fs.mono hstp2.le (fun _ _ _ h => h) hk, fun g => by have := hs g; show cr g + cf g ≤ m' g + cf g; omega⟩
  | false =>
    rw [hfree] at hact
    generalize hcall : C f vs (fr :: up) = q at hact
    obtain ⟨r1, fs1, ok1⟩ := q
    cases fs1 with
    | nil => simp [bad] at hact
    | cons fr1 up1 =>
      simp only [Prod.mk.injEq] at hact
      obtain ⟨rfl, rfl, rfl, rfl⟩ := hact
      obtain ⟨hkeep, hc⟩ := hC f vs (fr :: up) r1 (fr1 :: up1) hcall
      refine (hc γ β w mo cv cf us h.wok h.mok h.vals h.fs h.sum hf).mono ?_
      rintro e w' ⟨v, γ', m', cr, cf', rfl, hstp, hv, hfs, hs⟩
      exact ⟨v, rfl, γ', β, m', cr, cf', hstp, fun _ _ _ h => h, fun _ _ => rfl, fun k g hk => hkeep 0 k (h.dom k g hk), hv, hfs, hs⟩
end
end Go.ScE
