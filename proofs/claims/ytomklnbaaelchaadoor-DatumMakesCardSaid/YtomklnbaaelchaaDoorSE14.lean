/- E14: calls, builtins, maps; every operation where the small code agrees. -/
import Derived.Test.YtomklnbaaelchaaDoorSE13
set_option linter.unusedVariables false
set_option linter.unusedSimpArgs false
namespace Go.ScE
section
variable {P : Program} {w : World} {γ γ' : Gh} {β : Bet} {sz : Nat}
section core
variable {C : Callee} {xs : List XO} {o : Oper} {a : Act}

theorem good_builtin {b : Builtin} {args : Array Operand} {argTypes : Array TypeId} {s : Sem Value} (hop : o.op = .call { callee := .builtin b, args, argTypes }) (hb : ∀ cs, builtin b argTypes o.type cs (args.map a.eval) = (do pure (.value (← s)))) {Φ : Value → World → Prop} (h : ∃ v w', s.run P w = .ok v w' ∧ Φ v w') : OpGood P o a w Φ := by
  obtain ⟨cs, hx⟩ := exec_builtin (s := fun _ => s) hop hb
  exact good_value hx h

theorem list1 {α : Type} {x : Array α} {a : α} (h : x.toList = [a]) : x = #[a] := by apply Array.ext'; simpa using h
theorem list2 {α : Type} {x : Array α} {a b : α} (h : x.toList = [a, b]) : x = #[a, b] := by apply Array.ext'; simpa using h

theorem core_lenS {t : TypeId} {args : Array Operand} {argTypes : Array TypeId} (hop : o.op = .call { callee := .builtin .len, args, argTypes }) (hts : argTypes = #[t]) (ht : P.underlying t = some .string) (hag : agOs xs args.toList = true) : Core P C w γ β .lenS xs o a := by
  subst hts
  refine ⟨_, hag, fun vs r fr fr' up up' mo cv cf h hact => ?_⟩
  simp only [act] at hact
  split at hact
  · rename_i s
    obtain ⟨v, hv, hx⟩ := h.vals.one
    obtain ⟨e1, -⟩ := hx.litv
    simp only [Prod.mk.injEq] at hact
    obtain ⟨rfl, rfl, rfl, -⟩ := hact
    have := h.lenS (rt := o.type) (s := s) ht
    refine good_builtin (s := Builtin.len_ #[t] o.type #[.string s]) hop (fun cs => ?_) this
    have : args.map a.eval = #[.string s] := by apply Array.ext'; rw [Array.toList_map, hv, e1]
    rw [this]; rfl
  · exact absurd hact bad_ne
theorem core_lenL {t e : TypeId} {args : Array Operand} {argTypes : Array TypeId} (hop : o.op = .call { callee := .builtin .len, args, argTypes }) (hts : argTypes = #[t]) (ht : P.underlying t = some (.slice e)) (hag : agOs xs args.toList = true) : Core P C w γ β .lenL xs o a := by
  subst hts
  refine ⟨_, hag, fun vs r fr fr' up up' mo cv cf h hact => ?_⟩
  have hact0 := hact
  simp only [act] at hact
  split at hact
  · rename_i x
    obtain ⟨v, hv, hx⟩ := h.vals.one
    rcases hx.kinds with ⟨x, e3, hx'⟩ | e3 | ⟨l, e3⟩ | ⟨l, e3⟩
    · cases e3
      have := h.lenL (rt := o.type) ht hx' C hact0
      refine good_builtin (s := Builtin.len_ #[t] o.type #[v]) hop (fun cs => ?_) this
      have : args.map a.eval = #[v] := by apply Array.ext'; rw [Array.toList_map, hv]
      rw [this]; rfl
    · cases e3; simp [bad] at hact
    · cases e3
    · cases e3
  · exact absurd hact bad_ne
theorem core_lenM {t kt et : TypeId} {args : Array Operand} {argTypes : Array TypeId} (hop : o.op = .call { callee := .builtin .len, args, argTypes }) (hts : argTypes = #[t]) (ht : P.underlying t = some (.map kt et)) (hag : agOs xs args.toList = true) : Core P C w γ β .lenM xs o a := by
  subst hts
  refine ⟨_, hag, fun vs r fr fr' up up' mo cv cf h hact => ?_⟩
  have hact0 := hact
  simp only [act] at hact
  split at hact
  · rename_i d k
    obtain ⟨v, hv, hx⟩ := h.vals.one
    cases hx with
    | c hx =>
      have := h.lenM (rt := o.type) ht hx C hact0
      refine good_builtin (s := Builtin.len_ #[t] o.type #[v]) hop (fun cs => ?_) this
      have : args.map a.eval = #[v] := by apply Array.ext'; rw [Array.toList_map, hv]
      rw [this]; rfl
  · exact absurd hact bad_ne
theorem core_app {bytes : Nat} {t ut e : TypeId} {i : TypeInfo} {z : Value} {args : Array Operand} {argTypes : Array TypeId} (hop : o.op = .call { callee := .builtin .append, args, argTypes }) (hts : argTypes = #[t, ut]) (hT : AppT P t ut e i z sz bytes) (hag : agOs xs args.toList = true) : Core P C w γ β (.app sz bytes) xs o a := by
  subst hts
  refine ⟨_, hag, fun vs r fr fr' up up' mo cv cf h hact => ?_⟩
  have hact0 := hact
  simp only [act] at hact
  split at hact
  · rename_i x y
    obtain ⟨v, u, c1, c2, hv, hx, hy, hc⟩ := h.vals.two
    rcases hx.kinds with ⟨x, e3, hx'⟩ | e3 | ⟨l, e3⟩ | ⟨l, e3⟩
    · cases e3
      have := h.app (rt := o.type) hT hx' hy hc C hact0
      refine good_builtin (s := Builtin.append_ #[t, ut] o.type #[v, u]) hop (fun cs => ?_) this
      have : args.map a.eval = #[v, u] := by apply Array.ext'; rw [Array.toList_map, hv]
      rw [this]; rfl
    · cases e3; split at hact <;> simp [bad] at hact
    · cases e3
    · cases e3
  · exact absurd hact bad_ne

theorem core_copy {t ut e : TypeId} {args : Array Operand} {argTypes : Array TypeId} (hop : o.op = .call { callee := .builtin .copy, args, argTypes }) (hts : argTypes = #[t, ut]) (ht : P.underlying t = some (.slice e)) (hn : sizeB P e = some sz) (h0 : 0 < sz) (hag : agOs xs args.toList = true) : Core P C w γ β (.copy sz) xs o a := by
  subst hts
  refine ⟨_, hag, fun vs r fr fr' up up' mo cv cf h hact => ?_⟩
  have hact0 := hact
  simp only [act] at hact
  split at hact
  · obtain ⟨v, u, c1, c2, hv, hx, hy, hc⟩ := h.vals.two
    have := h.copy (rt := o.type) (ut := ut) ht hn h0 hx hy C hact0
    refine good_builtin (s := Builtin.copy_ #[t, ut] o.type #[v, u]) hop (fun cs => ?_) this
    have : args.map a.eval = #[v, u] := by apply Array.ext'; rw [Array.toList_map, hv]
    rw [this]; rfl
  · exact absurd hact bad_ne

theorem core_call (hC : CSound P C) {f : FuncId} {args : Array Operand} {argTypes : Array TypeId} (hop : o.op = .call { callee := .value (.func f), args, argTypes }) (hf : fnOk P f = true) (hag : agOs xs args.toList = true) : Core P C w γ β (.call f) xs o a := by
  refine ⟨_, hag, fun vs r fr fr' up up' mo cv cf h hact => ?_⟩
  simp only [act] at hact
  refine .inr (.inr ⟨f, args.map a.eval, ?_, ?_⟩)
  · simp only [execOp, hop]
    unfold resolve
    show (do let d ← Deferred.ofValue (.func (.func f) #[] #[]) (args.map a.eval); invoke d.target d.args : Sem Next).run P w = _
    simp [Deferred.ofValue, invoke, run_callFunc hf]
  · have := h.callX hC hf hact
    have e : ((args.toList.map a.eval).toArray : Array Value) = args.map a.eval := by apply Array.ext'; simp
    rw [e] at this; exact this
theorem core_callv (hC : CSound P C) (hall : ∀ f args frames r frames', C f args frames = (r, frames', true) → fnOk P f = true) {y : Operand} {args : Array Operand} {argTypes : Array TypeId} (hop : o.op = .call { callee := .value y, args, argTypes }) (hag : agOs xs (y :: args.toList) = true) : Core P C w γ β .callv xs o a := by
  refine ⟨_, hag, fun vs r fr fr' up up' mo cv cf h hact => ?_⟩
  simp only [act] at hact
  split at hact
  · rename_i f c1 c2 xs0
    have hvals := h.vals
    rw [List.map_cons] at hvals
    cases hvals with
    | cons hx hr hs =>
      rename_i d1 d2
      obtain ⟨e1, -⟩ := hx.litv
      split at hact
      case h_3 => exact absurd hact bad_ne
      all_goals
        rename_i hsz hfree
        simp only [Bool.and_eq_true, beq_iff_eq, Array.size_eq_zero_iff] at hsz
        obtain ⟨rfl, rfl⟩ := hsz
        have hf : fnOk P f = true := by
          revert hact
          first
            | (generalize hcall : C f xs0 [] = q; obtain ⟨r1, fs1, ok1⟩ := q; intro hact; simp only [Prod.mk.injEq, Bool.and_eq_true] at hact; obtain ⟨rfl, rfl, rfl, rfl, -⟩ := hact; exact hall _ _ _ _ _ hcall)
            | (generalize hcall : C f xs0 (fr :: up) = q; obtain ⟨r1, fs1, ok1⟩ := q; intro hact; cases fs1 with
               | nil => simp [bad] at hact
               | cons fr1 up1 => simp only [Prod.mk.injEq] at hact; obtain ⟨rfl, rfl, rfl, rfl⟩ := hact; exact hall _ _ _ _ _ hcall)
        have hp : Pre mo w γ β (args.toList.map a.eval) xs0 fr up d2 cf := ⟨h.wok, h.mok, h.dom, hr, h.fs, fun g => by have := h.sum g; have := hs g; omega⟩
        refine .inr (.inr ⟨f, args.map a.eval, ?_, ?_⟩)
        · simp only [execOp, hop]
          unfold resolve
          show (do let d ← Deferred.ofValue (a.eval y) (args.map a.eval); invoke d.target d.args : Sem Next).run P w = _
          rw [e1]
          simp [Deferred.ofValue, invoke, run_callFunc hf]
        · have := hp.callX (r := r) (fr' := fr') (up' := up') hC hf (by rw [hfree]; exact hact)
          have e : ((args.toList.map a.eval).toArray : Array Value) = args.map a.eval := by apply Array.ext'; simp
          rw [e] at this; exact this
  · exact absurd hact bad_ne

theorem core_mkm {s : Nat} {t : TypeId} (hop : o.op = .makeMap t none) (hag : agOs xs [] = true) : Core P C w γ β (.mkm s) xs o a := by
  refine ⟨_, hag, fun vs r fr fr' up up' mo cv cf h hact => ?_⟩
  simp only [act, Prod.mk.injEq, Bool.not_eq_true'] at hact
  obtain ⟨rfl, rfl, rfl, hs⟩ := hact
  exact good_value (by simp only [execOp, hop]; rfl) (h.mkm hs (t := t))
theorem core_mks {s : Nat} {z : List PV} {t e : TypeId} {ie : TypeInfo} {zv : Value} {l c : Operand} (hop : o.op = .makeSlice t l c) (ht : P.underlying t = some (.slice e)) (hi : P.info? e = some ie) (hz : ie.zero = some zv) (hzs : zv.cells.size = sz) (hsz : ie.size = sz) (h0 : 0 < sz)
    (ha : agZs z zv.cells.toList = true) (hb : ie.bytes ≤ 64) (hag : agOs xs [l, c] = true) : Core P C w γ β (.mks s sz z) xs o a := by
  refine ⟨_, hag, fun vs r fr fr' up up' mo cv cf h hact => ?_⟩
  simp only [act] at hact
  split at hact
  · rename_i n m
    obtain ⟨v, u, c1, c2, hv, hx, hy, -⟩ := h.vals.two
    simp only [List.map_cons, List.map_nil, List.cons.injEq, and_true] at hv
    obtain ⟨e1, e2⟩ := hv
    obtain ⟨rfl, -⟩ := hx.litv
    obtain ⟨rfl, -⟩ := hy.litv
    simp only [Prod.mk.injEq, Bool.and_eq_true, Bool.not_eq_true', decide_eq_true_eq] at hact
    obtain ⟨rfl, rfl, rfl, hs, hn0, rfl, hroom⟩ := hact
    exact good_value (by simp only [execOp, hop, e1, e2]) (h.mks hs ht hi hz hzs hsz h0 ha hb hn0 hroom)
  · exact absurd hact bad_ne
theorem core_lk {zagg ok : Bool} {z : List PV} {t kt et : TypeId} {y k : Operand} (hop : o.op = .lookup t y k ok) (ht : P.underlying t = some (.map kt et)) (hk : P.underlying kt = some .string) (hz : zeroAg P et zagg z = true) (hag : agOs xs [y, k] = true) : Core P C w γ β (.lk zagg z ok) xs o a := by
  refine ⟨_, hag, fun vs r fr fr' up up' mo cv cf h hact => ?_⟩
  have hact0 := hact
  simp only [act] at hact
  split at hact
  · rename_i d kk key
    obtain ⟨v, u, c1, c2, hv, hx, hy, hc⟩ := h.vals.two
    simp only [List.map_cons, List.map_nil, List.cons.injEq, and_true] at hv
    obtain ⟨rfl, rfl⟩ := hv
    unfold zeroAg at hz
    cases hi : P.info? et with
    | none => simp [hi] at hz
    | some ie =>
      cases hzv : ie.zero with
      | none => simp [hi, hzv] at hz
      | some zv =>
        simp only [hi, hzv, Option.bind_some] at hz
        generalize hgy : a.eval y = vy at hx
        cases hx with
        | c hx =>
          rw [← hgy] at hx
          refine good_value (s := Instr.lookup t (a.eval y) (a.eval k) ok) (by simp only [execOp, hop]) (h.lk ht hk hi hzv ?_ hx hy C hact0)
          cases zagg with
          | true => cases zv <;> simp at hz; exact ⟨_, rfl, by simpa using hz⟩
          | false =>
            match z, hz with
            | [p], hz => exact ⟨p, rfl, by simpa using hz⟩
            | [], hz => simp at hz
            | _ :: _ :: _, hz => simp at hz
  · exact absurd hact bad_ne
theorem core_mu {t kt et : TypeId} {m k y : Operand} (hop : o.op = .mapUpdate t m k y) (ht : P.underlying t = some (.map kt et)) (hk : P.underlying kt = some .string) (hag : agOs xs [m, k, y] = true) : Core P C w γ β .mu xs o a := by
  refine ⟨_, hag, fun vs r fr fr' up up' mo cv cf h hact => ?_⟩
  have hact0 := hact
  simp only [act] at hact
  split at hact
  · rename_i d kk key yy
    obtain ⟨v, u, t', c1, c2, c3, hv, hx, hy, hz, hc⟩ := h.vals.three
    simp only [List.map_cons, List.map_nil, List.cons.injEq, and_true] at hv
    obtain ⟨rfl, rfl, rfl⟩ := hv
    generalize hgm : a.eval m = vm at hx
    cases hx with
    | c hx =>
      rw [← hgm] at hx
      exact good_skip (s := Instr.mapUpdate t (a.eval m) (a.eval k) (a.eval y)) (by simp only [execOp, hop]) (h.mu ht hk hx hy hz C hact0)
  · exact absurd hact bad_ne

theorem litInt {u : Value} {k : IntKind} {n : Int} {c : Bud} (h : RepA γ β u (.c (.p (.lit (.int k n)))) c) : u = .int k n := h.litv.1

theorem slOf_toP {x : CV} {l : List (List PV)} (h : slOf sz x = some l) : toP x = some (.sl sz l) := by
  unfold slOf at h
  split at h
  · split at h
    · rename_i e; subst e; cases h; rfl
    · cases h
  · split at h
    · rename_i e; subst e; cases h; rfl
    · cases h
  · cases h
theorem core_slS {lo hi : Bool} {t : TypeId} {y : Operand} {l h0 : Option Operand} (hop : o.op = .slice t y l h0 none) (ht : P.underlying t = some .string) (hl : lo = l.isSome) (hh : hi = h0.isSome) (hag : agOs xs ([y] ++ optOs l ++ optOs h0) = true) : Core P C w γ β (.slS lo hi) xs o a := by
  refine ⟨_, hag, fun vs r fr fr' up up' mo cv cf h hact => ?_⟩
  subst hl hh
  have hvals := h.vals
  cases l with
  | none =>
    cases h0 with
    | none => simp [act, bad] at hact
    | some q =>
      simp only [Option.isSome, optOs, List.append_nil, List.cons_append, List.nil_append, List.map_cons, List.map_nil, act] at hact hvals
      split at hact
      · obtain ⟨v, u, c1, c2, hv, hx, hy, hc⟩ := hvals.two
        simp only [List.cons.injEq, and_true] at hv
        obtain ⟨hv1, hv2⟩ := hv
        obtain ⟨e1, -⟩ := hx.litv
        have e2 := litInt hy
        rename_i s k b
        simp only [Prod.mk.injEq, decide_eq_true_eq] at hact
        obtain ⟨rfl, rfl, rfl, hb0, hb1⟩ := hact
        refine good_value (s := Instr.sliceAt t (.string s) none (some (.int k b)) none) ?_ (h.slS ht none (some (k, b)) 0 b.toNat ⟨hb0, hb1, rfl⟩ rfl)
        simp only [execOp, hop, Option.map_some, Option.map_none, hv1, hv2, e1, e2]
      · exact absurd hact bad_ne
  | some p =>
    cases h0 with
    | none =>
      simp only [Option.isSome, optOs, List.append_nil, List.cons_append, List.nil_append, List.map_cons, List.map_nil, act] at hact hvals
      split at hact
      · obtain ⟨v, u, c1, c2, hv, hx, hy, hc⟩ := hvals.two
        simp only [List.cons.injEq, and_true] at hv
        obtain ⟨hv1, hv2⟩ := hv
        obtain ⟨e1, -⟩ := hx.litv
        have e2 := litInt hy
        rename_i s k b
        simp only [Prod.mk.injEq, decide_eq_true_eq] at hact
        obtain ⟨rfl, rfl, rfl, hb0, hb1⟩ := hact
        refine good_value (s := Instr.sliceAt t (.string s) (some (.int k b)) none none) ?_ (h.slS ht (some (k, b)) none b.toNat s.size rfl ⟨hb0, hb1, rfl⟩)
        simp only [execOp, hop, Option.map_some, Option.map_none, hv1, hv2, e1, e2]
      · exact absurd hact bad_ne
    | some q =>
      simp only [Option.isSome, optOs, List.append_nil, List.cons_append, List.nil_append, List.map_cons, List.map_nil, act] at hact hvals
      split at hact
      · obtain ⟨v, u, t', c1, c2, c3, hv, hx, hy, hz, hc⟩ := hvals.three
        simp only [List.cons.injEq, and_true] at hv
        obtain ⟨hv1, hv2, hv3⟩ := hv
        obtain ⟨e1, -⟩ := hx.litv
        have e2 := litInt hy
        have e3 := litInt hz
        rename_i s k b k' d
        simp only [Prod.mk.injEq, decide_eq_true_eq] at hact
        obtain ⟨rfl, rfl, rfl, hb0, hb1, hb2⟩ := hact
        refine good_value (s := Instr.sliceAt t (.string s) (some (.int k b)) (some (.int k' d)) none) ?_ (h.slS ht (some (k, b)) (some (k', d)) b.toNat d.toNat ⟨by omega, hb2, rfl⟩ ⟨hb0, by omega, rfl⟩)
        simp only [execOp, hop, Option.map_some, Option.map_none, hv1, hv2, hv3, e1, e2, e3]
      · exact absurd hact bad_ne
theorem core_slL {lo hi : Bool} {t e : TypeId} {y : Operand} {l h0 : Option Operand} (hop : o.op = .slice t y l h0 none) (ht : P.underlying t = some (.slice e)) (hn : sizeB P e = some sz) (hl : lo = l.isSome) (hh : hi = h0.isSome) (hag : agOs xs ([y] ++ optOs l ++ optOs h0) = true) : Core P C w γ β (.slL sz lo hi) xs o a := by
  refine ⟨_, hag, fun vs r fr fr' up up' mo cv cf h hact => ?_⟩
  subst hl hh
  have hvals := h.vals
  have cx : ∀ {u : Value} {x : CV} {c : Bud} {l : List (List PV)}, RepA γ β u (.c x) c → slOf sz x = some l → RepC γ β u x c := fun hx hs => by
    cases hx with
    | dead => simp [slOf] at hs
    | c h => exact h
  cases l with
  | none =>
    cases h0 with
    | none => simp [act, bad] at hact
    | some q =>
      simp only [Option.isSome, optOs, List.append_nil, List.cons_append, List.nil_append, List.map_cons, List.map_nil, act] at hact hvals
      split at hact
      · obtain ⟨v, u, c1, c2, hv, hx, hy, hc⟩ := hvals.two
        simp only [List.cons.injEq, and_true] at hv
        obtain ⟨hv1, hv2⟩ := hv
        have e2 := litInt hy
        rename_i x k b
        split at hact
        · rename_i ll hll
          simp only [Prod.mk.injEq, decide_eq_true_eq] at hact
          obtain ⟨rfl, rfl, rfl, hb0, hb1⟩ := hact
          refine good_value (s := Instr.sliceAt t v none (some (.int k b)) none) ?_ (h.slL ht hn (cx hx hll) (slOf_toP hll) none (some (k, b)) 0 b.toNat ⟨hb0, hb1, rfl⟩ rfl)
          simp only [execOp, hop, Option.map_some, Option.map_none, hv1, hv2, e2]
        · exact absurd hact bad_ne
      · exact absurd hact bad_ne
  | some p =>
    cases h0 with
    | none =>
      simp only [Option.isSome, optOs, List.append_nil, List.cons_append, List.nil_append, List.map_cons, List.map_nil, act] at hact hvals
      split at hact
      · obtain ⟨v, u, c1, c2, hv, hx, hy, hc⟩ := hvals.two
        simp only [List.cons.injEq, and_true] at hv
        obtain ⟨hv1, hv2⟩ := hv
        have e2 := litInt hy
        rename_i x k b
        split at hact
        · rename_i ll hll
          simp only [Prod.mk.injEq, decide_eq_true_eq] at hact
          obtain ⟨rfl, rfl, rfl, hb0, hb1⟩ := hact
          have := h.slL ht hn (cx hx hll) (slOf_toP hll) (some (k, b)) none b.toNat ll.length rfl ⟨hb0, hb1, rfl⟩
          rw [List.take_length] at this
          refine good_value (s := Instr.sliceAt t v (some (.int k b)) none none) ?_ this
          simp only [execOp, hop, Option.map_some, Option.map_none, hv1, hv2, e2]
        · exact absurd hact bad_ne
      · exact absurd hact bad_ne
    | some q =>
      simp only [Option.isSome, optOs, List.append_nil, List.cons_append, List.nil_append, List.map_cons, List.map_nil, act] at hact hvals
      split at hact
      · obtain ⟨v, u, t', c1, c2, c3, hv, hx, hy, hz, hc⟩ := hvals.three
        simp only [List.cons.injEq, and_true] at hv
        obtain ⟨hv1, hv2, hv3⟩ := hv
        have e2 := litInt hy
        have e3 := litInt hz
        rename_i x k b k' d
        split at hact
        · rename_i ll hll
          simp only [Prod.mk.injEq, decide_eq_true_eq] at hact
          obtain ⟨rfl, rfl, rfl, hb0, hb1, hb2⟩ := hact
          refine good_value (s := Instr.sliceAt t v (some (.int k b)) (some (.int k' d)) none) ?_ (h.slL ht hn (cx hx hll) (slOf_toP hll) (some (k, b)) (some (k', d)) b.toNat d.toNat ⟨by omega, hb2, rfl⟩ ⟨hb0, by omega, rfl⟩)
          simp only [execOp, hop, Option.map_some, Option.map_none, hv1, hv2, hv3, e2, e3]
        · exact absurd hact bad_ne
      · exact absurd hact bad_ne

theorem core_mx {args : Array Operand} {argTypes : Array TypeId} (hop : o.op = .call { callee := .builtin .max, args, argTypes }) (hag : agOs xs args.toList = true) : Core P C w γ β .mx xs o a := by
  refine ⟨_, hag, fun vs r fr fr' up up' mo cv cf h hact => ?_⟩
  simp only [act] at hact
  split at hact
  · rename_i k p j q
    obtain ⟨v, u, c1, c2, hv, hx, hy, hc⟩ := h.vals.two
    have e1 := litInt hx
    have e2 := litInt hy
    simp only [Prod.mk.injEq, decide_eq_true_eq] at hact
    obtain ⟨rfl, rfl, rfl, rfl⟩ := hact
    refine good_builtin (s := Builtin.max_ argTypes o.type #[.int k p, .int k q]) hop (fun cs => ?_) ⟨_, w, by simp [Builtin.max_, Builtin.max2], h.lit rfl⟩
    have : args.map a.eval = #[.int k p, .int k q] := by apply Array.ext'; rw [Array.toList_map, hv, e1, e2]
    rw [this]; rfl
  · exact absurd hact bad_ne
theorem core_mn {args : Array Operand} {argTypes : Array TypeId} (hop : o.op = .call { callee := .builtin .min, args, argTypes }) (hag : agOs xs args.toList = true) : Core P C w γ β .mn xs o a := by
  refine ⟨_, hag, fun vs r fr fr' up up' mo cv cf h hact => ?_⟩
  simp only [act] at hact
  split at hact
  · rename_i k p j q
    obtain ⟨v, u, c1, c2, hv, hx, hy, hc⟩ := h.vals.two
    have e1 := litInt hx
    have e2 := litInt hy
    simp only [Prod.mk.injEq, decide_eq_true_eq] at hact
    obtain ⟨rfl, rfl, rfl, rfl⟩ := hact
    refine good_builtin (s := Builtin.min_ argTypes o.type #[.int k p, .int k q]) hop (fun cs => ?_) ⟨_, w, by simp [Builtin.min_, Builtin.min2], h.lit rfl⟩
    have : args.map a.eval = #[.int k p, .int k q] := by apply Array.ext'; rw [Array.toList_map, hv, e1, e2]
    rw [this]; rfl
  · exact absurd hact bad_ne

theorem op_core (hC : CSound P C) (hall : ∀ f args frames r frames', C f args frames = (r, frames', true) → fnOk P f = true) {k : XK} (hag : agK P k xs o.op = true) : Core P C w γ β k xs o a := by
  unfold agK at hag
  split at hag
  · rename_i hop; exact core_mv (.inl hop) hag
  · rename_i hop; exact core_mv (.inr hop) hag
  · rename_i hop; exact core_pick hop hag
  · rename_i hop; simp only [Bool.and_eq_true] at hag; exact core_alloc hop hag.1 hag.2
  · rename_i hop; exact core_box hop hag
  · rename_i hop; simp only [Bool.and_eq_true] at hag; exact core_bld hop hag.1.1 hag.1.2 hag.2
  · rename_i hop
    simp only [Bool.and_eq_true, beq_iff_eq] at hag
    obtain ⟨⟨⟨hn, h2⟩, hidx⟩, hos⟩ := hag
    split at h2
    case h_2 => cases h2
    rename_i e ht
    split at h2
    case h_2 => cases h2
    rename_i i hi
    split at h2
    case h_2 => cases h2
    rename_i zv hz
    simp only [Bool.and_eq_true, beq_iff_eq, decide_eq_true_eq] at h2
    exact core_blds hop hn ht hi hz h2.1.1.1 h2.1.1.2 h2.1.2 h2.2 hidx hos
  · rename_i hop
    simp only [Bool.and_eq_true, beq_iff_eq, Bool.or_eq_true] at hag
    exact core_ld hop hag.1.1.1 hag.1.1.2 (fun e => by rcases hag.1.2 with h | h; rw [e] at h; cases h; exact h) hag.2
  · rename_i hop; simp only [Bool.and_eq_true, beq_iff_eq] at hag; exact core_st hop hag.1 hag.2
  · rename_i hop; exact core_nck hop hag
  · rename_i hop
    simp only [Bool.and_eq_true, decide_eq_true_eq, Bool.or_eq_true, Bool.not_eq_true'] at hag
    obtain ⟨⟨rfl, hb⟩, hos⟩ := hag
    refine core_bin hop (fun e => ?_) hos
    rcases hb with h | h
    · rw [e] at h; cases h
    · split at h
      · assumption
      · cases h
  · rename_i hop
    simp only [Bool.and_eq_true, decide_eq_true_eq, Bool.not_eq_true'] at hag
    obtain ⟨⟨⟨⟨rfl, h1⟩, hst⟩, hg⟩, hos⟩ := hag
    split at h1
    case h_2 => cases h1
    rename_i fs ht
    simp only [beq_iff_eq] at h1
    exact core_beq hop ht h1 hst hg hos
  · rename_i hop
    simp only [Bool.and_eq_true, decide_eq_true_eq] at hag
    obtain ⟨rfl, hos⟩ := hag
    exact core_un hop hos
  · rename_i hop
    simp only [Bool.and_eq_true] at hag
    obtain ⟨⟨hs, ht⟩, hos⟩ := hag
    obtain ⟨d, hd⟩ := Option.isSome_iff_exists.1 hs
    split at ht
    · rename_i k' hk'; simp only [decide_eq_true_eq] at ht; subst ht; exact core_cvi hop hd hk' hos
    · cases ht
  · rename_i hop
    simp only [Bool.and_eq_true] at hag
    obtain ⟨h1, hos⟩ := hag
    split at h1
    · rename_i e hs ht
      split at h1
      · rename_i he; exact core_cbs hop hs ht he hos
      · cases h1
    · cases h1
  · rename_i hop
    simp only [Bool.and_eq_true] at hag
    obtain ⟨h1, hos⟩ := hag
    split at h1
    case h_2 => cases h1
    rename_i fs ht
    split at h1
    case h_2 => cases h1
    rename_i fl hf
    simp only [Bool.and_eq_true, beq_iff_eq] at h1
    obtain ⟨ho, h2⟩ := h1
    split at h2
    case h_2 => cases h2
    rename_i n hn
    exact core_fa hop ht hf ho hn (by simpa using h2) hos
  · rename_i hop
    simp only [Bool.and_eq_true] at hag
    obtain ⟨h1, hos⟩ := hag
    split at h1
    case h_2 => cases h1
    rename_i e ht
    exact core_ia hop ht (by simpa using h1) hos
  · rename_i hop
    simp only [Bool.and_eq_true] at hag
    obtain ⟨h1, hos⟩ := hag
    split at h1
    case h_2 => cases h1
    rename_i m e ht
    simp only [Bool.and_eq_true, beq_iff_eq] at h1
    obtain ⟨rfl, h2⟩ := h1
    exact core_iaa hop ht h2 hos
  · rename_i hop
    simp only [Bool.and_eq_true] at hag
    obtain ⟨h1, hos⟩ := hag
    split at h1
    · rename_i ht; exact core_ixs hop ht hos
    · cases h1
  · rename_i hop
    simp only [Bool.and_eq_true] at hag
    obtain ⟨h1, hos⟩ := hag
    split at h1
    case h_2 => cases h1
    rename_i fs ht
    split at h1
    case h_2 => cases h1
    rename_i fl hf
    simp only [Bool.and_eq_true, beq_iff_eq] at h1
    obtain ⟨⟨h2, h3⟩, h4⟩ := h1
    exact core_fld hop ht hf h2 h3 h4 hos
  · rename_i hop
    simp only [Bool.and_eq_true, beq_iff_eq] at hag
    obtain ⟨rfl, hos⟩ := hag
    exact core_ext hop hos
  · rename_i hop
    simp only [Bool.and_eq_true] at hag
    obtain ⟨h1, hos⟩ := hag
    split at h1
    case h_2 => cases h1
    rename_i t hts
    split at h1
    · rename_i ht; exact core_lenS hop (list1 hts) ht hos
    · cases h1
  · rename_i hop
    simp only [Bool.and_eq_true] at hag
    obtain ⟨h1, hos⟩ := hag
    split at h1
    case h_2 => cases h1
    rename_i t hts
    split at h1
    · rename_i ht; exact core_lenL hop (list1 hts) ht hos
    · cases h1
  · rename_i hop
    simp only [Bool.and_eq_true] at hag
    obtain ⟨h1, hos⟩ := hag
    split at h1
    case h_2 => cases h1
    rename_i t hts
    split at h1
    · rename_i ht; exact core_lenM hop (list1 hts) ht hos
    · cases h1
  · rename_i hop
    simp only [Bool.and_eq_true] at hag
    obtain ⟨h1, hos⟩ := hag
    split at h1
    case h_2 => cases h1
    rename_i t ut hts
    split at h1
    case h_2 => cases h1
    rename_i e ht
    split at h1
    case h_2 => cases h1
    rename_i i hi
    split at h1
    case h_2 => cases h1
    rename_i z hz
    simp only [Bool.and_eq_true, beq_iff_eq, decide_eq_true_eq, Bool.not_eq_true'] at h1
    obtain ⟨⟨⟨⟨⟨⟨hu, hni⟩, h2⟩, h3⟩, h4⟩, h5⟩, h6⟩ := h1
    obtain ⟨d, hd⟩ := Option.isSome_iff_exists.1 hu
    exact core_app hop (list2 hts) ⟨ht, ⟨d, hd, fun k e => by rw [hd, e] at hni; simp [isInt] at hni⟩, hi, hz, h2, h3, h4, h5, h6⟩ hos
  · rename_i hop
    simp only [Bool.and_eq_true] at hag
    obtain ⟨h1, hos⟩ := hag
    split at h1
    case h_2 => cases h1
    rename_i t ut hts
    split at h1
    case h_2 => cases h1
    rename_i e ht
    simp only [Bool.and_eq_true, beq_iff_eq, decide_eq_true_eq] at h1
    exact core_copy hop (list2 hts) ht h1.1 h1.2 hos
  · rename_i hop
    simp only [Bool.and_eq_true, beq_iff_eq] at hag
    obtain ⟨⟨rfl, hf⟩, hos⟩ := hag
    exact core_call hC hop hf hos
  · rename_i hop; exact core_callv hC hall hop hag
  · rename_i hop; exact core_mkm hop hag
  · rename_i hop
    simp only [Bool.and_eq_true] at hag
    obtain ⟨h1, hos⟩ := hag
    split at h1
    case h_2 => cases h1
    rename_i e ht
    split at h1
    case h_2 => cases h1
    rename_i ie hi
    split at h1
    case h_2 => cases h1
    rename_i zv hz
    simp only [Bool.and_eq_true, beq_iff_eq, decide_eq_true_eq] at h1
    obtain ⟨⟨⟨⟨h2, h3⟩, h4⟩, h5⟩, h6⟩ := h1
    exact core_mks hop ht hi hz h2 h3 h4 h5 h6 hos
  · rename_i hop
    simp only [Bool.and_eq_true, beq_iff_eq] at hag
    obtain ⟨⟨rfl, h1⟩, hos⟩ := hag
    split at h1
    case h_2 => cases h1
    rename_i kt et ht
    simp only [Bool.and_eq_true] at h1
    obtain ⟨h2, h3⟩ := h1
    split at h2
    · rename_i hk; exact core_lk hop ht hk h3 hos
    · cases h2
  · rename_i hop
    simp only [Bool.and_eq_true] at hag
    obtain ⟨h1, hos⟩ := hag
    split at h1
    case h_2 => cases h1
    rename_i kt et ht
    split at h1
    · rename_i hk; exact core_mu hop ht hk hos
    · cases h1
  · rename_i hop
    simp only [Bool.and_eq_true, beq_iff_eq] at hag
    obtain ⟨⟨⟨h1, h2⟩, h3⟩, hos⟩ := hag
    split at h1
    · rename_i ht; exact core_slS hop ht h2 h3 hos
    · cases h1
  · rename_i hop
    simp only [Bool.and_eq_true, beq_iff_eq] at hag
    obtain ⟨⟨⟨h1, h2⟩, h3⟩, hos⟩ := hag
    split at h1
    · rename_i e ht; exact core_slL hop ht (by simpa using h1) h2 h3 hos
    · cases h1
  · rename_i hop; simp only [Bool.and_eq_true] at hag; exact core_mx hop hag.1
  · rename_i hop; simp only [Bool.and_eq_true] at hag; exact core_mn hop hag.1
  · exact ⟨[], rfl, fun vs r fr fr' up up' mo cv cf h hact => by simp [act, bad] at hact⟩
  · cases hag
end core
end
end Go.ScE
