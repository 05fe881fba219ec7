/- E13: each operation, where the small code agrees. -/
import Derived.Test.YtomklnbaaelchaaDoorSE12
set_option linter.unusedVariables false
set_option linter.unusedSimpArgs false
namespace Go.ScE
section
variable {P : Program} {mo cv cf : Bud} {w : World} {γ γ' : Gh} {β : Bet} {us : List Value} {vs : List AV} {fr : Fram} {up : List Fram} {sz : Nat}

theorem agOs_len : ∀ {xs : List XO} {os : List Operand}, agOs xs os = true → xs.length = os.length
  | [], [], _ => rfl
  | _ :: r, _ :: s, h => by simp only [agOs, Bool.and_eq_true] at h; simp [agOs_len h.2]
  | [], _ :: _, h => by simp [agOs] at h
  | _ :: _, [], h => by simp [agOs] at h

theorem RepAs.len {us : List Value} {vs : List AV} {c : Bud} (h : RepAs γ β us vs c) : us.length = vs.length := by
  induction h <;> simp_all

theorem parts_eq (a : Act) (parts : Array (Nat × Operand)) : (parts.map fun (i, x) => (i, a.eval x)).toList = (parts.toList.map (·.1)).zip ((parts.toList.map (·.2)).map a.eval) := by
  rw [Array.toList_map]
  generalize parts.toList = l
  induction l with
  | nil => rfl
  | cons p r ih => obtain ⟨i, x⟩ := p; simp_all

theorem evBinQ_evBin {bq : Bool} {op : BinOp} {a b r : Value} (h : evBinQ bq op a b = some r) : evBin op a b = some r ∧ ∀ p q, a = .bool p → b = .bool q → bq = true := by
  unfold evBinQ at h
  split at h
  · split at h
    · exact ⟨h, fun _ _ _ _ => by assumption⟩
    · cases h
  · rename_i hn; exact ⟨h, fun p q hp _ => absurd hp (hn p)⟩

theorem litC_ok {o : Option Value} {fr fr' : Fram} {up up' : List Fram} {r : AV} (h : same fr up (litC o) = (r, fr', up', true)) : ∃ v, o = some v ∧ r = .c (.p (.lit v)) ∧ fr' = fr ∧ up' = up := by
  unfold same litC at h
  cases o with
  | none => simp at h
  | some v => simp only [Prod.mk.injEq] at h; exact ⟨v, rfl, h.1.symm, h.2.1.symm, h.2.2.1.symm⟩

theorem Pre.nck (h : Pre mo w γ β us vs fr up cv cf) {x : CV} {u : Value} {c1 : Bud} (hx : RepC γ β u x c1) (hc : ∀ g, c1 g ≤ cv g) {C : Callee} {r : AV} {fr' : Fram} {up' : List Fram} (hact : act C .nck [.c x] fr up = (r, fr', up', true)) :
    ∃ ad, u = .pointer (some ad) ∧ Outs mo w γ β w u r fr' up' := by
  have hall : ∃ ad, u = .pointer (some ad) ∧ r = .c x ∧ fr' = fr ∧ up' = up := by
    cases hx <;> simp only [act, bad, Prod.mk.injEq, Bool.false_eq_true, and_false] at hact <;> obtain ⟨rfl, rfl, rfl, -⟩ := hact <;> exact ⟨_, rfl, rfl, rfl, rfl⟩
  obtain ⟨ad, rfl, rfl, rfl, rfl⟩ := hall
  exact ⟨ad, rfl, h.still (.c hx) hc⟩

theorem RepAs.inv0 {vs : List AV} {c : Bud} (h : RepAs γ β [] vs c) : vs = [] := by cases h; rfl
theorem RepAs.inv1 {u : Value} {vs : List AV} {c : Bud} (h : RepAs γ β [u] vs c) : ∃ x, vs = [x] ∧ RepA γ β u x c := by
  cases h with
  | cons h r hc => cases r; exact ⟨_, rfl, h.weak (le_of_split1 hc)⟩
theorem RepAs.inv2 {u v : Value} {vs : List AV} {c : Bud} (h : RepAs γ β [u, v] vs c) : ∃ x y c1 c2, vs = [x, y] ∧ RepA γ β u x c1 ∧ RepA γ β v y c2 ∧ ∀ g, c1 g + c2 g ≤ c g := by
  cases h with
  | cons h r hc => obtain ⟨y, rfl, h2⟩ := r.inv1; exact ⟨_, _, _, _, rfl, h, h2, hc⟩
theorem RepAs.inv3 {u v t : Value} {vs : List AV} {c : Bud} (h : RepAs γ β [u, v, t] vs c) : ∃ x y z c1 c2 c3, vs = [x, y, z] ∧ RepA γ β u x c1 ∧ RepA γ β v y c2 ∧ RepA γ β t z c3 ∧ ∀ g, c1 g + c2 g + c3 g ≤ c g := by
  cases h with
  | cons h r hc => obtain ⟨y, z, c2, c3, rfl, h2, h3, h4⟩ := r.inv2; exact ⟨_, _, _, _, _, _, rfl, h, h2, h3, fun g => by have := hc g; have := h4 g; omega⟩

theorem RepA.kinds {u : Value} {x : AV} {c : Bud} (h : RepA γ β u x c) : (∃ y, x = .c y ∧ RepC γ β u y c) ∨ x = .c .dead ∨ (∃ l, x = .agg l) ∨ ∃ l, x = .tup l := by
  cases h with
  | dead => exact .inr (.inl rfl)
  | c h => exact .inl ⟨_, rfl, h⟩
  | agg h => exact .inr (.inr (.inl ⟨_, rfl⟩))
  | tup h => exact .inr (.inr (.inr ⟨_, rfl⟩))
theorem bad_ne {fr fr' : Fram} {up up' : List Fram} {r : AV} : ¬ (bad fr up = (r, fr', up', true)) := by simp [bad]

/-- An operation's contract over its operands. -/
def Core (P : Program) (C : Callee) (w : World) (γ : Gh) (β : Bet) (k : XK) (xs : List XO) (o : Oper) (a : Act) : Prop :=
  ∃ os, agOs xs os = true ∧ ∀ (vs : List AV) (r : AV) (fr fr' : Fram) (up up' : List Fram) (mo cv cf : Bud), Pre mo w γ β (os.map a.eval) vs fr up cv cf → act C k vs fr up = (r, fr', up', true) → OpGood P o a w (fun v w' => Outs mo w γ β w' v r fr' up')

section core
variable {C : Callee} {xs : List XO} {o : Oper} {a : Act}

theorem core_mv {y : Operand} (hop : o.op = .move y ∨ o.op = .assign y) (hag : agOs xs [y] = true) : Core P C w γ β .mv xs o a := by
  refine ⟨_, hag, fun vs r fr fr' up up' mo cv cf h hact => ?_⟩
  obtain ⟨x, rfl, hx⟩ := h.vals.inv1
  simp only [act, Prod.mk.injEq] at hact
  obtain ⟨rfl, rfl, rfl, -⟩ := hact
  exact .inl ⟨_, w, by rcases hop with hop | hop <;> simp only [execOp, hop] <;> rfl, h.still hx fun _ => Nat.le_refl _⟩
theorem core_pick {c x y : Operand} (hop : o.op = .pick c x y) (hag : agOs xs [c, x, y] = true) : Core P C w γ β .pick xs o a := by
  refine ⟨_, hag, fun vs r fr fr' up up' mo cv cf h hact => ?_⟩
  obtain ⟨p, q, s, c1, c2, c3, rfl, hp, hq, hs, hc⟩ := h.vals.inv3
  simp only [act] at hact
  split at hact
  · rename_i b _ _ e
    simp only [List.cons.injEq, and_true] at e
    obtain ⟨rfl, rfl, rfl⟩ := e
    obtain ⟨hcv, -⟩ := hp.litv
    cases b with
    | true =>
      simp only [Prod.mk.injEq] at hact
      obtain ⟨rfl, rfl, rfl, -⟩ := hact
      exact .inl ⟨_, w, by simp [execOp, hop, hcv, asBool], h.still hq (fun g => by have := hc g; omega)⟩
    | false =>
      simp only [Prod.mk.injEq] at hact
      obtain ⟨rfl, rfl, rfl, -⟩ := hact
      exact .inl ⟨_, w, by simp [execOp, hop, hcv, asBool], h.still hs (fun g => by have := hc g; omega)⟩
  · exact absurd hact bad_ne
theorem core_alloc {s : Nat} {agg : Bool} {z : List PV} {e : TypeId} (hop : o.op = .alloc e) (hag : agOs xs [] = true) (hz : zeroCs P e z = true) : Core P C w γ β (.alloc s agg z) xs o a := by
  refine ⟨_, hag, fun vs r fr fr' up up' mo cv cf h hact => ?_⟩
  have := h.vals.inv0; subst this
  simp only [act, Prod.mk.injEq, Bool.not_eq_true'] at hact
  obtain ⟨rfl, rfl, rfl, hs⟩ := hact
  unfold zeroCs at hz
  cases hi : P.info? e with
  | none => simp [hi] at hz
  | some i =>
    cases hzv : i.zero with
    | none => simp [hi, hzv] at hz
    | some zv =>
      simp [hi, hzv] at hz
      exact good_value (by simp only [execOp, hop]) (h.alloc hs hi hzv (by simpa using hz))
theorem core_box {s : Nat} {e : TypeId} {y : Operand} (hop : o.op = .box e y) (hag : agOs xs [y] = true) : Core P C w γ β (.box s) xs o a := by
  refine ⟨_, hag, fun vs r fr fr' up up' mo cv cf h hact => ?_⟩
  obtain ⟨x, rfl, hx⟩ := h.vals.inv1
  simp only [act] at hact
  split at hact
  · rename_i l hl
    simp only [Prod.mk.injEq, Bool.not_eq_true'] at hact
    obtain ⟨rfl, rfl, rfl, hs⟩ := hact
    exact good_value (by simp only [execOp, hop]) (h.box (e := e) hs hx (fun _ => Nat.le_refl _) hl)
  · exact absurd hact bad_ne
theorem core_bld {z : List PV} {offs : List (Nat × Nat)} {t : TypeId} {parts : Array (Nat × Operand)} (hop : o.op = .build t parts) (hz : zeroCs P t z = true) (hpl : (match placeB P t with | some place => agPlaces place offs (parts.toList.map (·.1)) | none => false) = true)
    (hag : agOs xs (parts.toList.map (·.2)) = true) : Core P C w γ β (.bld z offs) xs o a := by
  refine ⟨_, hag, fun vs r fr fr' up up' mo cv cf h hact => ?_⟩
  simp only [act] at hact
  split at hact
  · rename_i l hl
    simp only [Prod.mk.injEq] at hact
    obtain ⟨rfl, rfl, rfl, -⟩ := hact
    unfold zeroCs at hz
    cases hi : P.info? t with
    | none => simp [hi] at hz
    | some i =>
      cases hzv : i.zero with
      | none => simp [hi, hzv] at hz
      | some zv =>
        simp only [hi, hzv, Option.bind_some] at hz
        split at hpl
        · rename_i place hp
          exact good_value (s := Instr.build t (parts.map fun (i, x) => (i, a.eval x))) (by simp only [execOp, hop]) (h.bld hi hzv hz hp hpl hl (parts_eq a parts))
        · cases hpl
  · exact absurd hact bad_ne
theorem core_blds {n len : Nat} {z : List PV} {idx : List Nat} {t e : TypeId} {i : TypeInfo} {zv : Value} {parts : Array (Nat × Operand)} (hop : o.op = .buildSlice t len parts) (hn : n = len) (ht : P.underlying t = some (.slice e)) (hi : P.info? e = some i) (hz : i.zero = some zv)
    (h1 : zv.cells.size = sz) (h2 : i.size = sz) (h3 : 0 < sz) (h4 : agZs z zv.cells.toList = true) (hidx : idx = parts.toList.map (·.1)) (hag : agOs xs (parts.toList.map (·.2)) = true) : Core P C w γ β (.blds sz z n idx) xs o a := by
  subst hn hidx
  refine ⟨_, hag, fun vs r fr fr' up up' mo cv cf h hact => ?_⟩
  simp only [act] at hact
  split at hact
  · rename_i l hl
    simp only [Prod.mk.injEq, decide_eq_true_eq] at hact
    obtain ⟨rfl, rfl, rfl, hr⟩ := hact
    exact good_value (s := Instr.buildSlice t n (parts.map fun (i, x) => (i, a.eval x))) (by simp only [execOp, hop]) (h.blds ht hi hz h1 h2 h3 h4 hr hl (parts_eq a parts))
  · exact absurd hact bad_ne
theorem core_ld {agg take : Bool} {n : Nat} {t : TypeId} {y : Operand} (hop : o.op = .load t y) (ha : aggB P t = some agg) (hs : sizeB P t = some n) (h1 : agg = false → n = 1) (hag : agOs xs [y] = true) : Core P C w γ β (.ld agg n take) xs o a := by
  refine ⟨_, hag, fun vs r fr fr' up up' mo cv cf h hact => ?_⟩
  obtain ⟨x, rfl, hx⟩ := h.vals.inv1
  rcases hx.kinds with ⟨x, rfl, hx'⟩ | rfl | ⟨l, rfl⟩ | ⟨l, rfl⟩
  · exact good_value (by simp only [execOp, hop]) (h.ld ha hs h1 hx' C hact)
  all_goals simp [act, bad] at hact
theorem core_st {n : Nat} {t : TypeId} {y z : Operand} (hop : o.op = .store t y z) (hs : sizeB P t = some n) (hag : agOs xs [y, z] = true) : Core P C w γ β (.st n) xs o a := by
  refine ⟨_, hag, fun vs r fr fr' up up' mo cv cf h hact => ?_⟩
  obtain ⟨x, v, c1, c2, rfl, hx, hv, hc⟩ := h.vals.inv2
  rcases hx.kinds with ⟨x, rfl, hx'⟩ | rfl | ⟨l, rfl⟩ | ⟨l, rfl⟩
  · exact good_skip (by simp only [execOp, hop]) (h.st hs hx' hv hc C hact)
  all_goals simp [act, bad] at hact
theorem core_nck {y : Operand} (hop : o.op = .nilCheck y) (hag : agOs xs [y] = true) : Core P C w γ β .nck xs o a := by
  refine ⟨_, hag, fun vs r fr fr' up up' mo cv cf h hact => ?_⟩
  obtain ⟨x, rfl, hx⟩ := h.vals.inv1
  rcases hx.kinds with ⟨x, rfl, hx'⟩ | rfl | ⟨l, rfl⟩ | ⟨l, rfl⟩
  · obtain ⟨ad, hu, hout⟩ := h.nck hx' (fun _ => Nat.le_refl _) hact
    refine .inl ⟨_, w, ?_, hout⟩
    simp [execOp, hop, hu]
  all_goals simp [act, bad] at hact
theorem core_bin {op : BinOp} {bq : Bool} {t ty : TypeId} {y z : Operand} (hop : o.op = .binOp op t y z ty) (hb : bq = true → P.underlying t = some .bool) (hag : agOs xs [y, z] = true) : Core P C w γ β (.bin op bq) xs o a := by
  refine ⟨_, hag, fun vs r fr fr' up up' mo cv cf h hact => ?_⟩
  obtain ⟨x, v, c1, c2, rfl, hx, hv, hc⟩ := h.vals.inv2
  simp only [act] at hact
  split at hact
  · rename_i p q e
    simp only [List.cons.injEq, and_true] at e
    obtain ⟨rfl, rfl⟩ := e
    obtain ⟨e1, -⟩ := hx.litv
    obtain ⟨e2, -⟩ := hv.litv
    obtain ⟨res, hres, rfl, rfl, rfl⟩ := litC_ok hact
    obtain ⟨h1, h2⟩ := evBinQ_evBin hres
    have := h.bin (t := t) (x := y) (y := z) h1 (fun a b ha hb' => hb (h2 a b ha hb'))
    rw [← e1, ← e2] at this
    exact good_value (s := do eqGuard op t y z (a.eval y) (a.eval z); binOp op t (a.eval y) (a.eval z)) (by simp only [execOp, hop]) this
  · exact absurd hact bad_ne
theorem core_beq {neg : Bool} {n : Nat} {t ty : TypeId} {y z : Operand} {fs : Array Field} (hop : o.op = .binOp (if neg then .neq else .eql) t y z ty) (ht : P.underlying t = some (.struct fs)) (hf : flatD P 2 fs.toList = some n) (hst : P.stoodInHeld t = false) (hg : P.eqGuardType P.depth t = false)
    (hag : agOs xs [y, z] = true) : Core P C w γ β (.beq neg n) xs o a := by
  refine ⟨_, hag, fun vs r fr fr' up up' mo cv cf h hact => ?_⟩
  obtain ⟨x, v, c1, c2, rfl, hx, hv, hc⟩ := h.vals.inv2
  simp only [act] at hact
  split at hact
  · rename_i l m e
    simp only [List.cons.injEq, and_true] at e
    obtain ⟨rfl, rfl⟩ := e
    split at hact
    · rename_i b hb
      simp only [Prod.mk.injEq, beq_iff_eq] at hact
      obtain ⟨rfl, rfl, rfl, hl⟩ := hact
      have := h.beq (x := y) (y := z) (neg := neg) ht hf hst hg hx hv hl hb
      exact good_value (s := do eqGuard (if neg then .neq else .eql) t y z (a.eval y) (a.eval z); binOp (if neg then .neq else .eql) t (a.eval y) (a.eval z)) (by simp only [execOp, hop]) this
    · exact absurd hact bad_ne
  · exact absurd hact bad_ne
theorem core_un {op : UnOp} {t : TypeId} {y : Operand} (hop : o.op = .unOp op t y) (hag : agOs xs [y] = true) : Core P C w γ β (.un op) xs o a := by
  refine ⟨_, hag, fun vs r fr fr' up up' mo cv cf h hact => ?_⟩
  obtain ⟨x, rfl, hx⟩ := h.vals.inv1
  simp only [act] at hact
  split at hact
  · rename_i p e
    simp only [List.cons.injEq, and_true] at e
    subst e
    obtain ⟨e1, -⟩ := hx.litv
    obtain ⟨res, hres, rfl, rfl, rfl⟩ := litC_ok hact
    obtain ⟨h1, h2⟩ := evUn_run (P := P) hres w
    exact good_value (s := Op.unary op (a.eval y)) (by simp only [execOp, hop]) ⟨res, w, by rw [e1]; exact h1, h.lit h2⟩
  · exact absurd hact bad_ne
theorem core_cvi {k : IntKind} {s t : TypeId} {d : TypeDesc} {y : Operand} (hop : o.op = .convert s t y) (hs : P.underlying s = some d) (ht : P.underlying t = some (.int k)) (hag : agOs xs [y] = true) : Core P C w γ β (.cvi k) xs o a := by
  refine ⟨_, hag, fun vs r fr fr' up up' mo cv cf h hact => ?_⟩
  obtain ⟨x, rfl, hx⟩ := h.vals.inv1
  simp only [act] at hact
  split at hact
  · rename_i k' n e
    simp only [List.cons.injEq, and_true] at e
    subst e
    obtain ⟨e1, -⟩ := hx.litv
    simp only [Prod.mk.injEq] at hact
    obtain ⟨rfl, rfl, rfl, -⟩ := hact
    have := h.cvi (k' := k') (n := n) hs ht
    rw [← e1] at this
    exact good_value (s := convert s t (a.eval y)) (by simp only [execOp, hop]) this
  · exact absurd hact bad_ne
theorem core_cbs {s t e : TypeId} {y : Operand} (hop : o.op = .convert s t y) (hs : P.underlying s = some (.slice e)) (ht : P.underlying t = some .string) (he : P.underlying e = some (.int .u8)) (hag : agOs xs [y] = true) : Core P C w γ β .cbs xs o a := by
  refine ⟨_, hag, fun vs r fr fr' up up' mo cv cf h hact => ?_⟩
  obtain ⟨x, rfl, hx⟩ := h.vals.inv1
  simp only [act] at hact
  split at hact
  · rename_i l hstr hl
    split at hact
    · rename_i bs hb
      simp only [Prod.mk.injEq] at hact
      obtain ⟨rfl, rfl, rfl, -⟩ := hact
      exact good_value (s := convert s t (a.eval y)) (by simp only [execOp, hop]) (h.cbs hs ht he hx hstr hl hb)
    · exact absurd hact bad_ne
  · exact absurd hact bad_ne
theorem core_fa {off f n : Nat} {t : TypeId} {fs : Array Field} {fl : Field} {y : Operand} (hop : o.op = .fieldAddr t y f) (ht : P.underlying t = some (.struct fs)) (hf : fs[f]? = some fl) (ho : fl.offset = off) (hn : sizeB P fl.type = some n) (hn0 : n ≠ 0) (hag : agOs xs [y] = true) : Core P C w γ β (.fa off) xs o a := by
  subst ho
  refine ⟨_, hag, fun vs r fr fr' up up' mo cv cf h hact => ?_⟩
  obtain ⟨x, rfl, hx⟩ := h.vals.inv1
  rcases hx.kinds with ⟨x, rfl, hx'⟩ | rfl | ⟨l, rfl⟩ | ⟨l, rfl⟩
  · exact good_value (by simp only [execOp, hop]) (h.fa ht hf hn hn0 hx' C hact)
  all_goals simp [act, bad] at hact
theorem core_ia {t e : TypeId} {y z : Operand} (hop : o.op = .indexAddr t y z) (ht : P.underlying t = some (.slice e)) (hn : sizeB P e = some sz) (hag : agOs xs [y, z] = true) : Core P C w γ β (.ia sz) xs o a := by
  refine ⟨_, hag, fun vs r fr fr' up up' mo cv cf h hact => ?_⟩
  obtain ⟨x, v, c1, c2, rfl, hx, hv, hc⟩ := h.vals.inv2
  have hact0 := hact
  simp only [act] at hact
  split at hact
  · rename_i p k i e
    simp only [List.cons.injEq, and_true] at e
    obtain ⟨rfl, rfl⟩ := e
    obtain ⟨e2, -⟩ := hv.litv
    rcases hx.kinds with ⟨x, e3, hx'⟩ | e3 | ⟨l, e3⟩ | ⟨l, e3⟩
    · cases e3
      have := h.ia ht hn hx' C hact0
      rw [← e2] at this
      exact good_value (s := Instr.indexAt t (a.eval y) (a.eval z)) (by simp only [execOp, hop]) this
    · cases e3; simp [bad] at hact
    · cases e3
    · cases e3
  · exact absurd hact bad_ne
theorem core_iaa {n : Nat} {t e : TypeId} {y z : Operand} (hop : o.op = .indexAddr t y z) (ht : P.underlying t = some (.array n e)) (hn : sizeB P e = some sz) (hag : agOs xs [y, z] = true) : Core P C w γ β (.iaa sz n) xs o a := by
  refine ⟨_, hag, fun vs r fr fr' up up' mo cv cf h hact => ?_⟩
  obtain ⟨x, v, c1, c2, rfl, hx, hv, hc⟩ := h.vals.inv2
  have hact0 := hact
  simp only [act] at hact
  split at hact
  · rename_i p k i e
    simp only [List.cons.injEq, and_true] at e
    obtain ⟨rfl, rfl⟩ := e
    obtain ⟨e2, -⟩ := hv.litv
    rcases hx.kinds with ⟨x, e3, hx'⟩ | e3 | ⟨l, e3⟩ | ⟨l, e3⟩
    · cases e3
      have := h.iaa ht hn hx' C hact0
      rw [← e2] at this
      exact good_value (s := Instr.indexAt t (a.eval y) (a.eval z)) (by simp only [execOp, hop]) this
    · cases e3; simp [bad] at hact
    · cases e3
    · cases e3
  · exact absurd hact bad_ne
theorem core_ixs {t : TypeId} {y z : Operand} (hop : o.op = .index t y z) (ht : P.underlying t = some .string) (hag : agOs xs [y, z] = true) : Core P C w γ β .ixs xs o a := by
  refine ⟨_, hag, fun vs r fr fr' up up' mo cv cf h hact => ?_⟩
  obtain ⟨x, v, c1, c2, rfl, hx, hv, hc⟩ := h.vals.inv2
  simp only [act] at hact
  split at hact
  · rename_i s k i e
    simp only [List.cons.injEq, and_true] at e
    obtain ⟨rfl, rfl⟩ := e
    obtain ⟨e1, -⟩ := hx.litv
    obtain ⟨e2, -⟩ := hv.litv
    simp only [Prod.mk.injEq, decide_eq_true_eq] at hact
    obtain ⟨rfl, rfl, rfl, h0, h1⟩ := hact
    have := h.ixs (k := k) ht h0 h1
    rw [← e1, ← e2] at this
    exact good_value (s := Instr.index t (a.eval y) (a.eval z)) (by simp only [execOp, hop]) this
  · exact absurd hact bad_ne
theorem core_fld {off f n : Nat} {agg : Bool} {t : TypeId} {fs : Array Field} {fl : Field} {y : Operand} (hop : o.op = .field t y f) (ht : P.underlying t = some (.struct fs)) (hf : fs[f]? = some fl) (ho : fl.offset = off) (ha : aggB P fl.type = some agg) (hn : sizeB P fl.type = some n) (hag : agOs xs [y] = true) : Core P C w γ β (.fld agg off n) xs o a := by
  refine ⟨_, hag, fun vs r fr fr' up up' mo cv cf h hact => ?_⟩
  obtain ⟨x, rfl, hx⟩ := h.vals.inv1
  simp only [act] at hact
  split at hact
  · rename_i l e
    simp only [List.cons.injEq, and_true] at e
    subst e
    simp only [Prod.mk.injEq, Bool.and_eq_true, decide_eq_true_eq, Bool.or_eq_true, beq_iff_eq] at hact
    obtain ⟨rfl, rfl, rfl, hle, h1⟩ := hact
    exact good_value (s := Instr.field t (a.eval y) f) (by simp only [execOp, hop]) (h.fld ht hf ho ha hn hx (fun _ => Nat.le_refl _) hle (fun e => h1.resolve_left (by rw [e]; simp)))
  · exact absurd hact bad_ne
theorem core_ext {i : Nat} {y : Operand} (hop : o.op = .extract y i) (hag : agOs xs [y] = true) : Core P C w γ β (.ext i) xs o a := by
  refine ⟨_, hag, fun vs r fr fr' up up' mo cv cf h hact => ?_⟩
  obtain ⟨x, rfl, hx⟩ := h.vals.inv1
  exact good_value (by simp only [execOp, hop]) (h.ext hx (fun _ => Nat.le_refl _) C hact)

/-- A builtin's call. -/
theorem exec_builtin {b : Builtin} {args : Array Operand} {argTypes : Array TypeId} {s : Array Bool → Sem Value} (hop : o.op = .call { callee := .builtin b, args, argTypes }) (hb : ∀ cs, builtin b argTypes o.type cs (args.map a.eval) = (do pure (.value (← s cs)))) : ∃ cs, execOp a.eval o = (do pure (.value (← s cs))) := by
  refine ⟨args.map fun | .const _ => true | _ => false, ?_⟩
  simp only [execOp, hop]
  unfold resolve
  simp only []
  have : ∀ d : Deferred, (do let d ← (pure d : Sem Deferred); invoke d.target d.args : Sem Next) = invoke d.target d.args := fun d => rfl
  rw [this]
  exact hb _
end core
end
end Go.ScE
