/- E7: fields, indexes, lengths, numbers, strings, tuples. -/
import Derived.Test.YtomklnbaaelchaaDoorSE6
import Derived.Laws.StructEq
set_option linter.unusedVariables false
set_option linter.unusedSimpArgs false
namespace Go.ScE
section
variable {P : Program} {mo cv cf : Bud} {w : World} {γ : Gh} {β : Bet} {us : List Value} {vs : List AV} {fr : Fram} {up : List Fram}

theorem run_underlying' {t : TypeId} {d : TypeDesc} (h : P.underlying t = some d) (w : World) : (underlying t).run P w = .ok d w := by
  simp [underlying, h]

theorem Pre.fa (h : Pre mo w γ β us vs fr up cv cf) {t : TypeId} {fs : Array Field} {fl : Field} {f n : Nat} {x : CV} {u : Value} {c1 : Bud} (ht : P.underlying t = some (.struct fs)) (hf : fs[f]? = some fl)
    (hn : sizeB P fl.type = some n) (hn0 : n ≠ 0) (hx : RepC γ β u x c1) (C : Callee) {r : AV} {fr' : Fram} {up' : List Fram} (hact : act C (.fa fl.offset) [.c x] fr up = (r, fr', up', true)) :
    ∃ v w', (Instr.fieldAt t u f).run P w = .ok v w' ∧ Outs mo w γ β w' v r fr' up' := by
  simp only [act] at hact
  have key : ∀ g o, (Instr.fieldAt t (.pointer (some ⟨g, o, none⟩)) f).run P w = .ok (.pointer (some ⟨g, o + fl.offset, none⟩)) w := fun g o => by
    unfold Instr.fieldAt Instr.sureAddr fieldPlace
    simp [run_underlying' ht, hf, run_sizeOf hn, hn0, add_off]
  cases hx with
  | ref hb =>
    simp only [Prod.mk.injEq] at hact; obtain ⟨rfl, rfl, rfl, -⟩ := hact
    exact ⟨_, w, key _ _, h.still0 (.c (.ref hb))⟩
  | aref hb =>
    simp only [Prod.mk.injEq] at hact; obtain ⟨rfl, rfl, rfl, -⟩ := hact
    exact ⟨_, w, key _ _, h.still0 (.c (by rw [Nat.add_assoc]; exact .aref hb))⟩
  | ipt val hs hr =>
    simp only [Prod.mk.injEq] at hact; obtain ⟨rfl, rfl, rfl, -⟩ := hact
    exact ⟨_, w, key _ _, h.still0 (.c (by rw [Nat.add_assoc]; exact .ipt val hs hr))⟩
  | _ => simp [bad] at hact

theorem RepP.elem {g off cap sz : Nat} {l : List (List PV)} {len : Nat} (h : RepP γ (.slice (some ⟨g, off, none⟩) len cap) (.sl sz l)) {i : Nat} (hi : i < l.length) :
    RepC γ β (.pointer (some ⟨g, off + i * sz, none⟩)) (.ipt (l.getD i []) 0) none0 := by
  cases h with
  | nul => simp at hi
  | sl _ _ _ _ _ val hc hl hs hr =>
    have e : l[i]? = some (l.getD i []) := by simp [hi]
    exact .ipt (base := off + i * sz) (off := 0) (fun j => val i j) (fun j p hp => hs i _ j p e hp) (fun j p hp => hr i _ j p e hp)

theorem Pre.ia (h : Pre mo w γ β us vs fr up cv cf) {t e : TypeId} {sz : Nat} {x : CV} {u : Value} {c1 : Bud} {k : IntKind} {i : Int} (ht : P.underlying t = some (.slice e)) (hn : sizeB P e = some sz)
    (hx : RepC γ β u x c1) (C : Callee) {r : AV} {fr' : Fram} {up' : List Fram} (hact : act C (.ia sz) [.c x, .c (.p (.lit (.int k i)))] fr up = (r, fr', up', true)) :
    ∃ v w', (Instr.indexAt t u (.int k i)).run P w = .ok v w' ∧ Outs mo w γ β w' v r fr' up' := by
  simp only [act] at hact
  have key : ∀ g o len cap, 0 ≤ i → i < (len : Nat) → (Instr.indexAt t (.slice (some ⟨g, o, none⟩) len cap) (.int k i)).run P w = .ok (.pointer (some ⟨g, o + i.toNat * sz, none⟩)) w := fun g o len cap h0 h1 => by
    unfold Instr.indexAt asIntOf
    simp [run_underlying' ht, h0, h1, run_sizeOf hn, add_off]
  have keyP : ∀ l, RepP γ u (.sl sz l) → 0 ≤ i → i < (l.length : Int) → ∃ v w', (Instr.indexAt t u (.int k i)).run P w = .ok v w' ∧ Outs mo w γ β w' v (.c (.ipt (l.getD i.toNat []) 0)) fr up := fun l hp h0 h1 => by
    have hlt : i.toNat < l.length := by omega
    cases hp with
    | nil => simp at hlt
    | nul => simp at hlt
    | sl g off cap _ _ val hc hl hs hr =>
      exact ⟨_, w, key g off l.length cap h0 h1, h.still0 (.c (RepP.elem (.sl g off cap sz l val hc hl hs hr) hlt))⟩
  cases hx with
  | p hp =>
    cases hp with
    | lit v hv => simp [bad] at hact
    | nil sz' => simp only [Prod.mk.injEq, decide_eq_true_eq] at hact; obtain ⟨rfl, rfl, rfl, rfl, h0, h1⟩ := hact; exact keyP _ (.nil _) h0 h1
    | nul sz' ad => simp only [Prod.mk.injEq, decide_eq_true_eq] at hact; obtain ⟨rfl, rfl, rfl, rfl, h0, h1⟩ := hact; exact keyP _ (.nul _ ad) h0 h1
    | sl g off cap sz' l val hc hl hs hr => simp only [Prod.mk.injEq, decide_eq_true_eq] at hact; obtain ⟨rfl, rfl, rfl, rfl, h0, h1⟩ := hact; exact keyP _ (.sl g off cap _ l val hc hl hs hr) h0 h1
  | ownNil => simp only [Prod.mk.injEq, decide_eq_true_eq] at hact; obtain ⟨rfl, rfl, rfl, rfl, h0, h1⟩ := hact; exact keyP _ (.nil _) h0 h1
  | own hg hr hz hs => simp only [Prod.mk.injEq, decide_eq_true_eq] at hact; obtain ⟨rfl, rfl, rfl, rfl, h0, h1⟩ := hact; exact keyP _ hr h0 h1
  | arr hb hc =>
    simp only [Prod.mk.injEq, decide_eq_true_eq] at hact; obtain ⟨rfl, rfl, rfl, rfl, h0, h1⟩ := hact
    exact ⟨_, w, key _ _ _ _ h0 h1, h.still0 (.c (by rw [← Nat.add_mul]; exact .aref (off := 0) hb))⟩
  | _ => simp [bad] at hact

theorem Pre.iaa (h : Pre mo w γ β us vs fr up cv cf) {t e : TypeId} {sz n : Nat} {x : CV} {u : Value} {c1 : Bud} {k : IntKind} {i : Int} (ht : P.underlying t = some (.array n e)) (hn : sizeB P e = some sz)
    (hx : RepC γ β u x c1) (C : Callee) {r : AV} {fr' : Fram} {up' : List Fram} (hact : act C (.iaa sz n) [.c x, .c (.p (.lit (.int k i)))] fr up = (r, fr', up', true)) :
    ∃ v w', (Instr.indexAt t u (.int k i)).run P w = .ok v w' ∧ Outs mo w γ β w' v r fr' up' := by
  simp only [act] at hact
  have key : ∀ g o, 0 ≤ i → i < (n : Int) → (Instr.indexAt t (.pointer (some ⟨g, o, none⟩)) (.int k i)).run P w = .ok (.pointer (some ⟨g, o + i.toNat * sz, none⟩)) w := fun g o h0 h1 => by
    unfold Instr.indexAt asIntOf Instr.sureAddr
    simp [run_underlying' ht, h0, h1, run_sizeOf hn, add_off]
  cases hx with
  | ref hb =>
    simp only [Prod.mk.injEq, decide_eq_true_eq] at hact; obtain ⟨rfl, rfl, rfl, h0, h1⟩ := hact
    exact ⟨_, w, key _ _ h0 h1, h.still0 (.c (.ref hb))⟩
  | aref hb =>
    simp only [Prod.mk.injEq, decide_eq_true_eq] at hact; obtain ⟨rfl, rfl, rfl, h0, h1⟩ := hact
    exact ⟨_, w, key _ _ h0 h1, h.still0 (.c (by rw [Nat.add_assoc]; exact .aref hb))⟩
  | ipt val hs hr =>
    simp only [Prod.mk.injEq, decide_eq_true_eq] at hact; obtain ⟨rfl, rfl, rfl, h0, h1⟩ := hact
    exact ⟨_, w, key _ _ h0 h1, h.still0 (.c (by rw [Nat.add_assoc]; exact .ipt val hs hr))⟩
  | _ => simp [bad] at hact

theorem run_equal_bool {t : TypeId} (hu : P.underlying t = some .bool) (a b : Bool) (w : World) : (Op.equal t (.bool a) (.bool b)).run P w = .ok (a == b) w := by
  have key : ∀ d, (Op.equalIn (d + 1) t (.bool a) (.bool b)).run P w = .ok (a == b) w := fun d => by simp [Op.equalIn, run_underlying' hu]
  exact key 9999
def tame : Value → Bool
  | .nilIface | .agg _ => false
  | _ => true
theorem run_eqGuard (op : BinOp) (t : TypeId) (x y : Operand) (a b : Value) (h : tame a = true) (w : World) : (eqGuard op t x y a b).run P w = .ok () w := by
  unfold eqGuard
  cases a <;> first | (simp [tame] at h; done) | (simp only [Sem.run_ite]; split <;> rfl)
theorem evBin_run {op : BinOp} {t : TypeId} {x y r : Value} (h : evBin op x y = some r) (w : World) (hb : ∀ a b, x = .bool a → y = .bool b → P.underlying t = some .bool) :
    (binOp op t x y).run P w = .ok r w ∧ cellV r = true := by
  unfold evBin at h
  split at h
  · rename_i k a k' b
    split at h
    · cases h
    · cases h; exact ⟨by simp [binOp, Op.shift, *], rfl⟩
  · rename_i k a k' b
    split at h
    · cases h
    · cases h; exact ⟨by simp [binOp, Op.shift, *], rfl⟩
  · rename_i k a k' b h1 h2
    split at h
    · cases h
    · rename_i hk
      have hk' : k = k' := by simpa using hk
      subst hk'
      split at h <;> first
        | (cases h; exact ⟨by simp [binOp, Op.intArith, Op.intCmp, Op.intBits], rfl⟩)
        | (split at h
           · cases h
           · rename_i hb0; cases h; exact ⟨by simp [binOp, Op.intDiv, hb0], rfl⟩)
        | cases h
  · split at h
    · rename_i a b hl; cases h
      refine ⟨?_, rfl⟩
      have hm : IntKind.i64.max = 9223372036854775807 := by decide
      have : ¬ ((a.size + b.size : Nat) : Int) > IntKind.i64.max := by rw [hm]; omega
      simp only [binOp, Op.stringOp, Sem.run_ite, if_neg this, Sem.run_pure]
    · cases h
  all_goals first
    | (rename_i a b; cases h; have hu := hb a b rfl rfl; refine ⟨?_, rfl⟩; simp only [binOp, Sem.run_bind, run_equal_bool hu, Result.andThen_ok, Sem.run_pure]; done)
    | (cases h; refine ⟨?_, rfl⟩; simp [binOp, Op.stringOp]; done)
    | cases h

theorem Pre.bin (h : Pre mo w γ β us vs fr up cv cf) {op : BinOp} {t : TypeId} {x y : Operand} {a b r : Value} (hr : evBin op a b = some r) (hb : ∀ p q, a = .bool p → b = .bool q → P.underlying t = some .bool) :
    ∃ v w', (do eqGuard op t x y a b; binOp op t a b : Sem Value).run P w = .ok v w' ∧ Outs mo w γ β w' v (.c (.p (.lit r))) fr up := by
  obtain ⟨h1, h2⟩ := evBin_run (P := P) (t := t) hr w hb
  refine ⟨r, w, ?_, h.lit h2⟩
  have hg : (eqGuard op t x y a b).run P w = .ok () w := run_eqGuard op t x y a b (by cases a <;> first | rfl | (simp [evBin] at hr)) w
  simp [Sem.run_bind, hg, h1]

/-- A struct of integers, and of structs of integers: how many cells it has. -/
def flatN (P : Program) (sub : List Field → Option Nat) : Nat → List Field → Option Nat
  | k, [] => some k
  | k, f :: r => if f.offset == k && f.name != "_" then (match P.underlying f.type with
      | some (.int _) => flatN P sub (k + 1) r
      | some (.struct gs) => (match P.stoodInHeld f.type, sub gs.toList with
        | false, some n => if sizeB P f.type == some n then flatN P sub (k + n) r else none
        | _, _ => none)
      | _ => none) else none
def flatD (P : Program) : Nat → List Field → Option Nat
  | 0 => flatN P (fun _ => none) 0
  | d + 1 => flatN P (flatD P d) 0
theorem run_part1 {t : TypeId} {k : IntKind} (hu : P.underlying t = some (.int k)) (w : World) {cs : Array Value} {i : Nat} {v : Value} (hv : cs[i]? = some v) : (part t cs i).run P w = .ok v w := by
  simp [part, isAgg, run_underlying' hu, hv]
theorem run_partS {t : TypeId} {gs : Array Field} (hu : P.underlying t = some (.struct gs)) {n : Nat} (hn : sizeB P t = some n) (w : World) (cs : Array Value) (i : Nat) : (part t cs i).run P w = .ok (.agg (cs.extract i (i + n))) w := by
  simp [part, isAgg, run_underlying' hu, run_sizeOf hn]
theorem eqCs_split : ∀ {l m : List CV} {b : Bool} (_ : eqCs l m = some b) (n : Nat), ∃ b1 b2, eqCs (l.take n) (m.take n) = some b1 ∧ eqCs (l.drop n) (m.drop n) = some b2 ∧ b = (b1 && b2)
  | [], m, b, h, n => by
    cases m with
    | nil => simp only [eqCs, Option.some.injEq] at h; subst h; exact ⟨true, true, by simp [eqCs], by simp [eqCs], rfl⟩
    | cons _ _ => simp [eqCs] at h
  | x :: l, m, b, h, 0 => ⟨true, b, by simp [eqCs], by simpa using h, by simp⟩
  | x :: l, m, b, h, n + 1 => by
    unfold eqCs at h
    split at h
    · simp at *
    · rename_i j a r k a' s h1
      cases h1
      split at h
      · rename_i hjk
        split at h
        · rename_i y hy
          cases h
          obtain ⟨b1, b2, h1, h2, h3⟩ := eqCs_split hy n
          refine ⟨(a == a') && b1, b2, by simp [eqCs, hjk, h1], by simpa using h2, by rw [h3, Bool.and_assoc]⟩
        · cases h
      · cases h
    · cases h
def EqOk (P : Program) (w : World) (e : Nat) (fs : List Field) (n : Nat) : Prop := ∀ (γ : Gh) (β : Bet) (xs ys : Array Value) (l m : List CV) (c c' : Bud) (b : Bool), l.length = n → RepCs γ β xs.toList l c → RepCs γ β ys.toList m c' → eqCs l m = some b → (Op.eqFields e xs ys fs).run P w = .ok b w
theorem eqFields_cons {e : Nat} {xs ys : Array Value} {f : Field} {fs : List Field} {w : World} {a a' : Value} {b b' : Bool} (hn : f.name ≠ "_") (h1 : (part f.type xs f.offset).run P w = .ok a w) (h2 : (part f.type ys f.offset).run P w = .ok a' w)
    (h3 : (Op.equalIn e f.type a a').run P w = .ok b w) (h4 : (Op.eqFields e xs ys fs).run P w = .ok b' w) : (Op.eqFields e xs ys (f :: fs)).run P w = .ok (b && b') w := by
  simp only [Op.eqFields, ne_eq, hn, not_false_eq_true, if_true, Sem.run_bind, h1, h2, Result.andThen_ok, h3]
  cases b with
  | true => simpa using h4
  | false => simp
theorem flatN_run {sub : List Field → Option Nat} {e : Nat} (w : World) (hsub : ∀ gs n, sub gs = some n → EqOk P w e gs n) : ∀ (fs : List Field) (k n : Nat), flatN P sub k fs = some n →
    ∀ (γ : Gh) (β : Bet) (xs ys : Array Value) (l m : List CV) (c c' : Bud) (b : Bool), l.length + k = n → RepCs γ β (xs.toList.drop k) l c → RepCs γ β (ys.toList.drop k) m c' → eqCs l m = some b → (Op.eqFields (e + 1) xs ys fs).run P w = .ok b w
  | [], k, n, hf, γ, β, xs, ys, l, m, c, c', b, hl, hx, hy, he => by
    simp only [flatN, Option.some.injEq] at hf
    cases l with
    | nil => cases m with
      | nil => simp only [eqCs, Option.some.injEq] at he; subst he; simp [Op.eqFields]
      | cons _ _ => simp [eqCs] at he
    | cons _ _ => simp at hl; omega
  | f :: fs, k, n, hf, γ, β, xs, ys, l, m, c, c', b, hl, hx, hy, he => by
    simp only [flatN] at hf
    split at hf
    case isFalse => cases hf
    rename_i h0
    simp only [Bool.and_eq_true, beq_iff_eq, bne_iff_ne, ne_eq] at h0
    obtain ⟨ho, hn⟩ := h0
    have grow : ∀ (fs : List Field) (k n : Nat), flatN P sub k fs = some n → k ≤ n := by
      intro fs
      induction fs with
      | nil => intro k n h; simp only [flatN, Option.some.injEq] at h; omega
      | cons f fs ih =>
        intro k n h
        simp only [flatN] at h
        repeat' split at h
        all_goals first | (cases h; done) | (have := ih _ _ h; omega)
    split at hf
    · rename_i kk hu
      have hg := grow _ _ _ hf
      have hlen : ∃ x r, l = x :: r := by cases l with
        | nil => simp at hl; omega
        | cons x r => exact ⟨x, r, rfl⟩
      obtain ⟨x, r, rfl⟩ := hlen
      have cellOf : ∀ {zs : Array Value} {x : CV} {r : List CV} {c : Bud}, RepCs γ β (zs.toList.drop k) (x :: r) c → ∃ v c1 c2, zs[k]? = some v ∧ RepC γ β v x c1 ∧ RepCs γ β (zs.toList.drop (k + 1)) r c2 := fun {zs x r c} h => by
        generalize hq : zs.toList.drop k = q at h
        cases h with
        | cons h1 h2 hcc =>
          rename_i v vs c1 c2
          refine ⟨v, c1, c2, ?_, h1, ?_⟩
          · have := congrArg (·[0]?) hq
            simpa using this
          · have : zs.toList.drop (k + 1) = (zs.toList.drop k).drop 1 := by rw [List.drop_drop]
            rw [this, hq]; exact h2
      unfold eqCs at he
      split at he
      · exact absurd ‹x :: r = []› (by simp)
      · rename_i j a r0 k' a' s h1
        cases h1
        split at he
        · rename_i hjk
          subst hjk
          split at he
          · rename_i y hy'
            cases he
            obtain ⟨v, c1, c2, e1, h1, h2⟩ := cellOf hx
            obtain ⟨v', c1', c2', e1', h1', h2'⟩ := cellOf hy
            obtain ⟨rfl, -⟩ := (RepA.c h1).litv
            obtain ⟨rfl, -⟩ := (RepA.c h1').litv
            have ih := flatN_run w hsub fs (k + 1) n hf γ β xs ys r s c2 c2' y (by simp only [List.length_cons] at hl; omega) h2 h2' hy'
            exact eqFields_cons hn (by rw [ho]; exact run_part1 hu w e1) (by rw [ho]; exact run_part1 hu w e1') (run_equalIn_int w e f.type j kk a a' hu) ih
          · cases he
        · cases he
      · cases he
    · rename_i gs hu
      split at hf
      · rename_i n0 hst hs
        split at hf
        · rename_i hsz
          simp only [beq_iff_eq] at hsz
          have hg := grow _ _ _ hf
          obtain ⟨b1, b2, q1, q2, rfl⟩ := eqCs_split he n0
          have hfo : P.fieldsOf f.type = gs := by unfold Program.fieldsOf; rw [hu]
          obtain ⟨d1, d2, -, hx1, hx2⟩ := hx.split n0
          obtain ⟨d1', d2', -, hy1, hy2⟩ := hy.split n0
          rw [List.drop_drop] at hx2 hy2
          have hex : ∀ zs : Array Value, (zs.extract k (k + n0)).toList = (zs.toList.drop k).take n0 := fun zs => by
            rw [Array.toList_extract, List.extract_eq_take_drop]; congr 1; omega
          have ih := flatN_run w hsub fs (k + n0) n hf γ β xs ys (l.drop n0) (m.drop n0) d2 d2' b2 (by rw [List.length_drop]; omega) hx2 hy2 q2
          refine eqFields_cons hn (by rw [ho]; exact run_partS hu hsz w xs k) (by rw [ho]; exact run_partS hu hsz w ys k) ?_ ih
          rw [run_equalIn_struct w e f.type _ _ (by rw [hfo]; exact hu) hst, hfo]
          exact hsub _ _ hs γ β _ _ (l.take n0) (m.take n0) d1 d1' b1 (by rw [List.length_take]; omega) (by rw [hex]; exact hx1) (by rw [hex]; exact hy1) q1
        · cases hf
      · cases hf
    · cases hf
theorem flatD_run (w : World) : ∀ (d : Nat) (e : Nat) (fs : List Field) (n : Nat), flatD P d fs = some n → EqOk P w (e + d + 1) fs n
  | 0, e, fs, n, h => fun γ β xs ys l m c c' b hl hx hy he => flatN_run (sub := fun _ => none) w (fun _ _ h => nomatch h) fs 0 n h γ β xs ys l m c c' b hl (by simpa using hx) (by simpa using hy) he
  | d + 1, e, fs, n, h => fun γ β xs ys l m c c' b hl hx hy he => flatN_run (sub := flatD P d) w (fun gs n hs => flatD_run w d e gs n hs) fs 0 n h γ β xs ys l m c c' b hl (by simpa using hx) (by simpa using hy) he

theorem Pre.beq (h : Pre mo w γ β us vs fr up cv cf) {t : TypeId} {fs : Array Field} {neg b : Bool} {x y : Operand} {u v : Value} {l m : List CV} {c1 c2 : Bud} (ht : P.underlying t = some (.struct fs)) {n : Nat} (hf : flatD P 2 fs.toList = some n) (hst : P.stoodInHeld t = false) (hg : P.eqGuardType P.depth t = false)
    (hu : RepA γ β u (.agg l) c1) (hv : RepA γ β v (.agg m) c2) (hl : l.length = n) (he : eqCs l m = some b) :
    ∃ r w', (do eqGuard (if neg then .neq else .eql) t x y u v; binOp (if neg then .neq else .eql) t u v : Sem Value).run P w = .ok r w' ∧ Outs mo w γ β w' r (pbool (b != neg)) fr up := by
  cases hu with
  | agg hu =>
    cases hv with
    | agg hv =>
      rename_i xs ys
      have hfo : P.fieldsOf t = fs := by unfold Program.fieldsOf; rw [ht]
      have heq : (Op.equal t (.agg xs) (.agg ys)).run P w = .ok b w := by
        unfold Op.equal Op.maxDepth
        rw [run_equalIn_struct w _ t xs ys (by rw [hfo]; exact ht) hst, hfo]
        exact flatD_run w 2 9996 fs.toList n hf γ β xs ys l m _ _ b hl hu hv he
      refine ⟨.bool (b != neg), w, ?_, h.lit rfl⟩
      cases neg with
      | false => simp [eqGuard, hg, binOp, heq]
      | true => simp [eqGuard, hg, binOp, heq]

theorem evUn_run {op : UnOp} {x r : Value} (h : evUn op x = some r) (w : World) : (Op.unary op x).run P w = .ok r w ∧ cellV r = true := by
  unfold evUn at h
  split at h
  · cases h; exact ⟨by simp [Op.unary, Op.intArith], rfl⟩
  · cases h; exact ⟨by simp [Op.unary, Op.intBits], rfl⟩
  · cases h; exact ⟨by simp [Op.unary], rfl⟩
  · cases h

theorem run_getObj_map {g : Nat} {es : Array MapEntry} {clock : Nat} (hh : w.heap[g]? = some (.map es clock)) : (getObj g).run P w = .ok (.map es clock) w := by
  simp [getObj, Sem.run, hh]
theorem run_part {t : TypeId} {agg : Bool} {n off : Nat} (ha : aggB P t = some agg) (hs : sizeB P t = some n) (h1 : agg = false → n = 1) (w : World) (cs : Array Value) (hn : off + n ≤ cs.size) :
    (part t cs off).run P w = .ok (mkV agg (cut off n cs.toList)) w := by
  unfold part
  cases agg with
  | true =>
    have e : cs.extract off (off + n) = (cut off n cs.toList).toArray := by
      apply Array.ext'
      simp [cut, List.extract_eq_take_drop]
    simp [run_isAgg ha, run_sizeOf hs, mkV, e]
  | false =>
    have hn1 := h1 rfl
    subst hn1
    have hlt : off < cs.size := by omega
    have e : cut off 1 cs.toList = [cs[off]] := by
      unfold cut
      rw [List.drop_eq_getElem_cons (by simpa using hlt)]
      simp
    simp [run_isAgg ha, mkV, e, hlt]
theorem Pre.fld (h : Pre mo w γ β us vs fr up cv cf) {t : TypeId} {fs : Array Field} {fl : Field} {f n off : Nat} {agg : Bool} {u : Value} {l : List CV} {c1 : Bud} (ht : P.underlying t = some (.struct fs)) (hf : fs[f]? = some fl) (ho : fl.offset = off)
    (ha : aggB P fl.type = some agg) (hn : sizeB P fl.type = some n) (hx : RepA γ β u (.agg l) c1) (hc : ∀ g, c1 g ≤ cv g) (hle : off + n ≤ l.length) (h1 : agg = false → n = 1) :
    ∃ v w', (Instr.field t u f).run P w = .ok v w' ∧ Outs mo w γ β w' v (mkA agg (cut off n l)) fr up := by
  cases hx with
  | agg hr =>
    rename_i vs
    have hlen : vs.size = l.length := by have := hr.length; simpa using this
    have hcut := hr.cut off n
    refine ⟨_, w, ?_, h.still (mk_val hcut (fun e => by rw [cut_length _ _ _ hle, h1 e])) hc⟩
    subst ho
    have := run_part (P := P) ha hn h1 w vs (by rw [hlen]; exact hle)
    simp [Instr.field, run_underlying' ht, hf, asAgg, this]
theorem Pre.ext (h : Pre mo w γ β us vs fr up cv cf) {x : AV} {i : Nat} {u : Value} {c1 : Bud} (hx : RepA γ β u x c1) (hc : ∀ g, c1 g ≤ cv g) (C : Callee) {r : AV} {fr' : Fram} {up' : List Fram} (hact : act C (.ext i) [x] fr up = (r, fr', up', true)) :
    ∃ v w', (Instr.extract u i).run P w = .ok v w' ∧ Outs mo w γ β w' v r fr' up' := by
  cases hx with
  | tup ht =>
    rename_i us l
    simp only [act] at hact
    split at hact
    · rename_i b cs hl
      simp only [Prod.mk.injEq] at hact; obtain ⟨rfl, rfl, rfl, -⟩ := hact
      have key : ∀ {us : List Value} {l : List (Bool × List CV)} {c : Bud} (_ : RepT γ β us l c) {i : Nat} (_ : l[i]? = some (b, cs)), ∃ v, us[i]? = some v ∧ RepA γ β v (mkA b cs) c := by
        intro us l c ht
        induction ht with
        | nil => intro i hi; simp at hi
        | agg hh t hc ih =>
          intro i hi
          cases i with
          | zero => simp at hi; obtain ⟨rfl, rfl⟩ := hi; exact ⟨_, rfl, (RepA.agg hh).weak (le_of_split1 hc)⟩
          | succ i => obtain ⟨v, a, b⟩ := ih (i := i) (by simpa using hi); exact ⟨v, by simpa using a, b.weak (le_of_split2 hc)⟩
        | one hh t hc ih =>
          intro i hi
          cases i with
          | zero => simp at hi; obtain ⟨rfl, rfl⟩ := hi; exact ⟨_, rfl, (RepA.c hh).weak (le_of_split1 hc)⟩
          | succ i => obtain ⟨v, a, b⟩ := ih (i := i) (by simpa using hi); exact ⟨v, by simpa using a, b.weak (le_of_split2 hc)⟩
        | dead t ih =>
          intro i hi
          cases i with
          | zero => simp at hi; obtain ⟨rfl, rfl⟩ := hi; exact ⟨_, rfl, .dead⟩
          | succ i => obtain ⟨v, a, b⟩ := ih (i := i) (by simpa using hi); exact ⟨v, by simpa using a, b⟩
      obtain ⟨v, hv, hrep⟩ := key ht hl
      exact ⟨v, w, by unfold Instr.extract; simp at hv; simp [hv], h.still hrep hc⟩
    · simp [bad] at hact
  | _ => simp [act, bad] at hact

theorem Pre.ixs (h : Pre mo w γ β us vs fr up cv cf) {t : TypeId} {s : ByteArray} {k : IntKind} {i : Int} (ht : P.underlying t = some .string) (h0 : 0 ≤ i) (h1 : i < s.size) :
    ∃ v w', (Instr.index t (.string s) (.int k i)).run P w = .ok v w' ∧ Outs mo w γ β w' v (pint .u8 ((s.data.toList.getD i.toNat 0).toNat)) fr up := by
  refine ⟨.int .u8 ((s.data.toList.getD i.toNat 0).toNat), w, ?_, h.lit rfl⟩
  have hlt : i.toNat < s.size := by omega
  have hlt' : i.toNat < s.data.size := hlt
  unfold Instr.index asIntOf
  have hg : s[i.toNat]? = some (s.data.toList.getD i.toNat 0) := by
    rw [getElem?_pos s i.toNat hlt]
    congr 1
    simp only [List.getD_eq_getElem?_getD, Array.getElem?_toList, Array.getElem?_eq_getElem hlt', Option.getD_some]
    rfl
  simp [run_underlying' ht, h0, hg]

theorem Pre.lenS (h : Pre mo w γ β us vs fr up cv cf) {t rt : TypeId} {s : ByteArray} (ht : P.underlying t = some .string) :
    ∃ v w', (Builtin.len_ #[t] rt #[.string s]).run P w = .ok v w' ∧ Outs mo w γ β w' v (pint .i64 s.size) fr up :=
  ⟨_, w, by simp [Builtin.len_, run_underlying' ht, goInt], h.lit rfl⟩
theorem Pre.lenL (h : Pre mo w γ β us vs fr up cv cf) {t rt e : TypeId} {x : CV} {u : Value} {c1 : Bud} (hs : P.underlying t = some (.slice e)) (hx : RepC γ β u x c1)
    (C : Callee) {r : AV} {fr' : Fram} {up' : List Fram} (hact : act C .lenL [.c x] fr up = (r, fr', up', true)) :
    ∃ v w', (Builtin.len_ #[t] rt #[u]).run P w = .ok v w' ∧ Outs mo w γ β w' v r fr' up' := by
  have key : ∀ a n c, (Builtin.len_ #[t] rt #[.slice a n c]).run P w = .ok (.int .i64 n) w := fun a n c => by simp [Builtin.len_, run_underlying' hs, goInt]
  cases hx with
  | p hp =>
    cases hp with
    | lit _ hv => simp [act, bad] at hact
    | nil sz => simp only [act, Prod.mk.injEq] at hact; obtain ⟨rfl, rfl, rfl, -⟩ := hact; exact ⟨_, w, key _ _ _, h.lit rfl⟩
    | nul sz ad => simp only [act, Prod.mk.injEq] at hact; obtain ⟨rfl, rfl, rfl, -⟩ := hact; exact ⟨_, w, key _ _ _, h.lit rfl⟩
    | sl g off cap sz l val hc hl hs' hr => simp only [act, Prod.mk.injEq] at hact; obtain ⟨rfl, rfl, rfl, -⟩ := hact; exact ⟨_, w, key _ _ _, h.lit rfl⟩
  | ownNil => simp only [act, Prod.mk.injEq] at hact; obtain ⟨rfl, rfl, rfl, -⟩ := hact; exact ⟨_, w, key _ _ _, h.lit rfl⟩
  | own a b c d => simp only [act, Prod.mk.injEq] at hact; obtain ⟨rfl, rfl, rfl, -⟩ := hact; exact ⟨_, w, key _ _ _, h.lit rfl⟩
  | arr hb hc => simp only [act, Prod.mk.injEq] at hact; obtain ⟨rfl, rfl, rfl, -⟩ := hact; exact ⟨_, w, key _ _ _, h.lit rfl⟩
  | _ => simp [act, bad] at hact
theorem RepM.length {es : List MapEntry} {xs : List (Value × Bool × List PV)} (h : RepM γ es xs) : es.length = xs.length := by
  induction h <;> simp_all
theorem Pre.lenM (h : Pre mo w γ β us vs fr up cv cf) {t rt kt et : TypeId} {d k : Nat} {u : Value} {c1 : Bud} (hm : P.underlying t = some (.map kt et)) (hx : RepC γ β u (.mp d k) c1)
    (C : Callee) {r : AV} {fr' : Fram} {up' : List Fram} (hact : act C .lenM [.c (.mp d k)] fr up = (r, fr', up', true)) :
    ∃ v w', (Builtin.len_ #[t] rt #[u]).run P w = .ok v w' ∧ Outs mo w γ β w' v r fr' up' := by
  cases hx with
  | mp hb =>
    rename_i g
    simp only [act] at hact
    split at hact
    · rename_i es hes
      simp only [Prod.mk.injEq] at hact; obtain ⟨rfl, rfl, rfl, -⟩ := hact
      obtain ⟨g', e1, e2, hb', hH, hsp, -⟩ := h.fs.focus hes
      rw [hb] at hb'; cases hb'
      cases hH with
      | map hh hr hS hc =>
        rename_i mes clock
        have hlen : mes.size = es.length := by rw [← Array.length_toList]; exact hr.length
        refine ⟨.int .i64 mes.size, w, ?_, by rw [hlen]; exact h.lit rfl⟩
        simp [Builtin.len_, run_underlying' hm, goInt, run_getObj_map hh]
    · simp [bad] at hact
end
end Go.ScE
