/- E23: the evaluator with continuations, by recursors alone: the form that the kernel runs. -/
import Derived.Test.YtomklnbaaelchaaDoorSE22
set_option linter.unusedVariables false
set_option linter.unusedSimpArgs false
namespace Go.ScE

abbrev R0 := AV × List Fram × Bool
def fail0 : R0 := (deadA, [], false)
abbrev KA := AV → Fram → List Fram → R0
theorem fail0_no {x : R0} {Q : Prop} (h : fail0 = x) (g : x.2.2 = true) : Q := by subst h; cases g

/-! ### lists -/
noncomputable def nthF {α : Type} (d : α) (l : List α) : Nat → α := List.rec (motive := fun _ => Nat → α) (fun _ => d) (fun x _ ih n => Nat.rec (motive := fun _ => α) x (fun m _ => ih m) n) l
theorem nthF_eq {α : Type} (d : α) : ∀ (l : List α) (n : Nat), nthF d l n = l.getD n d
  | [], n => by simp [nthF]
  | x :: l, 0 => rfl
  | x :: l, n + 1 => by
    show nthF d l n = _
    rw [nthF_eq d l n]; simp
noncomputable def setF {α : Type} (y : α) (l : List α) : Nat → List α := List.rec (motive := fun _ => Nat → List α) (fun _ => []) (fun x t ih n => Nat.rec (motive := fun _ => List α) (y :: t) (fun m _ => x :: ih m) n) l
theorem setF_eq {α : Type} (y : α) : ∀ (l : List α) (n : Nat), setF y l n = l.set n y
  | [], n => by simp [setF]
  | x :: l, 0 => rfl
  | x :: l, n + 1 => by
    show x :: setF y l n = _
    rw [setF_eq y l n]; simp
noncomputable def lenF {α : Type} (l : List α) : Nat := List.rec (motive := fun _ => Nat) 0 (fun _ _ ih => Nat.succ ih) l
theorem lenF_eq {α : Type} : ∀ l : List α, lenF l = l.length
  | [] => rfl
  | x :: l => by show Nat.succ (lenF l) = _; rw [lenF_eq l]; rfl
noncomputable def appF {α : Type} (l m : List α) : List α := List.rec (motive := fun _ => List α) m (fun x _ ih => x :: ih) l
theorem appF_eq {α : Type} (m : List α) : ∀ l : List α, appF l m = l ++ m
  | [] => rfl
  | x :: l => by show x :: appF l m = _; rw [appF_eq m l]; rfl

/-! ### what a value is -/
inductive VK where
  | i (k : IntKind) (n : Int)
  | o
noncomputable def vk (v : Value) : VK := Value.casesOn (motive_1 := fun _ => VK) v (fun _ => .o) (fun k n => .i k n) (fun _ _ => .o) (fun _ _ _ => .o) (fun _ => .o) (fun _ => .o) (fun _ _ _ => .o) (fun _ => .o) (fun _ => .o) (fun _ _ _ => .o) .o (fun _ _ => .o) .o (fun _ => .o) (fun _ => .o)
theorem vk_i {v : Value} {k : IntKind} {n : Int} (h : vk v = .i k n) : v = .int k n := by
  cases v <;> first | (cases h; rfl) | cases h
noncomputable def litV (a : AV) : Value := AV.rec (motive := fun _ => Value) (fun x => CV.rec (motive := fun _ => Value) (fun p => PV.casesOn (motive_1 := fun _ => Value) p (fun v => v) (fun _ _ => .nilFunc)) (fun _ _ => .nilFunc) (fun _ _ => .nilFunc) (fun _ _ _ => .nilFunc) (fun _ _ _ _ _ => .nilFunc) (fun _ _ _ _ _ => .nilFunc) (fun _ _ => .nilFunc) .nilFunc x) (fun _ => .nilFunc) (fun _ => .nilFunc) a
theorem litV_ok {a : AV} (h : litV a ≠ .nilFunc) : a = .c (.p (.lit (litV a))) := by
  cases a with
  | c x => cases x with
    | p p => cases p with
      | lit v => rfl
      | sl _ _ => exact absurd rfl h
    | _ => exact absurd rfl h
  | agg l => exact absurd rfl h
  | tup l => exact absurd rfl h
theorem litV_i {a : AV} {k : IntKind} {n : Int} (h : vk (litV a) = .i k n) : a = .c (.p (.lit (.int k n))) := by
  have h1 := vk_i h
  have h2 := litV_ok (a := a) (by rw [h1]; simp)
  rw [h1] at h2; exact h2
noncomputable def cvA (a : AV) : CV := AV.rec (motive := fun _ => CV) (fun x => x) (fun _ => .dead) (fun _ => .dead) a
theorem cvA_ok {a : AV} (h : cvA a ≠ .dead) : a = .c (cvA a) := by
  cases a with
  | c x => rfl
  | agg l => exact absurd rfl h
  | tup l => exact absurd rfl h

noncomputable def forceV (v : Value) (k : Value → R0) : R0 := VK.rec (motive := fun _ => R0) (fun ik n => forceI n fun n => k (.int ik n)) (k v) (vk v)
theorem forceV_eq (v : Value) (k : Value → R0) : forceV v k = k v := by
  unfold forceV
  cases h : vk v with
  | i ik n => have := vk_i h; subst this; exact forceI_eq n fun n => k (.int ik n)
  | o => rfl
noncomputable def forceP (p : PV) (k : PV → R0) : R0 := PV.casesOn (motive_1 := fun _ => R0) p (fun v => forceV v fun v => k (.lit v)) (fun sz l => k (.sl sz l))
theorem forceP_eq (p : PV) (k : PV → R0) : forceP p k = k p := by
  cases p with
  | lit v => exact forceV_eq v fun v => k (.lit v)
  | sl _ _ => rfl
noncomputable def forceC (x : CV) (k : CV → R0) : R0 := CV.rec (motive := fun _ => R0) (fun p => forceP p fun p => k (.p p)) (fun sz l => k (.own sz l)) (fun l o => k (.ipt l o)) (fun d j o => k (.ref d j o)) (fun d j s i o => k (.aref d j s i o)) (fun d j s o n => k (.arr d j s o n)) (fun d j => k (.mp d j)) (k .dead) x
theorem forceC_eq (x : CV) (k : CV → R0) : forceC x k = k x := by
  cases x with
  | p p => exact forceP_eq p fun p => k (.p p)
  | _ => rfl
noncomputable def force (r : AV) (k : AV → R0) : R0 := AV.rec (motive := fun _ => R0) (fun x => forceC x fun x => k (.c x)) (fun l => k (.agg l)) (fun l => k (.tup l)) r
theorem force_eq (r : AV) (k : AV → R0) : force r k = k r := by
  cases r with
  | c x => exact forceC_eq x fun x => k (.c x)
  | _ => rfl

/-! ### the operations -/
/-- What an operation with a continuation is to be. -/
def HOk (C : Callee) (op : XK) (vs : List AV) (h : Fram → List Fram → KA → R0) : Prop := ∀ (fr : Fram) (up : List Fram) (k : KA) (x : R0), h fr up k = x → x.2.2 = true → ∃ r fr' up', act C op vs fr up = (r, fr', up', true) ∧ k r fr' up' = x

noncomputable def hGen (C : Callee) (op : XK) (vs : List AV) (fr : Fram) (up : List Fram) (k : KA) : R0 := Prod.rec (motive := fun _ => R0) (fun r q => Prod.rec (motive := fun _ => R0) (fun fr' q => Prod.rec (motive := fun _ => R0) (fun up' ok => Bool.rec (motive := fun _ => R0) fail0 (force r fun r => k r fr' up') ok) q) q) (actF C op vs fr up)
theorem hGen_ok (C : Callee) (op : XK) (vs : List AV) : HOk C op vs (hGen C op vs) := by
  intro fr up k x h g
  unfold hGen at h
  rw [actF_eq] at h
  generalize act C op vs fr up = q at h ⊢
  obtain ⟨r, fr', up', ok⟩ := q
  cases ok with
  | false => exact fail0_no h g
  | true => exact ⟨r, fr', up', rfl, by rw [← h]; exact (force_eq r fun r => k r fr' up').symm⟩

noncomputable def hMv (x : AV) (fr : Fram) (up : List Fram) (k : KA) : R0 := k x fr up
theorem hMv_ok (C : Callee) (x : AV) : HOk C .mv [x] (hMv x) := by
  intro fr up k y h g
  exact ⟨x, fr, up, rfl, h⟩

noncomputable def isI64 (k : IntKind) : Bool := IntKind.rec (motive := fun _ => Bool) false false false true false false false false k
theorem isI64_ok {k : IntKind} (h : isI64 k = true) : k = .i64 := by cases k <;> first | rfl | cases h
abbrev big : Nat := 9223372036854775807
theorem wrap_small {n : Nat} (h : Nat.ble n big = true) : IntKind.wrap .i64 (.ofNat n) = .ofNat n := by
  have h := Nat.le_of_ble_eq_true h
  have : IntKind.wrap .i64 (Int.ofNat n) = (if (Int.ofNat n) % (2 ^ 64 : Int) ≥ (2 ^ 63 : Int) then (Int.ofNat n) % (2 ^ 64 : Int) - (2 ^ 64 : Int) else (Int.ofNat n) % (2 ^ 64 : Int)) := by
    simp [IntKind.wrap, IntKind.signed, IntKind.bits]
  rw [this]
  simp only [Int.ofNat_eq_natCast]
  unfold big at h
  have e : ((n : Int) % (2 ^ 64 : Int)) = n := Int.emod_eq_of_lt (by omega) (by omega)
  rw [e, if_neg (by omega)]
/-- Sums and differences that need no turning. -/
noncomputable def addF (n m : Int) (k : Int → R0) : R0 := Int.rec (motive := fun _ => R0)
  (fun a => Int.rec (motive := fun _ => R0) (fun b => forceN (Nat.add a b) fun s => Bool.rec (motive := fun _ => R0) (forceI (IntKind.wrap .i64 (n + m)) k) (k (.ofNat s)) (Nat.ble s big)) (fun _ => forceI (IntKind.wrap .i64 (n + m)) k) m)
  (fun _ => forceI (IntKind.wrap .i64 (n + m)) k) n
theorem addF_eq (n m : Int) (k : Int → R0) : addF n m k = k (IntKind.wrap .i64 (n + m)) := by
  cases n with
  | ofNat a => cases m with
    | ofNat b =>
      have e : (addF (.ofNat a) (.ofNat b) k) = (Bool.rec (motive := fun _ => R0) (forceI (IntKind.wrap .i64 (.ofNat a + .ofNat b)) k) (k (.ofNat (a + b))) (Nat.ble (a + b) big)) := forceN_eq (Nat.add a b) fun s => Bool.rec (motive := fun _ => R0) (forceI (IntKind.wrap .i64 (Int.ofNat a + Int.ofNat b)) k) (k (.ofNat s)) (Nat.ble s big)
      rw [e]
      cases h : Nat.ble (a + b) big with
      | true =>
        have := wrap_small h
        have e2 : (Int.ofNat a + Int.ofNat b) = Int.ofNat (a + b) := rfl
        rw [e2, this]
      | false => exact forceI_eq _ k
    | negSucc b => exact forceI_eq _ k
  | negSucc a => exact forceI_eq _ k
noncomputable def ieqF (n m : Int) : Bool := Int.rec (motive := fun _ => Bool) (fun a => Int.rec (motive := fun _ => Bool) (fun b => Nat.beq a b) (fun _ => false) m) (fun a => Int.rec (motive := fun _ => Bool) (fun _ => false) (fun b => Nat.beq a b) m) n
theorem nbeq_eq (a b : Nat) : Nat.beq a b = decide (a = b) := by
  by_cases h : a = b
  · subst h; simp [Nat.beq_refl]
  · rw [nbeq_ne h]; simp [h]
theorem ieqF_eq (n m : Int) : ieqF n m = (n == m) := by
  have e : (n == m) = decide (n = m) := by by_cases h : n = m <;> simp [h]
  rw [e]
  cases n with
  | ofNat a => cases m with
    | ofNat b => show Nat.beq a b = _; rw [nbeq_eq]; simp; exact Int.ofNat_inj.symm
    | negSucc b => show false = _; simp
  | negSucc a => cases m with
    | ofNat b => show false = _; simp
    | negSucc b => show Nat.beq a b = _; rw [nbeq_eq]; simp
noncomputable def iltF (n m : Int) : Bool := Int.rec (motive := fun _ => Bool) (fun a => Int.rec (motive := fun _ => Bool) (fun b => Nat.ble (Nat.succ a) b) (fun _ => false) m) (fun a => Int.rec (motive := fun _ => Bool) (fun _ => true) (fun b => Nat.ble (Nat.succ b) a) m) n
theorem nble_eq (a b : Nat) : Nat.ble a b = decide (a ≤ b) := by
  cases h : Nat.ble a b with
  | true => have := Nat.le_of_ble_eq_true h; simp [this]
  | false =>
    have : ¬ a ≤ b := fun hh => by rw [Nat.ble_eq_true_of_le hh] at h; cases h
    simp [this]
theorem iltF_eq (n m : Int) : iltF n m = decide (n < m) := by
  cases n with
  | ofNat a => cases m with
    | ofNat b => show Nat.ble (Nat.succ a) b = _; rw [nble_eq]; simp [Nat.succ_le_iff]
    | negSucc b => show false = _; symm; simp; omega
  | negSucc a => cases m with
    | ofNat b => show true = _; symm; simp; omega
    | negSucc b => show Nat.ble (Nat.succ b) a = _; rw [nble_eq]; simp [Nat.succ_le_iff]; omega
noncomputable def boolA (b : Bool) (k : AV → R0) : R0 := Bool.rec (motive := fun _ => R0) (k (.c (.p (.lit (.bool false))))) (k (.c (.p (.lit (.bool true))))) b
theorem boolA_eq (b : Bool) (k : AV → R0) : boolA b k = k (.c (.p (.lit (.bool b)))) := by cases b <;> rfl
noncomputable def binG (bq : Bool) (op : BinOp) (u v : Value) (k : AV → R0) : R0 := Option.rec (motive := fun _ => R0) fail0 (fun v => forceV v fun v => k (.c (.p (.lit v)))) (evBinQ bq op u v)
abbrev IB := IntKind → IntKind → Int → Int → (AV → R0) → R0
noncomputable def slowI (op : BinOp) : IB := fun kx ky n m k => binG false op (.int kx n) (.int ky m) k
noncomputable def cmpI (op : BinOp) (f : Int → Int → Bool) : IB := fun kx ky n m k => Bool.rec (motive := fun _ => R0) (slowI op kx ky n m k) (Bool.rec (motive := fun _ => R0) (slowI op kx ky n m k) (boolA (f n m) k) (isI64 ky)) (isI64 kx)
noncomputable def addI : IB := fun kx ky n m k => Bool.rec (motive := fun _ => R0) (slowI .add kx ky n m k) (Bool.rec (motive := fun _ => R0) (slowI .add kx ky n m k) (addF n m fun s => k (.c (.p (.lit (.int .i64 s))))) (isI64 ky)) (isI64 kx)
noncomputable def ibin (op : BinOp) : IB := BinOp.rec (motive := fun _ => IB) addI (slowI .sub) (slowI .mul) (slowI .quo) (slowI .rem) (slowI .and) (slowI .or) (slowI .xor) (slowI .shl) (slowI .shr) (slowI .andNot)
  (cmpI .eql ieqF) (cmpI .neq fun n m => Bool.rec (motive := fun _ => Bool) true false (ieqF n m)) (cmpI .lss iltF) (cmpI .leq fun n m => Bool.rec (motive := fun _ => Bool) true false (iltF m n)) (cmpI .gtr fun n m => iltF m n) (cmpI .geq fun n m => Bool.rec (motive := fun _ => Bool) true false (iltF n m)) op
/-- A value that is answered, and no other. -/
def BOk (o : Option Value) (h : (AV → R0) → R0) : Prop := ∀ (k : AV → R0) (x : R0), h k = x → x.2.2 = true → ∃ v, o = some v ∧ k (.c (.p (.lit v))) = x
theorem binG_ok (bq : Bool) (op : BinOp) (u v : Value) : BOk (evBinQ bq op u v) (binG bq op u v) := by
  intro k x h g
  unfold binG at h
  cases hb : evBinQ bq op u v with
  | none => rw [hb] at h; exact fail0_no h g
  | some r => rw [hb] at h; exact ⟨r, rfl, by rw [← h]; exact (forceV_eq r fun v => k (.c (.p (.lit v)))).symm⟩
theorem slowI_ok (op : BinOp) (bq : Bool) (kx ky : IntKind) (n m : Int) : BOk (evBinQ bq op (.int kx n) (.int ky m)) (slowI op kx ky n m) := by
  have := binG_ok false op (.int kx n) (.int ky m)
  cases bq <;> exact this
theorem cmpI_ok {op : BinOp} {f : Int → Int → Bool} (bq : Bool) (hf : ∀ n m, evBin op (.int .i64 n) (.int .i64 m) = some (.bool (f n m))) (kx ky : IntKind) (n m : Int) : BOk (evBinQ bq op (.int kx n) (.int ky m)) (cmpI op f kx ky n m) := by
  intro k x h g
  unfold cmpI at h
  cases h1 : isI64 kx with
  | false => rw [h1] at h; exact slowI_ok op bq kx ky n m k x h g
  | true =>
    rw [h1] at h
    cases h2 : isI64 ky with
    | false => rw [h2] at h; exact slowI_ok op bq kx ky n m k x h g
    | true =>
      rw [h2] at h
      have := isI64_ok h1; have := isI64_ok h2; subst_vars
      exact ⟨_, hf n m, (boolA_eq (f n m) k).symm⟩
theorem addI_ok (bq : Bool) (kx ky : IntKind) (n m : Int) : BOk (evBinQ bq .add (.int kx n) (.int ky m)) (addI kx ky n m) := by
  intro k x h g
  unfold addI at h
  cases h1 : isI64 kx with
  | false => rw [h1] at h; exact slowI_ok .add bq kx ky n m k x h g
  | true =>
    rw [h1] at h
    cases h2 : isI64 ky with
    | false => rw [h2] at h; exact slowI_ok .add bq kx ky n m k x h g
    | true =>
      rw [h2] at h
      have := isI64_ok h1; have := isI64_ok h2; subst_vars
      exact ⟨_, rfl, (addF_eq n m fun s => k (.c (.p (.lit (.int .i64 s))))).symm⟩
theorem ibin_ok (op : BinOp) (bq : Bool) (kx ky : IntKind) (n m : Int) : BOk (evBinQ bq op (.int kx n) (.int ky m)) (ibin op kx ky n m) := by
  cases op
  case add => exact addI_ok bq kx ky n m
  case eql => exact cmpI_ok bq (fun n m => by rw [ieqF_eq]; rfl) kx ky n m
  case neq => exact cmpI_ok (op := .neq) (f := fun n m => Bool.rec (motive := fun _ => Bool) true false (ieqF n m)) bq (fun n m => by rw [ieqF_eq]; simp only [evBin, bne, ne_eq, not_true_eq_false, if_false]; cases (n == m) <;> rfl) kx ky n m
  case lss => exact cmpI_ok bq (fun n m => by rw [iltF_eq]; rfl) kx ky n m
  case gtr => exact cmpI_ok (op := .gtr) (f := fun n m => iltF m n) bq (fun n m => by rw [iltF_eq]; rfl) kx ky n m
  case leq => exact cmpI_ok (op := .leq) (f := fun n m => Bool.rec (motive := fun _ => Bool) true false (iltF m n)) bq (fun n m => by
    rw [iltF_eq]
    simp only [evBin, ne_eq, not_true_eq_false, if_false]
    by_cases h : m < n
    · simp [h, show ¬ n ≤ m by omega]
    · simp [h, show n ≤ m by omega]) kx ky n m
  case geq => exact cmpI_ok (op := .geq) (f := fun n m => Bool.rec (motive := fun _ => Bool) true false (iltF n m)) bq (fun n m => by
    rw [iltF_eq]
    simp only [evBin, ne_eq, not_true_eq_false, if_false]
    by_cases h : n < m
    · simp [h, show ¬ n ≥ m by omega]
    · simp [h, show n ≥ m by omega]) kx ky n m
  all_goals exact slowI_ok _ bq kx ky n m
noncomputable def hBin (op : BinOp) (bq : Bool) (x y : AV) (fr : Fram) (up : List Fram) (k : KA) : R0 := VK.rec (motive := fun _ => R0)
  (fun kx n => VK.rec (motive := fun _ => R0) (fun ky m => ibin op kx ky n m fun r => k r fr up) fail0 (vk (litV y)))
  (hGen (fun _ _ _ => fail0) (.bin op bq) [x, y] fr up k) (vk (litV x))
theorem hBin_ok (C : Callee) (op : BinOp) (bq : Bool) (x y : AV) : HOk C (.bin op bq) [x, y] (hBin op bq x y) := by
  intro fr up k z h g
  unfold hBin at h
  cases hx : vk (litV x) with
  | o => rw [hx] at h; exact hGen_ok (fun _ _ _ => fail0) (.bin op bq) [x, y] fr up k z h g
  | i kx n =>
    rw [hx] at h
    have h1 := litV_i hx
    cases hy : vk (litV y) with
    | o => rw [hy] at h; exact fail0_no h g
    | i ky m =>
      rw [hy] at h
      have h2 := litV_i hy
      subst h1 h2
      obtain ⟨v, e1, e2⟩ := ibin_ok op bq kx ky n m (fun r => k r fr up) z h g
      exact ⟨_, fr, up, by simp only [act, e1, litC, same], e2⟩
end Go.ScE
