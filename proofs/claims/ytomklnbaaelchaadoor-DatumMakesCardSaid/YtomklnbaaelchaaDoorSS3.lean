/- S3: numbers with names: sums, bounds, and what two of them give. -/
import Derived.Test.YtomklnbaaelchaaDoorSS2
import Derived.IntWalk
set_option linter.unusedVariables false
set_option linter.unusedSimpArgs false
namespace Go.ScE

/-- What is known of the names: bounds, and sums that are not below 0. -/
structure Sy where
  lo : List Int
  hi : List Int
  ex : List (Int × List Int)
def bndOk : List Int → List Int → List Int → Prop
  | [], [], [] => True
  | l :: ls, h :: hs, x :: xs => l ≤ x ∧ x ≤ h ∧ bndOk ls hs xs
  | _, _, _ => False
structure Holds (B : Sy) (ρ : List Int) : Prop where
  bnd : bndOk B.lo B.hi ρ
  ex : ∀ g ∈ B.ex, 0 ≤ g.1 + dotI g.2 ρ
def lbd : List Int → List Int → List Int → Int
  | d :: ds, l :: ls, h :: hs => (if 0 ≤ d then d * l else d * h) + lbd ds ls hs
  | _, _, _ => 0
theorem lbd_le : ∀ {lo hi ρ : List Int} (ds : List Int), bndOk lo hi ρ → lbd ds lo hi ≤ dotI ds ρ
  | [], [], [], [], _ => by simp [lbd, dotI]
  | [], [], [], d :: ds, _ => by simp [lbd, dotI]
  | l :: ls, h :: hs, x :: xs, [], _ => by simp [lbd, dotI]
  | l :: ls, h :: hs, x :: xs, d :: ds, hb => by
    obtain ⟨h1, h2, h3⟩ := hb
    have ih := lbd_le ds h3
    simp only [lbd, dotI]
    split
    · rename_i hd
      have := Int.mul_le_mul_of_nonneg_left h1 hd
      omega
    · rename_i hd
      have : d * h ≤ d * x := Int.mul_le_mul_of_nonpos_left (by omega) h2
      omega
  | [], _ :: _, _, _, hb => by cases hb
  | _ :: _, [], _, _, hb => by cases hb
  | [], [], _ :: _, _, hb => by cases hb
  | _ :: _, _ :: _, [], _, hb => by cases hb
def addL : List Int → List Int → List Int
  | [], es => es
  | ds, [] => ds
  | d :: ds, e :: es => (d + e) :: addL ds es
def sclL (n : Int) : List Int → List Int
  | [] => []
  | d :: ds => (n * d) :: sclL n ds
def subL (a b : List Int) : List Int := addL a (sclL (-1) b)
def zeroL : List Int → Bool
  | [] => true
  | d :: ds => decide (d = 0) && zeroL ds
def divL (m : Int) : List Int → Bool
  | [] => true
  | d :: ds => decide (d % m = 0) && divL m ds
def quoL (m : Int) : List Int → List Int
  | [] => []
  | d :: ds => (d / m) :: quoL m ds
theorem dot_add : ∀ (a b ρ : List Int), dotI (addL a b) ρ = dotI a ρ + dotI b ρ
  | [], b, ρ => by simp [addL, dotI]
  | d :: ds, [], ρ => by simp [addL, dotI]
  | d :: ds, e :: es, [] => by simp [addL, dotI]
  | d :: ds, e :: es, x :: xs => by
    simp only [addL, dotI, dot_add ds es xs, Int.add_mul]; omega
theorem dot_scl (n : Int) : ∀ (a ρ : List Int), dotI (sclL n a) ρ = n * dotI a ρ
  | [], ρ => by simp [sclL, dotI]
  | d :: ds, [] => by simp [sclL, dotI]
  | d :: ds, x :: xs => by simp only [sclL, dotI, dot_scl n ds xs, Int.mul_add, Int.mul_assoc]
theorem dot_sub (a b ρ : List Int) : dotI (subL a b) ρ = dotI a ρ - dotI b ρ := by
  unfold subL; rw [dot_add, dot_scl]; omega
theorem dot_zero : ∀ {a : List Int} (ρ : List Int), zeroL a = true → dotI a ρ = 0
  | [], ρ, _ => by simp [dotI]
  | d :: ds, [], _ => by simp [dotI]
  | d :: ds, x :: xs, h => by
    simp only [zeroL, Bool.and_eq_true, decide_eq_true_eq] at h
    simp only [dotI, h.1, dot_zero xs h.2]; omega
theorem dot_div {m : Int} : ∀ {a : List Int} (ρ : List Int), divL m a = true → dotI a ρ = m * dotI (quoL m a) ρ
  | [], ρ, _ => by simp [dotI, quoL]
  | d :: ds, [], _ => by simp [dotI, quoL]
  | d :: ds, x :: xs, h => by
    simp only [divL, Bool.and_eq_true, decide_eq_true_eq] at h
    simp only [dotI, quoL, dot_div xs h.2, Int.mul_add]
    have : d = m * (d / m) := by have := Int.mul_ediv_add_emod d m; omega
    have e : d * x = m * (d / m * x) := by rw [← Int.mul_assoc, ← this]
    rw [e]
def ge0 (B : Sy) (c : Int) (ds : List Int) : Bool := decide (0 ≤ c + lbd ds B.lo B.hi) || B.ex.any fun g => decide (0 ≤ (c - g.1) + lbd (subL ds g.2) B.lo B.hi)
theorem ge0_ok {B : Sy} {ρ : List Int} (hB : Holds B ρ) {c : Int} {ds : List Int} (h : ge0 B c ds = true) : 0 ≤ c + dotI ds ρ := by
  simp only [ge0, Bool.or_eq_true, decide_eq_true_eq, List.any_eq_true] at h
  rcases h with h | ⟨g, hg, h⟩
  · have := lbd_le ds hB.bnd; omega
  · have h1 := lbd_le (subL ds g.2) hB.bnd
    have h2 := hB.ex g hg
    rw [dot_sub] at h1
    omega
def negL (a : List Int) : List Int := sclL (-1) a
theorem dot_neg (a ρ : List Int) : dotI (negL a) ρ = - dotI a ρ := by unfold negL; rw [dot_scl]; omega
/-- Between 0 and a number. -/
def inR (B : Sy) (c : Int) (ds : List Int) (m : Int) : Bool := ge0 B c ds && ge0 B (m - c) (negL ds)
theorem inR_ok {B : Sy} {ρ : List Int} (hB : Holds B ρ) {c m : Int} {ds : List Int} (h : inR B c ds m = true) : 0 ≤ c + dotI ds ρ ∧ c + dotI ds ρ ≤ m := by
  simp only [inR, Bool.and_eq_true] at h
  have h1 := ge0_ok hB h.1
  have h2 := ge0_ok hB h.2
  rw [dot_neg] at h2
  omega
def inK (B : Sy) (k : IntKind) (c : Int) (ds : List Int) : Bool := ge0 B (c - k.min) ds && ge0 B (k.max - c) (negL ds)
theorem wrap_in (k : IntKind) {n : Int} (h1 : k.min ≤ n) (h2 : n ≤ k.max) : k.wrap n = n := by
  cases k <;> simp [IntKind.min, IntKind.max, IntKind.signed, IntKind.bits] at h1 h2
  · exact IntWalk.i8_in n (by omega)
  · exact IntWalk.i16_in n (by omega)
  · exact IntWalk.i32_in n (by omega)
  · exact IntWalk.i64_in n (by omega)
  · exact IntWalk.u8_in n (by omega)
  · exact IntWalk.u16_in n (by omega)
  · exact IntWalk.u32_in n (by omega)
  · exact IntWalk.u64_in n (by omega)
theorem inK_ok {B : Sy} {ρ : List Int} (hB : Holds B ρ) {k : IntKind} {c : Int} {ds : List Int} (h : inK B k c ds = true) : k.wrap (c + dotI ds ρ) = c + dotI ds ρ := by
  simp only [inK, Bool.and_eq_true] at h
  have h1 := ge0_ok hB h.1
  have h2 := ge0_ok hB h.2
  rw [dot_neg] at h2
  exact wrap_in k (by omega) (by omega)

def lit64 : List Int → List PV
  | [] => []
  | d :: ds => .lit (.int .i64 d) :: lit64 ds
theorem intsOf_lit64 : ∀ ds : List Int, intsOf (lit64 ds) = some ds
  | [] => rfl
  | d :: ds => by simp only [lit64, intsOf, intsOf_lit64 ds]
def mkF (k : IntKind) (c : Int) (ds : List Int) : PV := if zeroL ds then .lit (.int k c) else .sl SYMI [.lit (.int k c) :: lit64 ds]
theorem mkF_c (ρ : List Int) (k : IntKind) (c : Int) (ds : List Int) : cP ρ (mkF k c ds) = .lit (.int k (c + dotI ds ρ)) := by
  unfold mkF
  split
  · rename_i h; rw [cP_lit, dot_zero ρ h]; simp
  · rw [cP_symi]; simp only [symV, fmS, intsOf_lit64, Fm.ev]
def fmP : PV → Option Fm
  | .lit (.int k n) => some ⟨k, n, []⟩
  | .sl sz l => if sz = SYMI then fmS l else none
  | _ => none
def fmA : AV → Option Fm
  | .c (.p p) => fmP p
  | _ => none
theorem fmP_c (ρ : List Int) {p : PV} {f : Fm} (h : fmP p = some f) : cP ρ p = .lit (.int f.k (f.ev ρ)) := by
  unfold fmP at h
  split at h
  · cases h; rw [cP_lit]; simp [Fm.ev, dotI]
  · split at h
    · rename_i e; subst e; rw [cP_symi]; simp only [symV, h]
    · cases h
  · cases h
theorem fmA_c (ρ : List Int) {x : AV} {f : Fm} (h : fmA x = some f) : cA ρ x = .c (.p (.lit (.int f.k (f.ev ρ)))) := by
  unfold fmA at h
  split at h
  · rw [cA_c, cC_p, fmP_c ρ h]
  · cases h

/-! ### two numbers -/
def cmpS (B : Sy) (c : Int) (ds : List Int) : Option Bool := if ge0 B c ds then some true else if ge0 B (-1 - c) (negL ds) then some false else none
/-- Is c + ds not below 0? -/
theorem cmpS_ok {B : Sy} {ρ : List Int} (hB : Holds B ρ) {c : Int} {ds : List Int} {b : Bool} (h : cmpS B c ds = some b) : b = decide (0 ≤ c + dotI ds ρ) := by
  unfold cmpS at h
  split at h
  · rename_i h1; cases h; have := ge0_ok hB h1; simp [this]
  · split at h
    · rename_i h1; cases h; have := ge0_ok hB h1; rw [dot_neg] at this; simp; omega
    · cases h
def eqS (B : Sy) (c : Int) (ds : List Int) : Option Bool := if zeroL ds && decide (c = 0) then some true else if ge0 B (c - 1) ds || ge0 B (-1 - c) (negL ds) then some false else none
theorem eqS_ok {B : Sy} {ρ : List Int} (hB : Holds B ρ) {c : Int} {ds : List Int} {b : Bool} (h : eqS B c ds = some b) : b = decide (c + dotI ds ρ = 0) := by
  unfold eqS at h
  split at h
  · rename_i h1; cases h; simp only [Bool.and_eq_true, decide_eq_true_eq] at h1
    simp [dot_zero ρ h1.1, h1.2]
  · split at h
    · rename_i h1; cases h
      simp only [Bool.or_eq_true] at h1
      rcases h1 with h1 | h1
      · have := ge0_ok hB h1; simp; omega
      · have := ge0_ok hB h1; rw [dot_neg] at this; simp; omega
    · cases h
def pboolP (o : Option Bool) : Option PV := match o with
  | some b => some (.lit (.bool b))
  | none => none
def symBin (B : Sy) (op : BinOp) (f g : Fm) : Option PV := match op with
  | .add => if f.k = g.k ∧ inK B f.k (f.c + g.c) (addL f.ds g.ds) = true then some (mkF f.k (f.c + g.c) (addL f.ds g.ds)) else none
  | .sub => if f.k = g.k ∧ inK B f.k (f.c - g.c) (subL f.ds g.ds) = true then some (mkF f.k (f.c - g.c) (subL f.ds g.ds)) else none
  | .mul => if f.k = g.k ∧ zeroL f.ds = true ∧ inK B f.k (f.c * g.c) (sclL f.c g.ds) = true then some (mkF f.k (f.c * g.c) (sclL f.c g.ds))
    else if f.k = g.k ∧ zeroL g.ds = true ∧ inK B f.k (g.c * f.c) (sclL g.c f.ds) = true then some (mkF f.k (g.c * f.c) (sclL g.c f.ds)) else none
  | .shl => if zeroL g.ds = true ∧ 0 ≤ g.c ∧ g.c < f.k.bits ∧ inK B f.k (2 ^ g.c.toNat * f.c) (sclL (2 ^ g.c.toNat) f.ds) = true then some (mkF f.k (2 ^ g.c.toNat * f.c) (sclL (2 ^ g.c.toNat) f.ds)) else none
  | .shr => if zeroL g.ds = true ∧ 0 ≤ g.c ∧ g.c < f.k.bits then
      (if divL (2 ^ g.c.toNat) f.ds = true then some (mkF f.k (f.c / 2 ^ g.c.toNat) (quoL (2 ^ g.c.toNat) f.ds))
       else if inR B (f.c - f.c / 2 ^ g.c.toNat * 2 ^ g.c.toNat) f.ds (2 ^ g.c.toNat - 1) = true then some (mkF f.k (f.c / 2 ^ g.c.toNat) []) else none) else none
  | .quo => if f.k = .i64 ∧ g.k = .i64 ∧ zeroL g.ds = true ∧ 0 < g.c ∧ inR B f.c f.ds 9223372036854775807 = true ∧ inR B (f.c - f.c / g.c * g.c) f.ds (g.c - 1) = true then some (mkF .i64 (f.c / g.c) []) else none
  | .rem => if f.k = g.k ∧ zeroL g.ds = true ∧ 0 < g.c ∧ ge0 B f.c f.ds = true ∧ inR B (f.c - f.c / g.c * g.c) f.ds (g.c - 1) = true then some (mkF f.k (f.c - f.c / g.c * g.c) f.ds) else none
  | .and => if f.k = .i64 ∧ g.k = .i64 ∧ zeroL g.ds = true ∧ 0 ≤ g.c ∧ g.c + 1 = 2 ^ (g.c + 1).toNat.log2 ∧ (g.c + 1).toNat.log2 ≤ 32 then
      (if divL (g.c + 1) f.ds = true then some (.lit (.int .i64 (f.c % (g.c + 1)))) else if inR B f.c f.ds g.c = true then some (mkF .i64 f.c f.ds) else none) else none
  | .or => if f.k = .i64 ∧ g.k = .i64 ∧ zeroL g.ds = true ∧ 0 ≤ g.c ∧ g.c.toNat.log2 < 32 ∧ divL (2 ^ (g.c.toNat.log2 + 1)) f.ds = true ∧ f.c % 2 ^ (g.c.toNat.log2 + 1) = 0 ∧ ge0 B f.c f.ds = true ∧ inK B .i64 (f.c + g.c) f.ds = true then some (mkF .i64 (f.c + g.c) f.ds) else none
  | .eql => if f.k = g.k then pboolP (eqS B (f.c - g.c) (subL f.ds g.ds)) else none
  | .neq => if f.k = g.k then pboolP ((eqS B (f.c - g.c) (subL f.ds g.ds)).map not) else none
  | .geq => if f.k = g.k then pboolP (cmpS B (f.c - g.c) (subL f.ds g.ds)) else none
  | .lss => if f.k = g.k then pboolP ((cmpS B (f.c - g.c) (subL f.ds g.ds)).map not) else none
  | .leq => if f.k = g.k then pboolP (cmpS B (g.c - f.c) (subL g.ds f.ds)) else none
  | .gtr => if f.k = g.k then pboolP ((cmpS B (g.c - f.c) (subL g.ds f.ds)).map not) else none
  | _ => none

theorem ofInt_toNat64 (x : Int) : ((BitVec.ofInt 64 x).toNat : Int) = x % 18446744073709551616 := by
  rw [BitVec.toNat_ofInt]
  have h : 0 ≤ x % 18446744073709551616 := Int.emod_nonneg _ (by omega)
  have e : ((2 ^ 64 : Nat) : Int) = 18446744073709551616 := by decide
  rw [e]
  exact Int.toNat_of_nonneg h
theorem and_mask (x : Int) (j : Nat) (hj : j ≤ 32) : IntKind.i64.wrap ((BitVec.ofInt IntKind.i64.bits x &&& BitVec.ofInt IntKind.i64.bits (2 ^ j - 1)).toNat) = x % 2 ^ j := by
  show IntKind.i64.wrap ((BitVec.ofInt 64 x &&& BitVec.ofInt 64 (2 ^ j - 1)).toNat) = x % 2 ^ j
  have hp : (2 : Nat) ^ j ≤ 2 ^ 32 := Nat.pow_le_pow_right (by omega) hj
  have hp0 : 0 < (2 : Nat) ^ j := Nat.pow_pos (by omega)
  have e0 : ((2 : Int) ^ j) = ((2 ^ j : Nat) : Int) := by rw [Int.natCast_pow]; rfl
  have e1 : (BitVec.ofInt 64 ((2 : Int) ^ j - 1)).toNat = 2 ^ j - 1 := by
    have := ofInt_toNat64 ((2 : Int) ^ j - 1)
    rw [e0] at this ⊢
    omega
  rw [BitVec.toNat_and, e1, Nat.and_two_pow_sub_one_eq_mod]
  have e2 := ofInt_toNat64 x
  have e3 : (((BitVec.ofInt 64 x).toNat % 2 ^ j : Nat) : Int) = x % 2 ^ j := by
    rw [Int.natCast_emod, e2, e0]
    refine Int.emod_emod_of_dvd x ?_
    have : (18446744073709551616 : Int) = ((2 ^ 64 : Nat) : Int) := by decide
    rw [this]
    exact Int.natCast_dvd_natCast.2 (Nat.pow_dvd_pow 2 (by omega))
  rw [e3]
  have h0 : 0 ≤ x % 2 ^ j := Int.emod_nonneg _ (by rw [e0]; omega)
  have h1 : x % 2 ^ j < 2 ^ j := Int.emod_lt_of_pos _ (by rw [e0]; omega)
  rw [e0] at h1
  exact IntWalk.i64_in _ ⟨by omega, by rw [e0]; rw [e0] at h0; omega⟩
theorem or_low (x : Int) (t j : Nat) (hj : j ≤ 32) (ht : t < 2 ^ j) (hx : 0 ≤ x) (hd : x % 2 ^ j = 0) (hb : x + t ≤ 9223372036854775807) : IntKind.i64.wrap ((BitVec.ofInt IntKind.i64.bits x ||| BitVec.ofInt IntKind.i64.bits t).toNat) = x + t := by
  show IntKind.i64.wrap ((BitVec.ofInt 64 x ||| BitVec.ofInt 64 t).toNat) = x + t
  obtain ⟨y, rfl⟩ : ∃ y : Nat, x = ((2 ^ j * y : Nat) : Int) := by
    have hp0 : 0 < (2 : Nat) ^ j := Nat.pow_pos (by omega)
    have e0 : ((2 : Int) ^ j) = ((2 ^ j : Nat) : Int) := by rw [Int.natCast_pow]; rfl
    rw [e0] at hd
    refine ⟨x.toNat / 2 ^ j, ?_⟩
    have h1 : x = (x.toNat : Int) := by omega
    have h2 : x.toNat % 2 ^ j = 0 := by
      have : ((x.toNat % 2 ^ j : Nat) : Int) = 0 := by rw [Int.natCast_emod, ← h1]; exact hd
      omega
    have h3 := Nat.mul_div_cancel' (Nat.dvd_of_mod_eq_zero h2)
    rw [h3]; exact h1
  have e1 : (BitVec.ofInt 64 ((2 ^ j * y : Nat) : Int)).toNat = 2 ^ j * y := by
    have := ofInt_toNat64 ((2 ^ j * y : Nat) : Int); omega
  have e2 : (BitVec.ofInt 64 (t : Int)).toNat = t := by
    have := ofInt_toNat64 (t : Int); omega
  rw [BitVec.toNat_or, e1, e2, ← Nat.two_pow_add_eq_or_of_lt ht]
  refine Eq.trans (IntWalk.i64_in _ ⟨by omega, by omega⟩) (by omega)

theorem tmod_low {a m q : Int} (hm : 0 < m) (ha : 0 ≤ a) (h1 : 0 ≤ a - q * m) (h2 : a - q * m ≤ m - 1) : a / m = q ∧ a % m = a - q * m := by
  have e : a / m = q := by
    have := Int.ediv_emod_unique (a := a) (b := m) (r := a - q * m) (q := q) hm
    exact (this.2 ⟨by rw [Int.mul_comm]; omega, h1, by omega⟩).1
  refine ⟨e, ?_⟩
  have := Int.mul_ediv_add_emod a m
  rw [e] at this
  rw [Int.mul_comm q m]; omega

theorem beq_sub (a b : Int) : (a == b) = decide (a - b = 0) := by
  by_cases h : a = b
  · subst h; rw [beq_self_eq_true, decide_eq_true (by omega)]
  · rw [decide_eq_false (by omega)]; exact beq_eq_false_iff_ne.2 h
theorem symBin_ok {B : Sy} {ρ : List Int} (hB : Holds B ρ) {op : BinOp} {f g : Fm} {p : PV} (h : symBin B op f g = some p) (bq : Bool) : ∃ v, evBinQ bq op (.int f.k (f.ev ρ)) (.int g.k (g.ev ρ)) = some v ∧ cP ρ p = .lit v := by
  show ∃ v, evBin op (.int f.k (f.ev ρ)) (.int g.k (g.ev ρ)) = some v ∧ cP ρ p = .lit v
  obtain ⟨k, c, ds⟩ := f
  obtain ⟨k', c', es⟩ := g
  simp only [Fm.ev]
  have sub1 : c + dotI ds ρ - (c' + dotI es ρ) = c - c' + dotI (subL ds es) ρ := by rw [dot_sub]; omega
  have sub2 : c' + dotI es ρ - (c + dotI ds ρ) = c' - c + dotI (subL es ds) ρ := by rw [dot_sub]; omega
  cases op
  case add =>
    simp only [symBin] at h
    split at h
    · rename_i hc; obtain ⟨hk, hc⟩ := hc
      cases h; subst hk
      refine ⟨_, by simp only [evBin, ne_eq, not_true_eq_false, if_false]; rfl, ?_⟩
      have := inK_ok hB hc
      rw [mkF_c]
      rw [dot_add] at this ⊢
      have e : c + dotI ds ρ + (c' + dotI es ρ) = c + c' + (dotI ds ρ + dotI es ρ) := by omega
      rw [e, this]
    · cases h
  case sub =>
    simp only [symBin] at h
    split at h
    · rename_i hc; obtain ⟨hk, hc⟩ := hc
      cases h; subst hk
      refine ⟨_, by simp only [evBin, ne_eq, not_true_eq_false, if_false]; rfl, ?_⟩
      have := inK_ok hB hc
      rw [mkF_c, sub1, this]
    · cases h
  case mul =>
    simp only [symBin] at h
    split at h
    · rename_i hc; obtain ⟨hk, hz, hc⟩ := hc
      cases h; subst hk
      refine ⟨_, by simp only [evBin, ne_eq, not_true_eq_false, if_false]; rfl, ?_⟩
      have := inK_ok hB hc
      rw [mkF_c]
      rw [dot_scl] at this ⊢
      rw [dot_zero ρ hz]
      have e : (c + 0) * (c' + dotI es ρ) = c * c' + c * dotI es ρ := by rw [Int.add_zero, Int.mul_add]
      rw [e, this]
    · split at h
      · rename_i hc; obtain ⟨hk, hz, hc⟩ := hc
        cases h; subst hk
        refine ⟨_, by simp only [evBin, ne_eq, not_true_eq_false, if_false]; rfl, ?_⟩
        have := inK_ok hB hc
        rw [mkF_c]
        rw [dot_scl] at this ⊢
        rw [dot_zero ρ hz]
        have e : (c + dotI ds ρ) * (c' + 0) = c' * c + c' * dotI ds ρ := by rw [Int.add_zero, Int.add_mul, Int.mul_comm c c', Int.mul_comm (dotI ds ρ) c']
        rw [e, this]
      · cases h
  case shl =>
    simp only [symBin] at h
    split at h
    · rename_i hc; obtain ⟨hz, h0, hb, hc⟩ := hc
      cases h
      have e0 : c' + dotI es ρ = c' := by rw [dot_zero ρ hz]; omega
      refine ⟨_, by simp only [evBin]; rw [if_neg (by omega)], ?_⟩
      have := inK_ok hB hc
      rw [mkF_c]
      rw [dot_scl] at this ⊢
      rw [e0]
      have e1 : min c'.toNat k.bits = c'.toNat := by omega
      have e : (c + dotI ds ρ) * 2 ^ c'.toNat = 2 ^ c'.toNat * c + 2 ^ c'.toNat * dotI ds ρ := by rw [Int.add_mul, Int.mul_comm c, Int.mul_comm (dotI ds ρ)]
      rw [e1, e, this]
    · cases h
  case shr =>
    simp only [symBin] at h
    split at h
    · rename_i hc; obtain ⟨hz, h0, hb⟩ := hc
      have e0 : c' + dotI es ρ = c' := by rw [dot_zero ρ hz]; omega
      have e1 : min c'.toNat k.bits = c'.toNat := by omega
      have hp : (0 : Int) < 2 ^ c'.toNat := by
        have : ((2 : Int) ^ c'.toNat) = ((2 ^ c'.toNat : Nat) : Int) := by rw [Int.natCast_pow]; rfl
        rw [this]; have := Nat.pow_pos (n := c'.toNat) (show 0 < 2 by omega); omega
      generalize hm : (2 : Int) ^ c'.toNat = m at h hp
      refine ⟨_, by simp only [evBin]; rw [if_neg (by omega)], ?_⟩
      rw [e0, e1, hm, Int.fdiv_eq_ediv_of_nonneg _ (by omega)]
      split at h
      · rename_i hd
        cases h
        rw [mkF_c, dot_div ρ hd, Int.add_mul_ediv_left _ _ (by omega)]
      · split at h
        · rename_i hd
          cases h
          obtain ⟨a1, a2⟩ := inR_ok hB hd
          rw [mkF_c]
          have : (c + dotI ds ρ) / m = c / m := by
            have := Int.ediv_emod_unique (a := c + dotI ds ρ) (b := m) (r := c + dotI ds ρ - c / m * m) (q := c / m) hp
            exact (this.2 ⟨by rw [Int.mul_comm]; omega, by omega, by omega⟩).1
          rw [this]; simp [dotI]
        · cases h
    · cases h
  case quo =>
    simp only [symBin] at h
    split at h
    · rename_i hc; obtain ⟨rfl, rfl, hz, hm, hr, hc⟩ := hc
      cases h
      have e0 : c' + dotI es ρ = c' := by rw [dot_zero ρ hz]; omega
      obtain ⟨a1, a2⟩ := inR_ok hB hr
      obtain ⟨b1, b2⟩ := inR_ok hB hc
      refine ⟨_, by simp only [evBin, ne_eq, not_true_eq_false, if_false]; rw [if_neg (by omega)], ?_⟩
      rw [mkF_c, e0, IntWalk.i64_quo _ _ ⟨a1, a2, by omega⟩, (tmod_low (q := c / c') hm a1 (by omega) (by omega)).1]
      simp [dotI]
    · cases h
  case rem =>
    simp only [symBin] at h
    split at h
    · rename_i hc; obtain ⟨hk, hz, hm, hr, hc⟩ := hc
      cases h; subst hk
      have e0 : c' + dotI es ρ = c' := by rw [dot_zero ρ hz]; omega
      have a1 := ge0_ok hB hr
      obtain ⟨b1, b2⟩ := inR_ok hB hc
      refine ⟨_, by simp only [evBin, ne_eq, not_true_eq_false, if_false]; rw [if_neg (by omega)], ?_⟩
      rw [mkF_c, e0, IntWalk.rem_in _ _ a1, (tmod_low (q := c / c') hm a1 (by omega) (by omega)).2]
      congr 2; omega
    · cases h
  case and =>
    simp only [symBin] at h
    split at h
    · rename_i hc; obtain ⟨rfl, rfl, hz, h0, hp, hj⟩ := hc
      have e0 : c' + dotI es ρ = c' := by rw [dot_zero ρ hz]; omega
      refine ⟨_, by simp only [evBin, ne_eq, not_true_eq_false, if_false]; rfl, ?_⟩
      rw [e0]
      generalize (c' + 1).toNat.log2 = j at hp hj
      have e1 : c' = 2 ^ j - 1 := by omega
      have := and_mask (c + dotI ds ρ) j hj
      rw [← e1] at this
      rw [this]
      split at h
      · rename_i hd
        cases h
        rw [cP_lit, dot_div ρ hd, ← hp, Int.add_mul_emod_self_left]
      · split at h
        · rename_i hd
          cases h
          obtain ⟨a1, a2⟩ := inR_ok hB hd
          rw [mkF_c, Int.emod_eq_of_lt a1 (by omega)]
        · cases h
    · cases h
  case or =>
    simp only [symBin] at h
    split at h
    · rename_i hc; obtain ⟨rfl, rfl, hz, h0, hj, hd, hm, hge, hin⟩ := hc
      cases h
      have e0 : c' + dotI es ρ = c' := by rw [dot_zero ρ hz]; omega
      refine ⟨_, by simp only [evBin, ne_eq, not_true_eq_false, if_false]; rfl, ?_⟩
      rw [e0, mkF_c]
      have a1 := ge0_ok hB hge
      have a2 : c + c' + dotI ds ρ ≤ 9223372036854775807 := by
        simp only [inK, Bool.and_eq_true] at hin
        have := ge0_ok hB hin.2
        rw [dot_neg] at this
        have e : IntKind.max .i64 = 9223372036854775807 := by decide
        rw [e] at this; omega
      obtain ⟨t, rfl⟩ := Int.eq_ofNat_of_zero_le h0
      have ht : t < 2 ^ (t.log2 + 1) := Nat.lt_log2_self
      have := or_low (c + dotI ds ρ) t (t.log2 + 1) (by simp at hj; omega) ht a1 (by
        have e : ((t : Int).toNat.log2) = t.log2 := by simp
        rw [e] at hm hd
        rw [dot_div ρ hd, Int.add_mul_emod_self_left]; exact hm) (by omega)
      rw [this]
      congr 2; omega
    · cases h
  case eql =>
    simp only [symBin] at h
    split at h
    · rename_i hk; subst hk
      refine ⟨_, by simp only [evBin, ne_eq, not_true_eq_false, if_false]; rfl, ?_⟩
      cases hq : eqS B (c - c') (subL ds es) with
      | none => rw [hq] at h; cases h
      | some b =>
        rw [hq] at h; cases h
        have := eqS_ok hB hq
        rw [cP_lit, this]
        have : (c + dotI ds ρ == c' + dotI es ρ) = decide (c - c' + dotI (subL ds es) ρ = 0) := by
          rw [← sub1, beq_sub]
        rw [this]
    · cases h
  case neq =>
    simp only [symBin] at h
    split at h
    · rename_i hk; subst hk
      refine ⟨_, by simp only [evBin, ne_eq, not_true_eq_false, if_false]; rfl, ?_⟩
      cases hq : eqS B (c - c') (subL ds es) with
      | none => rw [hq] at h; cases h
      | some b =>
        rw [hq] at h; cases h
        have := eqS_ok hB hq
        rw [cP_lit, this]
        have : (c + dotI ds ρ != c' + dotI es ρ) = !decide (c - c' + dotI (subL ds es) ρ = 0) := by
          rw [← sub1, ← beq_sub]; rfl
        rw [this]
    · cases h
  case geq =>
    simp only [symBin] at h
    split at h
    · rename_i hk; subst hk
      refine ⟨_, by simp only [evBin, ne_eq, not_true_eq_false, if_false]; rfl, ?_⟩
      cases hq : cmpS B (c - c') (subL ds es) with
      | none => rw [hq] at h; cases h
      | some b =>
        rw [hq] at h; cases h
        have := cmpS_ok hB hq
        rw [cP_lit, this, ← sub1]
        congr 3; simp only [ge_iff_le, eq_iff_iff]; omega
    · cases h
  case lss =>
    simp only [symBin] at h
    split at h
    · rename_i hk; subst hk
      refine ⟨_, by simp only [evBin, ne_eq, not_true_eq_false, if_false]; rfl, ?_⟩
      cases hq : cmpS B (c - c') (subL ds es) with
      | none => rw [hq] at h; cases h
      | some b =>
        rw [hq] at h; cases h
        have := cmpS_ok hB hq
        rw [cP_lit, this, ← sub1, ← decide_not]
        congr 3; simp only [eq_iff_iff]; omega
    · cases h
  case leq =>
    simp only [symBin] at h
    split at h
    · rename_i hk; subst hk
      refine ⟨_, by simp only [evBin, ne_eq, not_true_eq_false, if_false]; rfl, ?_⟩
      cases hq : cmpS B (c' - c) (subL es ds) with
      | none => rw [hq] at h; cases h
      | some b =>
        rw [hq] at h; cases h
        have := cmpS_ok hB hq
        rw [cP_lit, this, ← sub2]
        congr 3; simp only [eq_iff_iff]; omega
    · cases h
  case gtr =>
    simp only [symBin] at h
    split at h
    · rename_i hk; subst hk
      refine ⟨_, by simp only [evBin, ne_eq, not_true_eq_false, if_false]; rfl, ?_⟩
      cases hq : cmpS B (c' - c) (subL es ds) with
      | none => rw [hq] at h; cases h
      | some b =>
        rw [hq] at h; cases h
        have := cmpS_ok hB hq
        rw [cP_lit, this, ← sub2, ← decide_not]
        congr 3; simp only [gt_iff_lt, eq_iff_iff]; omega
    · cases h
  all_goals (simp only [symBin] at h; cases h)
end Go.ScE
