/- S1: values with names for numbers; what they stand for; small operations go through. -/
import Derived.Test.YtomklnbaaelchaaDoorSE26
set_option linter.unusedVariables false
set_option linter.unusedSimpArgs false
namespace Go.ScE

/-- Sizes that no row of the program has: of a number with names; of a row that is kept by its places. -/
abbrev SYMI : Nat := 4294967291
abbrev SPAR : Nat := 4294967292

structure Fm where
  k : IntKind
  c : Int
  ds : List Int

def intsOf : List PV → Option (List Int)
  | [] => some []
  | .lit (.int _ n) :: r => (match intsOf r with
    | some l => some (n :: l)
    | none => none)
  | _ => none
def dotI : List Int → List Int → Int
  | d :: ds, x :: xs => d * x + dotI ds xs
  | _, _ => 0
/-- A number with names. -/
def fmS (l : List (List PV)) : Option Fm := match l with
  | [.lit (.int k c) :: ds] => (match intsOf ds with
    | some l => some ⟨k, c, l⟩
    | none => none)
  | _ => none
def Fm.ev (ρ : List Int) (f : Fm) : Int := f.c + dotI f.ds ρ
def symV (ρ : List Int) (l : List (List PV)) : Value := match fmS l with
  | some f => .int f.k (f.ev ρ)
  | none => .nilFunc
/-- A row kept by its places. -/
def lkO (i : Int) : List (List PV) → PV
  | [.lit (.int _ a), v] :: r => if a = i then v else lkO i r
  | _ => .lit (.int .i64 0)
def expL (l : List (List PV)) : List (List PV) := match l with
  | [.lit (.int _ n)] :: r => (List.range n.toNat).map fun (i : Nat) => [lkO (i : Int) r]
  | _ => []
abbrev BAS : Nat := 1099511627776
def decN (ρ : List Int) (i : Nat) : Nat := (((i % BAS : Nat) : Int) + dotI [((i / BAS % BAS : Nat) : Int), ((i / BAS / BAS : Nat) : Int)] ρ).toNat

mutual
def cP (ρ : List Int) : PV → PV
  | .lit v => .lit v
  | .sl sz l => if sz = SYMI then .lit (symV ρ l) else if sz = SPAR then .sl 1 (expL (cPss ρ l)) else .sl sz (cPss ρ l)
def cPs (ρ : List Int) : List PV → List PV
  | [] => []
  | x :: r => cP ρ x :: cPs ρ r
def cPss (ρ : List Int) : List (List PV) → List (List PV)
  | [] => []
  | x :: r => cPs ρ x :: cPss ρ r
end
def cC (ρ : List Int) : CV → CV
  | .p x => .p (cP ρ x)
  | .own sz l => if sz = SYMI then .p (.lit (symV ρ l)) else if sz = SPAR then .own 1 (expL (cPss ρ l)) else .own sz (cPss ρ l)
  | .ipt cs off => .ipt (cPs ρ cs) off
  | .ref d k off => .ref d k off
  | .aref d k sz i off => if sz = SPAR then .aref d k 1 (decN ρ i) off else .aref d k sz i off
  | .arr d k sz off n => if sz = SPAR then .arr d k 1 off (decN ρ n) else .arr d k sz off n
  | .mp d k => .mp d k
  | .dead => .dead
def cCs (ρ : List Int) : List CV → List CV
  | [] => []
  | x :: r => cC ρ x :: cCs ρ r
def cT (ρ : List Int) : List (Bool × List CV) → List (Bool × List CV)
  | [] => []
  | (b, l) :: r => (b, cCs ρ l) :: cT ρ r
def cA (ρ : List Int) : AV → AV
  | .c x => .c (cC ρ x)
  | .agg l => .agg (cCs ρ l)
  | .tup l => .tup (cT ρ l)
def cAs (ρ : List Int) : List AV → List AV
  | [] => []
  | x :: r => cA ρ x :: cAs ρ r
def cM (ρ : List Int) : List (Value × Bool × List PV) → List (Value × Bool × List PV)
  | [] => []
  | (k, b, l) :: r => (k, b, cPs ρ l) :: cM ρ r
def cH (ρ : List Int) : HO → HO
  | .box cs => .box (cCs ρ cs)
  | .arr sz l => if sz = SPAR then .arr 1 (expL (cPss ρ l)) else .arr sz (cPss ρ l)
  | .map es => .map (cM ρ es)
def cF (ρ : List Int) : Fram → Fram
  | [] => []
  | (k, h) :: r => (k, cH ρ h) :: cF ρ r
def cFs (ρ : List Int) : List Fram → List Fram
  | [] => []
  | x :: r => cF ρ x :: cFs ρ r
def cE (ρ : List Int) : Env → Env
  | [] => []
  | (t, x) :: r => (t, cA ρ x) :: cE ρ r
def cS (ρ : List Int) (σ : St) : St := ⟨cE ρ σ.env, cF ρ σ.fr, cFs ρ σ.up, σ.ok⟩

variable {ρ : List Int}

theorem cPs_map : ∀ l : List PV, cPs ρ l = l.map (cP ρ)
  | [] => by simp [cPs]
  | x :: r => by simp [cPs, cPs_map r]
theorem cPss_map : ∀ l : List (List PV), cPss ρ l = l.map (cPs ρ)
  | [] => by simp [cPss]
  | x :: r => by simp [cPss, cPss_map r]
theorem cCs_map : ∀ l : List CV, cCs ρ l = l.map (cC ρ)
  | [] => rfl
  | x :: r => by simp [cCs, cCs_map r]
theorem cAs_map : ∀ l : List AV, cAs ρ l = l.map (cA ρ)
  | [] => rfl
  | x :: r => by simp [cAs, cAs_map r]
@[simp] theorem cP_lit (v : Value) : cP ρ (.lit v) = .lit v := by simp [cP]
theorem cP_sl {sz : Nat} (h1 : sz ≠ SYMI) (h2 : sz ≠ SPAR) (l : List (List PV)) : cP ρ (.sl sz l) = .sl sz (cPss ρ l) := by simp only [cP, if_neg h1, if_neg h2]
theorem cP_symi (l : List (List PV)) : cP ρ (.sl SYMI l) = .lit (symV ρ l) := by simp only [cP, if_true]
theorem cP_spar (l : List (List PV)) : cP ρ (.sl SPAR l) = .sl 1 (expL (cPss ρ l)) := by simp only [cP, show SPAR ≠ SYMI by decide, if_false, if_true]
@[simp] theorem cPs_length (l : List PV) : (cPs ρ l).length = l.length := by rw [cPs_map, List.length_map]
@[simp] theorem cPss_length (l : List (List PV)) : (cPss ρ l).length = l.length := by rw [cPss_map, List.length_map]
@[simp] theorem cCs_length (l : List CV) : (cCs ρ l).length = l.length := by rw [cCs_map, List.length_map]
@[simp] theorem cAs_length (l : List AV) : (cAs ρ l).length = l.length := by rw [cAs_map, List.length_map]

theorem cA_c (x : CV) : cA ρ (.c x) = .c (cC ρ x) := rfl
theorem cA_agg (l : List CV) : cA ρ (.agg l) = .agg (cCs ρ l) := rfl
theorem cA_tup (l : List (Bool × List CV)) : cA ρ (.tup l) = .tup (cT ρ l) := rfl
theorem cC_p (x : PV) : cC ρ (.p x) = .p (cP ρ x) := rfl
theorem cC_ipt (l : List PV) (off : Nat) : cC ρ (.ipt l off) = .ipt (cPs ρ l) off := rfl
theorem cC_ref (d k off : Nat) : cC ρ (.ref d k off) = .ref d k off := rfl
theorem cC_mp (d k : Nat) : cC ρ (.mp d k) = .mp d k := rfl
theorem cC_aref (d k sz i off : Nat) : cC ρ (.aref d k sz i off) = if sz = SPAR then .aref d k 1 (decN ρ i) off else .aref d k sz i off := rfl
theorem cC_arr (d k sz off n : Nat) : cC ρ (.arr d k sz off n) = if sz = SPAR then .arr d k 1 off (decN ρ n) else .arr d k sz off n := rfl
theorem cH_box (cs : List CV) : cH ρ (.box cs) = .box (cCs ρ cs) := rfl
theorem cH_arr (sz : Nat) (l : List (List PV)) : cH ρ (.arr sz l) = if sz = SPAR then .arr 1 (expL (cPss ρ l)) else .arr sz (cPss ρ l) := rfl
theorem cH_map (es : List (Value × Bool × List PV)) : cH ρ (.map es) = .map (cM ρ es) := rfl
theorem cC_own {sz : Nat} (h1 : sz ≠ SYMI) (h2 : sz ≠ SPAR) (l : List (List PV)) : cC ρ (.own sz l) = .own sz (cPss ρ l) := by simp only [cC, if_neg h1, if_neg h2]
/-- A cell's size by which special sizes are told. -/
theorem demC_c (x : CV) : cC ρ (demC x) = demC (cC ρ x) := by
  cases x with
  | own sz l =>
    by_cases h1 : sz = SYMI
    · subst h1; simp only [demC, cC, cP_symi, if_true]
    · by_cases h2 : sz = SPAR
      · subst h2; simp only [demC, cC, cP_spar, if_true, if_neg h1]
      · simp only [demC, cC, if_neg h1, if_neg h2, cP_sl h1 h2]
  | aref d k sz i off => simp only [demC, cC]; split <;> rfl
  | arr d k sz i off => simp only [demC, cC]; split <;> rfl
  | _ => rfl
theorem demL_c : ∀ l : List CV, cCs ρ (demL l) = demL (cCs ρ l)
  | [] => rfl
  | x :: r => by simp only [demL, cCs, demC_c, demL_c r]
theorem demT_c : ∀ l : List (Bool × List CV), cT ρ (demT l) = demT (cT ρ l)
  | [] => rfl
  | (b, x) :: r => by simp only [demT, cT, demL_c, demT_c r]
theorem demA_c (x : AV) : cA ρ (demA x) = demA (cA ρ x) := by
  cases x <;> simp only [demA, cA, demC_c, demL_c, demT_c]
theorem upC_c (n : Nat) (x : CV) : cC ρ (upC n x) = upC n (cC ρ x) := by
  cases x with
  | own sz l => simp only [upC, cC]; split; · rfl
                · split <;> rfl
  | aref d k sz i off => simp only [upC, cC]; split <;> rfl
  | arr d k sz i off => simp only [upC, cC]; split <;> rfl
  | _ => rfl
theorem upL_c (n : Nat) : ∀ l : List CV, cCs ρ (upL n l) = upL n (cCs ρ l)
  | [] => rfl
  | x :: r => by simp only [upL, cCs, upC_c, upL_c n r]
theorem upT_c (n : Nat) : ∀ l : List (Bool × List CV), cT ρ (upT n l) = upT n (cT ρ l)
  | [] => rfl
  | (b, x) :: r => by simp only [upT, cT, upL_c, upT_c n r]
theorem upA_c (n : Nat) (x : AV) : cA ρ (upA n x) = upA n (cA ρ x) := by
  cases x <;> simp only [upA, cA, upC_c, upL_c, upT_c]
theorem upAs_c (n : Nat) : ∀ l : List AV, cAs ρ (upAs n l) = upAs n (cAs ρ l)
  | [] => rfl
  | x :: r => by simp only [upAs, cAs, upA_c, upAs_c n r]
theorem downC_c (n : Nat) (x : CV) : cC ρ (downC n x) = downC n (cC ρ x) := by
  cases x with
  | own sz l => simp only [downC, cC]; split; · rfl
                · split <;> rfl
  | aref d k sz i off => simp only [downC, cC]; split <;> rfl
  | arr d k sz i off => simp only [downC, cC]; split <;> rfl
  | _ => rfl
theorem downL_c (n : Nat) : ∀ l : List CV, cCs ρ (downL n l) = downL n (cCs ρ l)
  | [] => rfl
  | x :: r => by simp only [downL, cCs, downC_c, downL_c n r]
theorem downT_c (n : Nat) : ∀ l : List (Bool × List CV), cT ρ (downT n l) = downT n (cT ρ l)
  | [] => rfl
  | (b, x) :: r => by simp only [downT, cT, downL_c, downT_c n r]
theorem downA_c (n : Nat) (x : AV) : cA ρ (downA n x) = downA n (cA ρ x) := by
  cases x <;> simp only [downA, cA, downC_c, downL_c, downT_c]
theorem outC_c (n : Nat) (x : CV) : outC n (cC ρ x) = outC n x := by
  cases x with
  | own sz l => simp only [cC]; split; · rfl
                · split <;> rfl
  | aref d k sz i off => simp only [cC]; split <;> rfl
  | arr d k sz i off => simp only [cC]; split <;> rfl
  | _ => rfl
theorem outL_c (n : Nat) : ∀ l : List CV, outL n (cCs ρ l) = outL n l
  | [] => rfl
  | x :: r => by simp only [outL, cCs, outC_c, outL_c n r]
theorem outT_c (n : Nat) : ∀ l : List (Bool × List CV), outT n (cT ρ l) = outT n l
  | [] => rfl
  | (b, x) :: r => by simp only [outT, cT, outL_c, outT_c n r]
theorem outA_c (n : Nat) (x : AV) : outA n (cA ρ x) = outA n x := by
  cases x <;> simp only [outA, cA, outC_c, outL_c, outT_c]
theorem freeC_c (x : CV) : freeC (cC ρ x) = freeC x := by
  cases x with
  | own sz l => simp only [cC]; split; · rfl
                · split <;> rfl
  | aref d k sz i off => simp only [cC]; split <;> rfl
  | arr d k sz i off => simp only [cC]; split <;> rfl
  | _ => rfl
theorem freeL_c : ∀ l : List CV, freeL (cCs ρ l) = freeL l
  | [] => rfl
  | x :: r => by simp only [freeL, cCs, freeC_c, freeL_c r]
theorem freeT_c : ∀ l : List (Bool × List CV), freeT (cT ρ l) = freeT l
  | [] => rfl
  | (b, x) :: r => by simp only [freeT, cT, freeL_c, freeT_c r]
theorem freeA_c (x : AV) : freeA (cA ρ x) = freeA x := by
  cases x <;> simp only [freeA, cA, freeC_c, freeL_c, freeT_c]
theorem freeAs_c : ∀ l : List AV, freeAs (cAs ρ l) = freeAs l
  | [] => rfl
  | x :: r => by simp only [freeAs, cAs, freeA_c, freeAs_c r]
theorem keptC_c (ks : List Nat) (x : CV) : keptC ks (cC ρ x) = keptC ks x := by
  cases x with
  | own sz l => simp only [cC]; split; · rfl
                · split <;> rfl
  | aref d k sz i off => simp only [cC]; split <;> rfl
  | arr d k sz i off => simp only [cC]; split <;> rfl
  | _ => rfl
theorem keptL_c (ks : List Nat) : ∀ l : List CV, keptL ks (cCs ρ l) = keptL ks l
  | [] => rfl
  | x :: r => by simp only [keptL, cCs, keptC_c, keptL_c ks r]
theorem keptT_c (ks : List Nat) : ∀ l : List (Bool × List CV), keptT ks (cT ρ l) = keptT ks l
  | [] => rfl
  | (b, x) :: r => by simp only [keptT, cT, keptL_c, keptT_c ks r]
theorem keptA_c (ks : List Nat) (x : AV) : keptA ks (cA ρ x) = keptA ks x := by
  cases x <;> simp only [keptA, cA, keptC_c, keptL_c, keptT_c]
theorem avoidC_c (ks : List Nat) (x : CV) : avoidC ks (cC ρ x) = avoidC ks x := by
  cases x with
  | own sz l => simp only [cC]; split; · rfl
                · split <;> rfl
  | aref d k sz i off => simp only [cC]; split <;> rfl
  | arr d k sz i off => simp only [cC]; split <;> rfl
  | _ => rfl
theorem avoidA_c (ks : List Nat) (x : AV) : avoidA ks (cA ρ x) = avoidA ks x := by
  cases x <;> simp only [avoidA, cA, avoidC_c]
theorem avoidAs_c (ks : List Nat) : ∀ l : List AV, avoidAs ks (cAs ρ l) = avoidAs ks l
  | [] => rfl
  | x :: r => by simp only [avoidAs, cAs, avoidA_c, avoidAs_c ks r]
theorem look_c (t : Nat) : ∀ e : Env, look t (cE ρ e) = cA ρ (look t e)
  | [] => rfl
  | (t', x) :: r => by
    simp only [cE, look]
    split
    · rfl
    · exact look_c t r
theorem keepE_c (e : Env) : ∀ l : List Nat, keepE l (cE ρ e) = cE ρ (keepE l e)
  | [] => rfl
  | t :: r => by simp only [keepE, cE, look_c, keepE_c e r]
theorem keptE_c (ks : List Nat) : ∀ e : Env, keptE ks (cE ρ e) = keptE ks e
  | [] => rfl
  | (t, x) :: r => by simp only [keptE, cE, keptA_c, keptE_c ks r]
theorem keepF_c (ks : List Nat) : ∀ f : Fram, keepF ks (cF ρ f) = cF ρ (keepF ks f)
  | [] => rfl
  | (k, h) :: r => by
    simp only [keepF, cF]
    split
    · simp only [cF, keepF_c ks r]
    · exact keepF_c ks r
theorem keptF_c (ks : List Nat) : ∀ f : Fram, keptF ks (cF ρ f) = keptF ks f
  | [] => rfl
  | (k, h) :: r => by
    cases h with
    | box cs => simp only [keptF, cF, cH, keptL_c, keptF_c ks r]
    | arr sz l => simp only [cF, cH]; split <;> exact keptF_c ks r
    | map es => exact keptF_c ks r
theorem hget_c (k : Nat) : ∀ f : Fram, hget k (cF ρ f) = (hget k f).map (cH ρ)
  | [] => rfl
  | (k', h) :: r => by
    simp only [cF, hget]
    split
    · rfl
    · exact hget_c k r
theorem hset_c (k : Nat) (h : HO) : ∀ f : Fram, hset k (cH ρ h) (cF ρ f) = cF ρ (hset k h f)
  | [] => rfl
  | (k', h') :: r => by
    simp only [cF, hset]
    split
    · rfl
    · simp only [cF, hset_c k h r]
theorem hhas_c (k : Nat) (f : Fram) : hhas k (cF ρ f) = hhas k f := by simp [hhas, hget_c]
theorem fget_c : ∀ (d : Nat) (fs : List Fram), fget d (cFs ρ fs) = cF ρ (fget d fs)
  | 0, [] => rfl
  | d + 1, [] => rfl
  | 0, f :: r => rfl
  | d + 1, f :: r => by simp only [cFs, fget, fget_c d r]
theorem fset_c (g : Fram) : ∀ (d : Nat) (fs : List Fram), fset d (cF ρ g) (cFs ρ fs) = cFs ρ (fset d g fs)
  | 0, [] => rfl
  | d + 1, [] => rfl
  | 0, f :: r => rfl
  | d + 1, f :: r => by simp only [cFs, fset, fset_c g d r]
theorem getH_c (d k : Nat) (fs : List Fram) : getH d k (cFs ρ fs) = (getH d k fs).map (cH ρ) := by unfold getH; rw [fget_c, hget_c]
theorem setH_c (d k : Nat) (h : HO) (fs : List Fram) : setH d k (cH ρ h) (cFs ρ fs) = cFs ρ (setH d k h fs) := by unfold setH; rw [fget_c, hset_c, fset_c]
theorem cut_c (off n : Nat) (l : List CV) : cut off n (cCs ρ l) = cCs ρ (cut off n l) := by simp only [cut, cCs_map, List.map_drop, List.map_take]
theorem cutP_c (off n : Nat) (l : List PV) : cut off n (cPs ρ l) = cPs ρ (cut off n l) := by simp only [cut, cPs_map, List.map_drop, List.map_take]
theorem put_c (l : List CV) (off : Nat) (xs : List CV) : put (cCs ρ l) off (cCs ρ xs) = cCs ρ (put l off xs) := by simp only [put, cCs_map, List.map_append, List.map_drop, List.map_take, List.length_map]
theorem putP_c (l : List PV) (off : Nat) (xs : List PV) : put (cPs ρ l) off (cPs ρ xs) = cPs ρ (put l off xs) := by simp only [put, cPs_map, List.map_append, List.map_drop, List.map_take, List.length_map]
theorem putPP_c (l : List (List PV)) (off : Nat) (xs : List (List PV)) : put (cPss ρ l) off (cPss ρ xs) = cPss ρ (put l off xs) := by simp only [put, cPss_map, List.map_append, List.map_drop, List.map_take, List.length_map]
theorem getD_c (l : List (List PV)) (i : Nat) : (cPss ρ l).getD i [] = cPs ρ (l.getD i []) := by
  rw [cPss_map, List.getD_eq_getElem?_getD, List.getD_eq_getElem?_getD, List.getElem?_map]
  cases l[i]? <;> simp [cPs]
theorem setP_c (l : List (List PV)) (i : Nat) (x : List PV) : (cPss ρ l).set i (cPs ρ x) = cPss ρ (l.set i x) := by simp only [cPss_map, List.map_set]
theorem appP_c (l m : List (List PV)) : cPss ρ (l ++ m) = cPss ρ l ++ cPss ρ m := by simp only [cPss_map, List.map_append]
theorem pvs_c : ∀ l : List PV, cCs ρ (pvs l) = pvs (cPs ρ l)
  | [] => by simp [pvs, cCs, cPs]
  | x :: r => by simp only [pvs, cCs, cPs, cC, pvs_c r]
theorem untake_c (x : CV) : cC ρ (untake x) = untake (cC ρ x) := by
  have := demC_c (ρ := ρ) x
  cases x <;> exact this
theorem untakeL_c : ∀ l : List CV, cCs ρ (untakeL l) = untakeL (cCs ρ l)
  | [] => rfl
  | x :: r => by simp only [untakeL, cCs, untake_c, untakeL_c r]
theorem mkA_c (b : Bool) (l : List CV) : cA ρ (mkA b l) = mkA b (cCs ρ l) := by
  cases b with
  | true => rfl
  | false =>
    cases l with
    | nil => rfl
    | cons x r => cases r <;> rfl
theorem isAggA_c (x : AV) : isAggA (cA ρ x) = isAggA x := by cases x <;> rfl
theorem cC_dead {x : CV} (h : x ≠ .dead) : cC ρ x ≠ .dead := by
  cases x with
  | own sz l => simp only [cC]; split
                · simp
                · split <;> simp
  | aref d k sz i off => simp only [cC]; split <;> simp
  | arr d k sz i off => simp only [cC]; split <;> simp
  | dead => exact absurd rfl h
  | _ => simp [cC]
theorem cellsA_ne {x : CV} (h : x ≠ .dead) : cellsA (.c x) = some [x] := by cases x <;> first | rfl | exact absurd rfl h
theorem cellsA_c {x : AV} {l : List CV} (h : cellsA x = some l) : cellsA (cA ρ x) = some (cCs ρ l) := by
  cases x with
  | c x =>
    by_cases hd : x = .dead
    · subst hd; cases h
    · rw [cellsA_ne hd] at h; cases h
      show cellsA (.c (cC ρ x)) = _
      rw [cellsA_ne (cC_dead hd)]; rfl
  | agg l => cases h; rfl
  | tup l => cases h
theorem toP_c {x : CV} {p : PV} (h : toP x = some p) : toP (cC ρ x) = some (cP ρ p) := by
  cases x with
  | p x => cases h; rfl
  | own sz l =>
    cases h
    by_cases h1 : sz = SYMI
    · subst h1; simp only [cC, cP_symi, if_true, toP]
    · by_cases h2 : sz = SPAR
      · subst h2; simp only [cC, cP_spar, if_true, if_neg h1, toP]
      · simp only [cC, if_neg h1, if_neg h2, cP_sl h1 h2, toP]
  | _ => cases h
theorem toPs_c : ∀ {l : List CV} {ps : List PV} (_ : toPs l = some ps), toPs (cCs ρ l) = some (cPs ρ ps)
  | [], ps, h => by cases h; simp [toPs, cCs, cPs]
  | x :: r, ps, h => by
    simp only [toPs] at h
    cases h1 : toP x with
    | none => rw [h1] at h; cases h
    | some p =>
      cases h2 : toPs r with
      | none => rw [h1, h2] at h; cases h
      | some q =>
        rw [h1, h2] at h; cases h
        simp only [cCs, toPs, toP_c h1, toPs_c h2, cPs]
theorem cellsP_c {x : AV} {ps : List PV} (h : (cellsA x).bind toPs = some ps) : (cellsA (cA ρ x)).bind toPs = some (cPs ρ ps) := by
  cases h1 : cellsA x with
  | none => rw [h1] at h; cases h
  | some l => rw [h1] at h; rw [cellsA_c h1]; exact toPs_c h
theorem fillX_c : ∀ {cs : List CV} {offs : List (Nat × Nat)} {vs : List AV} {l : List CV} (_ : fillX cs offs vs = some l), fillX (cCs ρ cs) offs (cAs ρ vs) = some (cCs ρ l)
  | cs, [], [], l, h => by cases h; rfl
  | cs, (off, n) :: r, v :: vs, l, h => by
    simp only [fillX] at h
    cases h1 : cellsA v with
    | none => rw [h1] at h; cases h
    | some m =>
      rw [h1] at h
      simp only at h
      split at h
      · rename_i hc
        simp only [cAs, fillX, cellsA_c h1, cCs_length, if_pos hc, put_c]
        exact fillX_c h
      · cases h
  | cs, [], _ :: _, l, h => by cases h
  | cs, _ :: _, [], l, h => by cases h
theorem fillS_c {sz : Nat} : ∀ {cs : List (List PV)} {idx : List Nat} {vs : List AV} {l : List (List PV)} (_ : fillS sz cs idx vs = some l), fillS sz (cPss ρ cs) idx (cAs ρ vs) = some (cPss ρ l)
  | cs, [], [], l, h => by cases h; rfl
  | cs, i :: r, v :: vs, l, h => by
    simp only [fillS] at h
    cases h1 : (cellsA v).bind toPs with
    | none => rw [h1] at h; cases h
    | some m =>
      rw [h1] at h
      simp only at h
      split at h
      · rename_i hc
        simp only [cAs, fillS, cellsP_c h1, cPs_length, cPss_length, if_pos hc, setP_c]
        exact fillS_c h
      · cases h
  | cs, [], _ :: _, l, h => by cases h
  | cs, _ :: _, [], l, h => by cases h
theorem bytesL_c : ∀ {l : List (List PV)} {bs : List UInt8} (_ : bytesL l = some bs), bytesL (cPss ρ l) = some bs
  | [], bs, h => by simpa [cPss] using h
  | [.lit (.int .u8 n)] :: r, bs, h => by
    simp only [bytesL] at h
    cases h1 : bytesL r with
    | none => rw [h1] at h; cases h
    | some b => rw [h1] at h; simp only [cPss, cPs, cP_lit, bytesL, bytesL_c h1]; exact h
theorem eqCs_c : ∀ {l m : List CV} {b : Bool} (_ : eqCs l m = some b), eqCs (cCs ρ l) (cCs ρ m) = some b
  | [], [], b, h => h
  | .p (.lit (.int j a)) :: r, .p (.lit (.int k c)) :: s, b, h => by
    simp only [eqCs] at h
    split at h
    · rename_i hj
      cases h1 : eqCs r s with
      | none => rw [h1] at h; cases h
      | some y =>
        rw [h1] at h
        simp only [cCs, cC, cP_lit, eqCs, if_pos hj, eqCs_c h1]; exact h
    · cases h
theorem mget_c (key : Value) : ∀ es : List (Value × Bool × List PV), mget key (cM ρ es) = (mget key es).map fun p => (p.1, cPs ρ p.2)
  | [] => rfl
  | (k, b, l) :: r => by
    simp only [cM, mget]
    split
    · rfl
    · exact mget_c key r
theorem mset_c (key : Value) (b : Bool) (x : List PV) : ∀ es : List (Value × Bool × List PV), mset key (b, cPs ρ x) (cM ρ es) = cM ρ (mset key (b, x) es)
  | [] => rfl
  | (k, b', l) :: r => by
    simp only [cM, mset]
    split
    · rfl
    · simp only [cM, mset_c key b x r]
theorem cM_length : ∀ es : List (Value × Bool × List PV), (cM ρ es).length = es.length
  | [] => rfl
  | (k, b, l) :: r => by simp [cM, cM_length r]
theorem bytes_c (bs : List UInt8) : cPss ρ (bs.map fun b => [PV.lit (.int .u8 b.toNat)]) = bs.map fun b => [PV.lit (.int .u8 b.toNat)] := by
  rw [cPss_map, List.map_map]
  apply List.map_congr_left
  intro b _
  simp [cPs]
theorem listOf_c {sz : Nat} (h1 : sz ≠ SYMI) (h2 : sz ≠ SPAR) {fs : List Fram} {y : AV} {ys : List (List PV)} (h : listOf sz fs y = some ys) : listOf sz (cFs ρ fs) (cA ρ y) = some (cPss ρ ys) := by
  unfold listOf at h
  split at h
  · split at h
    · rename_i e; cases h; subst e; simp only [cA, cC, cP_sl h1 h2, listOf, if_true]
    · cases h
  · split at h
    · rename_i e; cases h; subst e; simp only [cA, cC_own h1 h2, listOf, if_true]
    · cases h
  · split at h
    · rename_i sz2 l hg
      split at h
      · rename_i hc
        cases h
        obtain ⟨e1, e2, hlen⟩ := hc
        subst e1 e2
        simp only [cA, cC, if_neg h2, listOf, getH_c, hg, Option.map_some, cH, cPss_length]
        rw [if_pos ⟨trivial, trivial, hlen⟩]
        simp only [cPss_map, List.map_drop, List.map_take]
      · cases h
    · cases h
  · split at h
    · rename_i e
      cases h; subst e
      simp only [cA, cC, cP_lit, listOf, if_true, bytes_c]
    · cases h
  · cases h
theorem slOf_c {sz : Nat} (h1 : sz ≠ SYMI) (h2 : sz ≠ SPAR) {x : CV} {l : List (List PV)} (h : slOf sz x = some l) : slOf sz (cC ρ x) = some (cPss ρ l) := by
  unfold slOf at h
  split at h
  · split at h
    · rename_i e; cases h; subst e; simp only [cC, cP_sl h1 h2, slOf, if_true]
    · cases h
  · split at h
    · rename_i e; cases h; subst e; simp only [cC_own h1 h2, slOf, if_true]
    · cases h
  · cases h

/-! ### constants -/
mutual
def clP : PV → Bool
  | .lit _ => true
  | .sl sz l => !(sz == SYMI) && !(sz == SPAR) && clPss l
def clPs : List PV → Bool
  | [] => true
  | x :: r => clP x && clPs r
def clPss : List (List PV) → Bool
  | [] => true
  | x :: r => clPs x && clPss r
end
mutual
theorem clP_c : ∀ {x : PV} (_ : clP x = true), cP ρ x = x
  | .lit v, _ => cP_lit v
  | .sl sz l, h => by
    simp only [clP, Bool.and_eq_true, Bool.not_eq_true', beq_eq_false_iff_ne] at h
    rw [cP_sl h.1.1 h.1.2, clPss_c h.2]
theorem clPs_c : ∀ {x : List PV} (_ : clPs x = true), cPs ρ x = x
  | [], _ => by simp [cPs]
  | x :: r, h => by
    simp only [clPs, Bool.and_eq_true] at h
    simp only [cPs, clP_c h.1, clPs_c h.2]
theorem clPss_c : ∀ {x : List (List PV)} (_ : clPss x = true), cPss ρ x = x
  | [], _ => by simp [cPss]
  | x :: r, h => by
    simp only [clPss, Bool.and_eq_true] at h
    simp only [cPss, clPs_c h.1, clPss_c h.2]
end
theorem zC_c {x : PV} (h : clP x = true) : cC ρ (zC x) = zC x := by
  unfold zC
  split
  · rename_i sz
    simp only [clP, Bool.and_eq_true, Bool.not_eq_true', beq_eq_false_iff_ne] at h
    rw [cC_own h.1.1 h.1.2]; simp [cPss]
  · simp only [cC, clP_c h]
theorem zvs_c : ∀ {l : List PV} (_ : clPs l = true), cCs ρ (zvs l) = zvs l
  | [], _ => rfl
  | x :: r, h => by
    simp only [clPs, Bool.and_eq_true] at h
    simp only [zvs, cCs, zC_c h.1, zvs_c h.2]
theorem repl_c (n : Nat) {z : List PV} (h : clPs z = true) : cPss ρ (List.replicate n z) = List.replicate n z := by
  rw [cPss_map, List.map_replicate, clPs_c h]
end Go.ScE
