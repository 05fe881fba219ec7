/- S2: an operation on values with names is the operation on what they stand for. -/
import Derived.Test.YtomklnbaaelchaaDoorSS1
set_option linter.unusedVariables false
set_option linter.unusedSimpArgs false
namespace Go.ScE

def okS (sz : Nat) : Bool := !(sz == SYMI) && !(sz == SPAR)
theorem okS_ok {sz : Nat} (h : okS sz = true) : sz ≠ SYMI ∧ sz ≠ SPAR := by
  simp only [okS, Bool.and_eq_true, Bool.not_eq_true', beq_eq_false_iff_ne] at h; exact h
theorem nSP {sz : Nat} (h : (!(sz == SPAR)) = true) : sz ≠ SPAR := by simpa using h
def clK : XK → Bool
  | .alloc _ _ z => clPs z
  | .bld z _ => clPs z
  | .blds sz z _ _ => okS sz && clPs z
  | .ia sz => okS sz
  | .slL sz _ _ => okS sz
  | .app sz _ => okS sz
  | .mks _ sz z => okS sz && clPs z
  | .lk _ z _ => clPs z
  | .copy sz => okS sz
  | _ => true
/-- Not at a special row. -/
def safeK (op : XK) (vs : List AV) : Bool := match op, vs with
  | .lenL, [.c (.p (.sl sz _))] => okS sz
  | .lenL, [.c (.own sz _)] => okS sz
  | .lenL, [.c (.arr _ _ sz _ _)] => !(sz == SPAR)
  | .ld _ _ _, [.c (.aref _ _ sz _ _)] => !(sz == SPAR)
  | .st _, [.c (.aref _ _ sz _ _), _] => !(sz == SPAR)
  | _, _ => true
def CNat (ρ : List Int) (C D : Callee) : Prop := ∀ f args frames r frames', C f args frames = (r, frames', true) → D f (cAs ρ args) (cFs ρ frames) = (cA ρ r, cFs ρ frames', true)

theorem evBinQ_lit {bq : Bool} {op : BinOp} {a b : Value} {r : AV} (h : litC (evBinQ bq op a b) = (r, true)) : ∃ v, evBinQ bq op a b = some v ∧ r = .c (.p (.lit v)) := by
  cases hv : evBinQ bq op a b with
  | none => rw [hv] at h; cases h
  | some v => rw [hv] at h; cases h; exact ⟨v, rfl, rfl⟩
theorem evUn_lit {op : UnOp} {a : Value} {r : AV} (h : litC (evUn op a) = (r, true)) : ∃ v, evUn op a = some v ∧ r = .c (.p (.lit v)) := by
  cases hv : evUn op a with
  | none => rw [hv] at h; cases h
  | some v => rw [hv] at h; cases h; exact ⟨v, rfl, rfl⟩
theorem fin4 {r r' : AV} {fr fr' : Fram} {up up' : List Fram} {ok : Bool} (h : ((r, fr, up, ok) : ActR) = (r', fr', up', true)) : r = r' ∧ fr = fr' ∧ up = up' ∧ ok = true := by
  simp only [Prod.mk.injEq] at h; exact h
variable {ρ : List Int} {C D : Callee}
theorem act_nat (hC : CNat ρ C D) {op : XK} {vs : List AV} {fr fr' : Fram} {up up' : List Fram} {r : AV} (h : act C op vs fr up = (r, fr', up', true)) (hc : clK op = true) (hs : safeK op vs = true) :
    act D op (cAs ρ vs) (cF ρ fr) (cFs ρ up) = (cA ρ r, cF ρ fr', cFs ρ up', true) := by
  have hfs : cF ρ fr :: cFs ρ up = cFs ρ (fr :: up) := rfl
  have hset : ∀ {d k : Nat} {ho : HO} {a : Fram} {b : List Fram}, setH d k ho (fr :: up) = a :: b → setH d k (cH ρ ho) (cFs ρ (fr :: up)) = cF ρ a :: cFs ρ b := fun {d k ho a b} h => by rw [setH_c, h]; rfl
  have hget : ∀ {d k : Nat} {ho : HO}, getH d k (fr :: up) = some ho → getH d k (cFs ρ (fr :: up)) = some (cH ρ ho) := fun {d k ho} h => by rw [getH_c, h]; rfl
  have hcall : ∀ {f : FuncId} {xs : List AV}, (match freeAs xs with
        | true => ((let (r, _, ok) := C f xs []; (r, fr, up, ok && freeA r)) : ActR)
        | false => match C f xs (fr :: up) with
          | (r, fr' :: up', ok) => (r, fr', up', ok)
          | _ => bad fr up) = (r, fr', up', true) → (match freeAs (cAs ρ xs) with
        | true => ((let (r, _, ok) := D f (cAs ρ xs) []; (r, cF ρ fr, cFs ρ up, ok && freeA r)) : ActR)
        | false => match D f (cAs ρ xs) (cF ρ fr :: cFs ρ up) with
          | (r, fr' :: up', ok) => (r, fr', up', ok)
          | _ => bad (cF ρ fr) (cFs ρ up)) = (cA ρ r, cF ρ fr', cFs ρ up', true) := fun {f xs} h => by
    rw [freeAs_c]
    cases hf : freeAs xs with
    | true =>
      rw [hf] at h
      generalize hq : C f xs [] = q at h
      obtain ⟨a, b, c⟩ := q
      simp only [Prod.mk.injEq, Bool.and_eq_true] at h
      obtain ⟨rfl, rfl, rfl, rfl, hfr⟩ := h
      have := hC f xs [] _ _ hq
      simp only [cFs] at this
      simp only [this, freeA_c, hfr, Bool.and_self]
    | false =>
      rw [hf] at h
      generalize hq : C f xs (fr :: up) = q at h
      obtain ⟨a, b, c⟩ := q
      cases b with
      | nil => exact absurd h bad_ne
      | cons b1 b2 =>
        simp only [Prod.mk.injEq] at h
        obtain ⟨rfl, rfl, rfl, rfl⟩ := h
        have := hC f xs (fr :: up) _ _ hq
        simp only [cFs] at this
        simp only [this]
  cases op
  case mv =>
    simp only [act] at h
    split at h
    · obtain ⟨rfl, rfl, rfl, -⟩ := fin4 h; rfl
    · exact absurd h bad_ne
  case pick =>
    simp only [act] at h
    split at h
    · rename_i c a b
      obtain ⟨rfl, rfl, rfl, -⟩ := fin4 h
      simp only [cAs, cA_c, cA_agg, cA_tup, cC_p, cC_ipt, cC_ref, cC_mp, cC_aref, cC_arr, cP_lit, act]
      cases c <;> rfl
    · exact absurd h bad_ne
  case alloc s u z =>
    simp only [act] at h
    split at h
    · obtain ⟨rfl, rfl, rfl, hh⟩ := fin4 h
      simp only [cAs, act, cA_c, cA_agg, cA_tup, cC_p, cC_ipt, cC_ref, cC_mp, cC_aref, cC_arr, cF, cH_box, cH_arr, cH_map, hhas_c, zvs_c hc, hh]
    · exact absurd h bad_ne
  case box s =>
    simp only [act] at h
    split at h
    · split at h
      · rename_i l hl
        obtain ⟨rfl, rfl, rfl, hh⟩ := fin4 h
        simp only [cAs, act, cellsA_c hl, cA_c, cA_agg, cA_tup, cC_p, cC_ipt, cC_ref, cC_mp, cC_aref, cC_arr, cF, cH_box, cH_arr, cH_map, hhas_c, hh]
      · exact absurd h bad_ne
    · exact absurd h bad_ne
  case bld z offs =>
    simp only [act] at h
    split at h
    · rename_i l hl
      obtain ⟨rfl, rfl, rfl, hh⟩ := fin4 h
      have := fillX_c (ρ := ρ) hl
      rw [zvs_c hc] at this
      simp only [act, this, cA_c, cA_agg, cA_tup]
    · exact absurd h bad_ne
  case blds sz z n idx =>
    simp only [clK, Bool.and_eq_true] at hc
    obtain ⟨h1, h2⟩ := okS_ok hc.1
    simp only [act] at h
    split at h
    · rename_i l hl
      obtain ⟨rfl, rfl, rfl, hh⟩ := fin4 h
      have := fillS_c (ρ := ρ) hl
      rw [repl_c n hc.2] at this
      simp only [act, this, cA_c, cA_agg, cA_tup, cC_own h1 h2, hh]
    · exact absurd h bad_ne
  case ld agg n take =>
    simp only [act] at h
    split at h
    · split at h
      · rename_i cs off
        obtain ⟨rfl, rfl, rfl, hh⟩ := fin4 h
        simp only [cAs, act, cA_c, cA_agg, cA_tup, cC_p, cC_ipt, cC_ref, cC_mp, cC_aref, cC_arr, cutP_c, cPs_length, hh, mkA_c, pvs_c]
      · rename_i d k off
        split at h
        · rename_i cs hg
          split at h
          · rename_i ht
            split at h
            · rename_i a b hq
              obtain ⟨rfl, rfl, rfl, hh⟩ := fin4 h
              simp only [cAs, act, cA_c, cA_agg, cA_tup, cC_p, cC_ipt, cC_ref, cC_mp, cC_aref, cC_arr, hfs, hget hg, cH_box, cH_arr, cH_map, if_pos ht]
              have e1 : fset d (Go.ScE.hset k (.box (put (cCs ρ cs) off (untakeL (cut off n (cCs ρ cs))))) (fget d (cFs ρ (fr :: up)))) (cFs ρ (fr :: up)) = cF ρ a :: cFs ρ b := by
                rw [cut_c, ← untakeL_c, put_c]
                exact hset hq
              rw [e1]
              simp only [cut_c, ← upL_c, mkA_c, cCs_length, hh]
            · exact absurd h bad_ne
          · rename_i ht
            obtain ⟨rfl, rfl, rfl, hh⟩ := fin4 h
            simp only [cAs, act, cA_c, cA_agg, cA_tup, cC_p, cC_ipt, cC_ref, cC_mp, cC_aref, cC_arr, hfs, hget hg, cH_box, cH_arr, cH_map, if_neg ht]
            simp only [cut_c, ← demL_c, ← upL_c, mkA_c, cCs_length, hh]
        · exact absurd h bad_ne
      · rename_i d k sz i off
        split at h
        · rename_i sz' l hg
          obtain ⟨rfl, rfl, rfl, hh⟩ := fin4 h
          have h2 := nSP (show (!(sz == SPAR)) = true from hs)
          have hsz : sz' = sz := by simp only [decide_eq_true_eq] at hh; exact hh.1
          subst hsz
          simp only [true_and] at hh
          simp only [cAs, act, cA_c, cA_agg, cA_tup, cC_p, cC_ipt, cC_ref, cC_mp, cC_aref, cC_arr, if_neg h2, hfs, hget hg, cH_box, cH_arr, cH_map, getD_c, cutP_c, cPss_length, true_and, hh, mkA_c, pvs_c]
        · exact absurd h bad_ne
      · exact absurd h bad_ne
    · exact absurd h bad_ne
  case st n =>
    simp only [act] at h
    split at h
    · split at h
      · rename_i d k off
        split at h
        · rename_i cs l hg hl
          split at h
          · rename_i a b hq
            obtain ⟨rfl, rfl, rfl, hh⟩ := fin4 h
            simp only [cAs, act, cA_c, cA_agg, cA_tup, cC_p, cC_ipt, cC_ref, cC_mp, cC_aref, cC_arr, hfs, hget hg, cH_box, cH_arr, cH_map, cellsA_c hl]
            have e1 : setH d k (.box (put (cCs ρ cs) off (downL d (cCs ρ l)))) (cFs ρ (fr :: up)) = cF ρ a :: cFs ρ b := by
              rw [← downL_c, put_c]
              exact hset hq
            rw [e1]
            simp only [cCs_length, outL_c, hh]; rfl
          · exact absurd h bad_ne
        · exact absurd h bad_ne
      · rename_i d k sz i off
        split at h
        · rename_i sz' l xs hg hl
          split at h
          · rename_i a b hq
            obtain ⟨rfl, rfl, rfl, hh⟩ := fin4 h
            have h2 := nSP (show (!(sz == SPAR)) = true from hs)
            have hsz : sz' = sz := by simp only [decide_eq_true_eq] at hh; exact hh.1
            subst hsz
            simp only [cAs, act, cA_c, cA_agg, cA_tup, cC_p, cC_ipt, cC_ref, cC_mp, cC_aref, cC_arr, if_neg h2, hfs, hget hg, cH_box, cH_arr, cH_map, cellsP_c hl]
            have e1 : setH d k (.arr sz' ((cPss ρ l).set i (put ((cPss ρ l).getD i []) off (cPs ρ xs)))) (cFs ρ (fr :: up)) = cF ρ a :: cFs ρ b := by
              rw [getD_c, putP_c, setP_c]
              have := hset hq
              simp only [cH_box, cH_arr, cH_map, if_neg h2] at this
              exact this
            rw [e1]
            simp only [true_and] at hh
            simp only [cPs_length, cPss_length, true_and, hh]; rfl
          · exact absurd h bad_ne
        · exact absurd h bad_ne
      · exact absurd h bad_ne
    · exact absurd h bad_ne
  case nck =>
    simp only [act] at h
    split at h
    · split at h
      · obtain ⟨rfl, rfl, rfl, -⟩ := fin4 h; rfl
      · rename_i d k sz i o
        obtain ⟨rfl, rfl, rfl, -⟩ := fin4 h
        simp only [cAs, cA_c, cC_aref]
        by_cases hz : sz = SPAR
        · simp only [if_pos hz, act]
        · simp only [if_neg hz, act]
      · obtain ⟨rfl, rfl, rfl, -⟩ := fin4 h; rfl
      · exact absurd h bad_ne
    · exact absurd h bad_ne
  case bin op bq =>
    simp only [act] at h
    split at h
    · rename_i a b
      simp only [same, Prod.mk.injEq] at h
      obtain ⟨h1, rfl, rfl, h2⟩ := h
      obtain ⟨v, hv, rfl⟩ := evBinQ_lit (Prod.ext h1 h2)
      simp only [cAs, cA_c, cA_agg, cA_tup, cC_p, cC_ipt, cC_ref, cC_mp, cC_aref, cC_arr, cP_lit, act, hv, litC, same]
    · exact absurd h bad_ne
  case un op =>
    simp only [act] at h
    split at h
    · rename_i a
      simp only [same, Prod.mk.injEq] at h
      obtain ⟨h1, rfl, rfl, h2⟩ := h
      obtain ⟨v, hv, rfl⟩ := evUn_lit (Prod.ext h1 h2)
      simp only [cAs, cA_c, cA_agg, cA_tup, cC_p, cC_ipt, cC_ref, cC_mp, cC_aref, cC_arr, cP_lit, act, hv, litC, same]
    · exact absurd h bad_ne
  case cvi k =>
    simp only [act] at h
    split at h
    · obtain ⟨rfl, rfl, rfl, -⟩ := fin4 h
      simp only [cAs, cA_c, cA_agg, cA_tup, cC_p, cC_ipt, cC_ref, cC_mp, cC_aref, cC_arr, cP_lit, act, pint]
    · exact absurd h bad_ne
  case cbs =>
    simp only [act] at h
    split at h
    · rename_i y
      split at h
      · rename_i l h1 h2
        split at h
        · rename_i bs hb
          obtain ⟨rfl, rfl, rfl, -⟩ := fin4 h
          have e2 := listOf_c (ρ := ρ) (sz := 1) (by decide) (by decide) h2
          have e1 : isStr (cA ρ y) = false := by
            clear e2
            unfold listOf at h2
            split at h2
            · rename_i sz l2
              split at h2
              · rename_i e; subst e
                simp only [cA_c, cC_p, cP_sl (show 1 ≠ SYMI by decide) (show 1 ≠ SPAR by decide), isStr]
              · cases h2
            · rename_i sz l2
              split at h2
              · rename_i e; subst e
                simp only [cA_c, cC_own (show 1 ≠ SYMI by decide) (show 1 ≠ SPAR by decide), isStr]
              · cases h2
            · rename_i d k sz off n
              simp only [cA_c, cC_arr]
              split <;> rfl
            · cases h1
            · cases h2
          simp only [cAs, act, e1, hfs, e2, bytesL_c hb, cA_c, cA_agg, cA_tup, cC_p, cC_ipt, cC_ref, cC_mp, cC_aref, cC_arr, cP_lit]
        · exact absurd h bad_ne
      · exact absurd h bad_ne
    · exact absurd h bad_ne
  case fa off =>
    simp only [act] at h
    split at h
    · split at h
      · obtain ⟨rfl, rfl, rfl, -⟩ := fin4 h; rfl
      · rename_i d k sz i o
        obtain ⟨rfl, rfl, rfl, -⟩ := fin4 h
        simp only [cAs, cA_c, cC_aref]
        by_cases hz : sz = SPAR
        · simp only [if_pos hz, act]
        · simp only [if_neg hz, act]
      · obtain ⟨rfl, rfl, rfl, -⟩ := fin4 h; rfl
      · exact absurd h bad_ne
    · exact absurd h bad_ne
  case ia sz =>
    obtain ⟨g1, g2⟩ := okS_ok hc
    simp only [act] at h
    split at h
    · split at h
      · obtain ⟨rfl, rfl, rfl, hh⟩ := fin4 h
        have hsz := hh
        simp only [decide_eq_true_eq] at hsz
        obtain ⟨rfl, -, -⟩ := hsz
        simp only [true_and] at hh
        simp only [true_and, cAs, cA_c, cA_agg, cA_tup, cC_p, cC_ipt, cC_ref, cC_mp, cC_aref, cC_arr, cP_lit, cP_sl g1 g2, act, getD_c, cPss_length, hh]
      · obtain ⟨rfl, rfl, rfl, hh⟩ := fin4 h
        have hsz := hh
        simp only [decide_eq_true_eq] at hsz
        obtain ⟨rfl, -, -⟩ := hsz
        simp only [true_and] at hh
        simp only [true_and, cAs, cA_c, cA_agg, cA_tup, cC_own g1 g2, cC_p, cC_ipt, cC_ref, cC_mp, cC_aref, cC_arr, cP_lit, act, getD_c, cPss_length, hh]
      · obtain ⟨rfl, rfl, rfl, hh⟩ := fin4 h
        have hsz := hh
        simp only [decide_eq_true_eq] at hsz
        obtain ⟨rfl, -, -⟩ := hsz
        simp only [true_and] at hh
        simp only [true_and, cAs, cA_c, cA_agg, cA_tup, cC_p, cC_ipt, cC_ref, cC_mp, cC_aref, cC_arr, cP_lit, if_neg g2, act, hh]
      · exact absurd h bad_ne
    · exact absurd h bad_ne
  case iaa sz n =>
    simp only [act] at h
    split at h
    · split at h
      · obtain ⟨rfl, rfl, rfl, hh⟩ := fin4 h
        simp only [cAs, cA_c, cA_agg, cA_tup, cC_p, cC_ipt, cC_ref, cC_mp, cC_aref, cC_arr, cP_lit, act, hh]
      · rename_i d k sz' j o
        obtain ⟨rfl, rfl, rfl, hh⟩ := fin4 h
        simp only [cAs, cA_c, cC_aref, cC_p, cP_lit]
        by_cases hz : sz' = SPAR
        · simp only [if_pos hz, act, hh]
        · simp only [if_neg hz, act, hh]
      · obtain ⟨rfl, rfl, rfl, hh⟩ := fin4 h
        simp only [cAs, cA_c, cA_agg, cA_tup, cC_p, cC_ipt, cC_ref, cC_mp, cC_aref, cC_arr, cP_lit, act, hh]
      · exact absurd h bad_ne
    · exact absurd h bad_ne
  case ixs =>
    simp only [act] at h
    split at h
    · obtain ⟨rfl, rfl, rfl, hh⟩ := fin4 h
      simp only [cAs, cA_c, cA_agg, cA_tup, cC_p, cC_ipt, cC_ref, cC_mp, cC_aref, cC_arr, cP_lit, act, pint, hh]
    · exact absurd h bad_ne
  case beq neg n =>
    simp only [act] at h
    split at h
    · split at h
      · rename_i b hb
        obtain ⟨rfl, rfl, rfl, hh⟩ := fin4 h
        simp only [cAs, cA_c, cA_agg, cA_tup, act, eqCs_c hb, cCs_length, hh, pbool, cC_p, cC_ipt, cC_ref, cC_mp, cC_aref, cC_arr, cP_lit]
      · exact absurd h bad_ne
    · exact absurd h bad_ne
  case fld agg off n =>
    simp only [act] at h
    split at h
    · obtain ⟨rfl, rfl, rfl, hh⟩ := fin4 h
      simp only [cAs, cA_c, cA_agg, cA_tup, act, cut_c, mkA_c, cCs_length, hh]
    · exact absurd h bad_ne
  case ext i =>
    simp only [act] at h
    split at h
    · rename_i l
      split at h
      · rename_i b cs hl
        obtain ⟨rfl, rfl, rfl, hh⟩ := fin4 h
        have : ∀ (l : List (Bool × List CV)) (i : Nat), l[i]? = some (b, cs) → (cT ρ l)[i]? = some (b, cCs ρ cs) := by
          intro l
          induction l with
          | nil => intro i hi; simp at hi
          | cons x r ih =>
            intro i hi
            obtain ⟨b', cs'⟩ := x
            cases i with
            | zero => simp at hi; obtain ⟨rfl, rfl⟩ := hi; simp [cT]
            | succ i => simp at hi; simp only [cT, List.getElem?_cons_succ]; exact ih i hi
        simp only [cAs, cA_c, cA_agg, cA_tup, act, this l i hl, mkA_c]
      · exact absurd h bad_ne
    · exact absurd h bad_ne
  case lenS =>
    simp only [act] at h
    split at h
    · obtain ⟨rfl, rfl, rfl, hh⟩ := fin4 h
      simp only [cAs, cA_c, cA_agg, cA_tup, cC_p, cC_ipt, cC_ref, cC_mp, cC_aref, cC_arr, cP_lit, act, pint]
    · exact absurd h bad_ne
  case lenL =>
    simp only [act] at h
    split at h
    · split at h
      · obtain ⟨rfl, rfl, rfl, hh⟩ := fin4 h
        obtain ⟨g1, g2⟩ := okS_ok hs
        simp only [cAs, cA_c, cA_agg, cA_tup, cC_p, cC_ipt, cC_ref, cC_mp, cC_aref, cC_arr, cP_sl g1 g2, act, pint, cPss_length, cP_lit]
      · obtain ⟨rfl, rfl, rfl, hh⟩ := fin4 h
        obtain ⟨g1, g2⟩ := okS_ok hs
        simp only [cAs, cA_c, cA_agg, cA_tup, cC_own g1 g2, act, pint, cPss_length, cC_p, cC_ipt, cC_ref, cC_mp, cC_aref, cC_arr, cP_lit]
      · rename_i sz _ _
        obtain ⟨rfl, rfl, rfl, hh⟩ := fin4 h
        have g2 := nSP (show (!(sz == SPAR)) = true from hs)
        simp only [cAs, cA_c, cA_agg, cA_tup, cC_p, cC_ipt, cC_ref, cC_mp, cC_aref, cC_arr, if_neg g2, act, pint, cP_lit]
      · exact absurd h bad_ne
    · exact absurd h bad_ne
  case lenM =>
    simp only [act] at h
    split at h
    · split at h
      · rename_i es hg
        obtain ⟨rfl, rfl, rfl, hh⟩ := fin4 h
        simp only [cAs, cA_c, cA_agg, cA_tup, cC_p, cC_ipt, cC_ref, cC_mp, cC_aref, cC_arr, act, hfs, hget hg, cH_box, cH_arr, cH_map, cM_length, pint, cP_lit]
      · exact absurd h bad_ne
    · exact absurd h bad_ne
  case app sz bytes =>
    obtain ⟨g1, g2⟩ := okS_ok hc
    simp only [act] at h
    split at h
    · split at h
      · rename_i ys hy
        split at h
        · obtain ⟨rfl, rfl, rfl, hh⟩ := fin4 h
          have hsz := hh
          simp only [decide_eq_true_eq] at hsz
          obtain ⟨rfl, -⟩ := hsz
          simp only [true_and] at hh
          simp only [true_and, cAs, cA_c, cA_agg, cA_tup, cC_own g1 g2, act, hfs, listOf_c g1 g2 hy, cPss_length, hh, appP_c]
        · exact absurd h bad_ne
      · exact absurd h bad_ne
    · exact absurd h bad_ne
  case mx =>
    simp only [act] at h
    split at h
    · obtain ⟨rfl, rfl, rfl, hh⟩ := fin4 h
      simp only [cAs, cA_c, cA_agg, cA_tup, cC_p, cC_ipt, cC_ref, cC_mp, cC_aref, cC_arr, cP_lit, act, pint, hh]
    · exact absurd h bad_ne
  case mn =>
    simp only [act] at h
    split at h
    · obtain ⟨rfl, rfl, rfl, hh⟩ := fin4 h
      simp only [cAs, cA_c, cA_agg, cA_tup, cC_p, cC_ipt, cC_ref, cC_mp, cC_aref, cC_arr, cP_lit, act, pint, hh]
    · exact absurd h bad_ne
  case call f =>
    simp only [act] at h ⊢
    exact hcall h
  case callv =>
    simp only [act] at h
    split at h
    · rename_i f c1 c2 xs
      simp only [cAs, cA_c, cA_agg, cA_tup, cC_p, cC_ipt, cC_ref, cC_mp, cC_aref, cC_arr, cP_lit, act]
      cases hz : (c1.size == 0 && c2.size == 0) with
      | false =>
        rw [hz] at h
        simp only at h
        exact absurd h bad_ne
      | true =>
        rw [hz] at h
        have h' := hcall (f := f) (xs := xs) (by
          rw [← h]
          cases freeAs xs <;> rfl)
        rw [← h']
        cases freeAs (cAs ρ xs) <;> rfl
    · exact absurd h bad_ne
  case mkm s =>
    simp only [act] at h ⊢
    obtain ⟨rfl, rfl, rfl, hh⟩ := fin4 h
    simp only [cA_c, cA_agg, cA_tup, cC_p, cC_ipt, cC_ref, cC_mp, cC_aref, cC_arr, cF, cH_box, cH_arr, cH_map, cM, hhas_c, hh]
  case mks s sz z =>
    simp only [clK, Bool.and_eq_true] at hc
    obtain ⟨g1, g2⟩ := okS_ok hc.1
    simp only [act] at h
    split at h
    · obtain ⟨rfl, rfl, rfl, hh⟩ := fin4 h
      simp only [cAs, cA_c, cA_agg, cA_tup, cC_p, cC_ipt, cC_ref, cC_mp, cC_aref, cC_arr, cP_lit, if_neg g2, act, cF, cH_box, cH_arr, cH_map, hhas_c, hh, repl_c _ hc.2]
    · exact absurd h bad_ne
  case lk zagg z ok =>
    simp only [act] at h
    split at h
    · rename_i d k key
      split at h
      · rename_i es hg
        obtain ⟨rfl, rfl, rfl, hh⟩ := fin4 h
        simp only [cAs, cA_c, cA_agg, cA_tup, cC_p, cC_ipt, cC_ref, cC_mp, cC_aref, cC_arr, cP_lit, act, hfs, hget hg, cH_box, cH_arr, cH_map, mget_c]
        cases hm : mget key es with
        | none =>
          simp only [Option.map_none]
          have e : cCs ρ (pvs z) = pvs z := by rw [pvs_c, clPs_c hc]
          cases ok <;> simp only [if_true, Bool.false_eq_true, if_false, cA_c, cA_agg, cA_tup, cT, e, mkA_c, cCs, cC_p, cC_ipt, cC_ref, cC_mp, cC_aref, cC_arr, cP_lit, hh]
        | some p =>
          obtain ⟨b, cs⟩ := p
          simp only [Option.map_some]
          cases ok <;> simp only [if_true, Bool.false_eq_true, if_false, cA_c, cA_agg, cA_tup, cT, pvs_c, mkA_c, cCs, cC_p, cC_ipt, cC_ref, cC_mp, cC_aref, cC_arr, cP_lit, hh]
      · exact absurd h bad_ne
    · exact absurd h bad_ne
  case mu =>
    simp only [act] at h
    split at h
    · rename_i d k key v
      split at h
      · rename_i es xs hg hl
        split at h
        · rename_i a b hq
          obtain ⟨rfl, rfl, rfl, hh⟩ := fin4 h
          simp only [cAs, cA_c, cA_agg, cA_tup, cC_p, cC_ipt, cC_ref, cC_mp, cC_aref, cC_arr, cP_lit, act, hfs, hget hg, cH_box, cH_arr, cH_map, cellsP_c hl, isAggA_c, mset_c]
          have e1 : setH d k (.map (cM ρ (mset key (isAggA v, xs) es))) (cFs ρ (fr :: up)) = cF ρ a :: cFs ρ b := hset hq
          rw [e1]
          simp only [hh]; rfl
        · exact absurd h bad_ne
      · exact absurd h bad_ne
    · exact absurd h bad_ne
  case copy sz =>
    obtain ⟨g1, g2⟩ := okS_ok hc
    simp only [act] at h
    split at h
    · rename_i d k sz' off n y
      split at h
      · rename_i sz2 l ys hg hy
        split at h
        · rename_i a b hq
          obtain ⟨rfl, rfl, rfl, hh⟩ := fin4 h
          have hsz := hh
          simp only [decide_eq_true_eq] at hsz
          obtain ⟨rfl, rfl, -, -⟩ := hsz
          simp only [cAs, cA_c, cA_agg, cA_tup, cC_p, cC_ipt, cC_ref, cC_mp, cC_aref, cC_arr, if_neg g2, act, hfs, hget hg, cH_box, cH_arr, cH_map, listOf_c g1 g2 hy]
          have e1 : setH d k (.arr sz2 (put (cPss ρ l) off (cPss ρ ys))) (cFs ρ (fr :: up)) = cF ρ a :: cFs ρ b := by
            rw [putPP_c]
            have := hset hq
            simp only [cH_box, cH_arr, cH_map, if_neg g2] at this
            exact this
          rw [e1]
          simp only [true_and] at hh
          simp only [cPss_length, true_and, hh, pint, cA_c, cC_p, cP_lit]
        · exact absurd h bad_ne
      · exact absurd h bad_ne
    · exact absurd h bad_ne
  case slS lo hi =>
    cases lo <;> cases hi <;> simp only [act] at h
    · exact absurd h bad_ne
    · split at h
      · obtain ⟨rfl, rfl, rfl, hh⟩ := fin4 h; simp only [cAs, cA_c, cA_agg, cA_tup, cC_p, cC_ipt, cC_ref, cC_mp, cC_aref, cC_arr, cP_lit, act, hh]
      · exact absurd h bad_ne
    · split at h
      · obtain ⟨rfl, rfl, rfl, hh⟩ := fin4 h; simp only [cAs, cA_c, cA_agg, cA_tup, cC_p, cC_ipt, cC_ref, cC_mp, cC_aref, cC_arr, cP_lit, act, hh]
      · exact absurd h bad_ne
    · split at h
      · obtain ⟨rfl, rfl, rfl, hh⟩ := fin4 h; simp only [cAs, cA_c, cA_agg, cA_tup, cC_p, cC_ipt, cC_ref, cC_mp, cC_aref, cC_arr, cP_lit, act, hh]
      · exact absurd h bad_ne
  case slL sz lo hi =>
    obtain ⟨g1, g2⟩ := okS_ok hc
    have e : ∀ l : List (List PV), cP ρ (.sl sz l) = .sl sz (cPss ρ l) := fun l => cP_sl g1 g2 l
    cases lo <;> cases hi <;> simp only [act] at h
    · exact absurd h bad_ne
    · split at h
      · split at h
        · rename_i l hl
          obtain ⟨rfl, rfl, rfl, hh⟩ := fin4 h
          simp only [cAs, cA_c, cA_agg, cA_tup, cC_p, cC_ipt, cC_ref, cC_mp, cC_aref, cC_arr, cP_lit, act, slOf_c g1 g2 hl, cPss_length, hh, e, cPss_map, List.map_take, List.map_drop, List.length_map]
        · exact absurd h bad_ne
      · exact absurd h bad_ne
    · split at h
      · split at h
        · rename_i l hl
          obtain ⟨rfl, rfl, rfl, hh⟩ := fin4 h
          simp only [cAs, cA_c, cA_agg, cA_tup, cC_p, cC_ipt, cC_ref, cC_mp, cC_aref, cC_arr, cP_lit, act, slOf_c g1 g2 hl, cPss_length, hh, e, cPss_map, List.map_take, List.map_drop, List.length_map]
        · exact absurd h bad_ne
      · exact absurd h bad_ne
    · split at h
      · split at h
        · rename_i l hl
          obtain ⟨rfl, rfl, rfl, hh⟩ := fin4 h
          simp only [cAs, cA_c, cA_agg, cA_tup, cC_p, cC_ipt, cC_ref, cC_mp, cC_aref, cC_arr, cP_lit, act, slOf_c g1 g2 hl, cPss_length, hh, e, cPss_map, List.map_take, List.map_drop, List.length_map]
        · exact absurd h bad_ne
      · exact absurd h bad_ne
  all_goals
    simp only [act] at h
    exact absurd h bad_ne
end Go.ScE
