/- E17: calls: the evaluator is sound. -/
import Derived.Test.YtomklnbaaelchaaDoorSE16
set_option linter.unusedVariables false
set_option linter.unusedSimpArgs false
namespace Go.ScE

def agRes (P : Program) : List XRes → List ResultVar → Bool
  | [], [] => true
  | .tmp t :: r, .tmp u :: s => t == u && agRes P r s
  | .cell t agg n :: r, .cell u ty :: s => t == u && aggB P ty == some agg && sizeB P ty == some n && (agg || n == 1) && agRes P r s
  | _, _ => false
def agF (P : Program) (f : FuncId) (xf : XFunc) : Bool := match P.funcs[f]? with
  | some fn => (match fn.body with
    | some c => fn.name != "runtime.NumGoroutine" && decide (xf.np ≤ fn.ntmps) && agC P fn.ntmps xf.body c && agRes P xf.res fn.results.toList
    | none => false)
  | none => false

section
variable {P : Program}

inductive All2 {α β : Type} (R : α → β → Prop) : List α → List β → Prop
  | nil : All2 R [] []
  | cons {a : α} {b : β} {l : List α} {m : List β} (h : R a b) (t : All2 R l m) : All2 R (a :: l) (b :: m)

def resSem (tmps : Array Value) : ResultVar → Sem Value
  | .tmp t => pure (tmps.getD t undef)
  | .cell a t => do loadVar t (← asAddr (tmps.getD a undef))

theorem run_mapM {w : World} {tmps : Array Value} {rs : List ResultVar} {vs : List Value} (h : All2 (fun r v => (resSem tmps r).run P w = .ok v w) rs vs) : (rs.mapM (resSem tmps)).run P w = .ok vs w := by
  induction h with
  | nil => simp
  | cons h1 h2 ih => simp [List.mapM_cons, h1, ih]

/-- The rows of a frame. -/
def RowAt (β : Bet) (fr : Fram) (g : Nat) : Prop := ∃ k sz l, hget k fr = some (.arr sz l) ∧ β 0 k = some g
theorem RepFr.row {γ : Gh} {w : World} {β : Bet} {f : Fram} {c : Bud} (h : RepFr γ w β f c) {g : Nat} (hr : RowAt β f g) : 1 ≤ c g ∧ ∀ o, γ.S g o = none := by
  obtain ⟨k, sz, l, hk, hb⟩ := hr
  obtain ⟨g', c1, c2, hb', hH, hs, -⟩ := h.focus hk
  rw [hb] at hb'; cases hb'
  cases hH with
  | arr hh hn hl hr hS hc => exact ⟨by have := hs g; omega, hS⟩
theorem RepFr.rowOf {γ : Gh} {w : World} {β : Bet} {f : Fram} {c : Bud} (h : RepFr γ w β f c) {k sz g : Nat} {l : List (List PV)} (hk : hget k f = some (.arr sz l)) (hb : β 0 k = some g) :
    ∃ (vs : Array Value) (e : TypeId), w.heap[g]? = some (.cells vs e (0, 0)) ∧ (∀ (i : Nat) (c : List PV), l[i]? = some c → c.length = sz) ∧
      ∀ (i : Nat) (c : List PV) (j : Nat) (p : PV), l[i]? = some c → c[j]? = some p → ∃ v, vs[i * sz + j]? = some v ∧ RepP γ v p := by
  obtain ⟨g', c1, c2, hb', hH, hs, -⟩ := h.focus hk
  rw [hb] at hb'; cases hb'
  cases hH with
  | arr hh hn hl hr hS hc => exact ⟨_, _, hh, hl, hr⟩
theorem hget_hset_ne (k k' : Nat) (h : HO) (hne : k' ≠ k) : ∀ f : Fram, hget k' (hset k h f) = hget k' f
  | [] => rfl
  | (j, x) :: r => by
    by_cases a : j = k
    · subst a; simp [hset, hget, Ne.symm hne]
    · simp only [hset, if_neg a, hget]
      split
      · rfl
      · exact hget_hset_ne k k' h hne r

open Classical in
noncomputable def frzG (γ : Gh) (β : Bet) (w : World) (fr : Fram) : Gh := ⟨fun g o => if RowAt β fr g then w.cell? ⟨g, o, none⟩ else γ.S g o, γ.Z⟩
theorem frzG_in {γ : Gh} {β : Bet} {w : World} {fr : Fram} {g : Nat} (h : RowAt β fr g) (o : Nat) : (frzG γ β w fr).S g o = w.cell? ⟨g, o, none⟩ := by simp [frzG, h]
theorem frzG_out {γ : Gh} {β : Bet} {w : World} {fr : Fram} {g : Nat} (h : ¬ RowAt β fr g) (o : Nat) : (frzG γ β w fr).S g o = γ.S g o := by simp [frzG, h]
theorem frzG_le {γ : Gh} {β : Bet} {w : World} {fr : Fram} {c : Bud} (h : RepFr γ w β fr c) : γ.le (frzG γ β w fr) := ⟨fun g o v hv => by
  by_cases hr : RowAt β fr g
  · rw [(h.row hr).2 o] at hv; cases hv
  · rw [frzG_out hr]; exact hv, fun _ _ h => h⟩
theorem frzG_ok {γ : Gh} {β : Bet} {w : World} {fr : Fram} (h : WOk γ w) : WOk (frzG γ β w fr) w := ⟨fun g o v hv => by
  by_cases hr : RowAt β fr g
  · rw [frzG_in hr] at hv; exact hv
  · rw [frzG_out hr] at hv; exact h.cell g o v hv, h.size⟩
theorem frzC_rep {γ : Gh} {β : Bet} {w : World} {fr : Fram} {c : Bud} (hf : RepFr γ w β fr c) {v : Value} {x : CV} {d : Bud} (h : RepC (frzG γ β w fr) β v x d) : RepC (frzG γ β w fr) β v (frzC fr x) d := by
  unfold frzC
  split
  · rename_i k sz off n
    split
    · rename_i sz' l hk
      split
      · rename_i hc
        obtain ⟨rfl, hon⟩ := hc
        cases h with
        | arr hb hcap =>
          rename_i cap g
          obtain ⟨vs, e, hh, hl, hr⟩ := hf.rowOf hk hb
          have hlen : ((l.drop off).take n).length = n := by simp; omega
          have hat : ∀ (i : Nat) (c : List PV), ((l.drop off).take n)[i]? = some c → l[off + i]? = some c := fun i c hi => by
            rw [List.getElem?_take] at hi
            split at hi
            · rw [List.getElem?_drop] at hi; exact hi
            · cases hi
          have hrow : RowAt β fr g := ⟨k, sz', l, hk, hb⟩
          have hle := frzG_le hf
          have := RepP.sl (γ := frzG γ β w fr) g (off * sz') cap sz' ((l.drop off).take n) (fun i j => vs.getD ((off + i) * sz' + j) undef) (by rw [hlen]; exact hcap) (fun i c hi => hl _ c (hat i c hi)) (fun i c j p hi hj => by
            obtain ⟨v, hv, -⟩ := hr _ c j p (hat i c hi) hj
            rw [frzG_in hrow, cell_of_block w g _ vs e _ hh, show off * sz' + i * sz' + j = (off + i) * sz' + j by rw [Nat.add_mul], hv, Array.getD_eq_getD_getElem?, hv]; rfl) (fun i c j p hi hj => by
            obtain ⟨v, hv, hp⟩ := hr _ c j p (hat i c hi) hj
            rw [Array.getD_eq_getD_getElem?, hv]; exact hp.mono hle)
          rw [hlen] at this
          exact .p this
      · exact h
    · exact h
  · exact h
theorem frzL_rep {γ : Gh} {β : Bet} {w : World} {fr : Fram} {c : Bud} (hf : RepFr γ w β fr c) {vs : List Value} {xs : List CV} {d : Bud} (h : RepCs (frzG γ β w fr) β vs xs d) : RepCs (frzG γ β w fr) β vs (frzL fr xs) d := by
  induction h with
  | nil => exact .nil
  | cons h r hc ih => exact .cons (frzC_rep hf h) ih hc
theorem frzT_rep {γ : Gh} {β : Bet} {w : World} {fr : Fram} {c : Bud} (hf : RepFr γ w β fr c) {vs : List Value} {xs : List (Bool × List CV)} {d : Bud} (h : RepT (frzG γ β w fr) β vs xs d) : RepT (frzG γ β w fr) β vs (frzT fr xs) d := by
  induction h with
  | nil => exact .nil
  | agg h t hc ih => exact .agg (frzL_rep hf h) ih hc
  | one h t hc ih => exact .one (frzC_rep hf h) ih hc
  | dead t ih => exact .dead ih
theorem frzA_rep {γ : Gh} {β : Bet} {w : World} {fr : Fram} {c : Bud} (hf : RepFr γ w β fr c) {v : Value} {x : AV} {d : Bud} (h : RepA (frzG γ β w fr) β v x d) : RepA (frzG γ β w fr) β v (frzA fr x) d := by
  cases h with
  | dead => exact .dead
  | c h => exact .c (frzC_rep hf h)
  | agg h => exact .agg (frzL_rep hf h)
  | tup h => exact .tup (frzT_rep hf h)

theorem resXs_sound {N : Nat} {γ : Gh} {β : Bet} {w : World} {a : Act} : ∀ {xs : List XRes} {rs : List ResultVar} {σ : St} {m : Bud} {l : List (Bool × List CV)} (_ : SInv N γ β w a σ m) (_ : agRes P xs rs = true) (_ : resXs σ xs = some l),
    ∃ vs cr cf, All2 (fun r v => (resSem a.tmps r).run P w = .ok v w) rs vs ∧ RepT γ β vs l cr ∧ RepFs γ w (β.sub 1) σ.up cf ∧ (∀ g, cr g + cf g ≤ m g) ∧ ∀ g, RowAt β σ.fr g → cr g = 0 ∧ cf g = 0
  | [], [], σ, m, l, h, _, hl => by
    simp only [resXs, Option.some.injEq] at hl; subst hl
    obtain ⟨ce, cf, he, hf, hs⟩ := h.rep
    cases hf with
    | cons hfr t hc => rename_i d1 d2; exact ⟨[], none0, d2, .nil, .nil, t, fun g => by have := hc g; have := hs g; show 0 + d2 g ≤ m g; omega, fun g hg => ⟨rfl, by have := (hfr.row hg).1; have := hc g; have := hs g; have := h.mok.one g; omega⟩⟩
  | .tmp t :: xs, .tmp u :: rs, σ, m, l, h, hag, hl => by
    simp only [agRes, Bool.and_eq_true, beq_iff_eq] at hag
    obtain ⟨rfl, hag⟩ := hag
    obtain ⟨ce, cf, he, hf, hs⟩ := h.rep
    simp only [resXs] at hl
    split at hl
    case h_2 => cases hl
    rename_i x σ1 hx
    split at hl
    case h_2 => cases hl
    rename_i ls hls
    cases hl
    obtain ⟨c1, c2, hc, hv, he2⟩ := he.take t (by simp)
    have hrow0 : ∀ g, RowAt β σ.fr g → c1 g = 0 := fun g hg => by
      cases hf with
      | cons hfr t hc3 => have := (hfr.row hg).1; have := hc3 g; have := hs g; have := hc g; have := h.mok.one g; omega
    have mk : ∀ {y : AV}, RepA γ β (a.tmps.getD t undef) y c1 → SInv N γ β w a { σ with env := (t, demA y) :: σ.env } fun g => m g - c1 g := fun {y} hv => by
      refine ⟨h.wok, ⟨fun g => by have := h.mok.one g; show m g - c1 g ≤ 1; omega, fun g hg => by have := h.mok.out g hg; show m g - c1 g = 0; omega⟩, h.dom, h.defers, h.size, c2, cf, ?_, hf, fun g => by have := hs g; have := hc g; show c2 g + cf g ≤ m g - c1 g; omega⟩
      exact .cons (c1 := none0) (by simp) (hv.dem _) he2 (fun g => by simp)
    simp only [resX] at hx
    split at hx
    · rename_i y hy
      rw [hy] at hv
      simp only [Option.some.injEq, Prod.mk.injEq] at hx
      obtain ⟨rfl, rfl⟩ := hx
      obtain ⟨vs, cr, cf', h1, h2, h3, h4, h5⟩ := resXs_sound (mk hv) hag hls
      refine ⟨_ :: vs, fun g => c1 g + cr g, cf', .cons rfl h1, ?_, h3, fun g => by have := h4 g; have := hs g; have := hc g; show c1 g + cr g + cf' g ≤ m g; simp at *; omega, fun g hg => ⟨by show c1 g + cr g = 0; rw [hrow0 g hg, (h5 g hg).1], (h5 g hg).2⟩⟩
      generalize a.tmps.getD t undef = v at hv
      cases hv with
      | dead => exact (RepT.dead h2).weak fun g => Nat.le_add_left _ _
      | c hv => exact .one hv h2 (fun g => Nat.le_refl _)
    · rename_i y hy
      rw [hy] at hv
      simp only [Option.some.injEq, Prod.mk.injEq] at hx
      obtain ⟨rfl, rfl⟩ := hx
      obtain ⟨vs, cr, cf', h1, h2, h3, h4, h5⟩ := resXs_sound (mk hv) hag hls
      refine ⟨_ :: vs, fun g => c1 g + cr g, cf', .cons rfl h1, ?_, h3, fun g => by have := h4 g; have := hs g; have := hc g; show c1 g + cr g + cf' g ≤ m g; simp at *; omega, fun g hg => ⟨by show c1 g + cr g = 0; rw [hrow0 g hg, (h5 g hg).1], (h5 g hg).2⟩⟩
      generalize a.tmps.getD t undef = v at hv
      cases hv with
      | agg hv => exact .agg hv h2 (fun g => Nat.le_refl _)
    · cases hx
  | .cell t agg n :: xs, .cell u ty :: rs, σ, m, l, h, hag, hl => by
    simp only [agRes, Bool.and_eq_true, beq_iff_eq, Bool.or_eq_true] at hag
    obtain ⟨⟨⟨⟨rfl, ha⟩, hs0⟩, h1'⟩, hag⟩ := hag
    have h1 : agg = false → n = 1 := fun e => by rcases h1' with h | h; rw [e] at h; cases h; exact h
    obtain ⟨ce, cf, he, hf, hs⟩ := h.rep
    simp only [resXs] at hl
    split at hl
    case h_2 => cases hl
    rename_i x σ1 hx
    split at hl
    case h_2 => cases hl
    rename_i ls hls
    cases hl
    have hv := he.look t (by simp)
    simp only [resX] at hx
    split at hx
    case h_2 => cases hx
    rename_i k off hk
    rw [hk] at hv
    split at hx
    case h_2 => cases hx
    rename_i cs hcs
    split at hx
    case isFalse => cases hx
    rename_i hoff
    simp only [Option.some.injEq, Prod.mk.injEq] at hx
    obtain ⟨rfl, rfl⟩ := hx
    generalize hgv : a.tmps.getD t undef = v at hv
    cases hv with
    | c hv => cases hv with
      | ref hb =>
        rename_i g
        cases hf with
        | cons hfr t0 hc0 =>
          rename_i d1 d2
          obtain ⟨g', e1, e2, hb', hH, hsp, hup⟩ := hfr.focus hcs
          rw [hb] at hb'; cases hb'
          cases hH with
          | box hh hr hS hc =>
            rename_i vs0 e f1
            obtain ⟨t1, t2, ht, ht1, ht2⟩ := hr.takeCut off n hoff
            have hnew := hup (γ' := γ) (w' := w) (β' := β) (c1' := fun g' => t2 g' + if g' = g then 1 else 0) (ho' := .box (put cs off (untakeL (cut off n cs)))) (.refl γ) (fun _ _ _ h => h) ⟨fun _ _ _ => rfl, fun _ _ => rfl⟩ (.box hh ht2 hS (fun g => Nat.le_refl _))
            have hinv : SInv N γ β w a { σ with fr := hset k (.box (put cs off (untakeL (cut off n cs)))) σ.fr } fun g => m g - t1 g := by
              refine ⟨h.wok, ⟨fun g => by have := h.mok.one g; show m g - t1 g ≤ 1; omega, fun g hg => by have := h.mok.out g hg; show m g - t1 g = 0; omega⟩, fun k' g' hk' => hhas_set k k' _ _ (h.dom k' g' hk'), h.defers, h.size, ce, fun g' => (t2 g' + (if g' = g then 1 else 0) + e2 g') + d2 g', he, .cons hnew t0 (fun g => Nat.le_refl _), fun g' => ?_⟩
              have := hs g'; have := hc0 g'; have := hsp g'; have := hc g'; have := ht g'
              show ce g' + (t2 g' + (if g' = g then 1 else 0) + e2 g' + d2 g') ≤ m g' - t1 g'
              omega
            obtain ⟨vs, cr, cf', k1, k2, k3, k4, k5⟩ := resXs_sound hinv hag hls
            have hlen : (cut off n cs).length = n := cut_length _ _ _ hoff
            refine ⟨mkV agg (cut off n vs0.toList) :: vs, fun g => t1 g + cr g, cf', .cons ?_ k1, ?_, k3, fun g' => by
              have := k4 g'; have := hs g'; have := hc0 g'; have := hsp g'; have := hc g'; have := ht g'
              show t1 g' + cr g' + cf' g' ≤ m g'
              simp at *; omega, fun g' hg' => ?_⟩
            · show (do loadVar ty (← asAddr (a.tmps.getD t undef)) : Sem Value).run P w = _
              rw [hgv]
              simp only [asAddr, Sem.run_bind, Sem.run_pure, Result.andThen_ok]
              refine run_loadVar ha hs0 h1 w _ _ (cut_length _ _ _ (by rw [hr.length]; exact hoff)) (fun j v hv => ?_)
              rw [cut_get] at hv
              split at hv
              · rw [add_off, cell_of_block w g _ vs0 e _ hh]; simpa using hv
              · cases hv
            · cases agg with
              | true => exact .agg (by simpa using ht1) k2 (fun g => Nat.le_refl _)
              | false =>
                have hn := h1 rfl
                subst hn
                cases hcc : cut off 1 cs with
                | nil => rw [hcc] at hlen; simp at hlen
                | cons y r =>
                  rw [hcc] at ht1 hlen
                  have hr0 : r = [] := List.eq_nil_of_length_eq_zero (by simpa using hlen)
                  subst hr0
                  generalize cut off 1 vs0.toList = vv at ht1 ⊢
                  cases ht1 with
                  | cons hy hnil hcy => cases hnil; exact .one (hy.weak (le_of_split1 hcy)) k2 (fun g => Nat.le_refl _)
            · have hrow2 : RowAt β (hset k (.box (put cs off (untakeL (cut off n cs)))) σ.fr) g' := by
                obtain ⟨k', sz, l, hk', hb'⟩ := hg'
                refine ⟨k', sz, l, ?_, hb'⟩
                rw [hget_hset_ne k k' _ (fun e => by subst e; rw [hcs] at hk'; cases hk')]; exact hk'
              have q1 := (hnew.row hrow2).1
              have := hs g'; have := hc0 g'; have := hsp g'; have := hc g'; have := ht g'; have := h.mok.one g'
              obtain ⟨q2, q3⟩ := k5 g' hrow2
              exact ⟨by show t1 g' + cr g' = 0; omega, q3⟩
  | [], .tmp _ :: _, _, _, _, _, hag, _ => by simp [agRes] at hag
  | [], .cell _ _ :: _, _, _, _, _, hag, _ => by simp [agRes] at hag
  | .tmp _ :: _, [], _, _, _, _, hag, _ => by simp [agRes] at hag
  | .cell _ _ _ :: _, [], _, _, _, _, hag, _ => by simp [agRes] at hag
  | .tmp _ :: _, .cell _ _ :: _, _, _, _, _, hag, _ => by simp [agRes] at hag
  | .cell _ _ _ :: _, .tmp _ :: _, _, _, _, _, hag, _ => by simp [agRes] at hag

theorem tupA_rep {γ : Gh} {β : Bet} {vs : List Value} {l : List (Bool × List CV)} {c : Bud} (h : RepT γ β vs l c) : RepA γ β (if h : vs.toArray.size = 1 then vs.toArray[0] else .tuple vs.toArray) (tupA l) c := by
  cases h with
  | nil => simpa [tupA] using RepA.tup (vs := #[]) (.nil (γ := γ) (β := β) (c := c))
  | agg h t hc =>
    cases t with
    | nil => simpa [tupA, mkA] using (RepA.agg h).weak (le_of_split1 hc)
    | agg h2 t2 hc2 => simpa [tupA] using RepA.tup (by simpa using RepT.agg h (.agg h2 t2 hc2) hc)
    | one h2 t2 hc2 => simpa [tupA] using RepA.tup (by simpa using RepT.agg h (.one h2 t2 hc2) hc)
    | dead t2 => simpa [tupA] using RepA.tup (by simpa using RepT.agg h (.dead t2) hc)
  | one h t hc =>
    cases t with
    | nil => simpa [tupA, mkA] using (RepA.c h).weak (le_of_split1 hc)
    | agg h2 t2 hc2 => simpa [tupA] using RepA.tup (by simpa using RepT.one h (.agg h2 t2 hc2) hc)
    | one h2 t2 hc2 => simpa [tupA] using RepA.tup (by simpa using RepT.one h (.one h2 t2 hc2) hc)
    | dead t2 => simpa [tupA] using RepA.tup (by simpa using RepT.one h (.dead t2) hc)
  | dead t =>
    cases t with
    | nil => simpa [tupA, mkA] using RepA.dead
    | agg h2 t2 hc2 => simpa [tupA] using RepA.tup (by simpa using RepT.dead (.agg h2 t2 hc2))
    | one h2 t2 hc2 => simpa [tupA] using RepA.tup (by simpa using RepT.dead (.one h2 t2 hc2))
    | dead t2 => simpa [tupA] using RepA.tup (by simpa using RepT.dead (.dead t2))

theorem zip_rep {γ : Gh} {β : Bet} {tm : Array Value} : ∀ {us : List Value} {xs : List AV} {c : Bud} (i : Nat) (s : List Nat) (_ : RepAs γ β us xs c) (_ : ∀ j v, us[j]? = some v → tm.getD (i + j) undef = v) (_ : ∀ t, t ∈ s → t < i), RepE γ β tm s (zipArgs i xs) c
  | [], [], c, i, s, h, _, _ => .nil
  | v :: us, x :: xs, c, i, s, h, ht, hs => by
    cases h with
    | cons h r hc =>
      have h0 := ht 0 v rfl
      simp only [Nat.add_zero] at h0
      exact .cons (fun hm => by have := hs i hm; omega) (by rw [h0]; exact h) (zip_rep (i + 1) (i :: s) r (fun j u hj => by have := ht (j + 1) u (by simpa using hj); rwa [show i + (j + 1) = i + 1 + j by omega] at this) (fun t hm => by
        cases List.mem_cons.1 hm with
        | inl e => omega
        | inr e => have := hs t e; omega)) hc
  | [], _ :: _, _, _, _, h, _, _ => by cases h
  | _ :: _, [], _, _, _, h, _, _ => by cases h

theorem upAs_length (n : Nat) (xs : List AV) : (upAs n xs).length = xs.length := by induction xs <;> simp_all [upAs]

theorem runX_sound {C : Callee} (hC : CSound P C) (hall : ∀ f args frames r frames', C f args frames = (r, frames', true) → fnOk P f = true) {n : Nat} {f : FuncId} {xf : XFunc} (hag : agF P f xf = true) {args : List AV} {frames frames' : List Fram} {r : AV} (hrun : runX C n xf args frames = (r, frames', true)) :
    Keeps frames frames' ∧ ∀ (γ : Gh) (β : Bet) (w : World) (m c1 c2 : Bud) (us : List Value), WOk γ w → Mok w m → RepAs γ β us args c1 → RepFs γ w β frames c2 → (∀ g, c1 g + c2 g ≤ m g) →
    Calls P f us.toArray w fun e w' => ∃ v γ' m' cr cf, e = .returned v ∧ Stp m w γ w' γ' m' ∧ RepA γ' β v r cr ∧ RepFs γ' w' β frames' cf ∧ ∀ g, cr g + cf g ≤ m' g := by
  unfold agF at hag
  split at hag
  case h_2 => cases hag
  rename_i fn hfn
  split at hag
  case h_2 => cases hag
  rename_i c hbody
  simp only [Bool.and_eq_true, decide_eq_true_eq] at hag
  obtain ⟨⟨⟨-, hnp⟩, hcode⟩, hres⟩ := hag
  unfold runX at hrun
  generalize hσ0 : ({ env := zipArgs 0 (upAs 1 args), fr := [], up := frames, ok := args.length == xf.np } : St) = σ0 at hrun
  cases hev : evC C n xf.body σ0 with
  | mk e1 σ1 =>
  rw [hev] at hrun
  have hdone : ∃ rs, resXs σ1 xf.res = some rs ∧ r = downA 1 (frzA σ1.fr (tupA rs)) ∧ frames' = σ1.up ∧ σ1.ok = true ∧ outA 1 (frzA σ1.fr (tupA rs)) = true ∧ (e1 = .normal ∨ e1 = .ret) := by
    cases e1 with
    | exit i => simp at hrun
    | normal =>
      simp only at hrun
      split at hrun
      · simp at hrun
      · rename_i rs hrs
        simp only [Prod.mk.injEq, Bool.and_eq_true] at hrun
        exact ⟨rs, hrs, hrun.1.symm, hrun.2.1.symm, hrun.2.2.1, hrun.2.2.2, .inl rfl⟩
    | ret =>
      simp only at hrun
      split at hrun
      · simp at hrun
      · rename_i rs hrs
        simp only [Prod.mk.injEq, Bool.and_eq_true] at hrun
        exact ⟨rs, hrs, hrun.1.symm, hrun.2.1.symm, hrun.2.2.1, hrun.2.2.2, .inr rfl⟩
  obtain ⟨rs, hrs, rfl, rfl, hok, hout, hend⟩ := hdone
  have hok' : (evC C n xf.body σ0).2.ok = true := by rw [hev]; exact hok
  have hok0 : σ0.ok = true := evC_ok hok'
  have hlen : args.length = xf.np := by subst hσ0; simpa using hok0
  -- the run, over any world
  have main : ∀ (γ : Gh) (β : Bet) (w : World) (m c1 c2 : Bud) (us : List Value), WOk γ w → Mok w m → RepAs γ β us args c1 → RepFs γ w β frames c2 → (∀ g, c1 g + c2 g ≤ m g) →
      let β0 : Bet := fun d k => match d with | 0 => none | d + 1 => β d k
      c.wp P (fun e a' w' => e = toExit e1 ∧ After fn.ntmps m w γ β0 σ0 σ1 a' w') { tmps := us.toArray ++ Array.replicate (fn.ntmps - us.toArray.size) undef, defers := [] } w := by
    intro γ β w m c1 c2 us hw hm ha hf hs β0
    have hβ : β0.sub 1 = β := rfl
    have husl : us.length = xf.np := by rw [ha.len, hlen]
    have hinv : SInv fn.ntmps γ β0 w { tmps := us.toArray ++ Array.replicate (fn.ntmps - us.toArray.size) undef, defers := [] } σ0 m := by
      subst hσ0
      refine ⟨hw, hm, fun k g hk => by simp [β0] at hk, rfl, ?_, c1, c2, ?_, ?_, hs⟩
      · simp; omega
      · have hau : RepAs γ β0 us (upAs 1 args) c1 := RepAs.up (n := 1) (by rw [hβ]; exact ha)
        refine zip_rep 0 [] hau (fun j v hj => ?_) (by simp)
        have hlt : j < us.length := (List.getElem?_eq_some_iff.1 hj).1
        rw [Nat.zero_add, Array.getD_eq_getD_getElem?, Array.getElem?_append_left (by simpa using hlt)]
        simp [hj]
      · exact .cons (c1 := none0) .nil (by rw [hβ]; exact hf) (fun g => by simp)
    have := evC_sound hC hall n hcode hinv hok'
    rw [hev] at this
    exact this
  constructor
  · -- sites stay: by the code alone
    have : ∀ {x : XCode} {σ : St}, (evC C n x σ).2.ok = true → Keeps σ.up (evC C n x σ).2.up := by
      have hstep : ∀ {x : XOper} {σ : St}, (stepX C x σ).ok = true → Keeps σ.up (stepX C x σ).up := by
        intro x σ h
        unfold stepX at h ⊢
        cases hw : wantedX σ.env x.g with
        | none => rw [hw] at h; cases h
        | some b =>
          rw [hw] at h
          cases b with
          | false => exact .refl _
          | true =>
            simp only at h ⊢
            generalize rdOs σ.env x.xs = q at h ⊢
            obtain ⟨vs, e1⟩ := q
            simp only at h ⊢
            generalize hact : act C x.op vs σ.fr σ.up = q at h ⊢
            obtain ⟨r, fr', up', ok⟩ := q
            simp only [Bool.and_eq_true] at h ⊢
            obtain ⟨-, rfl⟩ := h
            exact act_keeps (fun f args frames r frames' hh => (hC f args frames r frames' hh).1) hact
      have hsteps : ∀ {xs : List XOper} {σ : St}, (stepsX C xs σ).ok = true → Keeps σ.up (stepsX C xs σ).up := by
        intro xs
        induction xs with
        | nil => intro σ _; exact .refl _
        | cons x xs ih => intro σ h; exact (hstep (stepsX_ok h)).trans (ih h)
      have hstepsD : ∀ {xs : List XOperD} {σ : St}, (stepsD C xs σ).ok = true → Keeps σ.up (stepsD C xs σ).up := by
        intro xs
        induction xs with
        | nil => intro σ _; exact .refl _
        | cons x xs ih =>
          intro σ h
          have hx := (stepD_ok (stepsD_ok (l := xs) h)).1
          have : Keeps σ.up (stepD C x σ).up := hstep (x := x.x) (σ := σ) hx
          exact this.trans (ih h)
      intro x
      induction x with
      | skip => intro σ _; exact .refl _
      | region d ops live => intro σ h; exact hsteps (xs := ops) (by simpa [evC] using h)
      | regionD ops live => intro σ h; exact hstepsD (xs := ops) (by simpa [evC] using h)
      | seq a b iha ihb =>
        intro σ h
        simp only [evC] at h ⊢
        cases hq : evC C n a σ with
        | mk e2 σ2 =>
          rw [hq] at h
          cases e2 with
          | normal => simp only [hq] at h ⊢; exact (by have := iha (σ := σ) (by rw [hq]; exact evC_ok h); rw [hq] at this; exact this : Keeps σ.up σ2.up).trans (ihb h)
          | exit j => simp only [hq] at h ⊢; have := iha (σ := σ) (by rw [hq]; exact h); rw [hq] at this; exact this
          | ret => simp only [hq] at h ⊢; have := iha (σ := σ) (by rw [hq]; exact h); rw [hq] at this; exact this
      | cond xo a b iha ihb =>
        intro σ h
        simp only [evC] at h ⊢
        split at h
        · rename_i t ht
          cases t with
          | true => exact iha h
          | false => exact ihb h
        · cases h
      | block id b ih =>
        intro σ h
        simp only [evC] at h ⊢
        cases hq : evC C n b σ with
        | mk e2 σ2 =>
          rw [hq] at h
          cases e2 with
          | normal => simp only [hq] at h ⊢; have := ih (σ := σ) (by rw [hq]; exact h); rw [hq] at this; exact this
          | ret => simp only [hq] at h ⊢; have := ih (σ := σ) (by rw [hq]; exact h); rw [hq] at this; exact this
          | exit j =>
            simp only [hq] at h ⊢
            have := ih (σ := σ) (by rw [hq]; split at h <;> exact h)
            rw [hq] at this
            split <;> exact this
      | loop live keep b ih =>
        intro σ h
        simp only [evC] at h ⊢
        have key : ∀ (k : Nat) {σ : St}, (loopX (evC C n b) (headX live keep) k σ).2.ok = true → Keeps σ.up (loopX (evC C n b) (headX live keep) k σ).2.up := by
          intro k
          induction k with
          | zero => intro σ h; simp [loopX] at h
          | succ k ihk =>
            intro σ h
            simp only [loopX] at h ⊢
            cases hq : evC C n b (headX live keep σ) with
            | mk e2 σ2 =>
              rw [hq] at h
              have h2 : σ2.ok = true := by
                cases e2 with
                | normal => exact loopX_ok (fun σ h => evC_ok (n := n) (x := b) h) (fun σ h => headX_ok h) h
                | exit j => exact h
                | ret => exact h
              have := ih (σ := headX live keep σ) (by rw [hq]; exact h2)
              rw [hq] at this
              cases e2 with
              | normal => simp only [hq] at h ⊢; exact this.trans (ihk h)
              | exit j => simp only [hq] at h ⊢; exact this
              | ret => simp only [hq] at h ⊢; exact this
        exact key n h
      | exit i => intro σ _; exact .refl _
      | ret => intro σ _; exact .refl _
    have h := this hok'
    rw [hev] at h
    subst hσ0
    exact h
  · intro γ β w m c1 c2 us hw hm ha hf hs
    refine calls_of_wp hfn hbody (wp_mono (main γ β w m c1 c2 us hw hm ha hf hs) ?_)
    rintro e a' w' ⟨rfl, γ', β', m', hA⟩
    obtain ⟨vs, cr, cf', k1, k2, k3, k4, k5⟩ := resXs_sound (P := P) hA.inv hres hrs
    have hβ' : β'.sub 1 = β := by funext d k; exact hA.betu d k
    have hresrun : (results fn a'.tmps).run P w' = .ok (if h : vs.toArray.size = 1 then vs.toArray[0] else .tuple vs.toArray) w' := by
      have he : results fn a'.tmps = (do let vs ← fn.results.mapM (resSem a'.tmps); pure (if h : vs.size = 1 then vs[0] else .tuple vs)) := by
        unfold results
        have : ∀ (f g : ResultVar → Sem Value), f = g → (do let vs ← fn.results.mapM f; pure (if h : vs.size = 1 then vs[0] else .tuple vs) : Sem Value) = (do let vs ← fn.results.mapM g; pure (if h : vs.size = 1 then vs[0] else .tuple vs)) := fun f g h => by rw [h]
        refine this _ _ ?_
        funext x; cases x <;> rfl
      rw [he, Array.mapM_eq_mapM_toList]
      simp [run_mapM k1]
    obtain ⟨ce0, cf0, -, hfs0, hs0⟩ := hA.inv.rep
    cases hfs0 with
    | cons hfr0 t0 hc0 =>
    rename_i d1 d2
    have hle := frzG_le hfr0
    have hkS : ∀ c : Bud, (∀ g, RowAt β' σ1.fr g → c g = 0) → KeepS γ' (frzG γ' β' w' σ1.fr) c := fun c hc g hg o => by
      by_cases hr : RowAt β' σ1.fr g
      · have := hc g hr; omega
      · exact frzG_out hr o
    have hrep := (frzA_rep hfr0 ((tupA_rep k2).mono hle (fun _ _ _ h => h) (hkS cr fun g hg => (k5 g hg).1))).down (n := 1) hout
    rw [hβ'] at hrep
    rw [hβ'] at k3
    have k3' := k3.mono hle (fun _ _ _ h => h) ⟨hkS cf' fun g hg => (k5 g hg).2, fun _ _ => rfl⟩
    have hstp : Stp m w γ w' (frzG γ' β' w' σ1.fr) m' := ⟨hA.stp.os, hA.stp.tape, hA.stp.output, hA.stp.size, hA.stp.le.trans hle, frzG_ok hA.inv.wok, hA.stp.keepH, fun g hg h0 o => by
      have : ¬ RowAt β' σ1.fr g := fun hr => by
        have := (hfr0.row hr).1; have := hc0 g; have := hs0 g; have := hA.stp.bud g hg; omega
      rw [frzG_out this]; exact hA.stp.keepS g hg h0 o, hA.stp.bud, hA.stp.mok, hA.stp.frz⟩
    have hfin : a'.defers = [] ∧ ∃ v, (results fn a'.tmps).run P w' = .ok v w' ∧ ∃ v_1 γ'' m'' cr cf, Ending.returned v = Ending.returned v_1 ∧ Stp m w γ w' γ'' m'' ∧ RepA γ'' β v_1 (downA 1 (frzA σ1.fr (tupA rs))) cr ∧ RepFs γ'' w' β σ1.up cf ∧ ∀ g, cr g + cf g ≤ m'' g :=
      ⟨hA.inv.defers, _, hresrun, _, _, m', cr, cf', rfl, hstp, hrep, k3', k4⟩
    rcases hend with rfl | rfl <;> exact hfin

/-- THE EVALUATOR IS SOUND. -/
theorem evF_sound {tbl : FuncId → Option XFunc} {ext : Callee} (hT : ∀ f xf, tbl f = some xf → agF P f xf = true) (hE : CSound P ext) (hEall : ∀ f args frames r frames', ext f args frames = (r, frames', true) → fnOk P f = true) :
    ∀ k, CSound P (evF tbl ext k) ∧ ∀ f args frames r frames', evF tbl ext k f args frames = (r, frames', true) → fnOk P f = true
  | 0 => ⟨fun f args frames r frames' h => by simp [evF] at h, fun f args frames r frames' h => by simp [evF] at h⟩
  | k + 1 => by
    obtain ⟨ih1, ih2⟩ := evF_sound hT hE hEall k
    refine ⟨fun f args frames r frames' h => ?_, fun f args frames r frames' h => ?_⟩
    · simp only [evF] at h
      split at h
      · rename_i xf hxf
        obtain ⟨h1, h2⟩ := runX_sound ih1 ih2 (hT f xf hxf) h
        exact ⟨h1, fun γ β w m c1 c2 us hw hm ha hf hs _ => h2 γ β w m c1 c2 us hw hm ha hf hs⟩
      · exact hE f args frames r frames' h
    · simp only [evF] at h
      split at h
      · rename_i xf hxf
        have := hT f xf hxf
        unfold agF at this
        unfold fnOk
        split at this
        · rename_i fn hfn
          rw [hfn]
          split at this
          · rename_i c hc
            simp only [Bool.and_eq_true] at this
            simp only [hc, Option.isSome_some, Bool.and_true]
            exact this.1.1.1
          · cases this
        · cases this
      · exact hEall f args frames r frames' h
end
end Go.ScE
