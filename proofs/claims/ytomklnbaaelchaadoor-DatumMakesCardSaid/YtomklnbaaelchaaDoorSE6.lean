/- E6: store; fields, indexes, slices; append; numbers and strings. -/
import Derived.Test.YtomklnbaaelchaaDoorSE5
set_option linter.unusedVariables false
set_option linter.unusedSimpArgs false
namespace Go.ScE
section
variable {P : Program} {mo cv cf : Bud} {w : World} {γ : Gh} {β : Bet} {us : List Value} {vs : List AV} {fr : Fram} {up : List Fram}

theorem RepCs.cellVs {vs : List Value} {xs : List CV} {c : Bud} (h : RepCs γ β vs xs c) : ∀ v, v ∈ vs → cellV v = true := by
  induction h with
  | nil => intro v hv; cases hv
  | cons h r hc ih =>
    intro v hv
    cases List.mem_cons.1 hv with
    | inl e => exact e ▸ h.cellV
    | inr e => exact ih v e

/-- A claimed block without ghosts is written: the ghosts hold. -/
theorem WOk.blk (h : WOk γ w) {g : Nat} {c c' : Array Value} {e : TypeId} (hg : w.heap[g]? = some (.cells c e (0, 0))) (hs : ∀ o, γ.S g o = Option.none) (hn : c'.size = c.size) : WOk γ (blk w g (.cells c' e (0, 0))) :=
  ⟨fun g' o v hv => by
    have hne : g' ≠ g := fun e => by subst e; rw [hs] at hv; cases hv
    rw [← h.cell g' o v hv]
    exact World.cell?_of_block (w := w) (by show (ScE.blk w g _).heap[g']? = _; rw [blk_get, if_neg hne]), fun g' n hz => by
    obtain ⟨d, e', h1, h2⟩ := h.size g' n hz
    by_cases hne : g' = g
    · subst hne
      rw [hg] at h1; cases h1
      exact ⟨c', e, by rw [blk_get, if_pos rfl, if_pos (lt_of_some hg)], by rw [hn, h2]⟩
    · exact ⟨d, e', by rw [blk_get, if_neg hne]; exact h1, h2⟩⟩
theorem blk_frz {w : World} {g : Nat} {c c' : Array Value} {e e' : TypeId} (hg : w.heap[g]? = some (.cells c e (0, 0))) (a : Addr) : (ScE.blk w g (.cells c' e' (0, 0))).frozen? a = w.frozen? a := by
  unfold World.frozen?
  by_cases h : a.block = g
  · rw [blk_get, if_pos h, h, hg, if_pos (lt_of_some hg)]
  · rw [blk_get, if_neg h]
theorem Stp.blk (hw : WOk γ w) (hm : Mok w mo) {g : Nat} {c c' : Array Value} {e : TypeId} (hg : w.heap[g]? = some (.cells c e (0, 0))) (hs : ∀ o, γ.S g o = none) (hn : c'.size = c.size) (h1 : 1 ≤ mo g) :
    Stp mo w γ (ScE.blk w g (.cells c' e (0, 0))) γ mo :=
  ⟨rfl, rfl, rfl, by simp, .refl γ, hw.blk hg hs hn, fun k _ h0 => by rw [blk_get, if_neg (by intro e; subst e; omega)], fun _ _ _ _ => rfl, fun _ _ => Nat.le_refl _, ⟨hm.one, fun k hk => hm.out k (by simpa using hk)⟩, blk_frz hg⟩
theorem keep_blk {g : Nat} {o : Obj} {c : Bud} (hc : c g = 0) : KeepW γ γ w (blk w g o) c :=
  ⟨fun _ _ _ => rfl, fun k hk => by rw [blk_get, if_neg (by intro e; subst e; omega)]⟩

theorem toP_rep {v : Value} {x : CV} {p : PV} {c : Bud} (h : RepC γ β v x c) (hp : toP x = some p) : RepP γ v p := by
  cases h with
  | p h => cases hp; exact h
  | ownNil => cases hp; exact .nil _
  | own hg hr hz hs => cases hp; exact hr
  | _ => cases hp
theorem toPs_rep : ∀ {vs : List Value} {xs : List CV} {ps : List PV} {c : Bud} (_ : RepCs γ β vs xs c) (_ : toPs xs = some ps), vs.length = ps.length ∧ ∀ (j : Nat) (p : PV) (v : Value), ps[j]? = some p → vs[j]? = some v → RepP γ v p
  | [], [], ps, c, h, hp => by cases hp; exact ⟨rfl, fun j p v h => by simp at h⟩
  | v :: vs, x :: xs, ps, c, h, hp => by
    cases h with
    | cons h r hc =>
      simp only [toPs] at hp
      split at hp
      · rename_i p qs h1 h2
        cases hp
        obtain ⟨l1, l2⟩ := toPs_rep r h2
        refine ⟨by simp [l1], fun j q u hj hu => ?_⟩
        cases j with
        | zero => simp at hj hu; subst hj; subst hu; exact toP_rep h h1
        | succ j => exact l2 j q u (by simpa using hj) (by simpa using hu)
      · cases hp
  | [], _ :: _, _, _, h, _ => by cases h
  | _ :: _, [], _, _, h, _ => by cases h

theorem Pre.st (h : Pre mo w γ β us vs fr up cv cf) {t : TypeId} {n : Nat} {x : CV} {y : AV} {u uv : Value} {c1 c2 : Bud} (hs : sizeB P t = some n)
    (hx : RepC γ β u x c1) (hy : RepA γ β uv y c2) (hc2 : ∀ g, c1 g + c2 g ≤ cv g) (C : Callee) {r : AV} {fr' : Fram} {up' : List Fram} (hact : act C (.st n) [.c x, y] fr up = (r, fr', up', true)) :
    ∃ w', (Instr.storeAt t u uv).run P w = .ok () w' ∧ Outs mo w γ β w' undef r fr' up' := by
  simp only [act] at hact
  have hund : RepA γ β undef undefA none0 := .tup .nil
  cases hx with
  | ref hb =>
    rename_i d k off g
    dsimp only at hact
    split at hact
    case h_2 => simp [bad] at hact
    rename_i cs l hcs hl
    obtain ⟨fr2, up2, hq, hq2⟩ := setH_cons d k (.box (put cs off (downL d l))) fr up
    rw [hq] at hact
    simp only [Prod.mk.injEq, Bool.and_eq_true, decide_eq_true_eq] at hact
    obtain ⟨rfl, rfl, rfl, ⟨hln, hoff⟩, hout⟩ := hact
    obtain ⟨g', e1, e2, hb', hH, hsp, hset⟩ := h.fs.focus hcs
    rw [hb] at hb'; cases hb'
    cases hH with
    | box hh hr hS hc =>
      rename_i vs0 e d1
      have hv := cells_val hy hl
      have hlen := hv.length
      obtain ⟨c', hrun, hc'⟩ := run_storeCells (P := P) uv.cells.toList 0 w g off vs0 e hh (by rw [hlen, hln, ← Array.length_toList, hr.length]; omega) hv.cellVs
      have hput : off + 0 + uv.cells.toList.length ≤ vs0.toList.length := by rw [hlen, hln, hr.length]; omega
      have hsz : c'.size = vs0.size := by rw [← Array.length_toList, hc', put_length _ _ _ hput]; simp
      have hg1 : 1 ≤ mo g := by have := hc g; have := hsp g; have := h.sum g; simp at *; omega
      have hcg : e2 g = 0 := by have := hc g; have := hsp g; have := h.sum g; have := h.mok.one g; simp at *; omega
      refine ⟨blk w g (.cells c' e (0, 0)), ?_, ?_⟩
      · unfold Instr.storeAt Instr.sureAddr storeVar
        simp only [Sem.run_bind, Sem.run_pure, Result.andThen_ok, run_sizeOf hs, Sem.run_ite]
        rw [if_neg (by rw [← Array.length_toList, hlen, hln]; simp)]
        exact hrun
      have hnew := hset (γ' := γ) (w' := blk w g (.cells c' e (0, 0))) (β' := β) (c1' := fun g' => (d1 g' + c2 g') + if g' = g then 1 else 0) (ho' := .box (put cs off (downL d l))) (.refl γ) (fun _ _ _ h => h) (keep_blk hcg)
        (.box (vs := c') (e := e) (by rw [blk_get, if_pos rfl, if_pos (lt_of_some hh)]) (by rw [hc', Nat.add_zero]; exact hr.put (hv.down hout) off (fun g => Nat.le_refl _)) hS (fun g => Nat.le_refl _))
      rw [hq] at hnew
      exact ⟨γ, β, mo, none0, _, .blk h.wok h.mok hh hS hsz hg1, fun _ _ _ h => h, fun _ _ => rfl, fun k g hk => hq2 k (h.dom k g hk), hund, hnew, fun g' => by
        have := h.sum g'; have := hsp g'; have := hc g'; have := hc2 g'
        show 0 + ((d1 g' + c2 g' + if g' = g then 1 else 0) + e2 g') ≤ mo g'
        omega⟩
  | aref hb =>
    rename_i d k sz i off g
    dsimp only at hact
    split at hact
    case h_2 => simp [bad] at hact
    rename_i sz' l xs hcs hl
    obtain ⟨fr2, up2, hq, hq2⟩ := setH_cons d k (.arr sz' (l.set i (put (l.getD i []) off xs))) fr up
    rw [hq] at hact
    simp only [Prod.mk.injEq, Bool.and_eq_true, decide_eq_true_eq] at hact
    obtain ⟨rfl, rfl, rfl, rfl, hxn, hi, hoff⟩ := hact
    obtain ⟨g', e1, e2, hb', hH, hsp, hset⟩ := h.fs.focus hcs
    rw [hb] at hb'; cases hb'
    cases hH with
    | arr hh hn hl' hr hS hc =>
      rename_i vs0 e
      cases hcl : cellsA y with
      | none => simp [hcl] at hl
      | some cl =>
      simp only [hcl, Option.bind_some] at hl
      have hv := cells_val hy hcl
      obtain ⟨hlen, hrep⟩ := toPs_rep hv hl
      have hli : l[i]? = some (l.getD i []) := by simp [hi]
      have hci := hl' i _ hli
      have hbd : i * sz' + sz' ≤ vs0.size := by
        rw [hn]; have := Nat.mul_le_mul_right sz' (Nat.succ_le_of_lt hi); rw [Nat.succ_mul] at this; exact this
      obtain ⟨c', hrun, hc'⟩ := run_storeCells (P := P) uv.cells.toList 0 w g (i * sz' + off) vs0 e hh (by rw [hlen, hxn]; omega) hv.cellVs
      have hput : i * sz' + off + 0 + uv.cells.toList.length ≤ vs0.toList.length := by rw [hlen, hxn]; simp; omega
      have hsz : c'.size = vs0.size := by rw [← Array.length_toList, hc', put_length _ _ _ hput]; simp
      have hg1 : 1 ≤ mo g := by have := hsp g; have := h.sum g; omega
      have hcg : e2 g = 0 := by have := hsp g; have := h.sum g; have := h.mok.one g; omega
      refine ⟨blk w g (.cells c' e (0, 0)), ?_, ?_⟩
      · unfold Instr.storeAt Instr.sureAddr storeVar
        simp only [Sem.run_bind, Sem.run_pure, Result.andThen_ok, run_sizeOf hs, Sem.run_ite]
        rw [if_neg (by rw [← Array.length_toList, hlen, hxn]; simp)]
        exact hrun
      have hnew := hset (γ' := γ) (w' := blk w g (.cells c' e (0, 0))) (β' := β) (c1' := e1) (ho' := .arr sz' (l.set i (put (l.getD i []) off xs))) (.refl γ) (fun _ _ _ h => h) (keep_blk hcg)
        (.arr (vs := c') (e := e) (by rw [blk_get, if_pos rfl, if_pos (lt_of_some hh)]) (by rw [hsz, hn]; simp) (fun j ch hj => ?_) (fun j ch m p hj hm => ?_) hS hc)
      · rw [hq] at hnew
        exact ⟨γ, β, mo, none0, _, .blk h.wok h.mok hh hS hsz hg1, fun _ _ _ h => h, fun _ _ => rfl, fun k g hk => hq2 k (h.dom k g hk), hund, hnew, fun g' => by
          have := h.sum g'; have := hsp g'
          show 0 + (e1 g' + e2 g') ≤ mo g'
          omega⟩
      · by_cases e : j = i
        · subst e
          rw [List.getElem?_set_self hi] at hj; cases hj
          rw [put_length _ _ _ (by rw [hxn, hci]; exact hoff)]; exact hci
        · rw [List.getElem?_set_ne (Ne.symm e)] at hj; exact hl' j ch hj
      · have hmlt : m < sz' := by
          have : ch.length = sz' := by
            by_cases e : j = i
            · subst e
              rw [List.getElem?_set_self hi] at hj; cases hj
              rw [put_length _ _ _ (by rw [hxn, hci]; exact hoff)]; exact hci
            · rw [List.getElem?_set_ne (Ne.symm e)] at hj; exact hl' j ch hj
          have := (List.getElem?_eq_some_iff.1 hm).1; omega
        have hget : ∀ q : Nat, c'[q]? = (put vs0.toList (i * sz' + off + 0) uv.cells.toList)[q]? := fun q => by rw [← hc']; simp
        by_cases e : j = i
        · subst e
          rw [List.getElem?_set_self hi] at hj; cases hj
          rw [put_get _ _ _ (by rw [hxn, hci]; exact hoff)] at hm
          by_cases a : m < off
          · rw [if_pos a] at hm
            obtain ⟨v, hv1, hv2⟩ := hr j _ m p hli hm
            exact ⟨v, by rw [hget, put_get _ _ _ hput, if_pos (by omega)]; simpa using hv1, hv2⟩
          · rw [if_neg a] at hm
            by_cases b : m < off + xs.length
            · rw [if_pos b] at hm
              have hlt : m - off < uv.cells.toList.length := by rw [hlen]; omega
              refine ⟨uv.cells.toList[m - off], ?_, hrep (m - off) p _ hm (by simp [hlt])⟩
              rw [hget, put_get _ _ _ hput, if_neg (by omega), if_pos (by rw [hlen]; omega)]
              rw [show j * sz' + m - (j * sz' + off + 0) = m - off by omega, List.getElem?_eq_getElem hlt]
            · rw [if_neg b] at hm
              obtain ⟨v, hv1, hv2⟩ := hr j _ m p hli hm
              exact ⟨v, by rw [hget, put_get _ _ _ hput, if_neg (by omega), if_neg (by rw [hlen]; omega)]; simpa using hv1, hv2⟩
        · rw [List.getElem?_set_ne (Ne.symm e)] at hj
          obtain ⟨v, hv1, hv2⟩ := hr j ch m p hj hm
          refine ⟨v, ?_, hv2⟩
          rw [hget, put_get _ _ _ hput]
          have hne : ¬ (i * sz' + off + 0 ≤ j * sz' + m ∧ j * sz' + m < i * sz' + off + 0 + uv.cells.toList.length) := by
            rintro ⟨q1, q2⟩
            rw [hlen, hxn] at q2
            rcases Nat.lt_or_gt_of_ne e with q | q
            · have := Nat.mul_le_mul_right sz' (Nat.succ_le_of_lt q); rw [Nat.succ_mul] at this; omega
            · have := Nat.mul_le_mul_right sz' (Nat.succ_le_of_lt q); rw [Nat.succ_mul] at this; omega
          by_cases a : j * sz' + m < i * sz' + off + 0
          · rw [if_pos a]; simpa using hv1
          · rw [if_neg a, if_neg (fun b => hne ⟨by omega, b⟩)]; simpa using hv1
  | _ => simp [bad] at hact
end
end Go.ScE
