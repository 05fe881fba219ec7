/- W8: DatumMakes answers true. -/
import Derived.Test.YtomklnbaaelchaaDoorSW7
set_option maxRecDepth 100000
set_option linter.unusedSimpArgs false
set_option linter.unusedVariables false
namespace Go.Sc2
open Go.ScE
theorem encD_q (d : Dt) : ∃ p0 p1 p2 q, encD d = [p0, p1, p2, .sl 4 q] ∧ encA d = .agg [.p p0, .p p1, .p p2, .p (.sl 4 q)] := by
  obtain ⟨k, i, s, l⟩ := d
  exact ⟨.lit (.int .i64 k), .lit (.int .i64 i), .lit (.string s), encDs l, by simp only [encD], by simp only [encA, encD, pvs]⟩
theorem wts_app : ∀ a b : List Dt, wts (a ++ b) = wts a + wts b
  | [], b => by simp [wts]
  | d :: a, b => by simp only [List.cons_append, wts, wts_app a b]; omega
theorem wts_take : ∀ (l : List Dt) (n : Nat), wts (l.take n) ≤ wts l
  | [], n => by simp
  | d :: r, 0 => by simp [wts]
  | d :: r, n + 1 => by have := wts_take r n; simp only [List.take_succ_cons, wts]; omega
theorem cts_take : ∀ (l : List Dt) (n : Nat), cts (l.take n) ≤ cts l
  | [], n => by simp
  | d :: r, 0 => by simp [cts]
  | d :: r, n + 1 => by have := cts_take r n; simp only [List.take_succ_cons, cts]; omega
theorem all_eq' (N : Nat) (l : List Dt) (hs : cts l ≤ 30000) (hw : wts l < N) : evF tblW extW (N + 1) 21 [.c (.p (.sl 4 (encDs l)))] [] = (.c (.own 4 (encDs l)), [], true) := by
  have h1 := wts_len l
  have h2 := cts_len l
  exact all_eq extW N l (by omega) (by omega) (fun d hd => copied_eq extW N d (by have := cts_mem hd; omega) (by have := wts_mem hd; omega))
/-- Make, of data. -/
theorem make_eq (N : Nat) (l : List Dt) (v : Dt) (hs : cts l ≤ 30000) (hv : ct v ≤ 30001) (hw : wts l + wt v + 5 ≤ N) :
    ∃ o, evF tblW extW (N + 2) 9 [.c (.p (.sl 4 (encDs l))), encA v] [] = (encG o (mkD l v), [], true) := by
  rw [evF_some _ (show tblW 9 = some x9 from rfl)]
  have hc := copied_eq extW (N + 1) v hv (by omega)
  cases l with
  | nil =>
    obtain ⟨p0, p1, p2, q, -, he⟩ := encD_q v
    refine ⟨false, ?_⟩
    rw [encG_false]
    simp only [mkD]
    rw [he] at hc ⊢
    exact make_nil _ _ _ _ _ _ hc
  | cons d r =>
    obtain ⟨k, i, s, m⟩ := v
    have ha := all_eq' N (d :: r) hs (by omega)
    have hl1 := cts_len (d :: r)
    refine ⟨true, ?_⟩
    have hel := encDs_length r
    have hem := encDs_length m
    have hlm := cts_len m
    simp only [ct] at hv
    simp only [wt] at hw
    simp only [List.length_cons] at hl1
    by_cases hk : k = 5 ∨ k = 6
    · have hr : isR k = true := by rcases hk with e | e <;> subst e <;> rfl
      have hm := all_eq' N m (by omega) (by omega)
      simp only [mkD, hr, if_true, encG, rowC, encA, encD, encDs, pvs, List.cons_append, encDs_app] at ha ⊢
      exact make_in _ _ k _ _ (encD d) (encDs r) (encDs m) hk ha hm (by omega)
    · have h5 : k ≠ 5 := fun e => hk (.inl e)
      have h6 : k ≠ 6 := fun e => hk (.inr e)
      have hr : isR k = false := by simp [isR, h5, h6]
      simp only [mkD, hr, Bool.false_eq_true, if_false, encG, rowC, encA, encD, encDs, pvs, List.cons_append, encDs_app] at ha hc ⊢
      exact make_on _ _ k _ _ _ (encD d) (encDs r) h5 h6 ha (by omega) hc
theorem rmake_eq (N : Nat) (l : List Dt) (v : Dt) (hs : cts l ≤ 30000) (hv : ct v ≤ 30001) :
    ∃ o, evF tblW extW (N + 1) 12 [.c (.p (.sl 4 (encDs l))), encA v] [] = (encG o (mkD l v), [], true) := by
  rw [evF_some _ (show tblW 12 = some x12 from rfl)]
  cases l with
  | nil =>
    obtain ⟨p0, p1, p2, q, -, he⟩ := encD_q v
    refine ⟨false, ?_⟩
    rw [encG_false]
    simp only [mkD]
    rw [he]
    exact rmake_nil _ _ _ _ _ _
  | cons d r =>
    obtain ⟨k, i, s, m⟩ := v
    have hl1 := cts_len (d :: r)
    refine ⟨true, ?_⟩
    have hel := encDs_length r
    have hem := encDs_length m
    have hlm := cts_len m
    simp only [ct] at hv
    simp only [List.length_cons] at hl1
    by_cases hk : k = 5 ∨ k = 6
    · have hr : isR k = true := by rcases hk with e | e <;> subst e <;> rfl
      simp only [mkD, hr, if_true, encG, rowC, encA, encD, encDs, pvs, List.cons_append, encDs_app]
      exact rmake_in _ _ k _ _ (encD d) (encDs r) (encDs m) hk (by omega)
    · have h5 : k ≠ 5 := fun e => hk (.inl e)
      have h6 : k ≠ 6 := fun e => hk (.inr e)
      have hr : isR k = false := by simp [isR, h5, h6]
      simp only [mkD, hr, Bool.false_eq_true, if_false, encG, rowC, encA, encD, encDs, pvs, List.cons_append, encDs_app]
      exact rmake_on _ _ k _ _ _ (encD d) (encDs r) h5 h6 (by omega)
/-- A datum's row, and its rest. -/
def itD : Dt → List Dt × Dt
  | .node k i s l => if k = 5 then (l, .node 5 0 ⟨⟨[]⟩⟩ []) else if h : k = 6 ∧ 0 < l.length then (l.take (l.length - 1), l[l.length - 1]'(by omega)) else ([], .node k i s l)
theorem rowC_rg (o : Bool) (l : List Dt) : rowC o l = rg o (encDs l) := by cases o <;> rfl
theorem items_eq (N : Nat) (v : Dt) (hv : ct v ≤ 30001) (hw : wt v + 5 ≤ N) :
    ∃ o o', evF tblW extW (N + 2) 10 [encA v] [] = (.tup [(false, [rowC o (itD v).1]), (true, cG o' (itD v).2)], [], true) := by
  rw [evF_some _ (show tblW 10 = some x10 from rfl)]
  have hc := copied_eq extW (N + 1) v hv (by omega)
  obtain ⟨k, i, s, m⟩ := v
  have hlm := cts_len m
  have hwm := wts_len m
  have hem := encDs_length m
  simp only [ct] at hv
  simp only [wt] at hw
  simp only [encA, encD, pvs] at hc ⊢
  by_cases h5 : k = 5
  · subst h5
    refine ⟨true, true, ?_⟩
    simp only [itD, if_true, cG, rowC, encDs]
    exact items_5 _ _ _ _ _ (all_eq' N m (by omega) (by omega))
  · by_cases h6 : k = 6 ∧ 0 < m.length
    · refine ⟨true, false, ?_⟩
      simp only [itD, if_neg h5, dif_pos h6]
      obtain ⟨rfl, hl⟩ := h6
      obtain ⟨l0, l1, l2, q, hd, ha⟩ := encD_q (m[m.length - 1]'(by omega))
      have h20 := copied_eq extW (N + 1) (m[m.length - 1]'(by omega)) (by have := cts_mem (List.getElem_mem (show m.length - 1 < m.length by omega)); omega) (by have := wts_mem (List.getElem_mem (show m.length - 1 < m.length by omega)); omega)
      have h21 := all_eq' N (m.take (m.length - 1)) (by have := cts_take m (m.length - 1); omega) (by have := wts_take m (m.length - 1); omega)
      have hcg : cG false (m[m.length - 1]'(by omega)) = [.p l0, .p l1, .p l2, .p (.sl 4 q)] := by
        have h1 := encG_cG false (m[m.length - 1]'(by omega))
        rw [encG_false, ha] at h1
        exact (AV.agg.inj h1).symm
      rw [hcg]
      rw [ha] at h20
      simp only [rowC, encDs_take] at h21 ⊢
      exact items_6 _ _ _ _ _ (m.length - 1) (by omega) (by omega) _ _ _ _ (by omega) (by rw [encDs_get m _ (by omega), hd]) h21 h20
    · refine ⟨true, false, ?_⟩
      simp only [itD, if_neg h5, dif_neg h6, cG, rowC, encDs]
      exact items_o _ _ _ _ _ _ h5 (by
        by_cases e : k = 6
        · exact .inr (by have : m.length = 0 := by omega
                         rw [List.length_eq_zero_iff.1 this]; rfl)
        · exact .inl e) hc
theorem ritems_eq (N : Nat) (v : Dt) (hv : ct v ≤ 30001) :
    ∃ o o', evF tblW extW (N + 1) 11 [encA v] [] = (.tup [(false, [rowC o (itD v).1]), (true, cG o' (itD v).2)], [], true) := by
  rw [evF_some _ (show tblW 11 = some x11 from rfl)]
  obtain ⟨k, i, s, m⟩ := v
  have hlm := cts_len m
  have hem := encDs_length m
  simp only [ct] at hv
  simp only [encA, encD, pvs]
  by_cases h5 : k = 5
  · subst h5
    refine ⟨false, true, ?_⟩
    simp only [itD, if_true, cG, rowC, encDs]
    exact ritems_5 _ _ _ _ _
  · by_cases h6 : k = 6 ∧ 0 < m.length
    · refine ⟨false, false, ?_⟩
      simp only [itD, if_neg h5, dif_pos h6]
      obtain ⟨rfl, hl⟩ := h6
      obtain ⟨l0, l1, l2, q, hd, ha⟩ := encD_q (m[m.length - 1]'(by omega))
      have hcg : cG false (m[m.length - 1]'(by omega)) = [.p l0, .p l1, .p l2, .p (.sl 4 q)] := by
        have h1 := encG_cG false (m[m.length - 1]'(by omega))
        rw [encG_false, ha] at h1
        exact (AV.agg.inj h1).symm
      rw [hcg]
      simp only [rowC, encDs_take]
      exact ritems_6 _ _ _ _ _ (m.length - 1) (by omega) (by omega) _ _ _ _ (by omega) (by rw [encDs_get m _ (by omega), hd])
    · refine ⟨true, false, ?_⟩
      simp only [itD, if_neg h5, dif_neg h6, cG, rowC, encDs]
      exact ritems_o _ _ _ _ _ _ h5 (by
        by_cases e : k = 6
        · exact .inr (by have : m.length = 0 := by omega
                         rw [List.length_eq_zero_iff.1 this]; rfl)
        · exact .inl e)
theorem wfk (k : Int) (h : 0 ≤ k) (h' : k ≤ 9) : (Lit.int .i64 k).wf = true := by
  have : k = 0 ∨ k = 1 ∨ k = 2 ∨ k = 3 ∨ k = 4 ∨ k = 5 ∨ k = 6 ∨ k = 7 ∨ k = 8 ∨ k = 9 := by omega
  rcases this with e | e | e | e | e | e | e | e | e | e <;> subst e <;> rfl
theorem okd_mk {l : List Dt} {v : Dt} (hl : ∀ d ∈ l, OkD d) (hv : OkD v) (hs : cts l ≤ 30000) (hs' : ct v ≤ 30001) : OkD (mkD l v) := by
  have hm : maxLen = 9223372036854775807 := by decide
  have h1 := cts_len l
  cases l with
  | nil => exact hv
  | cons d r =>
    obtain ⟨k, i, s, m⟩ := v
    have hv' := hv
    cases hv with
    | mk hk hi hs2 hlm hall =>
    have h2 := cts_len m
    simp only [ct] at hs'
    simp only [List.length_cons] at h1
    simp only [mkD]
    split
    · exact .mk hk (wfk 0 (by omega) (by omega)) (by rw [hm]; exact Nat.zero_le _) (by rw [hm]; simp only [List.length_append, List.length_cons]; omega) (fun x hx => by
        rcases List.mem_append.1 hx with e | e
        · exact hl x e
        · exact hall x e)
    · exact .mk (wfk 6 (by omega) (by omega)) (wfk 0 (by omega) (by omega)) (by rw [hm]; exact Nat.zero_le _) (by rw [hm]; simp only [List.length_append, List.length_cons, List.length_nil]; omega) (fun x hx => by
        rcases List.mem_append.1 hx with e | e
        · exact hl x e
        · rcases List.mem_cons.1 e with e | e
          · rw [e]; exact hv'
          · cases e)
theorem wt_mk (l : List Dt) (v : Dt) : wt (mkD l v) ≤ wts l + wt v + 3 := by
  cases l with
  | nil => simp only [mkD]; omega
  | cons d r =>
    obtain ⟨k, i, s, m⟩ := v
    simp only [mkD]
    split
    · simp only [wt, wts_app]; omega
    · simp only [wt, wts_app, wts]; omega
theorem okd_it {v : Dt} (hv : OkD v) : (∀ d ∈ (itD v).1, OkD d) ∧ OkD (itD v).2 ∧ (itD v).1.length ≤ maxLen ∧ wts (itD v).1 ≤ wt v ∧ wt (itD v).2 ≤ wt v := by
  have hm : maxLen = 9223372036854775807 := by decide
  obtain ⟨k, i, s, m⟩ := v
  have hv' := hv
  cases hv with
  | mk hk hi hs2 hlm hall =>
  simp only [itD]
  split
  · refine ⟨hall, .mk (wfk 5 (by omega) (by omega)) (wfk 0 (by omega) (by omega)) (by rw [hm]; exact Nat.zero_le _) (by simp) (by simp), hlm, ?_, ?_⟩
    · simp only [wt]; omega
    · simp only [wt, wts]; omega
  · split
    · rename_i h6
      refine ⟨fun d hd => hall d (List.mem_of_mem_take hd), hall _ (List.getElem_mem _), by simp only [List.length_take]; omega, ?_, ?_⟩
      · have := wts_take m (m.length - 1); simp only [wt]; omega
      · have := wts_mem (List.getElem_mem (show m.length - 1 < m.length by omega)); simp only [wt]; omega
    · exact ⟨by simp, hv', by simp, by simp [wts], Nat.le_refl _⟩
theorem makes_law (l : List Dt) (v : Dt) (hl : ∀ d ∈ l, OkD d) (hlen : l.length ≤ maxLen) (hv : OkD v) : ∃ N, evF tblW extW N 4 [.c (.p (.sl 4 (encDs l))), encA v] [] = (pbool true, [], true) := by
  have hm : maxLen = 9223372036854775807 := by decide
  obtain ⟨p0, p1, p2, q, hp, hpa⟩ := encD_q v
  refine ⟨(wts l + wt v + 60 + 2) + 1, ?_⟩
  have h5 := huge_eq extW (wts l + wt v + 60 + 1) false l hlen hl (by omega)
  have h5' := huge_eq extW (wts l + wt v + 60 + 1) false [v] (by rw [hm]; simp) (fun d hd => by
    rcases List.mem_cons.1 hd with e | hd
    · subst e; exact hv
    · cases hd) (by simp only [wts]; omega)
  have h6 := evF_6 (wts l + wt v + 60 + 1)
  rw [evF_some _ (show tblW 4 = some x4 from rfl)]
  rw [show wts l + wt v + 60 + 1 + 1 = wts l + wt v + 60 + 2 from rfl] at h5 h5' h6
  simp only [rowC, encDs, hp] at h5 h5'
  cases hu : hugeP l with
  | true =>
    rw [hu] at h5
    rw [hpa]
    exact makes_big1 _ _ _ _ _ _ _ h6 h5
  | false =>
    cases hu' : hugeP [v] with
    | true =>
      rw [hu] at h5; rw [hu'] at h5'
      rw [hpa]
      exact makes_big2 _ _ _ _ _ _ _ h6 h5 h5'
    | false =>
      rw [hu] at h5; rw [hu'] at h5'
      have s1 := hugeP_small hu
      have s2 : ct v ≤ 30001 := by have := hugeP_small hu'; simp only [cts] at this; omega
      obtain ⟨o1, h9⟩ := make_eq (wts l + wt v + 60) l v s1 s2 (by omega)
      obtain ⟨o2, h12⟩ := rmake_eq (wts l + wt v + 60 + 1) l v s1 s2
      obtain ⟨o3, o4, h10⟩ := items_eq (wts l + wt v + 60) v s2 (by omega)
      obtain ⟨o5, o6, h11⟩ := ritems_eq (wts l + wt v + 60 + 1) v s2
      obtain ⟨k1, k2, k3, k4, k5⟩ := okd_it hv
      have w1 := wt_mk l v
      have h8m := same_eq extW (wts l + wt v + 60 + 2) (mkD l v) (mkD l v) (okd_mk hl hv s1 s2) (by omega)
      have h8r := same_eq extW (wts l + wt v + 60 + 2) (itD v).2 (itD v).2 k2 (by omega)
      have h8a := same_eq extW (wts l + wt v + 60 + 1) (.node 0 0 ⟨⟨[]⟩⟩ (itD v).1) (.node 0 0 ⟨⟨[]⟩⟩ (itD v).1) (.mk (wfk 0 (by omega) (by omega)) (wfk 0 (by omega) (by omega)) (by rw [hm]; exact Nat.zero_le _) k3 k1) (by simp only [wt]; omega)
      rw [eqD_refl] at h8m h8r h8a
      simp only [encA, encD, pvs] at h8a
      have h13 := sameAll_run (evF tblW extW (wts l + wt v + 60 + 1)) (wts l + wt v + 60 + 1) (encDs (itD v).1) (encDs (itD v).1) true h8a
      rw [← evF_some (wts l + wt v + 60 + 1) (show tblW 13 = some x13 from rfl)] at h13
      generalize (itD v).2 = rv at *
      generalize (itD v).1 = ra at *
      generalize mkD l v = mv at *
      obtain ⟨km, im, sm, lm⟩ := mv
      obtain ⟨kr, ir, sr, lr⟩ := rv
      rw [hpa] at h9 h10 h11 h12 ⊢
      simp only [encG, cG, rowC_rg] at h9 h10 h11 h12
      simp only [encA, encD, pvs] at h8m h8r
      exact makes_run _ _ o1 o2 o3 o4 o5 o6 _ _ _ _ _ _ _ _ _ _ _ _ _ _ h6 h5 h5' h9 h12 h10 h11 h8m h8r h13
end Go.Sc2
