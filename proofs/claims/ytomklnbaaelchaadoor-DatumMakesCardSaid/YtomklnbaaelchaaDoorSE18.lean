/- E18: regions that draw their order: two operations that may come up in either order. -/
import Derived.Test.YtomklnbaaelchaaDoorSE15
set_option linter.unusedVariables false
set_option linter.unusedSimpArgs false
namespace Go.ScE

inductive Cls where
  | P | R | A (s : Nat) | T | W
def cls : XK → Cls
  | .alloc s _ _ => .A s
  | .box s => .A s
  | .mkm s => .A s
  | .ld _ _ take => if take then .T else .R
  | .lk _ _ _ => .R
  | .lenM => .R
  | .app _ _ => .R
  | .cbs => .R
  | .mks _ _ _ | .st _ | .mu | .del | .copy _ | .csb | .call _ | .callv => .W
  | _ => .P
def clsD (o : XOperD) : Cls := match isCall o.x.op with
  | true => if o.iso then .W else .P
  | false => cls o.x.op

section
variable {C : Callee}

theorem act_P {k : XK} {vs : List AV} (hk : cls k = .P) : ∃ r ok, ∀ fr up, act C k vs fr up = (r, fr, up, ok) := by
  cases k <;> simp only [cls] at hk <;> try cases hk
  case slS lo hi => cases lo <;> cases hi <;> simp only [act, bad] <;> (repeat' split) <;> exact ⟨_, _, fun _ _ => rfl⟩
  case slL sz lo hi => cases lo <;> cases hi <;> simp only [act, bad] <;> (repeat' split) <;> exact ⟨_, _, fun _ _ => rfl⟩
  case ld agg n take => cases take <;> cases hk
  all_goals
    simp only [act, bad, same]
    repeat' split
    all_goals exact ⟨_, _, fun _ _ => rfl⟩
theorem act_call {k : XK} {vs : List AV} (hk : isCall k = true) (hf : freeAs vs = true) : ∃ r ok, ∀ fr up, act C k vs fr up = (r, fr, up, ok) := by
  cases k <;> simp only [isCall] at hk <;> try cases hk
  case call f => simp only [act, hf]; exact ⟨_, _, fun _ _ => rfl⟩
  case callv =>
    simp only [act]
    split
    · rename_i f c1 c2 xs
      have : freeAs xs = true := by simp only [freeAs, Bool.and_eq_true] at hf; exact hf.2
      rw [this]
      cases (c1.size == 0 && c2.size == 0) with
      | true => exact ⟨_, _, fun _ _ => rfl⟩
      | false => exact ⟨_, _, fun _ _ => rfl⟩
    · exact ⟨_, _, fun _ _ => rfl⟩
theorem act_A {k : XK} {vs : List AV} {s : Nat} (hk : cls k = .A s) : (∀ fr up, (act C k vs fr up).2.2.2 = false) ∨ ∃ r h, ∀ fr up, act C k vs fr up = (r, (s, h) :: fr, up, !hhas s fr) := by
  cases k <;> simp only [cls] at hk <;> try cases hk
  case alloc => simp only [act]; split <;> first | exact .inr ⟨_, _, fun _ _ => rfl⟩ | exact .inl fun _ _ => rfl
  case box =>
    simp only [act]
    split
    · split
      · exact .inr ⟨_, _, fun _ _ => rfl⟩
      · exact .inl fun _ _ => rfl
    · exact .inl fun _ _ => rfl
  case mkm => exact .inr ⟨_, _, fun _ _ => rfl⟩
  case ld agg n take => cases take <;> cases hk

def demH : HO → HO
  | .box cs => .box (demL cs)
  | h => h
/-- Memory that reads alike, but at some sites. -/
def Hext (av : List Nat) (fs fs' : List Fram) : Prop := ∀ d k h, (d = 0 → av.contains k = false) → getH d k fs = some h → ∃ h', getH d k fs' = some h' ∧ demH h = demH h'

theorem avoid_get {av : List Nat} {d k : Nat} (h : (d != 0 || !av.contains k) = true) : d = 0 → av.contains k = false := by
  rintro rfl; simpa using h
theorem demL_map (l : List CV) : demL l = l.map demC := by induction l <;> simp_all [demL]
theorem demL_untake (l : List CV) : demL (untakeL l) = demL l := by
  induction l with
  | nil => rfl
  | cons x r ih => simp only [untakeL, demL, ih]; cases x <;> rfl
theorem demL_cut (off n : Nat) (cs : List CV) : demL (cut off n cs) = cut off n (demL cs) := by
  rw [demL_map, demL_map]; unfold cut; rw [List.map_take, List.map_drop]

theorem listOf_ext {av : List Nat} {fs fs' : List Fram} (h : Hext av fs fs') {sz : Nat} {y : AV} {l : List (List PV)} (hy : avoidA av y = true) (hl : listOf sz fs y = some l) : listOf sz fs' y = some l := by
  unfold listOf at hl ⊢
  split at hl
  · exact hl
  · exact hl
  · rename_i d k sz' off n
    simp only [avoidA, avoidC] at hy
    split at hl
    · rename_i sz2 ll hll
      obtain ⟨h', h1, h2⟩ := h d k _ (avoid_get hy) hll
      simp only [demH] at h2
      cases h' <;> simp only [demH] at h2 <;> cases h2
      simp only [h1]; exact hl
    · cases hl
  · exact hl
  · cases hl

theorem act_R {k : XK} {vs : List AV} (hk : cls k = .R) {fr : Fram} {up : List Fram} {r : AV} {fr1 : Fram} {up1 : List Fram} (h : act C k vs fr up = (r, fr1, up1, true)) : fr1 = fr ∧ up1 = up ∧
    ∀ (av : List Nat) (fr' : Fram) (up' : List Fram), Hext av (fr :: up) (fr' :: up') → avoidAs av vs = true → act C k vs fr' up' = (r, fr', up', true) := by
  cases k <;> simp only [cls] at hk <;> try cases hk
  case ld agg n take =>
    cases take <;> try cases hk
    simp only [act] at h ⊢
    split at h
    case h_2 => exact absurd h bad_ne
    rename_i x
    cases x with
    | ipt cs off => simp only [Prod.mk.injEq] at h; obtain ⟨rfl, rfl, rfl, h4⟩ := h; exact ⟨rfl, rfl, fun _ _ _ _ _ => by simp only [h4]⟩
    | ref d k off =>
      dsimp only at h ⊢
      split at h
      case h_2 => exact absurd h bad_ne
      rename_i cs hcs
      simp only [Bool.false_eq_true, if_false, Prod.mk.injEq] at h
      obtain ⟨rfl, rfl, rfl, h4⟩ := h
      refine ⟨rfl, rfl, fun av fr' up' hx hav => ?_⟩
      simp only [avoidAs, avoidA, avoidC, Bool.and_true] at hav
      obtain ⟨h', h1, h2⟩ := hx d k _ (avoid_get hav) hcs
      obtain ⟨cs', rfl, he⟩ : ∃ cs', h' = .box cs' ∧ demL cs = demL cs' := by cases h' <;> simp_all [demH]
      simp only [h1, Bool.false_eq_true, if_false, Prod.mk.injEq]
      have hlen : cs'.length = cs.length := by rw [← demL_length cs', ← he, demL_length]
      refine ⟨?_, trivial, trivial, by rw [hlen]; exact h4⟩
      rw [demL_cut, demL_cut, he]
    | aref d k sz i off =>
      dsimp only at h ⊢
      split at h
      case h_2 => exact absurd h bad_ne
      rename_i sz' l hl
      simp only [Prod.mk.injEq] at h
      obtain ⟨rfl, rfl, rfl, h4⟩ := h
      refine ⟨rfl, rfl, fun av fr' up' hx hav => ?_⟩
      simp only [avoidAs, avoidA, avoidC, Bool.and_true] at hav
      obtain ⟨h', h1, h2⟩ := hx d k _ (avoid_get hav) hl
      cases h' <;> simp only [demH] at h2 <;> cases h2
      simp only [h1, h4]
    | _ => simp [bad] at h
  case lk zagg z ok =>
    simp only [act] at h ⊢
    split at h
    case h_2 => exact absurd h bad_ne
    rename_i d k key
    split at h
    case h_2 => exact absurd h bad_ne
    rename_i es hes
    simp only [Prod.mk.injEq] at h
    obtain ⟨rfl, rfl, rfl, h4⟩ := h
    refine ⟨rfl, rfl, fun av fr' up' hx hav => ?_⟩
    simp only [avoidAs, avoidA, avoidC, Bool.and_true] at hav
    obtain ⟨h', h1, h2⟩ := hx d k _ (avoid_get hav) hes
    cases h' <;> simp only [demH] at h2 <;> cases h2
    simp only [h1, h4]
  case lenM =>
    simp only [act] at h ⊢
    split at h
    case h_2 => exact absurd h bad_ne
    rename_i d k
    split at h
    case h_2 => exact absurd h bad_ne
    rename_i es hes
    simp only [Prod.mk.injEq] at h
    obtain ⟨rfl, rfl, rfl, h4⟩ := h
    refine ⟨rfl, rfl, fun av fr' up' hx hav => ?_⟩
    simp only [avoidAs, avoidA, avoidC, Bool.and_true] at hav
    obtain ⟨h', h1, h2⟩ := hx d k _ (avoid_get hav) hes
    cases h' <;> simp only [demH] at h2 <;> cases h2
    simp only [h1]
  case app sz bytes =>
    simp only [act] at h ⊢
    split at h
    case h_2 => exact absurd h bad_ne
    rename_i x y
    split at h
    case h_2 => exact absurd h bad_ne
    rename_i ys hys
    split at h
    case h_2 => exact absurd h bad_ne
    rename_i sz' l
    simp only [Prod.mk.injEq] at h
    obtain ⟨rfl, rfl, rfl, h4⟩ := h
    refine ⟨rfl, rfl, fun av fr' up' hx hav => ?_⟩
    simp only [avoidAs, Bool.and_true, Bool.and_eq_true] at hav
    simp only [listOf_ext hx hav.2 hys, h4]
  case cbs =>
    simp only [act] at h ⊢
    split at h
    case h_2 => exact absurd h bad_ne
    rename_i y
    split at h
    case h_2 => exact absurd h bad_ne
    rename_i l hstr hl
    split at h
    case h_2 => exact absurd h bad_ne
    rename_i bs hb
    simp only [Prod.mk.injEq, and_true] at h
    obtain ⟨rfl, rfl, rfl⟩ := h
    refine ⟨rfl, rfl, fun av fr' up' hx hav => ?_⟩
    simp only [avoidAs, Bool.and_true] at hav
    simp only [listOf_ext hx hav hl, hstr, hb]

/-! ### a taking load -/
theorem hget_hset (k j : Nat) (h : HO) : ∀ f : Fram, hget j (hset k h f) = if j = k then (if hhas k f then some h else none) else hget j f
  | [] => by simp [hset, hget, hhas]
  | (i, x) :: r => by
    by_cases a : i = k
    · subst a
      by_cases b : j = i
      · subst b; simp [hset, hget, hhas]
      · simp [hset, hget, hhas, b, Ne.symm b]
    · by_cases b : i = j
      · subst b; simp [hset, hget, a]
      · by_cases c : j = k
        · subst c; simp only [hset, if_neg a, hget, if_neg b, hget_hset j j h r, if_true, hhas]; rfl
        · simp only [hset, if_neg a, hget, if_neg b, hget_hset k j h r, if_neg c]
theorem hhas_hset (k j : Nat) (h : HO) (f : Fram) : hhas j (hset k h f) = hhas j f := by
  unfold hhas
  rw [hget_hset]
  by_cases e : j = k
  · subst e
    rw [if_pos rfl]
    unfold hhas
    cases hg : hget j f <;> simp [hg]
  · rw [if_neg e]
theorem getH_setH {d k e j : Nat} {h x : HO} {fs : List Fram} (hx : getH d k fs = some x) : getH e j (setH d k h fs) = if e = d ∧ j = k then some h else getH e j fs := by
  have hlt : d < fs.length := by
    by_cases hd : d < fs.length
    · exact hd
    · exfalso
      have : ∀ (fs : List Fram) (d : Nat), ¬ d < fs.length → fget d fs = [] := by
        intro fs
        induction fs with
        | nil => intro d _; cases d <;> rfl
        | cons f r ih => intro d hd; cases d with | zero => simp at hd | succ d => simp only [fget]; exact ih d (by simpa using hd)
      unfold getH at hx; rw [this fs d hd] at hx; simp [hget] at hx
  have hhas' : hhas k (fget d fs) = true := by unfold getH at hx; unfold hhas; rw [hx]; rfl
  unfold getH setH
  rw [fget_fset]
  by_cases e1 : e = d
  · subst e1
    rw [if_pos ⟨rfl, hlt⟩, hget_hset]
    by_cases e2 : j = k
    · subst e2; simp [hhas']
    · simp [e2]
  · rw [if_neg (fun h => e1 h.1), if_neg (fun h => e1 h.1)]

theorem untake_dem (off : Nat) (l : List CV) (cs : List CV) (hl : l = cut off l.length cs) (hn : off + l.length ≤ cs.length) : demL (put cs off (untakeL l)) = demL cs := by
  have hlen := untakeL_length l
  unfold put
  rw [demL_map, List.map_append, List.map_append, ← demL_map (untakeL l), demL_untake, demL_map l, hlen]
  rw [← List.map_append, ← List.map_append, demL_map]
  congr 1
  conv => rhs; rw [← List.take_append_drop off cs, ← List.take_append_drop l.length (cs.drop off), List.drop_drop]
  rw [List.append_assoc]
  congr 2

/-- What a taking load does: it reads a box, and leaves it. -/
theorem act_T {agg : Bool} {n : Nat} {vs : List AV} {fr fr1 : Fram} {up up1 : List Fram} {r : AV} (h : act C (.ld agg n true) vs fr up = (r, fr1, up1, true)) :
    (fr1 = fr ∧ up1 = up ∧ ∃ cs off, vs = [.c (.ipt cs off)] ∧ ∀ fr' up', act C (.ld agg n true) vs fr' up' = (r, fr', up', true)) ∨
    (fr1 = fr ∧ up1 = up ∧ ∃ d k sz i off, vs = [.c (.aref d k sz i off)] ∧ cls (.ld agg n false) = .R ∧ ∀ fr' up', act C (.ld agg n true) vs fr' up' = act C (.ld agg n false) vs fr' up') ∨
    ∃ d k off cs, vs = [.c (.ref d k off)] ∧ getH d k (fr :: up) = some (.box cs) ∧ off + n ≤ cs.length ∧ fr1 :: up1 = setH d k (.box (put cs off (untakeL (cut off n cs)))) (fr :: up) ∧
      ∀ fr' up' fr2 up2, getH d k (fr' :: up') = some (.box cs) → setH d k (.box (put cs off (untakeL (cut off n cs)))) (fr' :: up') = fr2 :: up2 → act C (.ld agg n true) vs fr' up' = (r, fr2, up2, true) := by
  have h0 := h
  simp only [act] at h
  split at h
  case h_2 => exact absurd h bad_ne
  rename_i x
  cases x with
  | ipt cs off => simp only [Prod.mk.injEq] at h; obtain ⟨rfl, rfl, rfl, h4⟩ := h; exact .inl ⟨rfl, rfl, cs, off, rfl, fun _ _ => by simp only [act, h4]⟩
  | aref d k sz i off =>
    refine .inr (.inl ?_)
    dsimp only at h
    split at h
    case h_2 => exact absurd h bad_ne
    simp only [Prod.mk.injEq] at h
    obtain ⟨rfl, rfl, rfl, h4⟩ := h
    exact ⟨rfl, rfl, d, k, sz, i, off, rfl, rfl, fun _ _ => rfl⟩
  | ref d k off =>
    refine .inr (.inr ?_)
    dsimp only at h
    split at h
    case h_2 => exact absurd h bad_ne
    rename_i cs hcs
    simp only [if_true] at h
    split at h
    case h_2 => exact absurd h bad_ne
    rename_i f1 u1 hst
    simp only [Prod.mk.injEq, decide_eq_true_eq] at h
    obtain ⟨rfl, rfl, rfl, h4⟩ := h
    refine ⟨d, k, off, cs, rfl, hcs, h4, hst.symm, fun fr' up' fr2 up2 hg hs => ?_⟩
    have hs' : fset d (hset k (.box (put cs off (untakeL (cut off n cs)))) (fget d (fr' :: up'))) (fr' :: up') = fr2 :: up2 := hs
    simp only [act, hg, if_true, hs', decide_eq_true h4]
  | _ => simp [bad] at h
end
end Go.ScE
