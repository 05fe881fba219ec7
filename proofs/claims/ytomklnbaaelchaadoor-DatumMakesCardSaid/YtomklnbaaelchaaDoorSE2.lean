/- E2: what abstract values say of a world: relations, and how they stay. -/
import Derived.Test.YtomklnbaaelchaaDoorSE1
set_option linter.unusedVariables false
namespace Go.ScE

/-- Ghosts: cells that keep their value from now on; rows of cells whose size is known and that are not frozen. -/
structure Gh where
  S : Nat → Nat → Option Value
  Z : Nat → Option Nat

structure Gh.le (γ γ' : Gh) : Prop where
  s : ∀ g o v, γ.S g o = some v → γ'.S g o = some v
  z : ∀ g n, γ.Z g = some n → γ'.Z g = some n
theorem Gh.le.refl (γ : Gh) : γ.le γ := ⟨fun _ _ _ h => h, fun _ _ h => h⟩
theorem Gh.le.trans {a b c : Gh} (h : a.le b) (k : b.le c) : a.le c := ⟨fun g o v x => k.s g o v (h.s g o v x), fun g n x => k.z g n (h.z g n x)⟩

structure WOk (γ : Gh) (w : World) : Prop where
  cell : ∀ g o v, γ.S g o = some v → w.cell? ⟨g, o, none⟩ = some v
  size : ∀ g n, γ.Z g = some n → ∃ c e, w.heap[g]? = some (.cells c e (0, 0)) ∧ c.size = n

abbrev cellV (v : Value) : Bool := v.oneCell'

abbrev Bud := Nat → Nat
abbrev Bet := Nat → Nat → Option Nat
def Bet.le (β β' : Bet) : Prop := ∀ d k g, β d k = some g → β' d k = some g
def Bet.sub (β : Bet) (n : Nat) : Bet := fun d => β (d + n)

inductive RepP (γ : Gh) : Value → PV → Prop
  | lit (v : Value) (h : cellV v = true) : RepP γ v (.lit v)
  | nil (sz : Nat) : RepP γ (.slice none 0 0) (.sl sz [])
  | nul (sz : Nat) (a : Addr) : RepP γ (.slice (some a) 0 0) (.sl sz [])
  | sl (g off cap sz : Nat) (l : List (List PV)) (val : Nat → Nat → Value) (hc : l.length ≤ cap) (hl : ∀ (i : Nat) (c : List PV), l[i]? = some c → c.length = sz)
      (hs : ∀ (i : Nat) (c : List PV) (j : Nat) (p : PV), l[i]? = some c → c[j]? = some p → γ.S g (off + i * sz + j) = some (val i j))
      (hr : ∀ (i : Nat) (c : List PV) (j : Nat) (p : PV), l[i]? = some c → c[j]? = some p → RepP γ (val i j) p) : RepP γ (.slice (some ⟨g, off, none⟩) l.length cap) (.sl sz l)

inductive RepC (γ : Gh) (β : Bet) : Value → CV → Bud → Prop
  | p {v : Value} {x : PV} {c : Bud} (h : RepP γ v x) : RepC γ β v (.p x) c
  | ownNil {sz : Nat} {c : Bud} : RepC γ β (.slice none 0 0) (.own sz []) c
  | own {g cap sz : Nat} {l : List (List PV)} {c : Bud} (hg : 1 ≤ c g) (hr : RepP γ (.slice (some ⟨g, 0, none⟩) l.length cap) (.sl sz l)) (hz : γ.Z g = some (cap * sz))
      (hs : ∀ o, l.length * sz ≤ o → γ.S g o = none) : RepC γ β (.slice (some ⟨g, 0, none⟩) l.length cap) (.own sz l) c
  | ipt {g base off : Nat} {cs : List PV} {c : Bud} (val : Nat → Value) (hs : ∀ (j : Nat) (p : PV), cs[j]? = some p → γ.S g (base + j) = some (val j)) (hr : ∀ (j : Nat) (p : PV), cs[j]? = some p → RepP γ (val j) p) :
      RepC γ β (.pointer (some ⟨g, base + off, none⟩)) (.ipt cs off) c
  | ref {d k off g : Nat} {c : Bud} (h : β d k = some g) : RepC γ β (.pointer (some ⟨g, off, none⟩)) (.ref d k off) c
  | aref {d k sz i off g : Nat} {c : Bud} (h : β d k = some g) : RepC γ β (.pointer (some ⟨g, i * sz + off, none⟩)) (.aref d k sz i off) c
  | arr {d k sz off n cap g : Nat} {c : Bud} (h : β d k = some g) (hc : n ≤ cap) : RepC γ β (.slice (some ⟨g, off * sz, none⟩) n cap) (.arr d k sz off n) c
  | mp {d k g : Nat} {c : Bud} (h : β d k = some g) : RepC γ β (.map (some g)) (.mp d k) c
  | dead {v : Value} {c : Bud} (h : cellV v = true) : RepC γ β v .dead c

inductive RepCs (γ : Gh) (β : Bet) : List Value → List CV → Bud → Prop
  | nil {c : Bud} : RepCs γ β [] [] c
  | cons {v : Value} {vs : List Value} {x : CV} {xs : List CV} {c1 c2 c : Bud} (h : RepC γ β v x c1) (r : RepCs γ β vs xs c2) (hc : ∀ g, c1 g + c2 g ≤ c g) : RepCs γ β (v :: vs) (x :: xs) c

inductive RepT (γ : Gh) (β : Bet) : List Value → List (Bool × List CV) → Bud → Prop
  | nil {c : Bud} : RepT γ β [] [] c
  | agg {vs : Array Value} {r : List Value} {l : List CV} {ls : List (Bool × List CV)} {c1 c2 c : Bud} (h : RepCs γ β vs.toList l c1) (t : RepT γ β r ls c2) (hc : ∀ g, c1 g + c2 g ≤ c g) : RepT γ β (.agg vs :: r) ((true, l) :: ls) c
  | one {v : Value} {r : List Value} {x : CV} {ls : List (Bool × List CV)} {c1 c2 c : Bud} (h : RepC γ β v x c1) (t : RepT γ β r ls c2) (hc : ∀ g, c1 g + c2 g ≤ c g) : RepT γ β (v :: r) ((false, [x]) :: ls) c
  | dead {v : Value} {r : List Value} {ls : List (Bool × List CV)} {c : Bud} (t : RepT γ β r ls c) : RepT γ β (v :: r) ((false, [.dead]) :: ls) c

inductive RepA (γ : Gh) (β : Bet) : Value → AV → Bud → Prop
  | dead {v : Value} {c : Bud} : RepA γ β v (.c .dead) c
  | c {v : Value} {x : CV} {c : Bud} (h : RepC γ β v x c) : RepA γ β v (.c x) c
  | agg {vs : Array Value} {l : List CV} {c : Bud} (h : RepCs γ β vs.toList l c) : RepA γ β (.agg vs) (.agg l) c
  | tup {vs : Array Value} {l : List (Bool × List CV)} {c : Bud} (h : RepT γ β vs.toList l c) : RepA γ β (.tuple vs) (.tup l) c

inductive RepAs (γ : Gh) (β : Bet) : List Value → List AV → Bud → Prop
  | nil {c : Bud} : RepAs γ β [] [] c
  | cons {v : Value} {vs : List Value} {x : AV} {xs : List AV} {c1 c2 c : Bud} (h : RepA γ β v x c1) (r : RepAs γ β vs xs c2) (hc : ∀ g, c1 g + c2 g ≤ c g) : RepAs γ β (v :: vs) (x :: xs) c

inductive RepE (γ : Gh) (β : Bet) (tm : Array Value) : List Nat → Env → Bud → Prop
  | nil {s : List Nat} {c : Bud} : RepE γ β tm s [] c
  | skip {s : List Nat} {t : Nat} {x : AV} {r : Env} {c : Bud} (h : t ∈ s) (e : RepE γ β tm s r c) : RepE γ β tm s ((t, x) :: r) c
  | cons {s : List Nat} {t : Nat} {x : AV} {r : Env} {c1 c2 c : Bud} (h : t ∉ s) (a : RepA γ β (tm.getD t undef) x c1) (e : RepE γ β tm (t :: s) r c2) (hc : ∀ g, c1 g + c2 g ≤ c g) : RepE γ β tm s ((t, x) :: r) c

inductive RepM (γ : Gh) : List MapEntry → List (Value × Bool × List PV) → Prop
  | nil : RepM γ [] []
  | one {e : MapEntry} {r : List MapEntry} {p : PV} {xs : List (Value × Bool × List PV)} (h : RepP γ e.val p) (hk : keyOk e.key = true) (t : RepM γ r xs) : RepM γ (e :: r) ((e.key, false, [p]) :: xs)
  | agg {e : MapEntry} {r : List MapEntry} {vs : Array Value} {ps : List PV} {xs : List (Value × Bool × List PV)} (he : e.val = .agg vs) (h : RepCs γ (fun _ _ => none) vs.toList (pvs ps) (fun _ => 0)) (hk : keyOk e.key = true) (t : RepM γ r xs) : RepM γ (e :: r) ((e.key, true, ps) :: xs)

inductive RepH (γ : Gh) (w : World) (β : Bet) (g : Nat) : HO → Bud → Prop
  | box {vs : Array Value} {e : TypeId} {cs : List CV} {c1 c : Bud} (hh : w.heap[g]? = some (.cells vs e (0, 0))) (hr : RepCs γ β vs.toList cs c1) (hs : ∀ o, γ.S g o = none)
      (hc : ∀ g', c1 g' + (if g' = g then 1 else 0) ≤ c g') : RepH γ w β g (.box cs) c
  | arr {vs : Array Value} {e : TypeId} {sz : Nat} {l : List (List PV)} {c : Bud} (hh : w.heap[g]? = some (.cells vs e (0, 0))) (hn : vs.size = l.length * sz) (hl : ∀ (i : Nat) (c : List PV), l[i]? = some c → c.length = sz)
      (hr : ∀ (i : Nat) (c : List PV) (j : Nat) (p : PV), l[i]? = some c → c[j]? = some p → ∃ v, vs[i * sz + j]? = some v ∧ RepP γ v p) (hs : ∀ o, γ.S g o = none) (hc : 1 ≤ c g) : RepH γ w β g (.arr sz l) c
  | map {es : Array MapEntry} {clock : Nat} {xs : List (Value × Bool × List PV)} {c : Bud} (hh : w.heap[g]? = some (.map es clock)) (hr : RepM γ es.toList xs) (hs : ∀ o, γ.S g o = none) (hc : 1 ≤ c g) : RepH γ w β g (.map xs) c

inductive RepFr (γ : Gh) (w : World) (β : Bet) : Fram → Bud → Prop
  | nil {c : Bud} : RepFr γ w β [] c
  | cons {k : Nat} {h : HO} {r : Fram} {g : Nat} {c1 c2 c : Bud} (hb : β 0 k = some g) (hh : RepH γ w β g h c1) (t : RepFr γ w β r c2) (hc : ∀ g, c1 g + c2 g ≤ c g) : RepFr γ w β ((k, h) :: r) c

inductive RepFs (γ : Gh) (w : World) : Bet → List Fram → Bud → Prop
  | nil {β : Bet} {c : Bud} : RepFs γ w β [] c
  | cons {β : Bet} {f : Fram} {r : List Fram} {c1 c2 c : Bud} (h : RepFr γ w β f c1) (t : RepFs γ w (β.sub 1) r c2) (hc : ∀ g, c1 g + c2 g ≤ c g) : RepFs γ w β (f :: r) c

/-! ### staying -/
section mono
variable {γ γ' : Gh} {β β' : Bet}

theorem RepP.mono (hγ : γ.le γ') {v : Value} {x : PV} (h : RepP γ v x) : RepP γ' v x := by
  induction h with
  | lit v h => exact .lit v h
  | nil sz => exact .nil sz
  | nul sz a => exact .nul sz a
  | sl g off cap sz l val hc hl hs hr ih => exact .sl g off cap sz l val hc hl (fun i c j p h1 h2 => hγ.s _ _ _ (hs i c j p h1 h2)) ih

/-- What a step keeps for a budget: the ghosts of what it claims. -/
def KeepS (γ γ' : Gh) (c : Bud) : Prop := ∀ g, 1 ≤ c g → ∀ o, γ'.S g o = γ.S g o
theorem KeepS.mono {c c' : Bud} (h : KeepS γ γ' c) (hc : ∀ g, c' g ≤ c g) : KeepS γ γ' c' := fun g hg => h g (Nat.le_trans hg (hc g))

theorem RepC.mono (hγ : γ.le γ') (hβ : β.le β') {v : Value} {x : CV} {c : Bud} (h : RepC γ β v x c) (hk : KeepS γ γ' c) : RepC γ' β' v x c := by
  cases h with
  | p h => exact .p (h.mono hγ)
  | ownNil => exact .ownNil
  | own hg hr hz hs => exact .own hg (hr.mono hγ) (hγ.z _ _ hz) (fun o ho => by rw [hk _ hg]; exact hs o ho)
  | ipt val hs hr => exact .ipt val (fun j p hj => hγ.s _ _ _ (hs j p hj)) (fun j p hj => (hr j p hj).mono hγ)
  | ref h => exact .ref (hβ _ _ _ h)
  | aref h => exact .aref (hβ _ _ _ h)
  | arr h hc => exact .arr (hβ _ _ _ h) hc
  | mp h => exact .mp (hβ _ _ _ h)
  | dead h => exact .dead h

theorem RepC.weak {v : Value} {x : CV} {c c' : Bud} (h : RepC γ β v x c) (hc : ∀ g, c g ≤ c' g) : RepC γ β v x c' := by
  cases h with
  | p h => exact .p h
  | ownNil => exact .ownNil
  | own hg hr hz hs => exact .own (Nat.le_trans hg (hc _)) hr hz hs
  | ipt val hs hr => exact .ipt val hs hr
  | ref h => exact .ref h
  | aref h => exact .aref h
  | arr h hc => exact .arr h hc
  | mp h => exact .mp h
  | dead h => exact .dead h

theorem RepC.cellV {v : Value} {x : CV} {c : Bud} (h : RepC γ β v x c) : cellV v = true := by
  cases h with
  | p h => cases h <;> first | assumption | rfl
  | dead h => exact h
  | _ => rfl

theorem le_of_split1 {c1 c2 c : Bud} (h : ∀ g, c1 g + c2 g ≤ c g) (g : Nat) : c1 g ≤ c g := by have := h g; omega
theorem le_of_split2 {c1 c2 c : Bud} (h : ∀ g, c1 g + c2 g ≤ c g) (g : Nat) : c2 g ≤ c g := by have := h g; omega

theorem RepCs.mono (hγ : γ.le γ') (hβ : β.le β') {vs : List Value} {xs : List CV} {c : Bud} (h : RepCs γ β vs xs c) (hk : KeepS γ γ' c) : RepCs γ' β' vs xs c := by
  induction h with
  | nil => exact .nil
  | cons h r hc ih => exact .cons (h.mono hγ hβ (hk.mono (le_of_split1 hc))) (ih (hk.mono (le_of_split2 hc))) hc
theorem RepCs.weak {vs : List Value} {xs : List CV} {c c' : Bud} (h : RepCs γ β vs xs c) (hc : ∀ g, c g ≤ c' g) : RepCs γ β vs xs c' := by
  cases h with
  | nil => exact .nil
  | cons h r h1 => exact .cons h r (fun g => Nat.le_trans (h1 g) (hc g))
theorem RepT.mono (hγ : γ.le γ') (hβ : β.le β') {vs : List Value} {xs : List (Bool × List CV)} {c : Bud} (h : RepT γ β vs xs c) (hk : KeepS γ γ' c) : RepT γ' β' vs xs c := by
  induction h with
  | nil => exact .nil
  | agg h t hc ih => exact .agg (h.mono hγ hβ (hk.mono (le_of_split1 hc))) (ih (hk.mono (le_of_split2 hc))) hc
  | one h t hc ih => exact .one (h.mono hγ hβ (hk.mono (le_of_split1 hc))) (ih (hk.mono (le_of_split2 hc))) hc
  | dead t ih => exact .dead (ih hk)
theorem RepT.weak {vs : List Value} {xs : List (Bool × List CV)} {c c' : Bud} (h : RepT γ β vs xs c) (hc : ∀ g, c g ≤ c' g) : RepT γ β vs xs c' := by
  induction h generalizing c' with
  | nil => exact .nil
  | agg h t h1 ih => exact .agg h t (fun g => Nat.le_trans (h1 g) (hc g))
  | one h t h1 ih => exact .one h t (fun g => Nat.le_trans (h1 g) (hc g))
  | dead t ih => exact .dead (ih hc)
theorem RepA.mono (hγ : γ.le γ') (hβ : β.le β') {v : Value} {x : AV} {c : Bud} (h : RepA γ β v x c) (hk : KeepS γ γ' c) : RepA γ' β' v x c := by
  cases h with
  | dead => exact .dead
  | c h => exact .c (h.mono hγ hβ hk)
  | agg h => exact .agg (h.mono hγ hβ hk)
  | tup h => exact .tup (h.mono hγ hβ hk)
theorem RepA.weak {v : Value} {x : AV} {c c' : Bud} (h : RepA γ β v x c) (hc : ∀ g, c g ≤ c' g) : RepA γ β v x c' := by
  cases h with
  | dead => exact .dead
  | c h => exact .c (h.weak hc)
  | agg h => exact .agg (h.weak hc)
  | tup h => exact .tup (h.weak hc)
theorem RepAs.mono (hγ : γ.le γ') (hβ : β.le β') {vs : List Value} {xs : List AV} {c : Bud} (h : RepAs γ β vs xs c) (hk : KeepS γ γ' c) : RepAs γ' β' vs xs c := by
  induction h with
  | nil => exact .nil
  | cons h r hc ih => exact .cons (h.mono hγ hβ (hk.mono (le_of_split1 hc))) (ih (hk.mono (le_of_split2 hc))) hc
theorem RepAs.weak {vs : List Value} {xs : List AV} {c c' : Bud} (h : RepAs γ β vs xs c) (hc : ∀ g, c g ≤ c' g) : RepAs γ β vs xs c' := by
  cases h with
  | nil => exact .nil
  | cons h r h1 => exact .cons h r (fun g => Nat.le_trans (h1 g) (hc g))
theorem RepE.mono (hγ : γ.le γ') (hβ : β.le β') {tm : Array Value} {s : List Nat} {e : Env} {c : Bud} (h : RepE γ β tm s e c) (hk : KeepS γ γ' c) : RepE γ' β' tm s e c := by
  induction h with
  | nil => exact .nil
  | skip h e ih => exact .skip h (ih hk)
  | cons h a e hc ih => exact .cons h (a.mono hγ hβ (hk.mono (le_of_split1 hc))) (ih (hk.mono (le_of_split2 hc))) hc
theorem RepE.weak {tm : Array Value} {s : List Nat} {e : Env} {c c' : Bud} (h : RepE γ β tm s e c) (hc : ∀ g, c g ≤ c' g) : RepE γ β tm s e c' := by
  induction h generalizing c' with
  | nil => exact .nil
  | skip h e ih => exact .skip h (ih hc)
  | cons h a e h1 ih => exact .cons h a e (fun g => Nat.le_trans (h1 g) (hc g))

theorem KeepS.zero (c : Bud) (h : ∀ g, c g = 0) : KeepS γ γ' c := fun g hg => by rw [h g] at hg; omega

theorem RepM.mono (hγ : γ.le γ') {es : List MapEntry} {xs : List (Value × Bool × List PV)} (h : RepM γ es xs) : RepM γ' es xs := by
  induction h with
  | nil => exact .nil
  | one h hk t ih => exact .one (h.mono hγ) hk ih
  | agg he h hk t ih => exact .agg he (h.mono hγ (fun _ _ _ h => h) (KeepS.zero _ fun _ => rfl)) hk ih

/-- What a step keeps for a budget: the blocks that it claims, and their ghosts. -/
structure KeepW (γ γ' : Gh) (w w' : World) (c : Bud) : Prop where
  s : KeepS γ γ' c
  h : ∀ g, 1 ≤ c g → w'.heap[g]? = w.heap[g]?
theorem KeepW.mono {w w' : World} {c c' : Bud} (h : KeepW γ γ' w w' c) (hc : ∀ g, c' g ≤ c g) : KeepW γ γ' w w' c' := ⟨h.s.mono hc, fun g hg => h.h g (Nat.le_trans hg (hc g))⟩

theorem RepH.mono (hγ : γ.le γ') (hβ : β.le β') {w w' : World} {g : Nat} {x : HO} {c : Bud} (h : RepH γ w β g x c) (hk : KeepW γ γ' w w' c) : RepH γ' w' β' g x c := by
  cases h with
  | box hh hr hs hc =>
    have h1 : 1 ≤ c g := by have := hc g; simp at this; omega
    exact .box (by rw [hk.h g h1]; exact hh) (hr.mono hγ hβ (hk.s.mono fun g' => by have := hc g'; omega)) (fun o => by rw [hk.s g h1]; exact hs o) hc
  | arr hh hn hl hr hs hc =>
    exact .arr (by rw [hk.h g hc]; exact hh) hn hl (fun i c j p h1 h2 => let ⟨v, a, b⟩ := hr i c j p h1 h2; ⟨v, a, b.mono hγ⟩) (fun o => by rw [hk.s g hc]; exact hs o) hc
  | map hh hr hs hc => exact .map (by rw [hk.h g hc]; exact hh) (hr.mono hγ) (fun o => by rw [hk.s g hc]; exact hs o) hc
theorem RepH.weak {w : World} {g : Nat} {x : HO} {c c' : Bud} (h : RepH γ w β g x c) (hc : ∀ g, c g ≤ c' g) : RepH γ w β g x c' := by
  cases h with
  | box hh hr hs h1 => exact .box hh hr hs (fun g => Nat.le_trans (h1 g) (hc g))
  | arr hh hn hl hr hs h1 => exact .arr hh hn hl hr hs (Nat.le_trans h1 (hc g))
  | map hh hr hs h1 => exact .map hh hr hs (Nat.le_trans h1 (hc g))
theorem RepFr.mono (hγ : γ.le γ') (hβ : β.le β') {w w' : World} {f : Fram} {c : Bud} (h : RepFr γ w β f c) (hk : KeepW γ γ' w w' c) : RepFr γ' w' β' f c := by
  induction h with
  | nil => exact .nil
  | cons hb hh t hc ih => exact .cons (hβ _ _ _ hb) (hh.mono hγ hβ (hk.mono (le_of_split1 hc))) (ih (hk.mono (le_of_split2 hc))) hc
theorem RepFr.weak {w : World} {f : Fram} {c c' : Bud} (h : RepFr γ w β f c) (hc : ∀ g, c g ≤ c' g) : RepFr γ w β f c' := by
  cases h with
  | nil => exact .nil
  | cons hb hh t h1 => exact .cons hb hh t (fun g => Nat.le_trans (h1 g) (hc g))
theorem Bet.le.sub (h : β.le β') (n : Nat) : (β.sub n).le (β'.sub n) := fun _ _ _ hd => h _ _ _ hd
theorem RepFs.mono (hγ : γ.le γ') {w w' : World} {fs : List Fram} {c : Bud} (h : RepFs γ w β fs c) : ∀ {β' : Bet}, β.le β' → KeepW γ γ' w w' c → RepFs γ' w' β' fs c := by
  induction h with
  | nil => exact fun _ _ => .nil
  | cons h t hc ih => exact fun hβ hk => .cons (h.mono hγ hβ (hk.mono (le_of_split1 hc))) (ih (hβ.sub 1) (hk.mono (le_of_split2 hc))) hc
theorem RepFs.weak {w : World} {fs : List Fram} {c c' : Bud} (h : RepFs γ w β fs c) (hc : ∀ g, c g ≤ c' g) : RepFs γ w β fs c' := by
  cases h with
  | nil => exact .nil
  | cons h t h1 => exact .cons h t (fun g => Nat.le_trans (h1 g) (hc g))
end mono

/-! ### copies claim nothing -/
section dem
variable {γ : Gh} {β : Bet}
abbrev none0 : Bud := fun _ => 0
theorem RepC.dem {v : Value} {x : CV} {c : Bud} (h : RepC γ β v x c) (c' : Bud) : RepC γ β v (demC x) c' := by
  cases h with
  | p h => exact .p h
  | ownNil => exact .p (.nil _)
  | own hg hr hz hs => exact .p hr
  | ipt val hs hr => exact .ipt val hs hr
  | ref h => exact .ref h
  | aref h => exact .aref h
  | arr h hc => exact .arr h hc
  | mp h => exact .mp h
  | dead h => exact .dead h
theorem RepCs.dem {vs : List Value} {xs : List CV} {c : Bud} (h : RepCs γ β vs xs c) (c' : Bud) : RepCs γ β vs (demL xs) c' := by
  induction h with
  | nil => exact .nil
  | cons h r hc ih => exact .cons (c1 := none0) (h.dem _) ih (fun g => by simp)
theorem RepT.dem {vs : List Value} {xs : List (Bool × List CV)} {c : Bud} (h : RepT γ β vs xs c) (c' : Bud) : RepT γ β vs (demT xs) c' := by
  induction h with
  | nil => exact .nil
  | agg h t hc ih => exact .agg (c1 := none0) (h.dem _) ih (fun g => by simp)
  | one h t hc ih => exact .one (c1 := none0) (h.dem _) ih (fun g => by simp)
  | dead t ih => exact .dead ih
theorem RepA.dem {v : Value} {x : AV} {c : Bud} (h : RepA γ β v x c) (c' : Bud) : RepA γ β v (demA x) c' := by
  cases h with
  | dead => exact .dead
  | c h => exact .c (h.dem _)
  | agg h => exact .agg (h.dem _)
  | tup h => exact .tup (h.dem _)

theorem demC_idem (x : CV) : demC (demC x) = demC x := by cases x <;> rfl

/-- A slot's value, and the others. -/
theorem RepE.look {tm : Array Value} {s : List Nat} {e : Env} {c : Bud} (h : RepE γ β tm s e c) (t : Nat) (ht : t ∉ s) : RepA γ β (tm.getD t undef) (look t e) c := by
  induction h with
  | nil => exact .dead
  | skip hs e ih =>
    rename_i s t' x r c
    have : t' ≠ t := fun h => ht (h ▸ hs)
    simp only [ScE.look, if_neg this]
    exact ih ht
  | cons hs a e hc ih =>
    rename_i s t' x r c1 c2 c
    by_cases hh : t' = t
    · subst hh; simp only [ScE.look, if_true]; exact a.weak (le_of_split1 hc)
    · simp only [ScE.look, if_neg hh]
      exact (ih (by simp [ht, Ne.symm hh])).weak (le_of_split2 hc)

/-- Skipping more. -/
theorem RepE.seen {tm : Array Value} {s s' : List Nat} {e : Env} {c : Bud} (h : RepE γ β tm s e c) (hs : ∀ t, t ∈ s → t ∈ s') : RepE γ β tm s' e c := by
  induction h generalizing s' with
  | nil => exact .nil
  | skip h e ih => exact .skip (hs _ h) (ih hs)
  | cons h a e hc ih =>
    rename_i s t x r c1 c2 c
    by_cases hh : t ∈ s'
    · exact .skip hh ((ih (s' := s') (fun u hu => by cases List.mem_cons.1 hu with | inl h => exact h ▸ hh | inr h => exact hs u h)).weak (le_of_split2 hc))
    · exact .cons hh a (ih (fun u hu => by
        cases List.mem_cons.1 hu with
        | inl h => exact h ▸ List.mem_cons_self
        | inr h => exact List.mem_cons_of_mem _ (hs u h))) hc

/-- A slot's value taken out: the others keep the rest. -/
theorem RepE.take {tm : Array Value} {s : List Nat} {e : Env} {c : Bud} (h : RepE γ β tm s e c) (t : Nat) (ht : t ∉ s) :
    ∃ c1 c2, (∀ g, c1 g + c2 g ≤ c g) ∧ RepA γ β (tm.getD t undef) (ScE.look t e) c1 ∧ RepE γ β tm (t :: s) e c2 := by
  induction h with
  | nil => exact ⟨none0, _, fun g => by simp, .dead, .nil (c := none0)⟩
  | skip hs e ih =>
    rename_i s t' x r c
    have : t' ≠ t := fun h => ht (h ▸ hs)
    obtain ⟨c1, c2, h1, h2, h3⟩ := ih ht
    exact ⟨c1, c2, h1, by simp only [ScE.look, if_neg this]; exact h2, .skip (List.mem_cons_of_mem _ hs) h3⟩
  | cons hs a e hc ih =>
    rename_i s t' x r c1 c2 c
    by_cases hh : t' = t
    · subst hh
      exact ⟨c1, c2, hc, by simp only [ScE.look, if_true]; exact a, .skip List.mem_cons_self e⟩
    · obtain ⟨d1, d2, h1, h2, h3⟩ := ih (by simp [ht, Ne.symm hh])
      refine ⟨d1, fun g => c1 g + d2 g, fun g => by have := hc g; have := h1 g; show d1 g + (c1 g + d2 g) ≤ c g; omega, by simp only [ScE.look, if_neg hh]; exact h2, .cons (by simp [hs, hh]) a (h3.seen fun u hu => ?_) (fun g => Nat.le_refl _)⟩
      simp only [List.mem_cons] at *
      rcases hu with h | h | h
      · exact .inr (.inl h)
      · exact .inl h
      · exact .inr (.inr h)

/-- A slot is set. -/
theorem RepE.tmset {tm : Array Value} {s : List Nat} {e : Env} {c : Bud} (h : RepE γ β tm s e c) {t : Nat} (ht : t ∈ s) (v : Value) : RepE γ β (tm.setIfInBounds t v) s e c := by
  induction h with
  | nil => exact .nil
  | skip h e ih => exact .skip h (ih ht)
  | cons h a e hc ih =>
    rename_i s t' x r c1 c2 c
    have hne : t ≠ t' := fun hh => h (hh ▸ ht)
    refine .cons h ?_ (ih (List.mem_cons_of_mem _ ht)) hc
    have : (tm.setIfInBounds t v).getD t' undef = tm.getD t' undef := by
      simp [Array.getD_eq_getD_getElem?, Array.getElem?_setIfInBounds_ne hne]
    rw [this]; exact a

theorem RepE.put {tm : Array Value} {e : Env} {c c1 c2 : Bud} (h : RepE γ β tm [] e c2) {t : Nat} (hn : t < tm.size) {v : Value} {x : AV} (a : RepA γ β v x c1) (hc : ∀ g, c1 g + c2 g ≤ c g) :
    RepE γ β (tm.setIfInBounds t v) [] ((t, x) :: e) c := by
  refine .cons (by simp) ?_ ((h.seen (s' := [t]) (by simp)).tmset (by simp) v) hc
  have : (tm.setIfInBounds t v).getD t undef = v := by simp [Array.getD_eq_getD_getElem?, hn]
  rw [this]; exact a
end dem
end Go.ScE
