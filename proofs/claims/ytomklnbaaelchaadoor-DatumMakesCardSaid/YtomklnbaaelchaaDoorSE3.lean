/- E3: steps of worlds; reading operands; lists laid into lists. -/
import Derived.Test.YtomklnbaaelchaaDoorSE2
import Derived.Laws.Cells
set_option linter.unusedVariables false
namespace Go.ScE

theorem put_get {α : Type} (l : List α) (off : Nat) (xs : List α) (h : off + xs.length ≤ l.length) (j : Nat) :
    (put l off xs)[j]? = if j < off then l[j]? else if j < off + xs.length then xs[j - off]? else l[j]? := by
  unfold put
  have h1 : (l.take off).length = off := by simp; omega
  by_cases a : j < off
  · rw [if_pos a, List.append_assoc, List.getElem?_append_left (by omega), List.getElem?_take_of_lt a]
  · rw [if_neg a]
    by_cases b : j < off + xs.length
    · rw [if_pos b, List.append_assoc, List.getElem?_append_right (by omega), h1, List.getElem?_append_left (by omega)]
    · rw [if_neg b, List.append_assoc, List.getElem?_append_right (by omega), h1, List.getElem?_append_right (by omega), List.getElem?_drop]
      congr 1; omega
theorem put_length {α : Type} (l : List α) (off : Nat) (xs : List α) (h : off + xs.length ≤ l.length) : (put l off xs).length = l.length := by
  unfold put; simp; omega
theorem put_nil {α : Type} (l : List α) (off : Nat) : put l off [] = l := by simp [put]
theorem put_cons {α : Type} (l : List α) (off : Nat) (x : α) (xs : List α) (h : off + (x :: xs).length ≤ l.length) : put l off (x :: xs) = put (l.set off x) (off + 1) xs := by
  simp only [List.length_cons] at h
  apply List.ext_getElem?
  intro j
  rw [put_get l off (x :: xs) (by simp; omega), put_get (l.set off x) (off + 1) xs (by simp; omega)]
  simp only [List.length_cons]
  by_cases a : j < off
  · rw [if_pos a, if_pos (by omega), List.getElem?_set_ne (by omega)]
  · by_cases b : j = off
    · subst b
      rw [if_neg (by omega), if_pos (by omega), if_pos (by omega), List.getElem?_set_self (by omega)]; simp
    · rw [if_neg a]
      by_cases c : j < off + (xs.length + 1)
      · rw [if_pos c, if_neg (by omega), if_pos (by omega)]
        obtain ⟨k, hk⟩ : ∃ k, j - off = k + 1 := ⟨j - off - 1, by omega⟩
        rw [hk, List.getElem?_cons_succ]; congr 1; omega
      · rw [if_neg c, if_neg (by omega), if_neg (by omega), List.getElem?_set_ne (by omega)]
theorem cut_get {α : Type} (off n : Nat) (l : List α) (j : Nat) : (cut off n l)[j]? = if j < n then l[off + j]? else none := by
  unfold cut
  by_cases h : j < n
  · rw [if_pos h, List.getElem?_take_of_lt h, List.getElem?_drop]
  · rw [if_neg h, List.getElem?_eq_none (by simp; omega)]
theorem cut_length {α : Type} (off n : Nat) (l : List α) (h : off + n ≤ l.length) : (cut off n l).length = n := by
  unfold cut; simp; omega

/-! ### a block written -/
def blk (w : World) (g : Nat) (o : Obj) : World := { w with heap := w.heap.setIfInBounds g o }
theorem blk_get (w : World) (g : Nat) (o : Obj) (k : Nat) : (blk w g o).heap[k]? = if k = g then (if g < w.heap.size then some o else none) else w.heap[k]? := by
  unfold blk
  by_cases h : k = g
  · subst h
    rw [if_pos rfl]
    by_cases hk : k < w.heap.size
    · simp [hk]
    · simp [hk]
  · rw [if_neg h]; simp [Array.getElem?_setIfInBounds_ne (Ne.symm h)]
@[simp] theorem blk_size (w : World) (g : Nat) (o : Obj) : (blk w g o).heap.size = w.heap.size := by simp [blk]
theorem blk_blk (w : World) (g : Nat) (o p : Obj) : blk (blk w g o) g p = blk w g p := by
  unfold blk; simp
theorem blk_self (w : World) (g : Nat) (o : Obj) (h : w.heap[g]? = some o) : blk w g o = w := by
  unfold blk
  have : w.heap.setIfInBounds g o = w.heap := by
    apply Array.ext_getElem?
    intro i
    by_cases hi : i = g
    · subst hi
      have := (Array.getElem?_eq_some_iff.1 h).1
      rw [h]; simp [this]
    · simp [Array.getElem?_setIfInBounds_ne (Ne.symm hi)]
  rw [this]
theorem setCell_blk (w : World) (g off : Nat) (v : Value) (c : Array Value) (e : TypeId) (f : Nat × Nat) (h : w.heap[g]? = some (.cells c e f)) :
    w.setCell ⟨g, off, none⟩ v = blk w g (.cells (c.setIfInBounds off v) e f) := by
  unfold World.setCell blk
  congr 1
  apply Array.ext_getElem?
  intro i
  by_cases hi : i = g
  · subst hi
    have := (Array.getElem?_eq_some_iff.1 h).1
    rw [Array.getElem?_modify, if_pos rfl, h]
    simp [this]
  · simp [Array.getElem?_modify, Array.getElem?_setIfInBounds_ne (Ne.symm hi), Ne.symm hi]
theorem cell_of_block (w : World) (g off : Nat) (c : Array Value) (e : TypeId) (f : Nat × Nat) (h : w.heap[g]? = some (.cells c e f)) : w.cell? ⟨g, off, none⟩ = c[off]? := by
  simp [World.cell?, h]
theorem frozen_of_block (w : World) (g off : Nat) (c : Array Value) (e : TypeId) (h : w.heap[g]? = some (.cells c e (0, 0))) : w.frozen? ⟨g, off, none⟩ = false := by
  simp [World.frozen?, h]
theorem add_off (g off n : Nat) : (Addr.add ⟨g, off, none⟩ n) = ⟨g, off + n, none⟩ := by
  unfold Addr.add; split
  · rename_i h; subst h; rfl
  · rfl

theorem run_storeCells {P : Program} : ∀ (vs : List Value) (i : Nat) (w : World) (g off : Nat) (c : Array Value) (e : TypeId), w.heap[g]? = some (.cells c e (0, 0)) → off + i + vs.length ≤ c.size → (∀ v, v ∈ vs → cellV v = true) →
    ∃ c' : Array Value, (storeCells ⟨g, off, none⟩ vs i).run P w = .ok () (blk w g (.cells c' e (0, 0))) ∧ c'.toList = put c.toList (off + i) vs
  | [], i, w, g, off, c, e, h, hn, hv => ⟨c, by rw [blk_self w g _ h]; rfl, by rw [put_nil]⟩
  | v :: vs, i, w, g, off, c, e, h, hn, hv => by
    simp only [List.length_cons] at hn
    have hc := cell_of_block w g (off + i) c e (0, 0) h
    have hlt : off + i < c.size := by omega
    have hw' : (w.setCell ⟨g, off + i, none⟩ v).heap[g]? = some (.cells (c.setIfInBounds (off + i) v) e (0, 0)) := by
      rw [setCell_blk w g (off + i) v c e (0, 0) h, blk_get, if_pos rfl, if_pos (Array.getElem?_eq_some_iff.1 h).1]
    obtain ⟨c', h1, h2⟩ := run_storeCells (P := P) vs (i + 1) (w.setCell ⟨g, off + i, none⟩ v) g off (c.setIfInBounds (off + i) v) e hw' (by simp; omega) (fun x hx => hv x (List.mem_cons_of_mem _ hx))
    refine ⟨c', ?_, ?_⟩
    · unfold storeCells
      simp only [Sem.run_bind, add_off]
      rw [run_store P w _ v _ (hv v List.mem_cons_self), hc, Array.getElem?_eq_getElem hlt]
      simp only [frozen_of_block w g (off + i) c e h, Bool.false_eq_true, if_false, Result.andThen_ok]
      rw [h1, setCell_blk w g (off + i) v c e (0, 0) h, blk_blk]
    · rw [h2, Array.toList_setIfInBounds, put_cons _ _ _ _ (by simp; omega), Nat.add_assoc]

/-! ### steps -/
structure Mok (w : World) (m : Bud) : Prop where
  one : ∀ g, m g ≤ 1
  out : ∀ g, w.heap.size ≤ g → m g = 0

structure Stp (m : Bud) (w : World) (γ : Gh) (w' : World) (γ' : Gh) (m' : Bud) : Prop where
  os : w'.os = w.os
  tape : w'.tape = w.tape
  output : w'.output = w.output
  size : w.heap.size ≤ w'.heap.size
  le : γ.le γ'
  ok : WOk γ' w'
  keepH : ∀ g, g < w.heap.size → m g = 0 → w'.heap[g]? = w.heap[g]?
  keepS : ∀ g, g < w.heap.size → m g = 0 → ∀ o, γ'.S g o = γ.S g o
  bud : ∀ g, g < w.heap.size → m' g ≤ m g
  mok : Mok w' m'
  frz : ∀ a, w'.frozen? a = w.frozen? a

theorem Stp.refl {m : Bud} {w : World} {γ : Gh} (h : WOk γ w) (hm : Mok w m) : Stp m w γ w γ m :=
  ⟨rfl, rfl, rfl, Nat.le_refl _, .refl γ, h, fun _ _ _ => rfl, fun _ _ _ _ => rfl, fun _ _ => Nat.le_refl _, hm, fun _ => rfl⟩
theorem Stp.trans {m m1 m2 : Bud} {w w1 w2 : World} {γ γ1 γ2 : Gh} (a : Stp m w γ w1 γ1 m1) (b : Stp m1 w1 γ1 w2 γ2 m2) : Stp m w γ w2 γ2 m2 where
  os := b.os.trans a.os
  tape := b.tape.trans a.tape
  output := b.output.trans a.output
  size := Nat.le_trans a.size b.size
  le := a.le.trans b.le
  ok := b.ok
  keepH g hg h0 := by
    have h1 : m1 g = 0 := by have := a.bud g hg; omega
    rw [b.keepH g (Nat.lt_of_lt_of_le hg a.size) h1, a.keepH g hg h0]
  keepS g hg h0 o := by
    have h1 : m1 g = 0 := by have := a.bud g hg; omega
    rw [b.keepS g (Nat.lt_of_lt_of_le hg a.size) h1, a.keepS g hg h0]
  bud g hg := Nat.le_trans (b.bud g (Nat.lt_of_lt_of_le hg a.size)) (a.bud g hg)
  mok := b.mok
  frz x := (b.frz x).trans (a.frz x)
/-- What is claimed besides stays. -/
theorem Stp.frame {m m' c : Bud} {w w' : World} {γ γ' : Gh} (a : Stp m w γ w' γ' m') (hm : Mok w fun g => m g + c g) : KeepW γ γ' w w' c ∧ Stp (fun g => m g + c g) w γ w' γ' (fun g => m' g + c g) := by
  have hlt : ∀ g, 1 ≤ c g → g < w.heap.size ∧ m g = 0 := fun g hg => by
    have h1 := hm.one g
    constructor
    · rcases Nat.lt_or_ge g w.heap.size with h | h
      · exact h
      · have := hm.out g h; omega
    · omega
  refine ⟨⟨fun g hg o => a.keepS g (hlt g hg).1 (hlt g hg).2 o, fun g hg => a.keepH g (hlt g hg).1 (hlt g hg).2⟩, ⟨a.os, a.tape, a.output, a.size, a.le, a.ok, fun g hg h0 => a.keepH g hg (by omega), fun g hg h0 => a.keepS g hg (by omega), fun g hg => ?_, ⟨fun g => ?_, fun g hg => ?_⟩, a.frz⟩⟩
  · have := a.bud g hg; show m' g + c g ≤ m g + c g; omega
  · show m' g + c g ≤ 1
    rcases Nat.lt_or_ge g w.heap.size with h | h
    · have := a.bud g h; have := hm.one g; omega
    · have h1 := hm.out g h; have := a.mok.one g; omega
  · show m' g + c g = 0
    have h1 := a.mok.out g hg; have h2 := hm.out g (Nat.le_trans a.size hg); omega

/-- What an operation comes to. -/
structure Out (mo : Bud) (w : World) (γ : Gh) (β : Bet) (w' : World) (v : Value) (r : AV) (fr : Fram) (up : List Fram) (γ' : Gh) (β' : Bet) (mo' cr cf : Bud) : Prop where
  stp : Stp mo w γ w' γ' mo'
  bet : β.le β'
  betu : ∀ d k, β' (d + 1) k = β (d + 1) k
  dom : ∀ k g, β' 0 k = some g → hhas k fr = true
  val : RepA γ' β' v r cr
  fs : RepFs γ' w' β' (fr :: up) cf
  sum : ∀ g, cr g + cf g ≤ mo' g
def Outs (mo : Bud) (w : World) (γ : Gh) (β : Bet) (w' : World) (v : Value) (r : AV) (fr : Fram) (up : List Fram) : Prop :=
  ∃ γ' β' mo' cr cf, Out mo w γ β w' v r fr up γ' β' mo' cr cf

/-- An operation that leaves the world. -/
theorem Outs.still {mo cv cf : Bud} {w : World} {γ : Gh} {β : Bet} {v : Value} {r : AV} {fr : Fram} {up : List Fram} (hw : WOk γ w) (hm : Mok w mo)
    (hd : ∀ k g, β 0 k = some g → hhas k fr = true) (hv : RepA γ β v r cv) (hf : RepFs γ w β (fr :: up) cf) (hs : ∀ g, cv g + cf g ≤ mo g) : Outs mo w γ β w v r fr up :=
  ⟨γ, β, mo, cv, cf, .refl hw hm, fun _ _ _ h => h, fun _ _ => rfl, hd, hv, hf, hs⟩

/-! ### operands -/
def eqV : Value → Value → Bool
  | .bool a, .bool b => a == b
  | .int j a, .int k b => decide (j = k) && a == b
  | .string a, .string b => a.data == b.data
  | .pointer none, .pointer none => true
  | .map none, .map none => true
  | .chan none, .chan none => true
  | .nilFunc, .nilFunc => true
  | .nilIface, .nilIface => true
  | .func (.func f) a b, .func (.func g) c d => f == g && (a.size == 0 && b.size == 0 && c.size == 0 && d.size == 0)
  | _, _ => false
theorem eqV_eq {a b : Value} (h : eqV a b = true) : a = b := by
  unfold eqV at h
  split at h
  · simp_all
  · simp_all
  · rename_i a b; cases a; cases b; simp_all
  · rfl
  · rfl
  · rfl
  · rfl
  · rfl
  · rename_i f a b g c d
    simp only [Bool.and_eq_true, beq_iff_eq, Array.size_eq_zero_iff] at h
    obtain ⟨rfl, ⟨⟨rfl, rfl⟩, rfl⟩, rfl⟩ := h
    rfl
  · cases h

def agZ : PV → Value → Bool
  | .lit v, w => eqV v w && cellV v
  | .sl _ [], .slice none 0 0 => true
  | _, _ => false
def agZs : List PV → List Value → Bool
  | [], [] => true
  | p :: r, v :: s => agZ p v && agZs r s
  | _, _ => false
theorem agZ_rep {γ : Gh} {β : Bet} {p : PV} {v : Value} (h : agZ p v = true) (c : Bud) : RepC γ β v (zC p) c := by
  unfold agZ at h
  split at h
  · simp only [Bool.and_eq_true] at h
    rename_i v w
    have := eqV_eq h.1; subst this
    exact .p (.lit _ h.2)
  · exact .ownNil
  · cases h
theorem agZs_rep {γ : Gh} {β : Bet} : ∀ {ps : List PV} {vs : List Value} (_ : agZs ps vs = true) (c : Bud), RepCs γ β vs (zvs ps) c
  | [], [], _, _ => .nil
  | p :: r, v :: s, h, c => by
    simp only [agZs, Bool.and_eq_true] at h
    exact .cons (c1 := none0) (agZ_rep h.1 _) (agZs_rep h.2 c) (fun g => by simp)
  | [], _ :: _, h, _ => by simp [agZs] at h
  | _ :: _, [], h, _ => by simp [agZs] at h

def agO : XO → Operand → Bool
  | .t n, .tmp m => n == m
  | .tk n, .tmp m => n == m
  | .k (.lit v), .const w => eqV v w && cellV v
  | .k (.lit v), .func f => eqV v (.func (.func f) #[] #[])
  | .kn _, .const (.slice none 0 0) => true
  | .ka cs, .const (.agg ws) => agZs cs ws.toList
  | _, _ => false
def agOs : List XO → List Operand → Bool
  | [], [] => true
  | x :: r, o :: s => agO x o && agOs r s
  | _, _ => false

theorem rd_sound {γ : Gh} {β : Bet} {a : Act} {e : Env} {ce : Bud} (he : RepE γ β a.tmps [] e ce) {x : XO} {o : Operand} (h : agO x o = true) :
    ∃ c1 c2, (∀ g, c1 g + c2 g ≤ ce g) ∧ RepA γ β (a.eval o) (rdO e x).1 c1 ∧ RepE γ β a.tmps [] (rdO e x).2 c2 := by
  unfold agO at h
  split at h
  · simp only [beq_iff_eq] at h; subst h
    exact ⟨none0, ce, fun g => by simp, (he.look _ (by simp)).dem _, he⟩
  · simp only [beq_iff_eq] at h; subst h
    rename_i n
    obtain ⟨c1, c2, h1, h2, h3⟩ := he.take n (by simp)
    exact ⟨c1, c2, h1, h2, .cons (c1 := none0) (by simp) (h2.dem _) h3 (fun g => by simp)⟩
  · simp only [Bool.and_eq_true] at h
    have := eqV_eq h.1; subst this
    exact ⟨none0, ce, fun g => by simp, .c (.p (.lit _ h.2)), he⟩
  · have := eqV_eq h; subst this
    exact ⟨none0, ce, fun g => by simp, .c (.p (.lit _ rfl)), he⟩
  · exact ⟨none0, ce, fun g => by simp, .c .ownNil, he⟩
  · exact ⟨none0, ce, fun g => by simp, .agg (agZs_rep h _), he⟩
  · cases h

theorem rds_sound {γ : Gh} {β : Bet} {a : Act} : ∀ {xs : List XO} {os : List Operand} {e : Env} {ce : Bud} (_ : RepE γ β a.tmps [] e ce) (_ : agOs xs os = true),
    ∃ c1 c2, (∀ g, c1 g + c2 g ≤ ce g) ∧ RepAs γ β (os.map a.eval) (rdOs e xs).1 c1 ∧ RepE γ β a.tmps [] (rdOs e xs).2 c2
  | [], [], e, ce, he, _ => ⟨none0, ce, fun g => by simp, .nil, he⟩
  | x :: r, o :: s, e, ce, he, h => by
    simp only [agOs, Bool.and_eq_true] at h
    obtain ⟨c1, c2, h1, h2, h3⟩ := rd_sound he h.1
    obtain ⟨d1, d2, k1, k2, k3⟩ := rds_sound h3 h.2
    refine ⟨fun g => c1 g + d1 g, d2, fun g => ?_, ?_, k3⟩
    · have := h1 g; have := k1 g; show c1 g + d1 g + d2 g ≤ ce g; omega
    · exact .cons h2 k2 (fun g => Nat.le_refl _)
  | [], _ :: _, _, _, _, h => by simp [agOs] at h
  | _ :: _, [], _, _, _, h => by simp [agOs] at h
end Go.ScE
