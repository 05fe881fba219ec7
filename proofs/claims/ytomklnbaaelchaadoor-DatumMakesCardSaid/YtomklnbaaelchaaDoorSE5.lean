/- E5: the operations, one by one. -/
import Derived.Test.YtomklnbaaelchaaDoorSE4
import Derived.IntWalk
set_option linter.unusedVariables false
set_option linter.unusedSimpArgs false
namespace Go.ScE

/-- Ahead of an operation: its operands, the sites. -/
structure Pre (mo : Bud) (w : World) (γ : Gh) (β : Bet) (us : List Value) (vs : List AV) (fr : Fram) (up : List Fram) (cv cf : Bud) : Prop where
  wok : WOk γ w
  mok : Mok w mo
  dom : ∀ k g, β 0 k = some g → hhas k fr = true
  vals : RepAs γ β us vs cv
  fs : RepFs γ w β (fr :: up) cf
  sum : ∀ g, cv g + cf g ≤ mo g

section
variable {P : Program} {mo cv cf : Bud} {w : World} {γ : Gh} {β : Bet} {us : List Value} {vs : List AV} {fr : Fram} {up : List Fram}

theorem Pre.still (h : Pre mo w γ β us vs fr up cv cf) {v : Value} {r : AV} {cr : Bud} (hv : RepA γ β v r cr) (hc : ∀ g, cr g ≤ cv g) : Outs mo w γ β w v r fr up :=
  .still h.wok h.mok h.dom hv h.fs fun g => Nat.le_trans (Nat.add_le_add_right (hc g) _) (h.sum g)
theorem Pre.still0 (h : Pre mo w γ β us vs fr up cv cf) {v : Value} {r : AV} (hv : RepA γ β v r none0) : Outs mo w γ β w v r fr up :=
  h.still hv fun _ => Nat.zero_le _
theorem Pre.lit (h : Pre mo w γ β us vs fr up cv cf) {v : Value} (hv : cellV v = true) : Outs mo w γ β w v (.c (.p (.lit v))) fr up :=
  h.still0 (.c (.p (.lit v hv)))

theorem RepC.litv {v u : Value} {c : Bud} (h : RepC γ β v (.p (.lit u)) c) : v = u ∧ ScE.cellV u = true := by
  cases h with | p h => cases h; exact ⟨rfl, ‹_›⟩
theorem RepA.litv {v u : Value} {c : Bud} (h : RepA γ β v (.c (.p (.lit u))) c) : v = u ∧ cellV u = true := by
  cases h with | c h => exact h.litv
theorem RepAs.one {us : List Value} {x : AV} {c : Bud} (h : RepAs γ β us [x] c) : ∃ v, us = [v] ∧ RepA γ β v x c := by
  cases h with
  | cons h r hc => cases r; exact ⟨_, rfl, h.weak (le_of_split1 hc)⟩
theorem RepAs.two {us : List Value} {x y : AV} {c : Bud} (h : RepAs γ β us [x, y] c) : ∃ v u c1 c2, us = [v, u] ∧ RepA γ β v x c1 ∧ RepA γ β u y c2 ∧ ∀ g, c1 g + c2 g ≤ c g := by
  cases h with
  | cons h r hc => obtain ⟨u, rfl, h2⟩ := r.one; exact ⟨_, _, _, _, rfl, h, h2, hc⟩
theorem RepAs.three {us : List Value} {x y z : AV} {c : Bud} (h : RepAs γ β us [x, y, z] c) : ∃ v u t c1 c2 c3, us = [v, u, t] ∧ RepA γ β v x c1 ∧ RepA γ β u y c2 ∧ RepA γ β t z c3 ∧ ∀ g, c1 g + c2 g + c3 g ≤ c g := by
  cases h with
  | cons h r hc => obtain ⟨u, t, c2, c3, rfl, h2, h3, h4⟩ := r.two; exact ⟨_, _, _, _, _, _, rfl, h, h2, h3, fun g => by have := hc g; have := h4 g; omega⟩
theorem RepAs.none {us : List Value} {c : Bud} (h : RepAs γ β us [] c) : us = [] := by cases h; rfl

/-! ### a new site -/
theorem alloc_get (w : World) (o : Obj) (g : Nat) : (w.alloc o).heap[g]? = if g = w.heap.size then some o else w.heap[g]? := by
  show (w.heap.push o)[g]? = _
  rw [Array.getElem?_push]
theorem lt_of_some {w : World} {g : Nat} {o : Obj} (h : w.heap[g]? = some o) : g < w.heap.size := (Array.getElem?_eq_some_iff.1 h).1
theorem WOk.lt (h : WOk γ w) {g o : Nat} {v : Value} (hs : γ.S g o = some v) : g < w.heap.size := World.block_lt_of_cell? w _ (h.cell g o v hs)
theorem WOk.none (h : WOk γ w) (o : Nat) {g : Nat} (hg : w.heap.size ≤ g) : γ.S g o = none := by
  cases e : γ.S g o with
  | none => rfl
  | some v => have := h.lt e; omega
theorem WOk.alloc (h : WOk γ w) (o : Obj) : WOk γ (w.alloc o) :=
  ⟨fun g i v hs => by rw [World.cell?_alloc_lt (h := h.lt hs)]; exact h.cell g i v hs, fun g n hz => by
    obtain ⟨c, e, h1, h2⟩ := h.size g n hz
    exact ⟨c, e, by rw [alloc_get, if_neg (by have := lt_of_some h1; omega)]; exact h1, h2⟩⟩

def Bet.set (β : Bet) (s g : Nat) : Bet := fun d k => if d = 0 ∧ k = s then some g else β d k
theorem Bet.le_set {s g : Nat} (h : β 0 s = none) : β.le (β.set s g) := fun d k x hx => by
  unfold Bet.set
  by_cases e : d = 0 ∧ k = s
  · obtain ⟨rfl, rfl⟩ := e; rw [h] at hx; cases hx
  · rw [if_neg e]; exact hx

theorem Mok.alloc (hm : Mok w mo) (o : Obj) : Mok (w.alloc o) fun g => mo g + if g = w.heap.size then 1 else 0 where
  one g := by
    show mo g + (if g = w.heap.size then 1 else 0) ≤ 1
    split
    · rename_i e; have := hm.out g (by omega); omega
    · have := hm.one g; omega
  out g hg := by
    show mo g + (if g = w.heap.size then 1 else 0) = 0
    simp at hg
    rw [if_neg (by omega)]; have := hm.out g (by omega); omega
theorem alloc_frz_cells (w : World) (c : Array Value) (t : TypeId) (a : Addr) : (w.alloc (.cells c t)).frozen? a = w.frozen? a := by
  unfold World.frozen?
  by_cases e : a.block = w.heap.size
  · rw [alloc_get, if_pos e, e, Array.getElem?_eq_none (Nat.le_refl _)]
    simp
  · rw [alloc_get, if_neg e]
theorem alloc_frz_map (w : World) (es : Array MapEntry) (k : Nat) (a : Addr) : (w.alloc (.map es k)).frozen? a = w.frozen? a := by
  unfold World.frozen?
  by_cases e : a.block = w.heap.size
  · rw [alloc_get, if_pos e, e, Array.getElem?_eq_none (Nat.le_refl _)]
  · rw [alloc_get, if_neg e]
theorem Stp.alloc (hw : WOk γ w) (hm : Mok w mo) (o : Obj) (hfz : ∀ a, (w.alloc o).frozen? a = w.frozen? a) : Stp mo w γ (w.alloc o) γ (fun g => mo g + if g = w.heap.size then 1 else 0) :=
  ⟨rfl, rfl, rfl, by simp, .refl γ, hw.alloc o, fun g hg _ => by rw [alloc_get, if_neg (by omega)], fun _ _ _ _ => rfl, fun g hg => by show mo g + (if g = w.heap.size then 1 else 0) ≤ mo g; rw [if_neg (by omega)]; omega, hm.alloc o, hfz⟩
theorem keep_alloc (hm : Mok w mo) (o : Obj) {c : Bud} (hc : ∀ g, c g ≤ mo g) : KeepW γ γ w (w.alloc o) c :=
  ⟨fun _ _ _ => rfl, fun g hg => by
    rw [alloc_get, if_neg]
    intro e
    have := hm.out g (by omega); have := hc g; omega⟩

theorem Pre.site (h : Pre mo w γ β us vs fr up cv cf) {s : Nat} (hs : hhas s fr = false) (o : Obj) (hfz : ∀ a, (w.alloc o).frozen? a = w.frozen? a) (ho : HO) {v : Value} {r : AV} (c1 : Bud) (hc : ∀ g, c1 g ≤ cv g)
    (hv : ∀ β' : Bet, β' 0 s = some w.heap.size → RepA γ β' v r none0)
    (hH : ∀ β' : Bet, β.le β' → RepH γ (w.alloc o) β' w.heap.size ho (fun g => c1 g + if g = w.heap.size then 1 else 0)) : Outs mo w γ β (w.alloc o) v r ((s, ho) :: fr) up := by
  have hb : β 0 s = none := by
    cases e : β 0 s with
    | none => rfl
    | some g => have := h.dom s g e; rw [hs] at this; cases this
  have hset : (β.set s w.heap.size) 0 s = some w.heap.size := by simp [Bet.set]
  have hle := Bet.le_set (g := w.heap.size) hb
  have hcf : ∀ g, cf g ≤ mo g := le_of_split2 h.sum
  have hfs := h.fs.mono (.refl γ) hle (keep_alloc h.mok o hcf)
  cases hfs with
  | cons hf t hsp =>
    rename_i d1 d2
    refine ⟨γ, β.set s w.heap.size, _, none0, fun g => (c1 g + if g = w.heap.size then 1 else 0) + (d1 g + d2 g), .alloc h.wok h.mok o hfz, hle, fun d k => by simp [Bet.set], fun k g hk => ?_, hv _ hset,
      .cons (.cons hset (hH _ hle) hf (fun g => Nat.le_refl _)) t (fun g => ?_), fun g => ?_⟩
    · by_cases e : s = k
      · simp [hhas, hget, e]
      · simp only [hhas, hget, if_neg e]
        simp only [Bet.set, true_and, if_neg (Ne.symm e)] at hk
        exact h.dom k g hk
    · show (c1 g + if g = w.heap.size then 1 else 0) + d1 g + d2 g ≤ (c1 g + if g = w.heap.size then 1 else 0) + (d1 g + d2 g); omega
    · have := hsp g; have := h.sum g; have := hc g
      show 0 + ((c1 g + if g = w.heap.size then 1 else 0) + (d1 g + d2 g)) ≤ mo g + if g = w.heap.size then 1 else 0
      omega

/-! ### alloc, box -/
theorem cells_val {v : Value} {x : AV} {l : List CV} {c : Bud} (h : RepA γ β v x c) (hl : cellsA x = some l) : RepCs γ β v.cells.toList l c := by
  cases h with
  | dead => simp [cellsA] at hl
  | c h =>
    rename_i x
    have hx : l = [x] := by cases x <;> simp [cellsA] at hl <;> exact hl.symm
    subst hx
    have := h.cellV
    have e : v.cells = #[v] := by cases v <;> first | rfl | (simp [cellV, Value.oneCell'] at this)
    rw [e]
    exact .cons h .nil (c2 := none0) (fun g => by simp)
  | agg h => simp only [cellsA, Option.some.injEq] at hl; subst hl; exact h
  | tup h => simp [cellsA] at hl

theorem Pre.box (h : Pre mo w γ β us vs fr up cv cf) {s : Nat} {e : TypeId} {x : AV} {u : Value} {l : List CV} {c1 : Bud} (hs : hhas s fr = false) (hx : RepA γ β u x c1) (hc : ∀ g, c1 g ≤ cv g) (hl : cellsA x = some l) :
    ∃ v w', (Instr.box e u).run P w = .ok v w' ∧ Outs mo w γ β w' v (.c (.ref 0 s 0)) ((s, .box l) :: fr) up := by
  refine ⟨_, _, by simp only [Instr.box, newVar, newRow, Sem.run_bind, run_newObj, Result.andThen_ok, Sem.run_pure]; rfl, ?_⟩
  refine h.site hs (.cells u.cells e) (alloc_frz_cells _ _ _) (.box l) c1 hc (fun β' hb => .c (.ref hb)) (fun β' hle => ?_)
  refine .box (vs := u.cells) (e := e) (by rw [alloc_get, if_pos rfl]) ((cells_val hx hl).mono (.refl γ) hle (fun _ _ _ => rfl)) (fun o => h.wok.none o (Nat.le_refl _)) (fun g => Nat.le_refl _)

theorem Pre.alloc (h : Pre mo w γ β us vs fr up cv cf) {s : Nat} {e : TypeId} {i : TypeInfo} {zv : Value} {z : List PV} (hs : hhas s fr = false) (hi : P.info? e = some i) (hz : i.zero = some zv) (ha : agZs z zv.cells.toList = true) :
    ∃ v w', (Instr.alloc e true (.tuple #[])).run P w = .ok v w' ∧ Outs mo w γ β w' v (.c (.ref 0 s 0)) ((s, .box (zvs z)) :: fr) up := by
  refine ⟨.pointer (some ⟨w.heap.size, 0, none⟩), w.alloc (.cells zv.cells e), ?_, ?_⟩
  · simp [Instr.alloc, zeroValue, typeInfo, hi, hz, newVar, newRow]
  refine h.site hs (.cells zv.cells e) (alloc_frz_cells _ _ _) (.box (zvs z)) none0 (fun g => Nat.zero_le _) (fun β' hb => .c (.ref hb)) (fun β' hle => ?_)
  exact .box (vs := zv.cells) (e := e) (by rw [alloc_get, if_pos rfl]) (agZs_rep ha none0) (fun o => h.wok.none o (Nat.le_refl _)) (fun g => Nat.le_refl _)

/-! ### load -/
def aggB (P : Program) (t : TypeId) : Option Bool := match P.underlying t with
  | some (.struct _) | some (.array _ _) => some true
  | some _ => some false
  | none => none
def sizeB (P : Program) (t : TypeId) : Option Nat := (P.info? t).map (·.size)
theorem run_isAgg {t : TypeId} {b : Bool} (h : aggB P t = some b) (w : World) : (isAgg t).run P w = .ok b w := by
  unfold aggB at h
  unfold isAgg underlying
  cases hu : P.underlying t with
  | none => simp [hu] at h
  | some d => cases d <;> simp_all
theorem run_sizeOf {t : TypeId} {n : Nat} (h : sizeB P t = some n) (w : World) : (sizeOf t).run P w = .ok n w := by
  unfold sizeB at h
  unfold sizeOf typeInfo
  cases hu : P.info? t with
  | none => simp [hu] at h
  | some d => simp_all
def mkV (agg : Bool) (l : List Value) : Value := match agg, l with
  | true, l => .agg l.toArray
  | false, [x] => x
  | false, _ => undef
theorem run_loadVar {t : TypeId} {agg : Bool} {n : Nat} (ha : aggB P t = some agg) (hs : sizeB P t = some n) (h1 : agg = false → n = 1) (w : World) (a : Addr) (cs : List Value) (hn : cs.length = n)
    (h : ∀ j v, cs[j]? = some v → w.cell? (a.add j) = some v) : (loadVar t a).run P w = .ok (mkV agg cs) w := by
  unfold loadVar
  cases agg with
  | true => simp [run_isAgg ha, run_sizeOf hs, ← hn, run_loadCells_list w a cs h, mkV]
  | false =>
    have hn1 := h1 rfl
    match cs, hn with
    | [], hn => simp [hn1] at hn
    | [x], hn =>
      have hx := h 0 x rfl
      have : a.add 0 = a := by unfold Addr.add; simp
      rw [this] at hx
      simp [run_isAgg ha, hx, mkV]
    | _ :: _ :: _, hn => simp at hn; omega
theorem mk_val {agg : Bool} {vs : List Value} {l : List CV} {c : Bud} (h : RepCs γ β vs l c) (h1 : agg = false → l.length = 1) : RepA γ β (mkV agg vs) (mkA agg l) c := by
  cases agg with
  | true => exact .agg (by simpa using h)
  | false =>
    cases h with
    | nil => simp at h1
    | cons h r hc =>
      cases r with
      | nil => exact .c (h.weak (le_of_split1 hc))
      | cons _ _ _ => simp at h1
theorem reps_pvs : ∀ {ps : List PV} {vs : List Value} (_ : vs.length = ps.length) (_ : ∀ (j : Nat) (p : PV) (v : Value), ps[j]? = some p → vs[j]? = some v → RepP γ v p) (c : Bud), RepCs γ β vs (pvs ps) c
  | [], [], _, _, _ => .nil
  | p :: r, v :: s, hl, h, c => .cons (c1 := none0) (.p (h 0 p v rfl rfl)) (reps_pvs (by simpa using hl) (fun j p v h1 h2 => h (j + 1) p v (by simpa using h1) (by simpa using h2)) c) (fun g => by simp)
  | [], _ :: _, hl, _, _ => by simp at hl
  | _ :: _, [], hl, _, _ => by simp at hl
theorem pvs_length (ps : List PV) : (pvs ps).length = ps.length := by induction ps <;> simp_all [pvs]
theorem demL_length (ps : List CV) : (demL ps).length = ps.length := by induction ps <;> simp_all [demL]
theorem upL_length (n : Nat) (ps : List CV) : (upL n ps).length = ps.length := by induction ps <;> simp_all [upL]

theorem Pre.ld (h : Pre mo w γ β us vs fr up cv cf) {t : TypeId} {agg take : Bool} {n : Nat} {x : CV} {u : Value} {c1 : Bud} (ha : aggB P t = some agg) (hs : sizeB P t = some n) (h1 : agg = false → n = 1)
    (hx : RepC γ β u x c1) (C : Callee) {r : AV} {fr' : Fram} {up' : List Fram} (hact : act C (.ld agg n take) [.c x] fr up = (r, fr', up', true)) :
    ∃ v w', (Instr.loadAt t u).run P w = .ok v w' ∧ Outs mo w γ β w' v r fr' up' := by
  simp only [act] at hact
  cases hx with
  | ipt val hs' hr =>
    rename_i g base off cs
    simp only [Prod.mk.injEq, decide_eq_true_eq] at hact
    obtain ⟨rfl, rfl, rfl, hoff⟩ := hact
    have hlen : (cut off n cs).length = n := cut_length _ _ _ hoff
    refine ⟨_, w, ?_, h.still0 (mk_val (agg := agg) (vs := (List.range n).map fun j => val (off + j)) (reps_pvs (by simp [hlen]) (fun j p v hp hv => ?_) none0) (fun e => by rw [pvs_length, hlen, h1 e]))⟩
    · unfold Instr.loadAt Instr.sureAddr
      simp only [Sem.run_bind, Sem.run_pure, Result.andThen_ok]
      refine run_loadVar ha hs h1 w _ _ (by simp) (fun j v hv => ?_)
      have hj : j < n := by
        rcases Nat.lt_or_ge j n with e | e
        · exact e
        · rw [List.getElem?_eq_none (by simpa using e)] at hv; cases hv
      rw [List.getElem?_map, List.getElem?_range hj] at hv
      simp only [Option.map_some, Option.some.injEq] at hv
      subst hv
      rw [add_off]
      have : (cs[off + j]?).isSome := by simp; omega
      obtain ⟨p, hp⟩ := Option.isSome_iff_exists.1 this
      have := h.wok.cell _ _ _ (hs' _ _ hp)
      rwa [← Nat.add_assoc] at this
    · rw [cut_get] at hp
      have hj : j < n := by
        rcases Nat.lt_or_ge j n with e | e
        · exact e
        · rw [if_neg (by omega)] at hp; cases hp
      rw [if_pos hj] at hp
      rw [List.getElem?_map, List.getElem?_range hj] at hv
      simp only [Option.map_some, Option.some.injEq] at hv
      subst hv
      exact hr _ _ hp
  | ref hb =>
    rename_i d k off g
    dsimp only at hact
    split at hact
    case h_2 => simp [bad] at hact
    rename_i cs hcs
    obtain ⟨g', e1, e2, hb', hH, hsp, hset⟩ := h.fs.focus hcs
    rw [hb] at hb'; cases hb'
    cases hH with
    | box hh hr hS hc =>
      rename_i vs0 e d1
      have key : ∀ (vs' : List Value), off + n ≤ cs.length → vs' = cut off n vs0.toList → (Instr.loadAt t (.pointer (some ⟨g, off, none⟩))).run P w = .ok (mkV agg vs') w := fun vs' hoff hvs => by
        unfold Instr.loadAt Instr.sureAddr
        simp only [Sem.run_bind, Sem.run_pure, Result.andThen_ok]
        refine run_loadVar ha hs h1 w _ _ (by rw [hvs]; exact cut_length _ _ _ (by rw [hr.length]; exact hoff)) (fun j v hv => ?_)
        rw [hvs, cut_get] at hv
        split at hv
        · rw [add_off, cell_of_block w g _ vs0 e _ hh]; simpa using hv
        · cases hv
      cases take with
      | false =>
        simp only [Bool.false_eq_true, if_false, Prod.mk.injEq, decide_eq_true_eq] at hact
        obtain ⟨rfl, rfl, rfl, hoff⟩ := hact
        have hlen : (cut off n cs).length = n := cut_length _ _ _ hoff
        exact ⟨_, w, key _ hoff rfl, h.still0 (mk_val ((hr.cut off n).dem none0).up (fun e => by rw [upL_length, demL_length, hlen, h1 e]))⟩
      | true =>
        simp only [if_true] at hact
        split at hact
        case h_2 => simp [bad] at hact
        rename_i fr1 up1 hset1
        simp only [Prod.mk.injEq, decide_eq_true_eq] at hact
        obtain ⟨rfl, rfl, rfl, hoff⟩ := hact
        have hlen : (cut off n cs).length = n := cut_length _ _ _ hoff
        obtain ⟨t1, t2, ht, ht1, ht2⟩ := hr.takeCut off n hoff
        obtain ⟨fr2, up2, hq, hq2⟩ := setH_cons d k (.box (put cs off (untakeL (cut off n cs)))) fr up
        rw [show setH d k (.box (put cs off (untakeL (cut off n cs)))) (fr :: up) = fr1 :: up1 from hset1] at hq
        obtain ⟨rfl, rfl⟩ := List.cons.inj hq
        have hnew := hset (γ' := γ) (w' := w) (β' := β) (c1' := fun g' => t2 g' + if g' = g then 1 else 0) (ho' := .box (put cs off (untakeL (cut off n cs)))) (.refl γ) (fun _ _ _ h => h) ⟨fun _ _ _ => rfl, fun _ _ => rfl⟩ (.box hh ht2 hS (fun g => Nat.le_refl _))
        rw [show setH d k (.box (put cs off (untakeL (cut off n cs)))) (fr :: up) = fr1 :: up1 from hset1] at hnew
        exact ⟨_, w, key _ hoff rfl, .still h.wok h.mok (fun k g hk => hq2 k (h.dom k g hk)) (mk_val ht1.up (fun e => by rw [upL_length, hlen, h1 e])) hnew (fun g' => by
          have := h.sum g'; have := hsp g'; have := hc g'; have := ht g'
          show t1 g' + ((t2 g' + if g' = g then 1 else 0) + e2 g') ≤ mo g'
          omega)⟩
  | aref hb =>
    rename_i d k sz i off g
    dsimp only at hact
    split at hact
    case h_2 => simp [bad] at hact
    rename_i sz' l hl
    simp only [Prod.mk.injEq, decide_eq_true_eq] at hact
    obtain ⟨rfl, rfl, rfl, rfl, hi, hoff⟩ := hact
    obtain ⟨g', e1, e2, hb', hH, hsp, -⟩ := h.fs.focus hl
    rw [hb] at hb'; cases hb'
    cases hH with
    | arr hh hn hl' hr hS hc =>
      rename_i vs0 e
      have hli : l[i]? = some (l.getD i []) := by simp [hi]
      have hcl := hl' i _ hli
      have hlen : (cut off n (l.getD i [])).length = n := cut_length _ _ _ (by rw [hcl]; exact hoff)
      have hbd : i * sz' + sz' ≤ vs0.size := by
        rw [hn]; have := Nat.mul_le_mul_right sz' (Nat.succ_le_of_lt hi); rw [Nat.succ_mul] at this; exact this
      refine ⟨_, w, ?_, h.still0 (mk_val (agg := agg) (vs := cut (i * sz' + off) n vs0.toList) (reps_pvs (by rw [hlen, cut_length]; simp; omega) (fun j p v hp hv => ?_) none0) (fun e => by rw [pvs_length, hlen, h1 e]))⟩
      · unfold Instr.loadAt Instr.sureAddr
        simp only [Sem.run_bind, Sem.run_pure, Result.andThen_ok]
        refine run_loadVar ha hs h1 w _ _ (by rw [cut_length]; simp; omega) (fun j v hv => ?_)
        rw [cut_get] at hv
        split at hv
        · rw [add_off, cell_of_block w g _ vs0 e _ hh]; simpa using hv
        · cases hv
      · rw [cut_get] at hp hv
        split at hp
        · rename_i hj
          rw [if_pos hj] at hv
          obtain ⟨v', hv', hrep⟩ := hr i _ _ _ hli hp
          rw [show i * sz' + off + j = i * sz' + (off + j) by omega] at hv
          simp only [Array.getElem?_toList] at hv
          rw [hv'] at hv; cases hv
          exact hrep
        · cases hp
  | _ => simp [bad] at hact
end
end Go.ScE
