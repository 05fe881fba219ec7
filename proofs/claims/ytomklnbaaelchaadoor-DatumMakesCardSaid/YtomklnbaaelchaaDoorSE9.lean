/- E9: append, whole. -/
import Derived.Test.YtomklnbaaelchaaDoorSE8
set_option linter.unusedVariables false
set_option linter.unusedSimpArgs false
namespace Go.ScE
section
variable {P : Program} {mo cv cf : Bud} {w : World} {γ γ' : Gh} {β : Bet} {us : List Value} {vs : List AV} {fr : Fram} {up : List Fram} {sz : Nat}

structure AppT (P : Program) (t ut e : TypeId) (i : TypeInfo) (z : Value) (sz bytes : Nat) : Prop where
  ht : P.underlying t = some (.slice e)
  hu : ∃ d, P.underlying ut = some d ∧ ∀ k, d ≠ .int k
  hi : P.info? e = some i
  hz : i.zero = some z
  size : i.size = sz
  byt : i.bytes = bytes
  zs : z.cells.size = sz
  sz0 : 0 < sz
  b0 : 0 < bytes

theorem run_app_room {t ut e rt : TypeId} {i : TypeInfo} {z : Value} {bytes : Nat} (h : AppT P t ut e i z sz bytes) {a : Option Addr} {n cap m : Nat} {uy : Value} {news : List Value} (hs : Src P w sz uy m news) (hr : n + m ≤ cap) :
    (Builtin.append_ #[t, ut] rt #[.slice a n cap, uy]).run P w = (match a with | some a => (storeCells (a.add (n * sz)) news).run P w | none => .ok () w).andThen fun _ w' => .ok (.slice a (n + m) cap) w' := by
  obtain ⟨d, h1, h2⟩ := h.hu
  have hsz := h.size
  have hf := hs.first w rfl
  have hl := hs.len w
  have hd : (match d with | .int _ => true | _ => false) = false := by cases d <;> first | rfl | exact absurd rfl (h2 _)
  cases a with
  | none => simp [Builtin.append_, run_underlying' h.ht, sizeOf, typeInfo, h.hi, run_underlying' h1, hd, hl, hr, hsz, hf]
  | some a => simp [Builtin.append_, run_underlying' h.ht, sizeOf, typeInfo, h.hi, run_underlying' h1, hd, hl, hr, hsz, hf]

theorem run_app_new {t ut e rt : TypeId} {i : TypeInfo} {z : Value} {bytes : Nat} (h : AppT P t ut e i z sz bytes) {a : Option Addr} {n cap m : Nat} {uy : Value} {olds news : List Value} (hs : Src P w sz uy m news)
    (ho : (Builtin.firstCells sz n (.slice a n cap)).run P w.drew = .ok olds.toArray w.drew) (hr : cap < n + m) (hb : (n + m) * bytes ≤ roomy) :
    (Builtin.append_ #[t, ut] rt #[.slice a n cap, uy]).run P w = .ok (.slice (some ⟨w.heap.size, 0, none⟩) (n + m) (grownCap w (n + m) cap e))
      (w.drew.alloc (.cells (olds.toArray ++ news.toArray ++ Builtin.zeroCells z.cells (grownCap w (n + m) cap e - (n + m))) e)) := by
  obtain ⟨d, h1, h2⟩ := h.hu
  have hsz := h.size
  have hby := h.byt
  have hf := hs.first w.drew rfl
  have hl := hs.len w
  have hd : (match d with | .int _ => true | _ => false) = false := by cases d <;> first | rfl | exact absurd rfl (h2 _)
  have hn : ¬ (n + m ≤ cap) := by omega
  have hfit := growslice_fits (need := n + m) (old := cap) (bytes := bytes) hr (by unfold roomy at hb; omega)
  have h48' : ¬ (281474976710656 < Builtin.nextslicecap (n + m) cap * bytes) := by omega
  have hb0 : ¬ bytes = 0 := by have := h.b0; omega
  simp [Builtin.append_, run_underlying' h.ht, sizeOf, typeInfo, h.hi, run_underlying' h1, hd, hl, hn, hsz, hby, hf, ho, h48', hb0, zeroValue, h.hz, Question.forced, newRow, grownCap]
  congr 2
  apply Array.ext'
  simp [List.append_assoc]

theorem Pre.app (h : Pre mo w γ β us vs fr up cv cf) {t ut e rt : TypeId} {i : TypeInfo} {z : Value} {bytes : Nat} (hT : AppT P t ut e i z sz bytes) {x : CV} {y : AV} {u uy : Value} {c1 c2 : Bud}
    (hx : RepC γ β u x c1) (hy : RepA γ β uy y c2) (hc2 : ∀ g, c1 g + c2 g ≤ cv g) (C : Callee) {r : AV} {fr' : Fram} {up' : List Fram} (hact : act C (.app sz bytes) [.c x, y] fr up = (r, fr', up', true)) :
    ∃ v w', (Builtin.append_ #[t, ut] rt #[u, uy]).run P w = .ok v w' ∧ Outs mo w γ β w' v r fr' up' := by
  simp only [act] at hact
  split at hact
  case h_2 => simp [bad] at hact
  rename_i ys hl
  obtain ⟨news, hsrc, hflat⟩ := src_of (P := P) h.wok h.fs hy hl hT.sz0
  -- a new row
  have fresh : ∀ (olds : List Value) (l : List (List PV)) (K : Nat), Flat γ sz olds l → l.length + ys.length ≤ K →
      Outs mo w γ β (w.drew.alloc (.cells (olds.toArray ++ news.toArray ++ Builtin.zeroCells z.cells (K - (l.length + ys.length))) e)) (.slice (some ⟨w.heap.size, 0, none⟩) (l.length + ys.length) K) (.c (.own sz (l ++ ys))) fr up := by
    intro olds l K hfl hK
    have hall := hfl.append hflat
    have hall_n : (olds ++ news).length = (l.length + ys.length) * sz := by rw [hall.n, List.length_append]
    let row : Array Value := olds.toArray ++ news.toArray ++ Builtin.zeroCells z.cells (K - (l.length + ys.length))
    have hrow : ∀ (o : Nat) (v : Value), (olds ++ news)[o]? = some v → row[o]? = some v := fun o v hv => by
      have : row.toList[o]? = some v := by
        simp only [row, Array.toList_append]
        rw [List.getElem?_append_left (List.getElem?_eq_some_iff.1 hv).1]; exact hv
      simpa using this
    have hrs : row.size = K * sz := by
      simp only [row, Array.size_append, List.size_toArray, size_zeroCells, hT.zs]
      have := hall_n; simp only [List.length_append] at this
      rw [this, ← Nat.add_mul]; congr 1; omega
    let γ1 : Gh := ⟨fun g o => if g = w.heap.size then (olds ++ news)[o]? else γ.S g o, fun g => if g = w.heap.size then some (K * sz) else γ.Z g⟩
    have hle : γ.le γ1 := ⟨fun g o v hv => by
      have := h.wok.lt hv
      simp only [γ1, if_neg (show ¬ g = w.heap.size by omega)]; exact hv, fun g n hz => by
      obtain ⟨_, _, hg, _⟩ := h.wok.size g n hz
      have := lt_of_some hg
      simp only [γ1, if_neg (show ¬ g = w.heap.size by omega)]; exact hz⟩
    have hold : ∀ g, g ≠ w.heap.size → (w.drew.alloc (.cells row e)).heap[g]? = w.heap[g]? := fun g hg => by
      rw [alloc_get, if_neg (by simpa using hg)]; rfl
    have hnew : (w.drew.alloc (.cells row e)).heap[w.heap.size]? = some (.cells row e) := by rw [alloc_get, if_pos (by simp)]
    have hok : WOk γ1 (w.drew.alloc (.cells row e)) := ⟨fun g o v hv => by
      by_cases hg : g = w.heap.size
      · subst hg
        simp only [γ1, if_true] at hv
        rw [cell_of_block _ _ _ _ _ _ hnew]; exact hrow o v hv
      · simp only [γ1, if_neg hg] at hv
        rw [← h.wok.cell g o v hv]
        exact World.cell?_of_block (w := w) (by show (w.drew.alloc _).heap[g]? = _; rw [hold g hg]), fun g n hz => by
      by_cases hg : g = w.heap.size
      · subst hg
        simp only [γ1, if_true, Option.some.injEq] at hz
        exact ⟨row, e, hnew, by rw [hrs]; exact hz⟩
      · simp only [γ1, if_neg hg] at hz
        obtain ⟨d, e', k1, k2⟩ := h.wok.size g n hz
        exact ⟨d, e', by rw [hold g hg]; exact k1, k2⟩⟩
    have hmok := h.mok.alloc (.cells row e)
    have hcf : ∀ g, cf g ≤ mo g := le_of_split2 h.sum
    have hkeep : KeepW γ γ1 w (w.drew.alloc (.cells row e)) cf := ⟨fun g hg o => by
      have hne : ¬ g = w.heap.size := fun e => by have := h.mok.out g (by omega); have := hcf g; omega
      simp only [γ1, if_neg hne], fun g hg => hold g (fun e => by have := h.mok.out g (by omega); have := hcf g; omega)⟩
    refine ⟨γ1, β, _, fun g => if g = w.heap.size then 1 else 0, cf, ⟨rfl, rfl, rfl, by simp, hle, hok, fun g hg _ => hold g (by omega), fun g hg _ o => by simp only [γ1, if_neg (show ¬ g = w.heap.size by omega)], fun g hg => ?_, ⟨hmok.one, fun g hg => hmok.out g (by simpa using hg)⟩, fun a => by rw [alloc_frz_cells]; rfl⟩, fun _ _ _ h => h, fun _ _ => rfl, h.dom, ?_, h.fs.mono hle (fun _ _ _ h => h) hkeep, fun g => ?_⟩
    · show mo g + (if g = w.heap.size then 1 else 0) ≤ mo g
      rw [if_neg (by omega)]; omega
    · have hlen : l.length + ys.length = (l ++ ys).length := by simp
      rw [hlen]
      refine .c (.own (by simp) ((hall.mono hle).toRep (g := w.heap.size) (off := 0) (by simpa using hK) (fun o v hv => by simp only [γ1, if_true, Nat.zero_add]; exact hv)) (by simp [γ1]) (fun o ho => ?_))
      simp only [γ1, if_true]
      rw [List.getElem?_eq_none (by rw [hall.n]; exact ho)]
    · have := hcf g; show (if g = w.heap.size then 1 else 0) + cf g ≤ mo g + if g = w.heap.size then 1 else 0; omega
  cases hx with
  | ownNil =>
    rename_i sz'
    simp only [Prod.mk.injEq, decide_eq_true_eq, List.length_nil, Nat.zero_add] at hact
    obtain ⟨rfl, rfl, rfl, rfl, hb⟩ := hact
    by_cases hm : ys.length = 0
    · have hys : ys = [] := List.eq_nil_of_length_eq_zero hm
      subst hys
      refine ⟨.slice none 0 0, w, ?_, h.still0 (.c .ownNil)⟩
      have := run_app_room (rt := rt) hT (a := none) (n := 0) (cap := 0) hsrc (by simp)
      simpa using this
    · have hK := grownCap_ge w (0 + ys.length) 0 e
      refine ⟨_, _, run_app_new hT (olds := []) hsrc (by simp [Builtin.firstCells]) (by omega) (by simpa using hb), ?_⟩
      exact fresh [] [] _ Flat.nil hK
  | own hg hr hz hS =>
    rename_i g cap sz' l
    simp only [Prod.mk.injEq, decide_eq_true_eq] at hact
    obtain ⟨rfl, rfl, rfl, rfl, hb⟩ := hact
    obtain ⟨-, olds, hfl, hcells⟩ := Flat.ofRep hr hT.sz0
    by_cases hroom : l.length + ys.length ≤ cap
    · obtain ⟨c0, e0, hh, hcs⟩ := h.wok.size g _ hz
      have hg1 : 1 ≤ mo g := by have := h.sum g; have := hc2 g; omega
      have hcg : cf g = 0 := by have := h.sum g; have := h.mok.one g; have := hc2 g; omega
      have hall := hfl.append hflat
      have hfitn : l.length * sz' + news.length ≤ c0.size := by rw [hflat.n, hcs, ← Nat.add_mul]; exact Nat.mul_le_mul_right _ hroom
      obtain ⟨c', hrun, hc'⟩ := run_storeCells (P := P) news 0 w g (l.length * sz') c0 e0 hh (by simpa using hfitn) hflat.one
      have hput : l.length * sz' + 0 + news.length ≤ c0.toList.length := by simpa using hfitn
      have hsz' : c'.size = c0.size := by rw [← Array.length_toList, hc', put_length _ _ _ hput]; simp
      have hget : ∀ q : Nat, c'[q]? = (put c0.toList (l.length * sz' + 0) news)[q]? := fun q => by rw [← hc']; simp
      refine ⟨.slice (some ⟨g, 0, none⟩) (l.length + ys.length) cap, blk w g (.cells c' e0 (0, 0)), ?_, ?_⟩
      · rw [run_app_room hT hsrc hroom]
        simp only [add_off, Nat.zero_add, hrun, Result.andThen_ok]
      let γ1 : Gh := ⟨fun k o => if k = g ∧ l.length * sz' ≤ o then news[o - l.length * sz']? else γ.S k o, γ.Z⟩
      have hle : γ.le γ1 := ⟨fun k o v hv => by
        have : ¬ (k = g ∧ l.length * sz' ≤ o) := fun ⟨e1, e2⟩ => by subst e1; rw [hS o e2] at hv; cases hv
        simp only [γ1, if_neg this]; exact hv, fun _ _ hz => hz⟩
      have hok : WOk γ1 (blk w g (.cells c' e0 (0, 0))) := ⟨fun k o v hv => by
        by_cases hk : k = g
        · subst hk
          rw [cell_of_block _ _ _ c' e0 (0, 0) (by rw [blk_get, if_pos rfl, if_pos (lt_of_some hh)]), hget, put_get _ _ _ hput, Nat.add_zero]
          by_cases ho : l.length * sz' ≤ o
          · simp only [γ1, true_and, if_pos ho] at hv
            rw [if_neg (by omega), if_pos (by have := (List.getElem?_eq_some_iff.1 hv).1; omega)]; exact hv
          · simp only [γ1, true_and, if_neg ho] at hv
            rw [if_pos (by omega)]
            have := h.wok.cell k o v hv
            rw [cell_of_block w k o c0 e0 _ hh] at this; simpa using this
        · simp only [γ1, if_neg (show ¬ (k = g ∧ l.length * sz' ≤ o) from fun ⟨e, _⟩ => hk e)] at hv
          rw [← h.wok.cell k o v hv]
          exact World.cell?_of_block (w := w) (by show (blk w g _).heap[k]? = _; rw [blk_get, if_neg hk]), fun k n hz => by
        obtain ⟨d, e', k1, k2⟩ := h.wok.size k n hz
        by_cases hk : k = g
        · subst hk
          rw [hh] at k1; cases k1
          exact ⟨c', e0, by rw [blk_get, if_pos rfl, if_pos (lt_of_some hh)], by rw [hsz', k2]⟩
        · exact ⟨d, e', by rw [blk_get, if_neg hk]; exact k1, k2⟩⟩
      have hkeep : KeepW γ γ1 w (blk w g (.cells c' e0 (0, 0))) cf := ⟨fun k hk o => by
        have : ¬ (k = g ∧ l.length * sz' ≤ o) := fun ⟨e1, _⟩ => by subst e1; omega
        simp only [γ1, if_neg this], fun k hk => by rw [blk_get, if_neg (by intro e; subst e; omega)]⟩
      refine ⟨γ1, β, mo, c1, cf, ⟨rfl, rfl, rfl, by simp, hle, hok, fun k _ h0 => by rw [blk_get, if_neg (by intro e; subst e; omega)], fun k _ h0 o => ?_, fun _ _ => Nat.le_refl _, ⟨h.mok.one, fun k hk => h.mok.out k (by simpa using hk)⟩, blk_frz hh⟩, fun _ _ _ h => h, fun _ _ => rfl, h.dom, ?_, h.fs.mono hle (fun _ _ _ h => h) hkeep, fun k => by have := h.sum k; have := hc2 k; omega⟩
      · have : ¬ (k = g ∧ l.length * sz' ≤ o) := fun ⟨e1, _⟩ => by subst e1; omega
        simp only [γ1, if_neg this]
      · have hlen : l.length + ys.length = (l ++ ys).length := by simp
        rw [hlen]
        refine .c (.own hg ((hall.mono hle).toRep (g := g) (off := 0) (by simpa using hroom) (fun o v hv => ?_)) hz (fun o ho => ?_))
        · rw [Nat.zero_add]
          by_cases ho : l.length * sz' ≤ o
          · simp only [γ1, true_and, if_pos ho]
            rw [List.getElem?_append_right (by rw [hfl.n]; exact ho), hfl.n] at hv; exact hv
          · simp only [γ1, true_and, if_neg ho]
            rw [List.getElem?_append_left (by rw [hfl.n]; omega)] at hv
            have := hcells o v hv; rwa [Nat.zero_add] at this
        · rw [List.length_append, Nat.add_mul] at ho
          simp only [γ1, true_and, if_pos (show l.length * sz' ≤ o by omega)]
          rw [List.getElem?_eq_none (by rw [hflat.n]; omega)]
    · have hK := grownCap_ge w (l.length + ys.length) cap e
      refine ⟨_, _, run_app_new hT (olds := olds) hsrc (run_firstCells_some w.drew sz' l.length ⟨g, 0, none⟩ l.length cap olds hfl.n (fun j v hv => by rw [add_off]; exact h.wok.cell _ _ _ (hcells j v hv))) (by omega) hb, ?_⟩
      exact fresh olds l _ hfl hK
  | _ => simp [bad] at hact
end
end Go.ScE
