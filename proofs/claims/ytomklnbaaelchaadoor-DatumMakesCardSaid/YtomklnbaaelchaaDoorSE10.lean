/- E10: rows laid anew; structs and slices built. -/
import Derived.Test.YtomklnbaaelchaaDoorSE9
import Derived.Laws.Tables
set_option linter.unusedVariables false
set_option linter.unusedSimpArgs false
namespace Go.ScE
section
variable {P : Program} {mo cv cf : Bud} {w : World} {γ γ' : Gh} {β : Bet} {us : List Value} {vs : List AV} {fr : Fram} {up : List Fram} {sz : Nat}

theorem frz_heap {w w' : World} (h : w'.heap = w.heap) (a : Addr) : w'.frozen? a = w.frozen? a := by unfold World.frozen?; rw [h]
theorem Pre.freshRow (h : Pre mo w γ β us vs fr up cv cf) {w0 : World} (h0 : w0.heap = w.heap) (hos : w0.os = w.os) (htape : w0.tape = w.tape) (hout : w0.output = w.output) {row : Array Value} {e : TypeId} {K : Nat} {cells : List Value} {l : List (List PV)}
    (hall : Flat γ sz cells l) (hrow : ∀ (o : Nat) (v : Value), cells[o]? = some v → row[o]? = some v) (hrs : row.size = K * sz) (hK : l.length ≤ K) :
    Outs mo w γ β (w0.alloc (.cells row e)) (.slice (some ⟨w.heap.size, 0, none⟩) l.length K) (.c (.own sz l)) fr up := by
  let γ1 : Gh := ⟨fun g o => if g = w.heap.size then cells[o]? else γ.S g o, fun g => if g = w.heap.size then some (K * sz) else γ.Z g⟩
  have hle : γ.le γ1 := ⟨fun g o v hv => by
    have := h.wok.lt hv
    simp only [γ1, if_neg (show ¬ g = w.heap.size by omega)]; exact hv, fun g n hz => by
    obtain ⟨_, _, hg, _⟩ := h.wok.size g n hz
    have := lt_of_some hg
    simp only [γ1, if_neg (show ¬ g = w.heap.size by omega)]; exact hz⟩
  have hold : ∀ g, g ≠ w.heap.size → (w0.alloc (.cells row e)).heap[g]? = w.heap[g]? := fun g hg => by
    rw [alloc_get, h0, if_neg hg]
  have hnew : (w0.alloc (.cells row e)).heap[w.heap.size]? = some (.cells row e) := by rw [alloc_get, h0, if_pos rfl]
  have hok : WOk γ1 (w0.alloc (.cells row e)) := ⟨fun g o v hv => by
    by_cases hg : g = w.heap.size
    · subst hg
      simp only [γ1, if_true] at hv
      rw [cell_of_block _ _ _ _ _ _ hnew]; exact hrow o v hv
    · simp only [γ1, if_neg hg] at hv
      rw [← h.wok.cell g o v hv]
      exact World.cell?_of_block (w := w) (by show (w0.alloc _).heap[g]? = _; rw [hold g hg]), fun g n hz => by
    by_cases hg : g = w.heap.size
    · subst hg
      simp only [γ1, if_true, Option.some.injEq] at hz
      exact ⟨row, e, hnew, by rw [hrs]; exact hz⟩
    · simp only [γ1, if_neg hg] at hz
      obtain ⟨d, e', k1, k2⟩ := h.wok.size g n hz
      exact ⟨d, e', by rw [hold g hg]; exact k1, k2⟩⟩
  have hmok := h.mok.alloc (.cells row e)
  have hsz : (w0.alloc (.cells row e)).heap.size = w.heap.size + 1 := by simp [h0]
  have hcf : ∀ g, cf g ≤ mo g := le_of_split2 h.sum
  have hkeep : KeepW γ γ1 w (w0.alloc (.cells row e)) cf := ⟨fun g hg o => by
    have hne : ¬ g = w.heap.size := fun e => by have := h.mok.out g (by omega); have := hcf g; omega
    simp only [γ1, if_neg hne], fun g hg => hold g (fun e => by have := h.mok.out g (by omega); have := hcf g; omega)⟩
  refine ⟨γ1, β, _, fun g => if g = w.heap.size then 1 else 0, cf, ⟨hos, htape, hout, by omega, hle, hok, fun g hg _ => hold g (by omega), fun g hg _ o => by simp only [γ1, if_neg (show ¬ g = w.heap.size by omega)], fun g hg => ?_, ⟨hmok.one, fun g hg => hmok.out g (by simp; omega)⟩, fun a => by rw [alloc_frz_cells]; exact frz_heap h0 a⟩, fun _ _ _ h => h, fun _ _ => rfl, h.dom, ?_, h.fs.mono hle (fun _ _ _ h => h) hkeep, fun g => ?_⟩
  · show mo g + (if g = w.heap.size then 1 else 0) ≤ mo g
    rw [if_neg (by omega)]; omega
  · refine .c (.own (by simp) ((hall.mono hle).toRep (g := w.heap.size) (off := 0) hK (fun o v hv => by simp only [γ1, if_true, Nat.zero_add]; exact hv)) (by simp [γ1]) (fun o ho => ?_))
    simp only [γ1, if_true]
    rw [List.getElem?_eq_none (by rw [hall.n]; exact ho)]
  · have := hcf g; show (if g = w.heap.size then 1 else 0) + cf g ≤ mo g + if g = w.heap.size then 1 else 0; omega

/-! ### fill -/
theorem foldl_put : ∀ (xs : List Value) (k : Nat) (off : Nat) (cells : Array Value), off + k + xs.length ≤ cells.size → ((xs.zipIdx k).foldl (fun cs (p : Value × Nat) => cs.setIfInBounds (off + p.2) p.1) cells).toList = put cells.toList (off + k) xs
  | [], k, off, cells, _ => by simp [put_nil]
  | x :: xs, k, off, cells, h => by
    simp only [List.length_cons] at h
    rw [List.zipIdx_cons, List.foldl_cons, foldl_put xs (k + 1) off _ (by simp; omega), put_cons _ _ _ _ (by simp; omega), Array.toList_setIfInBounds, Nat.add_assoc]
theorem fill_cons {place : Nat → Option (Nat × Nat)} {cells : Array Value} {i off n : Nat} {v : Value} {rest : List (Nat × Value)} (hp : place i = some (off, n)) (hn : v.cells.toList.length = n) (hfit : off + n ≤ cells.size) :
    ∃ cells' : Array Value, Instr.fill place cells ((i, v) :: rest) = Instr.fill place cells' rest ∧ cells'.toList = put cells.toList off v.cells.toList := by
  refine ⟨v.cells.zipIdx.foldl (fun cs (c, j) => cs.setIfInBounds (off + j) c) cells, ?_, ?_⟩
  · have h1 : (v.cells.size ≠ n || off + v.cells.size > cells.size) = false := by
      rw [Array.length_toList] at hn
      simp [hn]; omega
    conv => lhs; unfold Instr.fill
    simp only [hp, h1]; rfl
  · rw [← Array.foldl_toList, Array.toList_zipIdx]
    have := foldl_put v.cells.toList 0 off cells (by omega)
    simpa using this

def agPlaces (place : Nat → Option (Nat × Nat)) : List (Nat × Nat) → List Nat → Bool
  | [], [] => true
  | p :: r, i :: s => (match place i with | some q => p.1 == q.1 && p.2 == q.2 | none => false) && agPlaces place r s
  | _, _ => false

theorem fillX_sound {place : Nat → Option (Nat × Nat)} : ∀ {offs : List (Nat × Nat)} {is : List Nat} {us : List Value} {xs : List AV} {cells : Array Value} {l l' : List CV} {c d : Bud}
    (_ : RepCs γ β cells.toList l c) (_ : RepAs γ β us xs d) (_ : fillX l offs xs = some l') (_ : agPlaces place offs is = true),
    ∃ cells' : Array Value, Instr.fill place cells (is.zip us) = some cells' ∧ RepCs γ β cells'.toList l' (fun g => c g + d g)
  | [], [], us, xs, cells, l, l', c, d, hc, hx, hf, _ => by
    cases hx with
    | nil => simp only [fillX, Option.some.injEq] at hf; subst hf; exact ⟨cells, by simp [Instr.fill], hc.weak fun g => Nat.le_add_right _ _⟩
    | cons _ _ _ => simp [fillX] at hf
  | (off, n) :: offs, i :: is, us, xs, cells, l, l', c, d, hc, hx, hf, ha => by
    cases hx with
    | nil => simp [fillX] at hf
    | cons h r hs =>
      rename_i v vs x xs d1 d2
      simp only [agPlaces, Bool.and_eq_true] at ha
      obtain ⟨ha1, ha2⟩ := ha
      split at ha1
      · rename_i q hq
        simp only [Bool.and_eq_true, beq_iff_eq] at ha1
        obtain ⟨rfl, rfl⟩ := ha1
        simp only [fillX] at hf
        split at hf
        · rename_i ll hll
          split at hf
          · rename_i hcond
            obtain ⟨hn, hfit⟩ := hcond
            have hv := cells_val h hll
            obtain ⟨cells1, h1, h2⟩ := fill_cons (place := place) (cells := cells) (i := i) (off := q.1) (n := q.2) (v := v) (rest := is.zip vs) (by rw [hq]) (by rw [hv.length, hn]) (by rw [← Array.length_toList, hc.length]; exact hfit)
            have hc1 : RepCs γ β cells1.toList (put l q.1 ll) (fun g => c g + d1 g) := by rw [h2]; exact hc.put hv q.1 (fun g => Nat.le_refl _)
            obtain ⟨cells', k1, k2⟩ := fillX_sound hc1 r hf ha2
            exact ⟨cells', by rw [List.zip_cons_cons, h1]; exact k1, k2.weak fun g => by have := hs g; show c g + d1 g + d2 g ≤ c g + d g; omega⟩
          · cases hf
        · cases hf
      · cases ha1
  | [], _ :: _, _, _, _, _, _, _, _, _, _, _, h => by simp [agPlaces] at h
  | _ :: _, [], _, _, _, _, _, _, _, _, _, _, h => by simp [agPlaces] at h

def placeB (P : Program) (t : TypeId) : Option (Nat → Option (Nat × Nat)) := match P.underlying t with
  | some (.struct fields) => (fields.toList.mapM (fun f => (P.info? f.type).map fun i => (f.offset, i.size))).map fun places => (places.toArray[·]?)
  | some (.array _ e) => (P.info? e).map fun ie => fun i => some (i * ie.size, ie.size)
  | _ => none
theorem built_of {t : TypeId} {place : Nat → Option (Nat × Nat)} {it : TypeInfo} {z : Value} {parts : List (Nat × Value)} (hp : placeB P t = some place) (hi : P.info? t = some it) (hz : it.zero = some z) : P.built t parts = Instr.fill place z.cells parts := by
  unfold placeB at hp
  unfold Program.built
  split at hp
  · rename_i fields hu
    cases hm : fields.toList.mapM (fun f => (P.info? f.type).map fun i => (f.offset, i.size)) with
    | none => simp [hm] at hp
    | some places => simp [hm] at hp; subst hp; simp [hi, hu, hz, hm]
  · rename_i n e hu
    cases hie : P.info? e with
    | none => simp [hie] at hp
    | some ie => simp [hie] at hp; subst hp; simp [hi, hu, hz, hie]
  · cases hp

theorem Pre.bld (h : Pre mo w γ β us vs fr up cv cf) {t : TypeId} {it : TypeInfo} {zv : Value} {z : List PV} {offs : List (Nat × Nat)} {is : List Nat} {place : Nat → Option (Nat × Nat)}
    (hi : P.info? t = some it) (hz : it.zero = some zv) (ha : agZs z zv.cells.toList = true) (hp : placeB P t = some place) (hag : agPlaces place offs is = true) {l : List CV} (hf : fillX (zvs z) offs vs = some l) {parts : Array (Nat × Value)} (hparts : parts.toList = is.zip us) :
    ∃ v w', (Instr.build t parts).run P w = .ok v w' ∧ Outs mo w γ β w' v (.agg l) fr up := by
  obtain ⟨cells', h1, h2⟩ := fillX_sound (agZs_rep (γ := γ) (β := β) ha none0) h.vals hf hag
  exact ⟨.agg cells', w, run_build w t parts cells' (by rw [built_of hp hi hz, hparts]; exact h1), h.still (.agg h2) fun g => by show 0 + cv g ≤ cv g; omega⟩

/-! ### slices built -/
theorem Flat.set {cells us : List Value} {l : List (List PV)} {i : Nat} {xs : List PV} (f : Flat γ sz cells l) (hi : i < l.length) (hx : xs.length = sz) (hu : us.length = sz) (hr : ∀ (j : Nat) (p : PV) (v : Value), xs[j]? = some p → us[j]? = some v → RepP γ v p) (h1 : ∀ v, v ∈ us → cellV v = true) :
    Flat γ sz (put cells (i * sz) us) (l.set i xs) := by
  have hput : i * sz + us.length ≤ cells.length := by
    rw [hu, f.n]; have := Nat.mul_le_mul_right sz (Nat.succ_le_of_lt hi); rw [Nat.succ_mul] at this; exact this
  refine ⟨by rw [put_length _ _ _ hput, f.n, List.length_set], fun j c hc => ?_, fun j c m p hc hm => ?_, fun v hv => ?_⟩
  · by_cases e : j = i
    · subst e; rw [List.getElem?_set_self hi] at hc; cases hc; exact hx
    · rw [List.getElem?_set_ne (Ne.symm e)] at hc; exact f.szs j c hc
  · by_cases e : j = i
    · subst e
      rw [List.getElem?_set_self hi] at hc; cases hc
      have hmlt : m < us.length := by rw [hu, ← hx]; exact (List.getElem?_eq_some_iff.1 hm).1
      refine ⟨us[m], ?_, hr m p _ hm (List.getElem?_eq_getElem hmlt)⟩
      rw [put_get _ _ _ hput, if_neg (by omega), if_pos (by omega), show j * sz + m - j * sz = m by omega, List.getElem?_eq_getElem hmlt]
    · rw [List.getElem?_set_ne (Ne.symm e)] at hc
      have hmlt : m < sz := by have := f.szs j c hc; have := (List.getElem?_eq_some_iff.1 hm).1; omega
      obtain ⟨v, a, b⟩ := f.rep j c m p hc hm
      refine ⟨v, ?_, b⟩
      rw [put_get _ _ _ hput]
      have hne : ¬ (i * sz ≤ j * sz + m ∧ j * sz + m < i * sz + us.length) := by
        rintro ⟨q1, q2⟩
        rw [hu] at q2
        rcases Nat.lt_or_gt_of_ne e with q | q
        · have := Nat.mul_le_mul_right sz (Nat.succ_le_of_lt q); rw [Nat.succ_mul] at this; omega
        · have := Nat.mul_le_mul_right sz (Nat.succ_le_of_lt q); rw [Nat.succ_mul] at this; omega
      by_cases q : j * sz + m < i * sz
      · rw [if_pos q]; exact a
      · rw [if_neg q, if_neg (fun b => hne ⟨by omega, b⟩)]; exact a
  · obtain ⟨o, ho⟩ := List.getElem?_of_mem hv
    rw [put_get _ _ _ hput] at ho
    split at ho
    · exact f.one v (List.mem_of_getElem? ho)
    · split at ho
      · exact h1 v (List.mem_of_getElem? ho)
      · exact f.one v (List.mem_of_getElem? ho)

theorem fillS_sound : ∀ {idx : List Nat} {us : List Value} {xs : List AV} {cells : Array Value} {l l' : List (List PV)} {d : Bud}
    (_ : Flat γ sz cells.toList l) (_ : RepAs γ β us xs d) (_ : fillS sz l idx xs = some l'),
    ∃ cells' : Array Value, Instr.fill (fun i => some (i * sz, sz)) cells (idx.zip us) = some cells' ∧ Flat γ sz cells'.toList l' ∧ l'.length = l.length
  | [], us, xs, cells, l, l', d, hc, hx, hf => by
    cases hx with
    | nil => simp only [fillS, Option.some.injEq] at hf; subst hf; exact ⟨cells, by simp [Instr.fill], hc, rfl⟩
    | cons _ _ _ => simp [fillS] at hf
  | i :: idx, us, xs, cells, l, l', d, hc, hx, hf => by
    cases hx with
    | nil => simp [fillS] at hf
    | cons h r hs =>
      rename_i v vs x xs d1 d2
      simp only [fillS] at hf
      split at hf
      · rename_i ll hll
        split at hf
        · rename_i hcond
          obtain ⟨hn, hfit⟩ := hcond
          cases hcl : cellsA x with
          | none => simp [hcl] at hll
          | some cl =>
          simp only [hcl, Option.bind_some] at hll
          have hv := cells_val h hcl
          obtain ⟨hlen, hrep⟩ := toPs_rep hv hll
          have hfit' : i * sz + sz ≤ cells.size := by
            rw [← Array.length_toList, hc.n]; have := Nat.mul_le_mul_right sz (Nat.succ_le_of_lt hfit); rw [Nat.succ_mul] at this; exact this
          obtain ⟨cells1, h1, h2⟩ := fill_cons (place := fun i => some (i * sz, sz)) (cells := cells) (i := i) (v := v) (rest := idx.zip vs) rfl (by rw [hlen, hn]) hfit'
          have hc1 : Flat γ sz cells1.toList (l.set i ll) := by rw [h2]; exact hc.set hfit hn (by rw [hlen, hn]) hrep hv.cellVs
          obtain ⟨cells', k1, k2, k3⟩ := fillS_sound hc1 r hf
          exact ⟨cells', by rw [List.zip_cons_cons, h1]; exact k1, k2, by rw [k3, List.length_set]⟩
        · cases hf
      · cases hf

theorem agZ_repP {p : PV} {v : Value} (h : agZ p v = true) : RepP γ v p := by
  have := agZ_rep (γ := γ) (β := fun _ _ => none) h none0
  unfold agZ at h
  split at h
  · simp only [Bool.and_eq_true] at h
    rename_i v w
    have := eqV_eq h.1; subst this
    exact .lit _ h.2
  · exact .nil _
  · cases h
theorem agZs_get : ∀ {ps : List PV} {vs : List Value} (_ : agZs ps vs = true), ps.length = vs.length ∧ ∀ (j : Nat) (p : PV), ps[j]? = some p → ∃ v, vs[j]? = some v ∧ RepP γ v p
  | [], [], _ => ⟨rfl, by simp⟩
  | p :: r, v :: s, h => by
    simp only [agZs, Bool.and_eq_true] at h
    obtain ⟨h1, h2⟩ := agZs_get h.2
    refine ⟨by simp [h1], fun j q hq => ?_⟩
    cases j with
    | zero => simp at hq; subst hq; exact ⟨v, rfl, agZ_repP h.1⟩
    | succ j => simpa using h2 j q (by simpa using hq)
  | [], _ :: _, h => by simp [agZs] at h
  | _ :: _, [], h => by simp [agZs] at h

/-- Zero cells, so many times. -/
theorem flat_zero {z : List PV} {zs : Array Value} (ha : agZs z zs.toList = true) (n : Nat) (hz : zs.size = sz) (hsz : 0 < sz) : Flat γ sz ((Array.range (n * sz)).map (zs[· % zs.size]!)).toList (List.replicate n z) := by
  obtain ⟨h1, h2⟩ := agZs_get (γ := γ) ha
  have hzl : z.length = sz := by rw [h1]; simpa using hz
  have hget : ∀ o : Nat, ((Array.range (n * sz)).map (zs[· % zs.size]!)).toList[o]? = if o < n * sz then some (zs[o % sz]!) else none := fun o => by
    split
    · rename_i ho; simp [ho, hz]
    · rename_i ho; rw [List.getElem?_eq_none (by simp; omega)]
  refine ⟨by simp, fun i c hc => ?_, fun i c j p hc hp => ?_, fun v hv => ?_⟩
  · rw [List.getElem?_replicate] at hc; split at hc
    · cases hc; exact hzl
    · cases hc
  · rw [List.getElem?_replicate] at hc
    split at hc
    · rename_i hi
      cases hc
      obtain ⟨v, a, b⟩ := h2 j p hp
      have hj : j < sz := by rw [← hzl]; exact (List.getElem?_eq_some_iff.1 hp).1
      refine ⟨v, ?_, b⟩
      rw [hget, if_pos (by have := Nat.mul_le_mul_right sz (Nat.succ_le_of_lt hi); rw [Nat.succ_mul] at this; omega)]
      have hm : (i * sz + j) % sz = j := by rw [Nat.mul_comm, Nat.mul_add_mod, Nat.mod_eq_of_lt hj]
      rw [hm]
      simp only [Array.getElem?_toList] at a
      simp [getElem!_def, a]
    · cases hc
  · obtain ⟨o, ho⟩ := List.getElem?_of_mem hv
    rw [hget] at ho
    split at ho
    · cases ho
      have hm : o % sz < zs.size := by rw [hz]; exact Nat.mod_lt _ hsz
      obtain ⟨p, hp⟩ : ∃ p, z[o % sz]? = some p := ⟨_, List.getElem?_eq_getElem (by rw [hzl]; rw [hz] at hm; exact hm)⟩
      obtain ⟨v, a, b⟩ := h2 _ p hp
      simp only [Array.getElem?_toList] at a
      have : zs[o % sz]! = v := by simp [getElem!_def, a]
      rw [this]; exact b.cellV
    · cases ho

theorem Pre.blds (h : Pre mo w γ β us vs fr up cv cf) {t e : TypeId} {ie : TypeInfo} {zv : Value} {z : List PV} {n : Nat} {idx : List Nat} (ht : P.underlying t = some (.slice e)) (hi : P.info? e = some ie) (hz : ie.zero = some zv) (hzs : zv.cells.size = sz) (hsz : ie.size = sz) (h0 : 0 < sz)
    (ha : agZs z zv.cells.toList = true) (hroom : n * sz ≤ 16777216) {l : List (List PV)} (hf : fillS sz (List.replicate n z) idx vs = some l) {parts : Array (Nat × Value)} (hparts : parts.toList = idx.zip us) :
    ∃ v w', (Instr.buildSlice t n parts).run P w = .ok v w' ∧ Outs mo w γ β w' v (.c (.own sz l)) fr up := by
  have hinit := flat_zero (γ := γ) ha n hzs h0
  obtain ⟨cells', h1, h2, h3⟩ := fillS_sound hinit h.vals hf
  rw [List.length_replicate] at h3
  have hfresh := h.freshRow (w0 := w) rfl rfl rfl rfl (row := cells') (e := e) (K := n) (cells := cells'.toList) h2 (fun o v hv => by simpa using hv) (by rw [← Array.length_toList, h2.n, h3]) (by omega)
  rw [h3] at hfresh
  refine ⟨_, _, ?_, hfresh⟩
  unfold Instr.buildSlice
  have hno : ¬ (n * sz > 2 ^ 24) := by omega
  simp only [Sem.run_bind, run_underlying' ht, Result.andThen_ok, sizeOf, typeInfo, run_program, hi, Sem.run_pure, hsz, Sem.run_ite, if_neg hno, zeroValue, hz]
  by_cases hn0 : n * sz = 0
  · have hn : n = 0 := by rcases Nat.mul_eq_zero.1 hn0 with h | h <;> omega
    subst hn
    have e0 : ∀ f : Nat → Value, (Array.range 0).map f = #[] := fun f => by apply Array.ext'; simp
    simp only [Nat.zero_mul, e0] at h1
    simp only [Nat.zero_mul, if_true, e0, Sem.run_pure, Result.andThen_ok, hparts, h1, newRow, Sem.run_bind, run_newObj]
    rfl
  · rw [hparts]
    simp [hn0, h1, newRow]
end
end Go.ScE
