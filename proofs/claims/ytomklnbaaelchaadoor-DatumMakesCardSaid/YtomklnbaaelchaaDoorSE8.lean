/- E8: append. -/
import Derived.Test.YtomklnbaaelchaaDoorSE7
import Derived.Laws.AppendOwn
set_option linter.unusedVariables false
set_option linter.unusedSimpArgs false
namespace Go.ScE

structure Flat (γ : Gh) (sz : Nat) (cells : List Value) (l : List (List PV)) : Prop where
  n : cells.length = l.length * sz
  szs : ∀ (i : Nat) (c : List PV), l[i]? = some c → c.length = sz
  rep : ∀ (i : Nat) (c : List PV) (j : Nat) (p : PV), l[i]? = some c → c[j]? = some p → ∃ v, cells[i * sz + j]? = some v ∧ RepP γ v p
  one : ∀ v, v ∈ cells → cellV v = true

section
variable {P : Program} {mo cv cf : Bud} {w : World} {γ γ' : Gh} {β : Bet} {us : List Value} {vs : List AV} {fr : Fram} {up : List Fram} {sz : Nat}

theorem RepP.cellV {v : Value} {p : PV} (h : RepP γ v p) : ScE.cellV v = true := by
  cases h with
  | lit _ h => exact h
  | nil => rfl
  | nul => rfl
  | sl => rfl
theorem Flat.nil : Flat γ sz [] [] := ⟨by simp, by simp, by simp, by simp⟩
theorem Flat.mono (h : γ.le γ') {cells : List Value} {l : List (List PV)} (f : Flat γ sz cells l) : Flat γ' sz cells l :=
  ⟨f.n, f.szs, fun i c j p h1 h2 => let ⟨v, a, b⟩ := f.rep i c j p h1 h2; ⟨v, a, b.mono h⟩, f.one⟩
theorem Flat.append {a b : List Value} {l m : List (List PV)} (f : Flat γ sz a l) (k : Flat γ sz b m) : Flat γ sz (a ++ b) (l ++ m) where
  n := by rw [List.length_append, List.length_append, f.n, k.n, Nat.add_mul]
  szs i c hc := by
    rw [List.getElem?_append] at hc
    split at hc
    · exact f.szs i c hc
    · exact k.szs _ c hc
  rep i c j p hc hp := by
    rw [List.getElem?_append] at hc
    split at hc
    · rename_i hi
      obtain ⟨v, h1, h2⟩ := f.rep i c j p hc hp
      exact ⟨v, by rw [List.getElem?_append_left (List.getElem?_eq_some_iff.1 h1).1]; exact h1, h2⟩
    · rename_i hi
      obtain ⟨v, h1, h2⟩ := k.rep _ c j p hc hp
      refine ⟨v, ?_, h2⟩
      have hle : l.length * sz ≤ i * sz := Nat.mul_le_mul_right sz (by omega)
      rw [List.getElem?_append_right (by rw [f.n]; omega), f.n, show i * sz + j - l.length * sz = (i - l.length) * sz + j by rw [Nat.sub_mul]; omega]
      exact h1
  one v hv := by
    rcases List.mem_append.1 hv with h | h
    · exact f.one v h
    · exact k.one v h

theorem Flat.ofRep {g off len cap : Nat} {l : List (List PV)} (h : RepP γ (.slice (some ⟨g, off, none⟩) len cap) (.sl sz l)) (hsz : 0 < sz) :
    len = l.length ∧ ∃ cells, Flat γ sz cells l ∧ ∀ o v, cells[o]? = some v → γ.S g (off + o) = some v := by
  cases h with
  | nul => exact ⟨rfl, [], Flat.nil, by simp⟩
  | sl _ _ _ _ _ val hc hl hs hr =>
    have key : ∀ o, o < l.length * sz → ∃ c p, l[o / sz]? = some c ∧ c[o % sz]? = some p := fun o ho => by
      have h1 : o / sz < l.length := Nat.div_lt_of_lt_mul (by rw [Nat.mul_comm]; exact ho)
      have h2 : l[o / sz]? = some l[o / sz] := List.getElem?_eq_getElem h1
      have h3 : o % sz < (l[o / sz]).length := by rw [hl _ _ h2]; exact Nat.mod_lt _ hsz
      exact ⟨_, _, h2, List.getElem?_eq_getElem h3⟩
    have hget : ∀ o, ((List.range (l.length * sz)).map fun o => val (o / sz) (o % sz))[o]? = if o < l.length * sz then some (val (o / sz) (o % sz)) else none := fun o => by
      split
      · rename_i ho; rw [List.getElem?_map, List.getElem?_range ho]; rfl
      · rename_i ho; rw [List.getElem?_eq_none (by simp; omega)]
    have hdm : ∀ i j, j < sz → (i * sz + j) / sz = i ∧ (i * sz + j) % sz = j := fun i j hj => by
      rw [Nat.mul_comm, Nat.mul_add_div hsz, Nat.div_eq_of_lt hj, Nat.mul_add_mod, Nat.mod_eq_of_lt hj]; exact ⟨Nat.add_zero _, rfl⟩
    refine ⟨rfl, (List.range (l.length * sz)).map fun o => val (o / sz) (o % sz), ⟨by simp, hl, fun i c j p h1 h2 => ?_, fun v hv => ?_⟩, fun o v hv => ?_⟩
    · have hj : j < sz := by have := hl i c h1; have := (List.getElem?_eq_some_iff.1 h2).1; omega
      have hi : i < l.length := (List.getElem?_eq_some_iff.1 h1).1
      refine ⟨val i j, ?_, hr i c j p h1 h2⟩
      rw [hget, if_pos]
      · rw [(hdm i j hj).1, (hdm i j hj).2]
      · have := Nat.mul_le_mul_right sz (Nat.succ_le_of_lt hi); rw [Nat.succ_mul] at this; omega
    · obtain ⟨o, ho, rfl⟩ := List.mem_map.1 hv
      obtain ⟨c, p, h1, h2⟩ := key o (List.mem_range.1 ho)
      exact (hr _ _ _ _ h1 h2).cellV
    · rw [hget] at hv
      split at hv
      · rename_i ho
        obtain ⟨c, p, h1, h2⟩ := key o ho
        cases hv
        have := hs _ _ _ _ h1 h2
        rwa [Nat.add_assoc, Nat.mul_comm, Nat.div_add_mod] at this
      · cases hv

theorem Flat.toRep {g off cap : Nat} {l : List (List PV)} {cells : List Value} (f : Flat γ sz cells l) (hc : l.length ≤ cap) (hs : ∀ o v, cells[o]? = some v → γ.S g (off + o) = some v) :
    RepP γ (.slice (some ⟨g, off, none⟩) l.length cap) (.sl sz l) :=
  .sl g off cap sz l (fun i j => cells.getD (i * sz + j) undef) hc f.szs (fun i c j p h1 h2 => by
    obtain ⟨v, a, -⟩ := f.rep i c j p h1 h2
    rw [Nat.add_assoc, List.getD_eq_getElem?_getD, a]; exact hs _ _ a) (fun i c j p h1 h2 => by
    obtain ⟨v, a, b⟩ := f.rep i c j p h1 h2
    rw [List.getD_eq_getElem?_getD, a]; exact b)

/-- What is appended: how long it is, and its cells (in any world of this memory). -/
structure Src (P : Program) (w : World) (sz : Nat) (y : Value) (m : Nat) (news : List Value) : Prop where
  len : ∀ w' : World, (Builtin.lenOf y).run P w' = .ok m w'
  first : ∀ w' : World, w'.heap = w.heap → (Builtin.firstCells sz m y).run P w' = .ok news.toArray w'

theorem cell?_heap {w w' : World} (h : w'.heap = w.heap) (a : Addr) : w'.cell? a = w.cell? a := by unfold World.cell?; rw [h]

theorem src_of (hw : WOk γ w) {y : AV} {u : Value} {c cf : Bud} {fs : List Fram} (hf : RepFs γ w β fs cf) (hy : RepA γ β u y c) {l : List (List PV)} (hl : listOf sz fs y = some l) (hsz : 0 < sz) :
    ∃ news, Src P w sz u l.length news ∧ Flat γ sz news l := by
  have keyP : ∀ {l}, RepP γ u (.sl sz l) → ∃ news, Src P w sz u l.length news ∧ Flat γ sz news l := fun {l} hp => by
    cases hp with
    | nil => exact ⟨[], ⟨fun w' => by simp [Builtin.lenOf], fun w' _ => by simp [Builtin.firstCells]⟩, Flat.nil⟩
    | nul _ ad => exact ⟨[], ⟨fun w' => by simp [Builtin.lenOf], fun w' _ => run_firstCells_some w' sz 0 ad 0 0 [] (by simp) (by simp)⟩, Flat.nil⟩
    | sl g off cap _ _ val hc hl hs hr =>
      obtain ⟨-, cells, h1, h2⟩ := Flat.ofRep (RepP.sl g off cap sz l val hc hl hs hr) hsz
      exact ⟨cells, ⟨fun w' => by simp [Builtin.lenOf], fun w' hh => run_firstCells_some w' sz l.length ⟨g, off, none⟩ l.length cap cells h1.n (fun j v hv => by rw [add_off, cell?_heap hh]; exact hw.cell _ _ _ (h2 j v hv))⟩, h1⟩
  unfold listOf at hl
  split at hl
  · split at hl
    · cases hl; rename_i e; subst e
      cases hy with | c h => cases h with | p hp => exact keyP hp
    · cases hl
  · split at hl
    · cases hl; rename_i e; subst e
      cases hy with
      | c h => cases h with
        | ownNil => exact keyP (.nil _)
        | own a b _ _ => exact keyP b
    · cases hl
  · split at hl
    · rename_i d k sz' off n x sz2 ll hll
      split at hl
      · rename_i hcond
        obtain ⟨rfl, rfl, hon⟩ := hcond
        cases hl
        cases hy with
        | c h => cases h with
          | arr hb hc =>
            rename_i cap g
            obtain ⟨g', e1, e2, hb', hH, -, -⟩ := hf.focus hll
            rw [hb] at hb'; cases hb'
            cases hH with
            | arr hh hn hl' hr hS hcc =>
              rename_i vs0 e
              have hlen : ((ll.drop off).take n).length = n := by simp; omega
              have hmul : off * sz2 + n * sz2 ≤ vs0.toList.length := by
                rw [← Nat.add_mul, Array.length_toList, hn]; exact Nat.mul_le_mul_right _ hon
              refine ⟨cut (off * sz2) (n * sz2) vs0.toList, ⟨fun w' => by simp [Builtin.lenOf, hlen], fun w' hh' => ?_⟩, ⟨by rw [cut_length _ _ _ hmul, hlen], fun i c hi => ?_, fun i c j p h1 h2 => ?_, fun v hv => ?_⟩⟩
              · rw [hlen]
                exact run_firstCells_some w' sz2 n ⟨g, off * sz2, none⟩ n cap _ (cut_length _ _ _ hmul) (fun j v hv => by
                  rw [cut_get] at hv
                  split at hv
                  · rw [add_off, cell?_heap hh', cell_of_block w g _ vs0 e _ hh]; simpa using hv
                  · cases hv)
              · rw [List.getElem?_take] at hi
                split at hi
                · rw [List.getElem?_drop] at hi; exact hl' _ c hi
                · cases hi
              · rw [List.getElem?_take] at h1
                split at h1
                · rename_i hin
                  rw [List.getElem?_drop] at h1
                  have hj : j < sz2 := by have := hl' _ c h1; have := (List.getElem?_eq_some_iff.1 h2).1; omega
                  obtain ⟨v, a, b⟩ := hr _ c j p h1 h2
                  refine ⟨v, ?_, b⟩
                  rw [cut_get, if_pos (by have := Nat.mul_le_mul_right sz2 (Nat.succ_le_of_lt hin); rw [Nat.succ_mul] at this; omega)]
                  rw [show off * sz2 + (i * sz2 + j) = (off + i) * sz2 + j by rw [Nat.add_mul]; omega]
                  simpa using a
                · cases h1
              · obtain ⟨o, ho⟩ := List.getElem?_of_mem hv
                rw [cut_get] at ho
                split at ho
                · rename_i hol
                  have hlt : off * sz2 + o < ll.length * sz2 := by rw [← hn, ← Array.length_toList]; omega
                  have h1 : (off * sz2 + o) / sz2 < ll.length := Nat.div_lt_of_lt_mul (by rw [Nat.mul_comm sz2]; exact hlt)
                  have h2 : ll[(off * sz2 + o) / sz2]? = some ll[(off * sz2 + o) / sz2] := List.getElem?_eq_getElem h1
                  have h3 : (off * sz2 + o) % sz2 < (ll[(off * sz2 + o) / sz2]).length := by rw [hl' _ _ h2]; exact Nat.mod_lt _ hsz
                  obtain ⟨v', a, b⟩ := hr _ _ _ _ h2 (List.getElem?_eq_getElem h3)
                  rw [Nat.mul_comm, Nat.div_add_mod] at a
                  rw [Array.getElem?_toList, a] at ho; cases ho
                  exact b.cellV
                · cases ho
      · cases hl
    · cases hl
  · split at hl
    · rename_i s e
      subst e
      cases hl
      obtain ⟨rfl, -⟩ := hy.litv
      refine ⟨s.data.toList.map fun b => .int .u8 b.toNat, ⟨fun w' => by simp [Builtin.lenOf], fun w' _ => ?_⟩, ⟨by simp, fun i c hi => ?_, fun i c j p h1 h2 => ?_, fun v hv => ?_⟩⟩
      · simp only [Builtin.firstCells, List.length_map, Array.length_toList, Sem.run_pure]
        congr 1
        apply Array.ext'
        have : s.extract 0 s.data.size = s := by
          have := ByteArray.extract_zero_size (b := s); exact this
        rw [this]; simp
      · rw [List.getElem?_map] at hi; cases h : s.data.toList[i]? <;> simp [h] at hi; subst hi; rfl
      · rw [List.getElem?_map] at h1
        cases h : s.data.toList[i]? with
        | none => simp [h] at h1
        | some b =>
          simp only [h, Option.map_some, Option.some.injEq] at h1
          subst h1
          cases j with
          | zero => simp at h2; subst h2; exact ⟨_, by rw [List.getElem?_map]; simp at h; simp [h], .lit _ rfl⟩
          | succ j => simp at h2
      · obtain ⟨b, -, rfl⟩ := List.mem_map.1 hv; rfl
    · cases hl
  · cases hl
end
end Go.ScE
