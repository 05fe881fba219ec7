/- E11: slices of strings and of slices; conversions; maps; rows made. -/
import Derived.Test.YtomklnbaaelchaaDoorSE10
import Derived.Laws.Bits64
import Derived.Laws.BitsAllLaws
set_option linter.unusedVariables false
set_option linter.unusedSimpArgs false
namespace Go.ScE
section
variable {P : Program} {mo cv cf : Bud} {w : World} {γ γ' : Gh} {β : Bet} {us : List Value} {vs : List AV} {fr : Fram} {up : List Fram} {sz : Nat}

theorem Pre.cvi (h : Pre mo w γ β us vs fr up cv cf) {s t : TypeId} {k k' : IntKind} {n : Int} {d : TypeDesc} (hs : P.underlying s = some d) (ht : P.underlying t = some (.int k)) :
    ∃ v w', (convert s t (.int k' n)).run P w = .ok v w' ∧ Outs mo w γ β w' v (pint k (k.wrap n)) fr up :=
  ⟨.int k (k.wrap n), w, by simp [convert, run_underlying' hs, run_underlying' ht, Conv.intToInt], h.lit rfl⟩

/-- Bytes pushed in turn. -/
theorem bytes_run : ∀ (l : List (List PV)) (cells : List Value) (bs : List UInt8) (acc : ByteArray), Flat γ 1 cells l → bytesL l = some bs →
    ∃ ns : List Int, cells = ns.map (Value.int .u8) ∧ bs = ns.map fun n => UInt8.ofNat n.toNat
  | [], cells, bs, acc, hf, hb => by
    simp only [bytesL, Option.some.injEq] at hb
    have : cells = [] := List.eq_nil_of_length_eq_zero (by simpa using hf.n)
    subst hb; subst this
    exact ⟨[], rfl, rfl⟩
  | c :: l, cells, bs, acc, hf, hb => by
    unfold bytesL at hb
    split at hb
    · cases ‹_ :: _ = []›
    · rename_i n r e
      simp only [List.cons.injEq] at e
      obtain ⟨rfl, rfl⟩ := e
      split at hb
      · rename_i bs' hbs
        cases hb
        have hn := hf.n
        cases cells with
        | nil => simp at hn
        | cons v cells =>
          obtain ⟨u, h1, h2⟩ := hf.rep 0 _ 0 _ rfl rfl
          simp only [List.getElem?_cons_zero, Nat.zero_mul, Nat.add_zero, Option.some.injEq] at h1
          subst h1
          have hv : v = .int .u8 n := by cases h2; rfl
          subst hv
          have hf' : Flat γ 1 cells l := ⟨by simpa using hn, fun i c hi => hf.szs (i + 1) c (by simpa using hi), fun i c j p hi hj => by
            obtain ⟨u, a, b⟩ := hf.rep (i + 1) c j p (by simpa using hi) hj
            refine ⟨u, ?_, b⟩
            have e1 : (i + 1) * 1 + j = (i * 1 + j) + 1 := by omega
            rw [e1, List.getElem?_cons_succ] at a
            exact a, fun v hv => hf.one v (by simp [hv])⟩
          obtain ⟨ns, rfl, rfl⟩ := bytes_run l cells bs' acc hf' hbs
          exact ⟨n :: ns, rfl, rfl⟩
      · cases hb
    · cases hb
theorem push_fold (ns : List Int) : ∀ acc : ByteArray, List.foldl (fun (b : ByteArray) (a : Int) => b.push (UInt8.ofNat a.toNat)) acc ns = ⟨⟨acc.data.toList ++ ns.map fun n => UInt8.ofNat n.toNat⟩⟩ := by
  induction ns with
  | nil => intro acc; simp
  | cons n ns ih =>
    intro acc
    rw [List.foldl_cons, ih]
    simp [ByteArray.push]

theorem slice_of {y : AV} {u : Value} {c : Bud} {fs : List Fram} (hy : RepA γ β u y c) {l : List (List PV)} (hl : listOf 1 fs y = some l) (hs : isStr y = false) : ∃ a n cap, u = .slice a n cap := by
  unfold listOf at hl
  split at hl
  · cases hy with | c h => cases h with | p h => cases h <;> exact ⟨_, _, _, rfl⟩
  · cases hy with | c h => cases h <;> exact ⟨_, _, _, rfl⟩
  · cases hy with | c h => cases h <;> exact ⟨_, _, _, rfl⟩
  · simp [isStr] at hs
  · cases hl
theorem Pre.cbs (h : Pre mo w γ β us vs fr up cv cf) {s t e : TypeId} {y : AV} {u : Value} {c1 : Bud} (hs : P.underlying s = some (.slice e)) (ht : P.underlying t = some .string) (he : P.underlying e = some (.int .u8)) (hy : RepA γ β u y c1) (hstr : isStr y = false) {l : List (List PV)} (hl : listOf 1 (fr :: up) y = some l) {bs : List UInt8} (hb : bytesL l = some bs) :
    ∃ v w', (convert s t u).run P w = .ok v w' ∧ Outs mo w γ β w' v (.c (.p (.lit (.string ⟨⟨bs⟩⟩)))) fr up := by
  obtain ⟨news, hsrc, hflat⟩ := src_of (P := P) h.wok h.fs hy hl Nat.one_pos
  obtain ⟨a, n, cap, rfl⟩ := slice_of hy hl hstr
  obtain ⟨ns, rfl, rfl⟩ := bytes_run l news bs ByteArray.empty hflat hb
  have hn : n = l.length := by have := hsrc.len w; simpa [Builtin.lenOf] using this
  have hfc := hsrc.first w rfl
  refine ⟨.string ⟨⟨ns.map fun n => UInt8.ofNat n.toNat⟩⟩, w, ?_, h.lit rfl⟩
  cases a with
  | none =>
    simp only [Builtin.firstCells] at hfc
    have : ns = [] := by
      have hh : (#[] : Array Value) = (ns.map (Value.int .u8)).toArray := by simpa using hfc
      have := congrArg Array.toList hh
      simpa using this.symm
    subst this
    simp [convert, run_underlying' hs, run_underlying' ht, run_underlying' he, Conv.bytesToString, ByteArray.empty, ByteArray.emptyWithCapacity]
    rfl
  | some a =>
    simp only [Builtin.firstCells, Nat.mul_one] at hfc
    rw [← hn] at hfc
    simp [convert, run_underlying' hs, run_underlying' ht, run_underlying' he, Conv.bytesToString, hfc]
    rw [push_fold]
    rfl

theorem bound_run (v : Int) (k : IntKind) (y : Nat) (code : BoundsCode) (h0 : 0 ≤ v) (h1 : v ≤ y) : (Instr.sliceBound (.int k v) y code).run P w = .ok v.toNat w := by
  unfold Instr.sliceBound asIntOf; simp [h0, h1]

/-- The bounds of a slice expression without a third one. -/
theorem bounds_run (isS : Bool) (len cap : Nat) (lo hi : Option (IntKind × Int)) (a b : Nat) (hb : (match hi with | some (_, x) => 0 ≤ x ∧ x ≤ cap ∧ b = x.toNat | none => b = len)) (ha : (match lo with | some (_, x) => 0 ≤ x ∧ x ≤ b ∧ a = x.toNat | none => a = 0)) :
    (Instr.sliceBounds isS len cap (lo.map fun p => .int p.1 p.2) (hi.map fun p => .int p.1 p.2) none).run P w = .ok (a, b, cap) w := by
  unfold Instr.sliceBounds
  cases hi with
  | none =>
    simp only at hb; subst hb
    cases lo with
    | none => simp only at ha; subst ha; simp
    | some p => obtain ⟨h0, h1, rfl⟩ := ha; simp [bound_run p.2 p.1 b _ h0 h1]
  | some q =>
    obtain ⟨g0, g1, rfl⟩ := hb
    cases lo with
    | none => simp only at ha; subst ha; simp [bound_run q.2 q.1 cap _ g0 g1]
    | some p => obtain ⟨h0, h1, rfl⟩ := ha; simp [bound_run q.2 q.1 cap _ g0 g1, bound_run p.2 p.1 _ _ h0 h1]

theorem RepP.sub {u : Value} {l : List (List PV)} (h : RepP γ u (.sl sz l)) (a b : Nat) (hab : a ≤ b) (hb : b ≤ l.length) :
    ∃ ad len cap, u = .slice ad len cap ∧ len = l.length ∧ b ≤ cap ∧ RepP γ (.slice (if cap = a then ad else ad.map (·.add (a * sz))) (b - a) (cap - a)) (.sl sz ((l.take b).drop a)) := by
  cases h with
  | nil =>
    simp only [List.length_nil, Nat.le_zero] at hb
    subst hb
    have : a = 0 := by omega
    subst this
    exact ⟨none, 0, 0, rfl, rfl, Nat.le_refl _, by simpa using .nil sz⟩
  | nul _ ad =>
    simp only [List.length_nil, Nat.le_zero] at hb
    subst hb
    have : a = 0 := by omega
    subst this
    exact ⟨some ad, 0, 0, rfl, rfl, Nat.le_refl _, by simpa using .nul sz ad⟩
  | sl g off cap _ _ val hc hl hs hr =>
    refine ⟨_, _, cap, rfl, rfl, by omega, ?_⟩
    have hlen : ((l.take b).drop a).length = b - a := by simp; omega
    have hget : ∀ i : Nat, ((l.take b).drop a)[i]? = if i < b - a then l[a + i]? else none := fun i => by
      rw [List.getElem?_drop]
      by_cases hi : i < b - a
      · rw [if_pos hi, List.getElem?_take_of_lt (by omega)]
      · rw [if_neg hi, List.getElem?_eq_none (by simp; omega)]
    have key : ∀ i c, ((l.take b).drop a)[i]? = some c → l[a + i]? = some c := fun i c h => by
      rw [hget] at h; split at h
      · exact h
      · cases h
    have mk : ∀ o, (∀ i, off + (a + i) * sz = o + i * sz) → RepP γ (.slice (some ⟨g, o, none⟩) ((l.take b).drop a).length (cap - a)) (.sl sz ((l.take b).drop a)) := fun o ho =>
      .sl g o (cap - a) sz _ (fun i j => val (a + i) j) (by rw [hlen]; omega) (fun i c h => hl _ c (key i c h)) (fun i c j p h1 h2 => by
        have := hs _ c j p (key i c h1) h2
        rwa [ho i] at this) (fun i c j p h1 h2 => hr _ c j p (key i c h1) h2)
    rw [← hlen]
    by_cases e : cap = a
    · rw [if_pos e]
      have hz : ((l.take b).drop a) = [] := List.eq_nil_of_length_eq_zero (by rw [hlen]; omega)
      rw [hz]
      exact .sl g off (cap - a) sz [] (fun _ _ => undef) (by simp) (by simp) (by simp) (by simp)
    · rw [if_neg e]
      simp only [Option.map_some, add_off]
      exact mk _ (fun i => by rw [Nat.add_mul]; omega)

theorem Pre.slL (h : Pre mo w γ β us vs fr up cv cf) {t e : TypeId} {x : CV} {u : Value} {c1 : Bud} {l : List (List PV)} (ht : P.underlying t = some (.slice e)) (hn : sizeB P e = some sz) (hx : RepC γ β u x c1) (hl : toP x = some (.sl sz l))
    (lo hi : Option (IntKind × Int)) (a b : Nat) (hb : (match hi with | some (_, x) => 0 ≤ x ∧ x ≤ l.length ∧ b = x.toNat | none => b = l.length)) (ha : (match lo with | some (_, x) => 0 ≤ x ∧ x ≤ b ∧ a = x.toNat | none => a = 0)) :
    ∃ v w', (Instr.sliceAt t u (lo.map fun p => .int p.1 p.2) (hi.map fun p => .int p.1 p.2) none).run P w = .ok v w' ∧ Outs mo w γ β w' v (.c (.p (.sl sz ((l.take b).drop a)))) fr up := by
  have hp := toP_rep hx hl
  have hbl : b ≤ l.length := by cases hi with | none => simp only at hb; omega | some q => obtain ⟨h0, h1, rfl⟩ := hb; omega
  have hab : a ≤ b := by cases lo with | none => simp only at ha; omega | some q => obtain ⟨h0, h1, rfl⟩ := ha; omega
  obtain ⟨ad, len, cap, rfl, rfl, hbc, hrep⟩ := hp.sub a b hab hbl
  refine ⟨_, w, ?_, h.still0 (.c (.p hrep))⟩
  have hbr := bounds_run (P := P) (w := w) true l.length cap lo hi a b (by cases hi with | none => exact hb | some q => obtain ⟨h0, h1, h2⟩ := hb; exact ⟨h0, by omega, h2⟩) ha
  unfold Instr.sliceAt Instr.slice
  simp only [Sem.run_bind, run_underlying' ht, Result.andThen_ok, hbr, run_sizeOf hn, Sem.run_pure]

theorem Pre.slS (h : Pre mo w γ β us vs fr up cv cf) {t : TypeId} {s : ByteArray} (ht : P.underlying t = some .string)
    (lo hi : Option (IntKind × Int)) (a b : Nat) (hb : (match hi with | some (_, x) => 0 ≤ x ∧ x ≤ s.size ∧ b = x.toNat | none => b = s.size)) (ha : (match lo with | some (_, x) => 0 ≤ x ∧ x ≤ b ∧ a = x.toNat | none => a = 0)) :
    ∃ v w', (Instr.sliceAt t (.string s) (lo.map fun p => .int p.1 p.2) (hi.map fun p => .int p.1 p.2) none).run P w = .ok v w' ∧ Outs mo w γ β w' v (.c (.p (.lit (.string (s.extract a b))))) fr up := by
  refine ⟨_, w, ?_, h.lit rfl⟩
  have hbr := bounds_run (P := P) (w := w) false s.size s.size lo hi a b hb ha
  unfold Instr.sliceAt Instr.slice
  simp only [Sem.run_bind, run_underlying' ht, Result.andThen_ok, Option.isSome_none, Bool.false_eq_true, if_false, hbr, Sem.run_pure]

/-! ### maps -/
theorem blk_frz_map {w : World} {g : Nat} {es es' : Array MapEntry} {k k' : Nat} (hg : w.heap[g]? = some (.map es k)) (a : Addr) : (ScE.blk w g (.map es' k')).frozen? a = w.frozen? a := by
  unfold World.frozen?
  by_cases h : a.block = g
  · rw [blk_get, if_pos h, h, hg, if_pos (lt_of_some hg)]
  · rw [blk_get, if_neg h]
theorem Pre.mkm (h : Pre mo w γ β us vs fr up cv cf) {s : Nat} (hs : hhas s fr = false) {t : TypeId} :
    ∃ v w', (Instr.makeMap t none).run P w = .ok v w' ∧ Outs mo w γ β w' v (.c (.mp 0 s)) ((s, .map []) :: fr) up := by
  refine ⟨_, _, by simp only [Instr.makeMap, Sem.run_bind, run_newObj, Result.andThen_ok, Sem.run_pure]; rfl, ?_⟩
  exact h.site hs (.map #[] 0) (alloc_frz_map _ _ _) (.map []) none0 (fun _ => Nat.zero_le _) (fun β' hb => .c (.mp hb)) (fun β' _ => .map (by rw [alloc_get, if_pos rfl]) .nil (fun o => h.wok.none o (Nat.le_refl _)) (by simp))

theorem Pre.mks (h : Pre mo w γ β us vs fr up cv cf) {s : Nat} (hs : hhas s fr = false) {t e : TypeId} {ie : TypeInfo} {zv : Value} {z : List PV} {n : Int} (ht : P.underlying t = some (.slice e)) (hi : P.info? e = some ie) (hz : ie.zero = some zv) (hzs : zv.cells.size = sz) (hsz : ie.size = sz) (h0 : 0 < sz)
    (ha : agZs z zv.cells.toList = true) (hb : ie.bytes ≤ 64) (hn0 : 0 ≤ n) (hroom : n * 64 ≤ roomy) :
    ∃ v w', (Instr.makeSlice t (.int .i64 n) (.int .i64 n)).run P w = .ok v w' ∧ Outs mo w γ β w' v (.c (.arr 0 s sz 0 n.toNat)) ((s, .arr sz (List.replicate n.toNat z)) :: fr) up := by
  have hflat := flat_zero (γ := γ) ha n.toNat hzs h0
  obtain ⟨k, rfl⟩ := Int.eq_ofNat_of_zero_le hn0
  simp only [Int.toNat_natCast] at hflat ⊢
  have hroomy : roomy = 70368744177664 := rfl
  have hk : k * 64 ≤ 70368744177664 := by rw [hroomy] at hroom; omega
  have hkb : k * ie.bytes ≤ 70368744177664 := Nat.le_trans (Nat.mul_le_mul_left _ hb) hk
  have hwrap : IntKind.i64.wrap (k : Int) = k := by rw [IntKind.wrap_i64]; omega
  refine ⟨.slice (some ⟨w.heap.size, 0, none⟩) k k, w.alloc (.cells ((Array.range (k * sz)).map (zv.cells[· % zv.cells.size]!)) e), ?_, ?_⟩
  · have hbig : ¬ ((ie.bytes : Int) * (k : Int) > 2 ^ 48) := by
      have h1 : ((k * ie.bytes : Nat) : Int) ≤ 70368744177664 := by omega
      have h2 : (2 : Int) ^ 48 = 281474976710656 := rfl
      rw [Int.mul_comm, ← Int.natCast_mul, h2]
      omega
    have hroomb : ¬ (k * ie.bytes > roomBytes) := by
      have : roomBytes = 140737488355328 := rfl
      omega
    have hlt : ¬ ((k : Int) < 0) := by omega
    unfold Instr.makeSlice
    simp only [Sem.run_bind, run_underlying' ht, Result.andThen_ok, asInt, asIntOf, sizeOf, typeInfo, run_program, hi, Sem.run_pure, hsz, hwrap, Int.toNat_natCast, zeroValue, hz]
    by_cases hn0 : k * sz = 0
    · have hn : k = 0 := by rcases Nat.mul_eq_zero.1 hn0 with h | h <;> omega
      subst hn
      have e0 : ∀ f : Nat → Value, (Array.range 0).map f = #[] := fun f => by apply Array.ext'; simp
      simp [askRoom, roomBytes, newRow, hi, e0]
    · have hbig' : ¬ (281474976710656 < (ie.bytes : Int) * (k : Int)) := hbig
      have hk0 : k ≠ 0 := fun e => hn0 (by rw [e, Nat.zero_mul])
      have hs0 : sz ≠ 0 := by omega
      simp [hbig', hlt, askRoom, hroomb, newRow, hi, hz, hsz, hk0, hs0]
      exact fun h => absurd h hn0
  · have hv : ∀ β' : Bet, β' 0 s = some w.heap.size → RepA γ β' (.slice (some ⟨w.heap.size, 0, none⟩) k k) (.c (.arr 0 s sz 0 k)) none0 := fun β' hb => by
      have := RepC.arr (γ := γ) (β := β') (d := 0) (k := s) (sz := sz) (off := 0) (n := k) (cap := k) (c := none0) hb (Nat.le_refl _)
      rw [Nat.zero_mul] at this
      exact .c this
    exact h.site hs _ (alloc_frz_cells _ _ _) _ none0 (fun _ => Nat.zero_le _) hv (fun β' _ => .arr (by rw [alloc_get, if_pos rfl]) (by simp) (fun i c hc => hflat.szs i c hc) (fun i c j p h1 h2 => by
      obtain ⟨v, a, b⟩ := hflat.rep i c j p h1 h2
      exact ⟨v, by rw [← Array.getElem?_toList]; exact a, b⟩) (fun o => h.wok.none o (Nat.le_refl _)) (by simp))

theorem keyOk_str {k : Value} (h : keyOk k = true) : ∃ s, k = .string s := by cases k <;> simp [keyOk] at h; exact ⟨_, rfl⟩

/-- An entry's value. -/
inductive RepMV (γ : Gh) : Value → Bool → List PV → Prop
  | one {v : Value} {p : PV} (h : RepP γ v p) : RepMV γ v false [p]
  | agg {vs : Array Value} {ps : List PV} (h : RepCs γ (fun _ _ => none) vs.toList (pvs ps) (fun _ => 0)) : RepMV γ (.agg vs) true ps
theorem RepM.cons' {e : MapEntry} {r : List MapEntry} {k : Value} {b : Bool} {ps : List PV} {xs : List (Value × Bool × List PV)} (hk : e.key = k) (ho : keyOk k = true) (hv : RepMV γ e.val b ps) (t : RepM γ r xs) : RepM γ (e :: r) ((k, b, ps) :: xs) := by
  subst hk
  cases e with
  | mk key val born =>
    cases hv with
    | one h => exact .one h ho t
    | agg h => exact .agg rfl h ho t
theorem RepM.inv {e : MapEntry} {r : List MapEntry} {xs : List (Value × Bool × List PV)} (h : RepM γ (e :: r) xs) : ∃ b ps ys, xs = (e.key, b, ps) :: ys ∧ keyOk e.key = true ∧ RepMV γ e.val b ps ∧ RepM γ r ys := by
  cases h with
  | one h hk t => exact ⟨_, _, _, rfl, hk, .one h, t⟩
  | agg he h hk t => exact ⟨_, _, _, rfl, hk, by rw [he]; exact .agg h, t⟩
theorem RepMV.val {v : Value} {b : Bool} {ps : List PV} (h : RepMV γ v b ps) (c : Bud) : RepA γ β v (mkA b (pvs ps)) c := by
  cases h with
  | one h => exact .c (.p h)
  | agg h => exact .agg ((h.free (β' := β) (by clear h; induction ps <;> simp_all [pvs, freeL, freeC])).weak fun g => Nat.zero_le _)

theorem keyEq_str (a b : ByteArray) : keyEq (.string a) (.string b) = (a == b) := rfl

theorem ba_beq (a b : ByteArray) : (a == b) = true ↔ a = b := by
  cases a; cases b
  rename_i x y
  have : ((ByteArray.mk x) == (ByteArray.mk y)) = (x == y) := rfl
  rw [this]; simp
theorem ba_self (a : ByteArray) : (a == a) = true := (ba_beq a a).2 rfl
theorem ba_ne {a b : ByteArray} (h : ¬ a = b) : (a == b) = false := by
  cases e : a == b with
  | false => rfl
  | true => exact absurd ((ba_beq a b).1 e) h
theorem find_sound (s : ByteArray) : ∀ {es : List MapEntry} {xs : List (Value × Bool × List PV)} (_ : RepM γ es xs) (i : Nat),
    (mget (.string s) xs = none ∧ Instr.findNow .string (.string s) es i = some none) ∨
    ∃ j b ps e, mget (.string s) xs = some (b, ps) ∧ es[j]? = some e ∧ e.key = .string s ∧ Instr.findNow .string (.string s) es i = some (some (i + j, e.val)) ∧ RepMV γ e.val b ps ∧
      ∀ (v : Value) (b' : Bool) (ps' : List PV), RepMV γ v b' ps' → RepM γ (es.modify j fun e => { e with key := .string s, val := v }) (mset (.string s) (b', ps') xs)
  | [], xs, h, i => by cases h; exact .inl ⟨rfl, rfl⟩
  | e :: r, xs, h, i => by
    obtain ⟨b, ps, ys, rfl, hk, hv, ht⟩ := h.inv
    obtain ⟨k, hks⟩ := keyOk_str hk
    have hsn : Instr.sameNow .string (.string s) e.key = some (s == k) := by rw [hks]; rfl
    by_cases hsk : s = k
    · subst hsk
      refine .inr ⟨0, b, ps, e, ?_, rfl, hks, ?_, hv, fun v b' ps' hv' => ?_⟩
      · simp [mget, hks, keyEq, ba_self]
      · simp [Instr.findNow, hsn, ba_self]
      · simp only [mset, hks, keyEq, ba_self, if_true, List.modify_zero_cons]
        exact .cons' (e := { e with key := .string s, val := v }) rfl rfl hv' ht
    · have hne : (s == k) = false := ba_ne hsk
      have hke : keyEq (.string s) e.key = false := by rw [hks]; exact hne
      rcases find_sound s ht (i + 1) with ⟨h1, h2⟩ | ⟨j, b2, ps2, e2, h1, h2, h3, h4, h5, h6⟩
      · exact .inl ⟨by simp [mget, hke, h1], by simp [Instr.findNow, hsn, hne, h2]⟩
      · refine .inr ⟨j + 1, b2, ps2, e2, by simp [mget, hke, h1], by simpa using h2, h3, ?_, h5, fun v b' ps' hv' => ?_⟩
        · simp only [Instr.findNow, hsn, hne, h4]; congr 3; omega
        · simp only [mset, hke, Bool.false_eq_true, if_false, List.modify_succ_cons]
          exact .cons' rfl hk hv (h6 v b' ps' hv')

theorem mset_new (s : ByteArray) (x : Bool × List PV) : ∀ {xs : List (Value × Bool × List PV)}, mget (.string s) xs = none → mset (.string s) x xs = xs ++ [(.string s, x)]
  | [], _ => rfl
  | (k, y) :: r, h => by
    simp only [mget] at h
    split at h
    · cases h
    · rename_i hk; simp only [mset, if_neg hk, mset_new s x h, List.cons_append]
theorem RepM.snoc {es : List MapEntry} {xs : List (Value × Bool × List PV)} (h : RepM γ es xs) {e : MapEntry} {k : Value} {b : Bool} {ps : List PV} (hk : e.key = k) (ho : keyOk k = true) (hv : RepMV γ e.val b ps) : RepM γ (es ++ [e]) (xs ++ [(k, b, ps)]) := by
  induction h with
  | nil => exact .cons' hk ho hv .nil
  | one h hk' t ih => exact .one h hk' ih
  | agg he h hk' t ih => exact .agg he h hk' ih

theorem run_checkKey {t : TypeId} (ht : P.underlying t = some .string) (e : Bool) (s : ByteArray) (w : World) : (Instr.checkKey e 10000 t (.string s)).run P w = .ok () w := by
  have key : ∀ n, (Instr.checkKey e (n + 1) t (.string s)).run P w = .ok () w := fun n => by simp [Instr.checkKey, run_underlying' ht]
  exact key 9999

theorem mval_of {v : Value} {y : AV} {c : Bud} {cl : List CV} {ps : List PV} (hy : RepA γ β v y c) (hc : cellsA y = some cl) (hp : toPs cl = some ps) : RepMV γ v (isAggA y) ps := by
  cases hy with
  | dead => simp [cellsA] at hc
  | c h =>
    rename_i x
    have hx : cl = [x] := by cases x <;> simp [cellsA] at hc <;> exact hc.symm
    subst hx
    simp only [toPs] at hp
    split at hp
    · rename_i p qs h1 h2
      cases h2; cases hp
      exact .one (toP_rep h h1)
    · cases hp
  | agg h =>
    simp only [cellsA, Option.some.injEq] at hc; subst hc
    obtain ⟨h1, h2⟩ := toPs_rep h hp
    exact .agg (reps_pvs h1 h2 _)
  | tup h => simp [cellsA] at hc

theorem Pre.lk (h : Pre mo w γ β us vs fr up cv cf) {t kt et : TypeId} {ie : TypeInfo} {zv : Value} {zagg ok : Bool} {z : List PV} {x : CV} {u ku : Value} {key : Value} {c1 c2 : Bud} (ht : P.underlying t = some (.map kt et)) (hk : P.underlying kt = some .string)
    (hi : P.info? et = some ie) (hz : ie.zero = some zv) (hzv : match zagg with | true => (∃ cs, zv = .agg cs ∧ agZs z cs.toList = true) | false => ∃ p, z = [p] ∧ agZ p zv = true)
    (hx : RepC γ β u x c1) (hku : RepA γ β ku (.c (.p (.lit key))) c2) (C : Callee) {r : AV} {fr' : Fram} {up' : List Fram} (hact : act C (.lk zagg z ok) [.c x, .c (.p (.lit key))] fr up = (r, fr', up', true)) :
    ∃ v w', (Instr.lookup t u ku ok).run P w = .ok v w' ∧ Outs mo w γ β w' v r fr' up' := by
  obtain ⟨rfl, -⟩ := hku.litv
  simp only [act] at hact
  cases hx with
  | mp hb =>
    rename_i d k g
    dsimp only at hact
    split at hact
    case h_2 => simp [bad] at hact
    rename_i xs hxs
    simp only [Prod.mk.injEq] at hact
    obtain ⟨rfl, rfl, rfl, hko⟩ := hact
    obtain ⟨s, rfl⟩ := keyOk_str hko
    obtain ⟨g', e1, e2, hb', hH, -, -⟩ := h.fs.focus hxs
    rw [hb] at hb'; cases hb'
    cases hH with
    | map hh hr hS hc =>
      rename_i es clock
      have hzr : ∀ c : Bud, RepA γ β zv (mkA zagg (pvs z)) c := fun c => by
        cases zagg with
        | true =>
          obtain ⟨cs, rfl, ha⟩ := hzv
          obtain ⟨h1, h2⟩ := agZs_get (γ := γ) ha
          exact .agg (reps_pvs h1.symm (fun j p v hp hv => by obtain ⟨v', a, b⟩ := h2 j p hp; rw [hv] at a; cases a; exact b) c)
        | false => obtain ⟨p, rfl, ha⟩ := hzv; exact .c (.p (agZ_repP ha))
      have fin : ∀ (v : Value) (b : Bool) (ps : List PV) (found : Bool), (∀ c : Bud, RepA γ β v (mkA b (pvs ps)) c) → (b = true → ∃ vs, v = .agg vs) → (b = false → ∃ p, ps = [p]) →
          RepA γ β (if ok then .tuple #[v, .bool found] else v) (if ok then .tup [(b, pvs ps), (false, [.p (.lit (.bool found))])] else mkA b (pvs ps)) none0 := fun v b ps found hv hb1 hb2 => by
        cases ok with
        | false => exact hv _
        | true =>
          refine .tup ?_
          have ht : RepT γ β [.bool found] [(false, [.p (.lit (.bool found))])] none0 := .one (c1 := none0) (c2 := none0) (.p (.lit _ rfl)) .nil (fun g => by simp)
          cases b with
          | true =>
            obtain ⟨vs, rfl⟩ := hb1 rfl
            have := hv none0
            simp only [mkA] at this
            cases this with
            | agg hh => exact .agg (c1 := none0) hh ht (fun g => by simp)
          | false =>
            obtain ⟨p, rfl⟩ := hb2 rfl
            have := hv none0
            simp only [mkA, pvs] at this
            cases this with
            | c hh => exact .one (c1 := none0) hh ht (fun g => by simp)
      have base : ∀ r : Option (Nat × Value), Instr.findNow .string (.string s) es.toList 0 = some r → (Instr.lookup t (.map (some g)) (.string s) ok).run P w =
          .ok (match r with | some (_, v) => (if ok then .tuple #[v, .bool true] else v) | none => (if ok then .tuple #[zv, .bool false] else zv)) w := fun r hr => by
        unfold Instr.lookup Instr.findKey
        cases r with
        | none => simp [run_underlying' ht, run_getObj_map hh, run_checkKey hk, run_underlying' hk, hr, zeroValue, typeInfo, hi, hz]
        | some p => simp [run_underlying' ht, run_getObj_map hh, run_checkKey hk, run_underlying' hk, hr]
      rcases find_sound s hr 0 with ⟨h1, h2⟩ | ⟨j, b, ps, e, h1, h2, h3, h4, h5, -⟩
      · refine ⟨_, w, base _ h2, h.still0 ?_⟩
        rw [h1]
        have := fin zv zagg z false hzr (fun e => by subst e; obtain ⟨cs, rfl, -⟩ := hzv; exact ⟨_, rfl⟩) (fun e => by subst e; obtain ⟨p, rfl, -⟩ := hzv; exact ⟨_, rfl⟩)
        cases ok <;> exact this
      · refine ⟨_, w, base _ h4, h.still0 ?_⟩
        rw [h1]
        have := fin e.val b ps true (fun c => h5.val c) (fun eb => by subst eb; generalize e.val = vv at h5; cases h5; exact ⟨_, rfl⟩) (fun eb => by subst eb; generalize e.val = vv at h5; cases h5; exact ⟨_, rfl⟩)
        cases ok <;> exact this
  | _ => simp [bad] at hact

theorem run_setObj_map {g : Nat} {es : Array MapEntry} {clock : Nat} (hh : w.heap[g]? = some (.map es clock)) (o : Obj) : (setObj g o).run P w = .ok () (blk w g o) := by
  simp [setObj, Sem.run, hh, blk]

theorem Pre.mu (h : Pre mo w γ β us vs fr up cv cf) {t kt et : TypeId} {x : CV} {y : AV} {u ku yu : Value} {key : Value} {c1 c2 c3 : Bud} (ht : P.underlying t = some (.map kt et)) (hk : P.underlying kt = some .string)
    (hx : RepC γ β u x c1) (hku : RepA γ β ku (.c (.p (.lit key))) c2) (hy : RepA γ β yu y c3) (C : Callee) {r : AV} {fr' : Fram} {up' : List Fram} (hact : act C .mu [.c x, .c (.p (.lit key)), y] fr up = (r, fr', up', true)) :
    ∃ w', (Instr.mapUpdate t u ku yu).run P w = .ok () w' ∧ Outs mo w γ β w' undef r fr' up' := by
  obtain ⟨rfl, -⟩ := hku.litv
  simp only [act] at hact
  cases hx with
  | mp hb =>
    rename_i d k g
    dsimp only at hact
    split at hact
    case h_2 => simp [bad] at hact
    rename_i xs ps hxs hps
    obtain ⟨fr2, up2, hq, hq2⟩ := setH_cons d k (.map (mset ku (isAggA y, ps) xs)) fr up
    rw [hq] at hact
    simp only [Prod.mk.injEq] at hact
    obtain ⟨rfl, rfl, rfl, hko⟩ := hact
    obtain ⟨s, rfl⟩ := keyOk_str hko
    obtain ⟨g', e1, e2, hb', hH, hsp, hset⟩ := h.fs.focus hxs
    rw [hb] at hb'; cases hb'
    cases hH with
    | map hh hr hS hc =>
      rename_i es clock
      cases hcl : cellsA y with
      | none => simp [hcl] at hps
      | some cl =>
      simp only [hcl, Option.bind_some] at hps
      have hmv := mval_of hy hcl hps
      have hg1 : 1 ≤ mo g := by have := hsp g; have := h.sum g; omega
      have hcg : e2 g = 0 := by have := hsp g; have := h.sum g; have := h.mok.one g; omega
      have hund : RepA γ β undef undefA none0 := .tup .nil
      have fin : ∀ (es' : Array MapEntry) (clock' : Nat), RepM γ es'.toList (mset (.string s) (isAggA y, ps) xs) → Outs mo w γ β (blk w g (.map es' clock')) undef undefA fr2 up2 := fun es' clock' hM => by
        have hok : WOk γ (blk w g (.map es' clock')) := ⟨fun g' o v hv => by
          have hne : g' ≠ g := fun e => by subst e; rw [hS] at hv; cases hv
          rw [← h.wok.cell g' o v hv]
          exact World.cell?_of_block (w := w) (by show (blk w g _).heap[g']? = _; rw [blk_get, if_neg hne]), fun g' n hz => by
          obtain ⟨d, e', h1, h2⟩ := h.wok.size g' n hz
          by_cases hne : g' = g
          · subst hne; rw [hh] at h1; cases h1
          · exact ⟨d, e', by rw [blk_get, if_neg hne]; exact h1, h2⟩⟩
        have hnew := hset (γ' := γ) (w' := blk w g (.map es' clock')) (β' := β) (c1' := e1) (ho' := .map (mset (.string s) (isAggA y, ps) xs)) (.refl γ) (fun _ _ _ h => h) (keep_blk hcg)
          (.map (by rw [blk_get, if_pos rfl, if_pos (lt_of_some hh)]) hM hS hc)
        rw [hq] at hnew
        exact ⟨γ, β, mo, none0, _, ⟨rfl, rfl, rfl, by simp, .refl γ, hok, fun k _ h0 => by rw [blk_get, if_neg (by intro e; subst e; omega)], fun _ _ _ _ => rfl, fun _ _ => Nat.le_refl _, ⟨h.mok.one, fun k hk => h.mok.out k (by simpa using hk)⟩, blk_frz_map hh⟩, fun _ _ _ h => h, fun _ _ => rfl, fun k g hk => hq2 k (h.dom k g hk), hund, hnew, fun g' => by
          have := h.sum g'; have := hsp g'
          show 0 + (e1 g' + e2 g') ≤ mo g'
          omega⟩
      rcases find_sound s hr 0 with ⟨h1, h2⟩ | ⟨j, b, ps0, e, h1, h2, h3, h4, h5, h6⟩
      · refine ⟨_, ?_, fin (es.push { key := .string s, val := yu, born := clock }) (clock + 1) ?_⟩
        · unfold Instr.mapUpdate Instr.findKey
          simp [run_underlying' ht, run_getObj_map hh, run_checkKey hk, run_underlying' hk, h2, run_setObj_map hh]
        · rw [mset_new s _ h1, Array.toList_push]
          exact hr.snoc rfl rfl hmv
      · rw [Nat.zero_add] at h4
        refine ⟨_, ?_, fin (es.modify j fun e => { e with key := .string s, val := yu }) clock ?_⟩
        · have he : es[j]? = some e := by simpa using h2
          unfold Instr.mapUpdate Instr.findKey
          have hks : (Instr.keyThatStays (((es[j]?).map (·.key)).getD (.string s)) (.string s)).run P w = .ok (.string s) w := by
            rw [he]
            have hsb : Instr.sameBits 10000 e.key (.string s) = true := by rw [h3]; simp [Instr.sameBits, ba_self]
            simp [Instr.keyThatStays, hsb]
          simp only [Sem.run_bind, run_underlying' ht, Result.andThen_ok, run_getObj_map hh, run_checkKey hk, run_underlying' hk, h4, Sem.run_pure, hks, run_setObj_map hh]
        · rw [Array.toList_modify]; exact h6 yu _ ps hmv
  | _ => simp [bad] at hact

theorem Flat.put {a b : List Value} {l m : List (List PV)} (f : Flat γ sz a l) (k : Flat γ sz b m) (off : Nat) (h : off + m.length ≤ l.length) : Flat γ sz (ScE.put a (off * sz) b) (ScE.put l off m) := by
  have hb : off * sz + b.length ≤ a.length := by
    rw [f.n, k.n, ← Nat.add_mul]; exact Nat.mul_le_mul_right sz h
  have hszs : ∀ (i : Nat) (c : List PV), (ScE.put l off m)[i]? = some c → c.length = sz := fun i c hc => by
    rw [put_get l off m h] at hc
    split at hc
    · exact f.szs i c hc
    · split at hc
      · exact k.szs _ c hc
      · exact f.szs i c hc
  refine ⟨by rw [put_length _ _ _ hb, put_length _ _ _ h, f.n], hszs, fun i c j p hc hp => ?_, fun v hv => ?_⟩
  · have hj : j < sz := by have := hszs i c hc; have := (List.getElem?_eq_some_iff.1 hp).1; omega
    rw [put_get l off m h] at hc
    split at hc
    · rename_i hi
      obtain ⟨v, h1, h2⟩ := f.rep i c j p hc hp
      have := Nat.mul_le_mul_right sz (Nat.succ_le_of_lt hi); rw [Nat.succ_mul] at this
      exact ⟨v, by rw [put_get _ _ _ hb, if_pos (by omega)]; exact h1, h2⟩
    · rename_i hi
      have h3 := Nat.mul_le_mul_right sz (Nat.le_of_not_lt hi)
      split at hc
      · rename_i hi2
        obtain ⟨v, h1, h2⟩ := k.rep _ c j p hc hp
        have h4 := Nat.mul_le_mul_right sz (Nat.succ_le_of_lt hi2); rw [Nat.succ_mul, Nat.add_mul] at h4
        have hkn := k.n
        refine ⟨v, ?_, h2⟩
        rw [put_get _ _ _ hb, if_neg (by omega), if_pos (by omega), show i * sz + j - off * sz = (i - off) * sz + j by rw [Nat.sub_mul]; omega]
        exact h1
      · rename_i hi2
        obtain ⟨v, h1, h2⟩ := f.rep i c j p hc hp
        have h4 := Nat.mul_le_mul_right sz (Nat.le_of_not_lt hi2); rw [Nat.add_mul] at h4
        have hkn := k.n
        exact ⟨v, by rw [put_get _ _ _ hb, if_neg (by omega), if_neg (by omega)]; exact h1, h2⟩
  · obtain ⟨o, ho⟩ := List.getElem?_of_mem hv
    rw [put_get _ _ _ hb] at ho
    split at ho
    · exact f.one v (List.mem_of_getElem? ho)
    · split at ho
      · exact k.one v (List.mem_of_getElem? ho)
      · exact f.one v (List.mem_of_getElem? ho)
theorem RepH.flat {g : Nat} {l : List (List PV)} {c : Bud} (h : RepH γ w β g (.arr sz l) c) (h0 : 0 < sz) : ∃ (vs : Array Value) (e : TypeId), w.heap[g]? = some (.cells vs e (0, 0)) ∧ Flat γ sz vs.toList l ∧ (∀ o, γ.S g o = none) ∧ 1 ≤ c g := by
  cases h with
  | arr hh hn hl hr hS hc =>
    rename_i vs e
    refine ⟨vs, e, hh, ⟨by simpa using hn, hl, fun i c j p h1 h2 => by simpa using hr i c j p h1 h2, fun v hv => ?_⟩, hS, hc⟩
    obtain ⟨o, ho⟩ := List.getElem?_of_mem hv
    have hlt : o < l.length * sz := by rw [← hn, ← Array.length_toList]; exact (List.getElem?_eq_some_iff.1 ho).1
    have h1 : o / sz < l.length := Nat.div_lt_of_lt_mul (by rw [Nat.mul_comm sz]; exact hlt)
    have h2 : l[o / sz]? = some l[o / sz] := List.getElem?_eq_getElem h1
    have h3 : o % sz < (l[o / sz]).length := by rw [hl _ _ h2]; exact Nat.mod_lt _ h0
    obtain ⟨v', a, b⟩ := hr _ _ _ _ h2 (List.getElem?_eq_getElem h3)
    rw [Nat.mul_comm, Nat.div_add_mod] at a
    rw [Array.getElem?_toList, a] at ho; cases ho
    exact b.cellV
theorem Pre.copy (h : Pre mo w γ β us vs fr up cv cf) {t ut e rt : TypeId} (ht : P.underlying t = some (.slice e)) (hn : sizeB P e = some sz) (h0 : 0 < sz) {x y : AV} {u uy : Value} {c1 c2 : Bud}
    (hx : RepA γ β u x c1) (hy : RepA γ β uy y c2) (C : Callee) {r : AV} {fr' : Fram} {up' : List Fram} (hact : act C (.copy sz) [x, y] fr up = (r, fr', up', true)) :
    ∃ v w', (Builtin.copy_ #[t, ut] rt #[u, uy]).run P w = .ok v w' ∧ Outs mo w γ β w' v r fr' up' := by
  simp only [act] at hact
  split at hact
  case h_2 => simp [bad] at hact
  rename_i d k sz' off n y' heq
  simp only [List.cons.injEq, and_true] at heq
  obtain ⟨rfl, rfl⟩ := heq
  split at hact
  case h_2 => simp [bad] at hact
  rename_i sz2 l ys hl hys
  obtain ⟨fr2, up2, hq, hq2⟩ := setH_cons d k (.arr sz2 (ScE.put l off ys)) fr up
  rw [hq] at hact
  simp only [Prod.mk.injEq, decide_eq_true_eq] at hact
  obtain ⟨rfl, rfl, rfl, rfl, rfl, hon, hyn⟩ := hact
  obtain ⟨news, hsrc, hflat⟩ := src_of (P := P) h.wok h.fs hy hys h0
  cases hx with
  | c hx => cases hx with
    | arr hb hcap =>
      rename_i cap g
      obtain ⟨g', e1, e2, hb', hH, hsp, hset⟩ := h.fs.focus hl
      rw [hb] at hb'; cases hb'
      obtain ⟨vs0, e, hh, hfl, hS, hc⟩ := hH.flat h0
      have hput := hfl.put hflat off (by omega)
      have hfit : off * sz2 + 0 + news.length ≤ vs0.size := by
        rw [← Array.length_toList, hfl.n, hflat.n, Nat.add_zero, ← Nat.add_mul]; exact Nat.mul_le_mul_right sz2 (by omega)
      obtain ⟨c', hrun, hc'⟩ := run_storeCells (P := P) news 0 w g (off * sz2) vs0 e hh hfit hflat.one
      have hsz : c'.size = vs0.size := by rw [← Array.length_toList, hc', put_length _ _ _ (by simpa using hfit)]; simp
      have hg1 : 1 ≤ mo g := by have := hsp g; have := h.sum g; omega
      have hcg : e2 g = 0 := by have := hsp g; have := h.sum g; have := h.mok.one g; omega
      refine ⟨goInt ys.length, blk w g (.cells c' e (0, 0)), ?_, ?_⟩
      · have hmin : Nat.min ys.length n = ys.length := Nat.min_eq_left hyn
        have hl1 := hsrc.len w
        have hl2 := hsrc.first w rfl
        simp [Builtin.copy_, run_underlying' ht, run_sizeOf hn, hl1, hmin, hl2, hrun]
      · rw [Nat.add_zero] at hc'
        rw [← hc'] at hput
        have hnew := hset (γ' := γ) (w' := blk w g (.cells c' e (0, 0))) (β' := β) (c1' := e1) (ho' := .arr sz2 (ScE.put l off ys)) (.refl γ) (fun _ _ _ h => h) (keep_blk hcg)
          (.arr (vs := c') (e := e) (by rw [blk_get, if_pos rfl, if_pos (lt_of_some hh)]) (by simpa using hput.n) hput.szs (fun i c j p h1 h2 => by simpa using hput.rep i c j p h1 h2) hS hc)
        rw [hq] at hnew
        exact ⟨γ, β, mo, none0, _, .blk h.wok h.mok hh hS hsz hg1, fun _ _ _ h => h, fun _ _ => rfl, fun k g hk => hq2 k (h.dom k g hk), .c (.p (.lit _ rfl)), hnew, fun g' => by
          have := h.sum g'; have := hsp g'
          show 0 + (e1 g' + e2 g') ≤ mo g'
          omega⟩
end
end Go.ScE
