/-
  DatumMakes of the laws of data is proved: whatever the row and the datum are, the call returns true and leaves its arguments as they were; the card, with its three listed tables tied to the program's text.
  Conditions: none but the given row's own. The tables are never read by the call's run: the proof does not use what they hold.
  The frame of this text was written after the kit's proof-skeleton and its worked example of a tied card; the walk is by an evaluator over abstract values (E1 to E29 of this claim), which is proved sound over any program.
-/
import Derived.Test.YtomklnbaaelchaaDoorRows
import Derived.Test.YtomklnbaaelchaaDoorTie
import Derived.Test.YtomklnbaaelchaaDoorCards
import Derived.WalkKit
import Derived.ProofKit
import Derived.OpenShut
import Derived.LaidMore
import Derived.Carry
import Derived.SevenTiedAt
import Derived.Test.YtomklnbaaelchaaDoorSW8
namespace Go.Proofs.YtomklnbaaelchaaDoor.datumMakes
open Go.ChangeShapes Go.WideShapes Go.ChangeAt Go.RowKit
set_option linter.unusedVariables false

theorem own : ownKnob Tryd.prog.godebug = none := by kernel_rfl
theorem laidOut : laidOutB Tryd.prog = true := by kernel_rfl
theorem readable : Tryd.prog.readableRec 24 = true := by kernel_rfl
theorem readable22 : Tryd.prog.readableRec 22 = true := by kernel_rfl
/-- A datum, all of it 0. -/
def zeroD : Value := .agg #[.int .i64 0, .int .i64 0, .string ByteArray.empty, .slice none 0 0]
theorem door_met (os : Os) (args : Array Value) : laidMetH Tryd.prog Rows.datumMakesRow.laid ((World.doorLaid Tryd.prog 400 os).forCall (fun _ _ => 0) ⟨#[], args, []⟩).memory :=
  laidMetH_of_parts3 (fuel := 8) (laidMet_of_run' 8 (by kernel_rfl) (by kernel_rfl)) (by kernel_rfl) (by kernel_rfl)

/-- An argument that is read as a datum is one. -/
theorem open_datum {H : Type} {enc : TypeId × Value → H} {W : World} {held : Bool} {v : Value} {x : DataW H} {p : List MemPlace} (h : DataW.Trod enc Tryd.prog W 0 (fun _ => true) held 24 v x p) :
    ∃ d, Go.ScE.RepA (Go.ScE.ghW W) (fun _ _ => none) v (Go.Sc2.encA d) (fun _ => 0) ∧ Go.ScE.OkD d := by
  obtain ⟨fuel, hn⟩ := h
  obtain ⟨d, h1, h2⟩ := Go.ScE.trod_datum (tI := 3) (tS := 9) (tL := 22) Tryd.underlying24 rfl Tryd.underlying3 Tryd.underlying9 Tryd.underlying22 (by kernel_rfl) (by kernel_rfl) (by kernel_rfl) (by kernel_rfl) fuel _ _ hn
  refine ⟨d, ?_, h2⟩
  have hlen := h1.length
  obtain ⟨q0, q1, q2, q3, hq, -⟩ := Go.Sc2.encD_four d
  rw [hq] at hlen
  cases v with
  | agg cs => exact .agg (Go.ScE.RepPs.toCs h1)
  | _ => simp [Value.cells] at hlen

/-- An argument that is read as a row of data is one. -/
theorem open_row {H : Type} {enc : TypeId × Value → H} {W : World} {held : Bool} {r : Reach} {b0 : Nat} {v : Value} {x : DataW H} {p : List MemPlace} (hval : Value.okWide Tryd.prog W r b0 22 v) (h : DataW.Trod enc Tryd.prog W 0 (fun _ => true) held 22 v x p) :
    ∃ l : List Go.ScE.Dt, Go.ScE.RepA (Go.ScE.ghW W) (fun _ _ => none) v (.c (.p (.sl 4 (Go.ScE.encDs l)))) (fun _ => 0) ∧ (∀ d ∈ l, Go.ScE.OkD d) ∧ l.length ≤ maxLen := by
  obtain ⟨a0, n0, c0, rfl⟩ := okWide_slice Tryd.underlying22 hval
  obtain ⟨fuel, hn⟩ := h
  obtain ⟨l, h1, h2, h3⟩ := Go.ScE.trod_sliceP Tryd.underlying22 (show Tryd.prog.cellsOf 24 = 4 by kernel_rfl) (by omega) (Q := fun c => ∃ d, c = Go.ScE.encD d ∧ Go.ScE.OkD d) hn (fun fuel' _ cs y hy _ => by
    obtain ⟨d, hd1, hd2⟩ := Go.ScE.trod_datum (tI := 3) (tS := 9) (tL := 22) Tryd.underlying24 rfl Tryd.underlying3 Tryd.underlying9 Tryd.underlying22 (by kernel_rfl) (by kernel_rfl) (by kernel_rfl) (by kernel_rfl) fuel' _ _ hy
    exact ⟨_, hd1, d, rfl, hd2⟩)
  obtain ⟨ds, rfl, hds⟩ := Go.ScE.encDs_of h2
  exact ⟨ds, .c (.p h1), hds, by rw [← Go.ScE.encDs_length]; exact h3⟩

/-! ### STEP 1: THE WALK: the Go text returns true. -/
theorem walk (l : List Go.ScE.Dt) (b : Go.ScE.Dt) (hl : ∀ d ∈ l, Go.ScE.OkD d) (hlen : l.length ≤ maxLen) (hb : Go.ScE.OkD b) (w : World) (v0 v1 : Value) (h0 : Go.ScE.RepA (Go.ScE.ghW w) (fun _ _ => none) v0 (.c (.p (.sl 4 (Go.ScE.encDs l)))) (fun _ => 0)) (h1 : Go.ScE.RepA (Go.ScE.ghW w) (fun _ _ => none) v1 (Go.Sc2.encA b) (fun _ => 0)) :
    Calls Tryd.prog 4 #[v0, v1] w fun e w' => e = .returned (.bool true) ∧ Grown w w' ∧ Below w.heap.size w w' := by
  obtain ⟨N, hN⟩ := Go.Sc2.makes_law l b hl hlen hb
  exact Go.ScE.top_soundW (Go.Sc2.fineW N) (f := 4) (b := true) (frames' := []) hN w (us := [v0, v1]) (.cons (c1 := fun _ => 0) (c2 := fun _ => 0) h0 (.cons (c1 := fun _ => 0) (c2 := fun _ => 0) h1 .nil (fun _ => Nat.le_refl _)) (fun _ => Nat.le_refl _))

/-! ### THE ROW -/
set_option maxRecDepth 100000 in
theorem lifted (os : Os) (started : os.Started) (H : Type) (enc : TypeId × Value → H) :
    ReturnsInHanded {} Tryd.checked os 4 .any (fun w args => (Rows.datumMakesSpec.pre enc Tryd.prog Tryd.f4 [] false w args ∧ laidMetH Tryd.prog Rows.datumMakesRow.laid w) ∧ sizedMet enc Tryd.prog Tryd.f4 (OpenSpec.ofChange Rows.datumMakesSpec) false w args)
      (Rows.datumMakesSpec.post enc Tryd.prog Tryd.f4 false true false false) := by
  refine returnsInHanded_of_change_and (C := Tryd.checked) (X := fun w _ => laidMetH Tryd.prog Rows.datumMakesRow.laid w) (fun _ _ _ hh h => h.of_heap hh) own started (by kernel_rfl) Tryd.func4
    (ChangeSpec.witness_shaped (enc := enc) (C := Tryd.checked) (os := os) (X := fun w _ => laidMetH Tryd.prog Rows.datumMakesRow.laid w) false (World.doorLaid Tryd.prog 400 os) #[.slice none 0 0, zeroD] 8 rfl (World.shaped_of_RefB (by kernel_rfl) (by kernel_rfl)) (by kernel_rfl) (by kernel_rfl) (by kernel_rfl) (door_met os _)) ?_
  intro W base args ds gs before hval0 hW _ _ hL _
  have hW' := hW
  obtain ⟨p, q, hA0, hV, rfl, hfz, hnd⟩ := hW
  have hA : DataW.TrodAll enc Tryd.prog W 0 (fun _ => true) true Tryd.f4.params.toList args.toList ds p := hA0
  rw [Tryd.params4] at hA
  obtain ⟨v0, vs0, d0, ds0, p0, q0, hargs, rfl, rfl, h0, r0⟩ := trodAll_cons hA
  obtain ⟨v1, vs1, d1, ds1, p1, q1, rfl, rfl, rfl, h1, r1⟩ := trodAll_cons r0
  obtain ⟨rfl, rfl, rfl⟩ := trodAll_nil r1
  obtain rfl : args = #[v0, v1] := by cases args; simp_all
  obtain ⟨rfl, rfl⟩ := trodVars_none hV
  clear hA0
  simp only [List.append_nil] at hW'
  obtain ⟨l, ha, ol, hlen⟩ := open_row (hval0 0 22 v0 rfl rfl) h0
  obtain ⟨b, hb, ob⟩ := open_datum h1
  refine (walk l b ol hlen ob W v0 v1 ha hb).mono fun e W' ⟨he, hg, hbl⟩ => ?_
  subst he
  have lt0 : ∀ x ∈ p0, x.block < W.heap.size := fun x hx => by simpa using hW'.lt x (by simp [hx])
  have lt1 : ∀ x ∈ p1, x.block < W.heap.size := fun x hx => by simpa using hW'.lt x (by simp [hx])
  exact ⟨_, rfl, post_of_same (pa := p0 ++ p1) (pv := []) hW' (fun _ _ _ => (trodAll_cons_mk (shut_bool Tryd.underlying4 _) trodAll_mk0))
    (fun sp hsp => by
      have := trodAll_cons_mk (WideElems.Trod_stays laidOut readable22 (of_decide_eq_true (by kernel_rfl)) (sp' := sp) h0 (fun x hx => hbl.same (lt0 x hx)) (fun x hx => hsp x (by simp [hx])))
        (trodAll_cons_mk (WideElems.Trod_stays laidOut readable (of_decide_eq_true (by kernel_rfl)) (sp' := sp) h1 (fun x hx => hbl.same (lt1 x hx)) (fun x hx => hsp x (by simp [hx]))) trodAll_mk0)
      rw [List.append_nil] at this
      exact this) (fun _ _ => rfl) (by simp)
    (hg.frame _) hg.2.1 (ok_one (by kernel_rfl) rfl (okWide_bool_mk Tryd.underlying4 _))⟩

theorem over : Rows.DatumMakesSaid :=
  OpenClaim.holds_of_wide 4 Tryd.f4 rfl rfl rfl rfl rfl rfl rfl ⟨rfl, rfl, rfl, rfl, rfl⟩ rfl rfl rfl rfl rfl (by kernel_rfl) Tryd.func4 (by kernel_rfl)
    (of_decide_eq_true (by kernel_rfl)) (by unfold Func.isWrapper; first | (rw [if_pos (by decide +kernel)]; kernel_rfl) | (rw [if_neg (by decide +kernel)]; exact ⟨rfl, rfl⟩))
    (fun os started H enc _ => lifted os started H enc)

/-- ████ THE TIED CARD ████ -/
theorem proved : Rows.DatumMakesCardSaid :=
  Claim7.holds_tied_plain_at .later [] [.data, .data, .data] true (true, "d06cc8f7ce4d5595ff98ff2feb6c5286ae4057c6cf02383298ed86c19cdac35b") false
    over (fun _ h => by cases h) (by kernel_rfl) (fun _ h => by cases h) datumMakes_row_tie rfl ⟨rfl, rfl⟩ (by kernel_rfl) rfl
    (fun f fn hf hfn => by
      obtain rfl : f = 4 := Option.some.inj ((show Tryd.prog.funcNamed "scrimshaw/scrimshawlaw02.DatumMakes" = some 4 by kernel_rfl).symm.trans hf) |>.symm
      obtain rfl : fn = Tryd.f4 := (Option.some.inj (Tryd.func4.symm.trans hfn)).symm
      exact ⟨by kernel_rfl, fun j t ht => by
        rw [Tryd.params4] at ht
        have hm : t ∈ [22, 24] := by simpa using Array.mem_of_getElem? ht
        have hall : ([22, 24].all fun u => !Tryd.prog.wantsStandIn u) = true := by kernel_rfl
        exact (show Tryd.prog.wantsStandIn t = false by simpa using List.all_eq_true.1 hall t hm)⟩)
    (by kernel_rfl)
#print axioms proved
end Go.Proofs.YtomklnbaaelchaaDoor.datumMakes
