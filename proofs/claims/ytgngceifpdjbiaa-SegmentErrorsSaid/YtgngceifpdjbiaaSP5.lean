/-
  SegmentErrors of the runtime's laws is proved: whatever the two numbers are, the call returns true and leaves its arguments as they were.
  Conditions: none but the given row's own.
  The frame of this text was written by the kit's proof-skeleton; the walk is by the evaluator (the texts E1 to E26 of this claim), which is proved sound over any program, and by its runs in the kernel (the texts A and B).
-/
import Derived.Test.YtgngceifpdjbiaaRows
import Derived.WalkKit
import Derived.ProofKit
import Derived.OpenShut
import Derived.Test.YtgngceifpdjbiaaSF5
import Derived.Test.YtgngceifpdjbiaaSA0
import Derived.Test.YtgngceifpdjbiaaSA1
import Derived.Test.YtgngceifpdjbiaaSA2
import Derived.Test.YtgngceifpdjbiaaSA3
import Derived.Test.YtgngceifpdjbiaaSA4
import Derived.Test.YtgngceifpdjbiaaSA5
import Derived.Test.YtgngceifpdjbiaaSA6
import Derived.Test.YtgngceifpdjbiaaSA7
import Derived.Test.YtgngceifpdjbiaaSB0
import Derived.Test.YtgngceifpdjbiaaSB1
import Derived.Test.YtgngceifpdjbiaaSB2
import Derived.Test.YtgngceifpdjbiaaSB3
namespace Go.Proofs.Ytgngceifpdjbiaa.segmentErrors
open Go.ChangeShapes Go.WideShapes Go.ChangeAt Go.RowKit
set_option linter.unusedVariables false      -- a walk need not use every 'w<i>' (that an integer argument fits its kind)

/-- The runs that the kernel made. -/
theorem runs : Go.ScX.Runs where
  fixed := Go.ScX.fixedOk
  a m hm b := by
    match m, hm with
    | 0, _ => exact Go.ScX.runA0 b
    | 1, _ => exact Go.ScX.runA1 b
    | 2, _ => exact Go.ScX.runA2 b
    | 3, _ => exact Go.ScX.runA3 b
    | 4, _ => exact Go.ScX.runA4 b
    | 5, _ => exact Go.ScX.runA5 b
    | 6, _ => exact Go.ScX.runA6 b
    | 7, _ => exact Go.ScX.runA7 b
    | 8, _ => exact Go.ScX.runA8 b
    | 9, _ => exact Go.ScX.runA9 b
    | 10, _ => exact Go.ScX.runA10 b
    | 11, _ => exact Go.ScX.runA11 b
    | 12, _ => exact Go.ScX.runA12 b
    | 13, _ => exact Go.ScX.runA13 b
    | 14, _ => exact Go.ScX.runA14 b
    | 15, _ => exact Go.ScX.runA15 b
    | m + 16, hm => omega
  b n hn c := by
    match n, hn with
    | 0, _ => exact Go.ScX.runB0 c
    | 1, _ => exact Go.ScX.runB1 c
    | 2, _ => exact Go.ScX.runB2 c
    | 3, _ => exact Go.ScX.runB3 c
    | 4, _ => exact Go.ScX.runB4 c
    | 5, _ => exact Go.ScX.runB5 c
    | 6, _ => exact Go.ScX.runB6 c
    | n + 7, hn => omega

noncomputable def called : Go.ScE.Callee := fun f args frames => bif Nat.beq f 5 then Go.ScE.runX Go.ScX.C23 3000 Go.ScX.x5 args frames else Go.ScE.fail0
theorem called_ok : Go.ScE.Fine Try.prog called := by
  have key : ∀ f args frames r frames', called f args frames = (r, frames', true) → f = 5 ∧ Go.ScE.runX Go.ScX.C23 3000 Go.ScX.x5 args frames = (r, frames', true) := by
    intro f args frames r frames' h
    unfold called at h
    cases hb : Nat.beq f 5 with
    | false => rw [hb, cond_false] at h; exact absurd h Go.ScX.fail_ne
    | true => rw [hb, cond_true] at h; exact ⟨Nat.eq_of_beq_eq_true hb, h⟩
  constructor
  · intro f args frames r frames' h
    obtain ⟨rfl, h1⟩ := key f args frames r frames' h
    obtain ⟨h2, h3⟩ := Go.ScE.runX_sound Go.ScX.fine_C23.sound Go.ScX.fine_C23.fn Go.ScX.ag5 h1
    exact ⟨h2, fun γ β w m c1 c2 us hw hm ha hf hs _ => h3 γ β w m c1 c2 us hw hm ha hf hs⟩
  · intro f args frames r frames' h
    obtain ⟨rfl, -⟩ := key f args frames r frames' h
    kernel_rfl

theorem called_5 (args : List Go.ScE.AV) (frames : List Go.ScE.Fram) : called 5 args frames = Go.ScE.runX Go.ScX.C23 3000 Go.ScX.x5 args frames := by
  unfold called
  rw [show Nat.beq 5 5 = true from rfl, cond_true]

theorem own : ownKnob Try.prog.godebug = none := by kernel_rfl

/-! ### STEP 1: THE WALK: the Go text returns true. 'Grown w w'': the world has at most new blocks (Derived/RowKit3.lean). Part the cases AHEAD of 'go_enter' where a test parts the walk; take each callee by a contract of your own. -/
theorem walk (a0 : Int) (a1 : Int) (w0 : (Lit.int .i64 a0).wf = true) (w1 : (Lit.int .i64 a1).wf = true) (w : World) :
    Calls Try.prog 5 #[.int .i64 a0, .int .i64 a1] w fun e w' => e = .returned (.bool true) ∧ Grown w w' := by
  exact Go.ScE.top_sound called_ok.sound called_ok.fn (f := 5) (args := [Go.ScE.pint .i64 a0, Go.ScE.pint .i64 a1]) (b := true) (frames' := []) ((called_5 _ _).trans (Go.ScX.law runs a0 a1))
    (us := [.int .i64 a0, .int .i64 a1]) (.cons (c1 := fun _ => 0) (c2 := fun _ => 0) (.c (.p (.lit _ rfl))) (.cons (c1 := fun _ => 0) (c2 := fun _ => 0) (.c (.p (.lit _ rfl))) .nil (fun _ => Nat.le_refl _)) (fun _ => Nat.le_refl _)) w

/-! ### THE ROW's STEP: WRITTEN OUT: LEAVE IT -/
set_option maxRecDepth 100000 in
theorem lifted (os : Os) (started : os.Started) (H : Type) (enc : TypeId × Value → H) :
    ReturnsInHanded {} Try.checked os 5 .any (Rows.segmentErrorsSpec.pre6 enc Try.prog Try.f5 Rows.segmentErrorsRow.domain false) (Rows.segmentErrorsSpec.post enc Try.prog Try.f5 false true false false) := by
  refine returnsInHanded_of_change (C := Try.checked) own started (by kernel_rfl) Try.func5
    (ChangeSpec.witness6 (enc := enc) (C := Try.checked) false ⟨#[], #[.int .i64 0, .int .i64 0], []⟩ 8 (by kernel_rfl) (by kernel_rfl) (by kernel_rfl) (by kernel_rfl)) ?_
  intro W base args ds gs before hval0 hW hcnd _
  have hval : ∀ (j : Nat) t v, Try.f5.params[j]? = some t → args[j]? = some v → Value.okWide Try.prog W .any base t v := hval0
  have hW' := hW
  obtain ⟨p, q, hA0, hV, rfl, hfz, hnd⟩ := hW
  have hA : DataW.TrodAll enc Try.prog W 0 (fun _ => true) true Try.f5.params.toList args.toList ds p := hA0
  rw [Try.params5] at hA hval
  obtain ⟨v0, vs0, d0, ds0, p0, q0, hargs, rfl, rfl, h0, r0⟩ := trodAll_cons hA
  obtain ⟨v1, vs1, d1, ds1, p1, q1, rfl, rfl, rfl, h1, r1⟩ := trodAll_cons r0
  obtain ⟨rfl, rfl, rfl⟩ := trodAll_nil r1
  obtain rfl : args = #[v0, v1] := by cases args; simp_all
  obtain ⟨rfl, rfl⟩ := trodVars_none hV
  obtain ⟨a0, rfl, rfl, rfl, w0⟩ := open_int Try.underlying3 (hval 0 3 v0 rfl rfl) h0
  obtain ⟨a1, rfl, rfl, rfl, w1⟩ := open_int Try.underlying3 (hval 1 3 v1 rfl rfl) h1
  clear hA0 hval0
  simp only [List.append_nil] at hW'
  refine (walk a0 a1 w0 w1 W).mono fun e W' ⟨he, hg⟩ => ?_
  subst he
  exact ⟨_, rfl, post_of_same (pa := []) (pv := []) hW' (fun _ _ _ => (trodAll_cons_mk (shut_bool Try.underlying4 _) trodAll_mk0)) (fun sp _ => (trodAll_cons_mk (shut_int Try.underlying3 w0) (trodAll_cons_mk (shut_int Try.underlying3 w1) trodAll_mk0))) (fun _ _ => rfl) rfl
    (hg.frame _) hg.2.1 (ok_one (by kernel_rfl) rfl (okWide_bool_mk Try.underlying4 _))⟩

theorem over : Rows.segmentErrorsRow.holds Try.pinned (OpenSpec.ofChange Rows.segmentErrorsSpec) :=
  OpenClaim.holds_of_wide 5 Try.f5 rfl rfl rfl rfl rfl rfl rfl ⟨rfl, rfl, rfl, rfl, rfl⟩ rfl rfl rfl rfl rfl (by kernel_rfl) Try.func5 (by kernel_rfl)
    (of_decide_eq_true (by kernel_rfl)) (by unfold Func.isWrapper; first | (rw [if_pos (by decide +kernel)]; kernel_rfl) | (rw [if_neg (by decide +kernel)]; exact ⟨rfl, rfl⟩))
    (fun os started H enc _ => lifted os started H enc)

/-- ████ THE STATEMENT ████ -/
theorem proved : Rows.SegmentErrorsSaid :=
  over
#print axioms proved
end Go.Proofs.Ytgngceifpdjbiaa.segmentErrors
