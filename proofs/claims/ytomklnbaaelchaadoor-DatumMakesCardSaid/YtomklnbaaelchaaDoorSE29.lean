/- E29: from a walk over a function's code to the call: the end of runX_sound, by itself. -/
import Derived.Test.YtomklnbaaelchaaDoorSE28
set_option linter.unusedVariables false
set_option linter.unusedSimpArgs false
namespace Go.ScE
section
variable {P : Program}
/-- How a walk may end: with an abstract state whose results are so. -/
def Ends (xres : List XRes) (r : AV) (frames' : List Fram) (e1 : Ex) (σ1 : St) : Prop :=
  ∃ rs, resXs σ1 xres = some rs ∧ r = downA 1 (frzA σ1.fr (tupA rs)) ∧ frames' = σ1.up ∧ outA 1 (frzA σ1.fr (tupA rs)) = true ∧ (e1 = .normal ∨ e1 = .ret)
theorem calls_end {f : FuncId} {fn : Func} {c : Code} (hfn : P.funcs[f]? = some fn) (hbody : fn.body = some c) {xres : List XRes} (hres : agRes P xres fn.results.toList = true) {us : List Value} {β0 β : Bet} (hβ : ∀ d k, β0 (d + 1) k = β d k) {γ : Gh} {w : World} {m : Bud} {σ0 : St} {r : AV} {frames' : List Fram}
    (h : c.wp P (fun e a' w' => ∃ e1 σ1, e = toExit e1 ∧ After fn.ntmps m w γ β0 σ0 σ1 a' w' ∧ Ends xres r frames' e1 σ1) { tmps := us.toArray ++ Array.replicate (fn.ntmps - us.toArray.size) undef, defers := [] } w) :
    Calls P f us.toArray w fun e w' => ∃ v γ' m' cr cf, e = .returned v ∧ Stp m w γ w' γ' m' ∧ RepA γ' β v r cr ∧ RepFs γ' w' β frames' cf ∧ ∀ g, cr g + cf g ≤ m' g := by
  refine calls_of_wp hfn hbody (wp_mono h ?_)
  rintro e a' w' ⟨e1, σ1, rfl, ⟨γ', β', m', hA⟩, rs, hrs, rfl, rfl, hout, hend⟩
  obtain ⟨vs, cr, cf', k1, k2, k3, k4, k5⟩ := resXs_sound (P := P) hA.inv hres hrs
  have hβ' : β'.sub 1 = β := by funext d k; exact (hA.betu d k).trans (hβ d k)
  have hresrun : (results fn a'.tmps).run P w' = .ok (if h : vs.toArray.size = 1 then vs.toArray[0] else .tuple vs.toArray) w' := by
    have he : results fn a'.tmps = (do let vs ← fn.results.mapM (resSem a'.tmps); pure (if h : vs.size = 1 then vs[0] else .tuple vs)) := by
      unfold results
      have : ∀ (f g : ResultVar → Sem Value), f = g → (do let vs ← fn.results.mapM f; pure (if h : vs.size = 1 then vs[0] else .tuple vs) : Sem Value) = (do let vs ← fn.results.mapM g; pure (if h : vs.size = 1 then vs[0] else .tuple vs)) := fun f g h => by rw [h]
      refine this _ _ ?_
      funext x; cases x <;> rfl
    rw [he, Array.mapM_eq_mapM_toList]
    simp [run_mapM k1]
  obtain ⟨ce0, cf0, -, hfs0, hs0⟩ := hA.inv.rep
  cases hfs0 with
  | cons hfr0 t0 hc0 =>
  rename_i d1 d2
  have hle := frzG_le hfr0
  have hkS : ∀ c : Bud, (∀ g, RowAt β' σ1.fr g → c g = 0) → KeepS γ' (frzG γ' β' w' σ1.fr) c := fun c hc g hg o => by
    by_cases hr : RowAt β' σ1.fr g
    · have := hc g hr; omega
    · exact frzG_out hr o
  have hrep := (frzA_rep hfr0 ((tupA_rep k2).mono hle (fun _ _ _ h => h) (hkS cr fun g hg => (k5 g hg).1))).down (n := 1) hout
  rw [hβ'] at hrep
  rw [hβ'] at k3
  have k3' := k3.mono hle (fun _ _ _ h => h) ⟨hkS cf' fun g hg => (k5 g hg).2, fun _ _ => rfl⟩
  have hstp : Stp m w γ w' (frzG γ' β' w' σ1.fr) m' := ⟨hA.stp.os, hA.stp.tape, hA.stp.output, hA.stp.size, hA.stp.le.trans hle, frzG_ok hA.inv.wok, hA.stp.keepH, fun g hg h0 o => by
    have : ¬ RowAt β' σ1.fr g := fun hr => by
      have := (hfr0.row hr).1; have := hc0 g; have := hs0 g; have := hA.stp.bud g hg; omega
    rw [frzG_out this]; exact hA.stp.keepS g hg h0 o, hA.stp.bud, hA.stp.mok, hA.stp.frz⟩
  have hfin : a'.defers = [] ∧ ∃ v, (results fn a'.tmps).run P w' = .ok v w' ∧ ∃ v_1 γ'' m'' cr cf, Ending.returned v = Ending.returned v_1 ∧ Stp m w γ w' γ'' m'' ∧ RepA γ'' β v_1 (downA 1 (frzA σ1.fr (tupA rs))) cr ∧ RepFs γ'' w' β σ1.up cf ∧ ∀ g, cr g + cf g ≤ m'' g :=
    ⟨hA.inv.defers, _, hresrun, _, _, m', cr, cf', rfl, hstp, hrep, k3', k4⟩
  rcases hend with rfl | rfl <;> exact hfin
/-- A call begins. -/
theorem calls_begin {N : Nat} {γ : Gh} {β : Bet} {w : World} {m c1 c2 : Bud} {us : List Value} {args : List AV} {frames : List Fram} (hw : WOk γ w) (hm : Mok w m) (ha : RepAs γ β us args c1) (hf : RepFs γ w β frames c2) (hs : ∀ g, c1 g + c2 g ≤ m g) (hN : args.length ≤ N) :
    SInv N γ (fun d k => match d with | 0 => none | d + 1 => β d k) w { tmps := us.toArray ++ Array.replicate (N - us.toArray.size) undef, defers := [] } { env := zipArgs 0 (upAs 1 args), fr := [], up := frames, ok := true } m := by
  have husl : us.length = args.length := ha.len
  refine ⟨hw, hm, fun k g hk => by simp at hk, rfl, ?_, c1, c2, ?_, ?_, hs⟩
  · simp; omega
  · have hau : RepAs γ (fun d k => match d with | 0 => none | d + 1 => β d k) us (upAs 1 args) c1 := RepAs.up (n := 1) ha
    refine zip_rep 0 [] hau (fun j v hj => ?_) (by simp)
    have hlt : j < us.length := (List.getElem?_eq_some_iff.1 hj).1
    rw [Nat.zero_add, Array.getD_eq_getD_getElem?, Array.getElem?_append_left (by simpa using hlt)]
    simp [hj]
  · exact .cons (c1 := none0) .nil hf (fun g => by simp)
end
end Go.ScE
