/- E28: data (structs of two integers, a text, a row of the same): what a reading says of them. -/
import Derived.Test.YtomklnbaaelchaaDoorSE27
set_option linter.unusedVariables false
set_option linter.unusedSimpArgs false
namespace Go.ScE

inductive Dt where
  | node (k i : Int) (s : ByteArray) (l : List Dt)
mutual
def encD : Dt → List PV
  | .node k i s l => [.lit (.int .i64 k), .lit (.int .i64 i), .lit (.string s), .sl 4 (encDs l)]
def encDs : List Dt → List (List PV)
  | [] => []
  | d :: r => encD d :: encDs r
end
theorem encDs_length : ∀ l : List Dt, (encDs l).length = l.length
  | [] => rfl
  | d :: r => by simp [encDs, encDs_length r]
inductive OkD : Dt → Prop
  | mk {k i : Int} {s : ByteArray} {l : List Dt} (hk : (Lit.int .i64 k).wf = true) (hi : (Lit.int .i64 i).wf = true) (hs : s.size ≤ maxLen) (hl : l.length ≤ maxLen) (h : ∀ d ∈ l, OkD d) : OkD (.node k i s l)

section
variable {H : Type} {enc : TypeId × Value → H} {P : Program} {w : World} {held : Bool}
theorem encDs_of {l : List (List PV)} (h : ∀ c ∈ l, ∃ d, c = encD d ∧ OkD d) : ∃ ds, l = encDs ds ∧ ∀ d ∈ ds, OkD d := by
  induction l with
  | nil => exact ⟨[], rfl, by simp⟩
  | cons c r ih =>
    obtain ⟨d, rfl, hd⟩ := h c (by simp)
    obtain ⟨ds, rfl, hds⟩ := ih fun c hc => h c (by simp [hc])
    exact ⟨d :: ds, rfl, fun x hx => by
      rcases List.mem_cons.1 hx with e | hx
      · subst e; exact hd
      · exact hds x hx⟩

theorem trod_datum {tD tI tS tL : TypeId} {fs : Array Field} (hD : P.underlying tD = some (.struct fs)) (hfs : fs.toList.map (fun f => (f.type, f.offset)) = [(tI, 0), (tI, 1), (tS, 2), (tL, 3)]) (hI : P.underlying tI = some (.int .i64)) (hS : P.underlying tS = some .string) (hL : P.underlying tL = some (.slice tD))
    (cD : P.cellsOf tD = 4) (cI : P.cellsOf tI = 1) (cS : P.cellsOf tS = 1) (cL : P.cellsOf tL = 1) :
    ∀ (fuel : Nat) (cs : List Value) (y : DataW H × List MemPlace), DataW.trod enc P w 0 (fun _ => true) held fuel tD cs = some y → ∃ d, RepPs (ghW w) cs (encD d) ∧ OkD d := by
  intro fuel
  induction fuel using Nat.strongRecOn with
  | ind fuel ih =>
    intro cs y h
    cases fuel with
    | zero => simp [DataW.trod] at h
    | succ fuel =>
      unfold DataW.trod at h
      simp only [hD] at h
      split at h
      case isFalse => cases h
      rename_i hlen
      rw [cD] at hlen
      match cs, hlen with
      | [v0, v1, v2, v3], _ =>
        simp only [Option.map_eq_some_iff] at h
        obtain ⟨xs, hxs, -⟩ := h
        generalize fs.toList = L at hxs hfs
        have hL4 : L.length = 4 := by simpa using congrArg List.length hfs
        obtain ⟨f0, f1, f2, f3, rfl⟩ : ∃ a b c d, L = [a, b, c, d] := by
          match L, hL4 with
          | [a, b, c, d], _ => exact ⟨_, _, _, _, rfl⟩
        simp only [List.map_cons, List.map_nil, List.cons.injEq, Prod.mk.injEq, and_true] at hfs
        obtain ⟨⟨e0, o0⟩, ⟨e1, o1⟩, ⟨e2, o2⟩, ⟨e3, o3⟩⟩ := hfs
        obtain ⟨-, hx⟩ := mapM_some hxs
        obtain ⟨b0, -, h0⟩ := hx 0 f0 rfl
        obtain ⟨b1, -, h1⟩ := hx 1 f1 rfl
        obtain ⟨b2, -, h2⟩ := hx 2 f2 rfl
        obtain ⟨b3, -, h3⟩ := hx 3 f3 rfl
        simp only [e0, o0, cI, List.drop_zero, List.take_succ_cons, List.take_zero] at h0
        simp only [e1, o1, cI, List.drop_succ_cons, List.drop_zero, List.take_succ_cons, List.take_zero] at h1
        simp only [e2, o2, cS, List.drop_succ_cons, List.drop_zero, List.take_succ_cons, List.take_zero] at h2
        simp only [e3, o3, cL, List.drop_succ_cons, List.drop_zero, List.take_succ_cons, List.take_zero] at h3
        obtain ⟨k, rfl, hk⟩ := trod_intP hI h0
        obtain ⟨i, rfl, hi⟩ := trod_intP hI h1
        obtain ⟨s, rfl, hs⟩ := trod_strP hS h2
        obtain ⟨l, hl, hq, hm⟩ := trod_sliceP hL cD (by omega) (Q := fun c => ∃ d, c = encD d ∧ OkD d) h3 (fun fuel' hlt cs y hy _ => by
          obtain ⟨d, hd1, hd2⟩ := ih fuel' (by omega) cs y hy
          exact ⟨encD d, hd1, d, rfl, hd2⟩)
        obtain ⟨ds, rfl, hds⟩ := encDs_of hq
        refine ⟨.node k i s ds, ?_, .mk hk hi hs (by rw [← encDs_length]; exact hm) hds⟩
        exact .cons (.lit _ rfl) (.cons (.lit _ rfl) (.cons (.lit _ rfl) (.cons hl .nil)))
end
end Go.ScE
