/-
  No cell of these rows narrows 'for every input' (looked for: loops, veiled, ifaces, maps, wideKeys, modest, calm, conditions, laid).
  DERIVED. THE GIVEN ROWS OF THIS SEAT. 4 by the template 'for every input the law returns true; each argument reads behind the call as it read before'; 0 by the template 'total and deterministic' (their statements: YtgngceifpdjbiaaTotals.lean).
  GIVEN WITH THE SEED: the statements are not yours to turn. If you find one false, say at which input.
  Laid BY PROGRAM, IN A SANDBOX (cutbox-rows.mjs): the forced cells as the released guide's own fill.sh prints them over the translation e6a47c51deb25434… (all of the seat's roots in one cut). By AI agents, Wed Nov 11 2026. No macro, syntax, notation, axiom, sorry.
-/
import Derived.Test.YtgngceifpdjbiaaChecked
import GoSem.Claim
import GoSem.ClaimJoined
import GoSem.ClaimMapViews
import Derived.JoinedTies
import Derived.KernelRfl
namespace Go.Proofs.Ytgngceifpdjbiaa
/- THE CELL 'sum', in the pinned program and in every row, IS THE sha256 OF THE DUMP (.gsa) THAT YtgngceifpdjbiaaProg.lean LOADS. Nothing in Lean hashes anything: it is a label: what it is worth is what the hold of that sum in a sandbox is worth. -/
noncomputable def Try.pinned : Pinned := { name := "ytgngceifpdjbiaa", sum := "e6a47c51deb25434ffab9f78a96efeee3f630947465499ca046d78d905a15369", checked := Try.checked }
namespace Rows
def none {H : Type} : Left H := { results := [], args := [] }

/-- 'scrimshawlaw23.SegmentSame': WHATEVER THE INPUT: true; the input reads as it did. -/
def segmentSameSpec : ChangeSpec := { name := "segmentSame", fn := fun _ => fun
  | [d1, d2, d3] => { results := [.lit (.bool true)], args := [d1, d2, d3] }
  | _ => none }
def segmentSameRow : OpenClaim := { program := "ytgngceifpdjbiaa", sum := "e6a47c51deb25434ffab9f78a96efeee3f630947465499ca046d78d905a15369", func := "scrimshaw/scrimshawlaw23.SegmentSame", spec := "segmentSame", apart := false }
def SegmentSameSaid : Prop := segmentSameRow.holds Try.pinned (OpenSpec.ofChange segmentSameSpec)

/-- ITS FALSE NEIGHBOUR: 'it returns false'. Refute it at one input. -/
def segmentSameWrong : ChangeSpec := { name := "segmentSame", fn := fun _ => fun
  | [d1, d2, d3] => { results := [.lit (.bool false)], args := [d1, d2, d3] }
  | _ => none }
def SegmentSameWrongFalsely : Prop := segmentSameRow.holds Try.pinned (OpenSpec.ofChange segmentSameWrong)

/-- 'scrimshawlaw23.SegmentStarts': WHATEVER THE INPUT: true; the input reads as it did. -/
def segmentStartsSpec : ChangeSpec := { name := "segmentStarts", fn := fun _ => fun
  | [d1, d2] => { results := [.lit (.bool true)], args := [d1, d2] }
  | _ => none }
def segmentStartsRow : OpenClaim := { program := "ytgngceifpdjbiaa", sum := "e6a47c51deb25434ffab9f78a96efeee3f630947465499ca046d78d905a15369", func := "scrimshaw/scrimshawlaw23.SegmentStarts", spec := "segmentStarts", apart := false }
def SegmentStartsSaid : Prop := segmentStartsRow.holds Try.pinned (OpenSpec.ofChange segmentStartsSpec)

/-- ITS FALSE NEIGHBOUR: 'it returns false'. Refute it at one input. -/
def segmentStartsWrong : ChangeSpec := { name := "segmentStarts", fn := fun _ => fun
  | [d1, d2] => { results := [.lit (.bool false)], args := [d1, d2] }
  | _ => none }
def SegmentStartsWrongFalsely : Prop := segmentStartsRow.holds Try.pinned (OpenSpec.ofChange segmentStartsWrong)

/-- 'scrimshawlaw23.SegmentErrors': WHATEVER THE INPUT: true; the input reads as it did. -/
def segmentErrorsSpec : ChangeSpec := { name := "segmentErrors", fn := fun _ => fun
  | [d1, d2] => { results := [.lit (.bool true)], args := [d1, d2] }
  | _ => none }
def segmentErrorsRow : OpenClaim := { program := "ytgngceifpdjbiaa", sum := "e6a47c51deb25434ffab9f78a96efeee3f630947465499ca046d78d905a15369", func := "scrimshaw/scrimshawlaw23.SegmentErrors", spec := "segmentErrors", apart := false }
def SegmentErrorsSaid : Prop := segmentErrorsRow.holds Try.pinned (OpenSpec.ofChange segmentErrorsSpec)

/-- ITS FALSE NEIGHBOUR: 'it returns false'. Refute it at one input. -/
def segmentErrorsWrong : ChangeSpec := { name := "segmentErrors", fn := fun _ => fun
  | [d1, d2] => { results := [.lit (.bool false)], args := [d1, d2] }
  | _ => none }
def SegmentErrorsWrongFalsely : Prop := segmentErrorsRow.holds Try.pinned (OpenSpec.ofChange segmentErrorsWrong)

/-- 'scrimshawlaw23.SegmentNeeds': WHATEVER THE INPUT: true; the input reads as it did. -/
def segmentNeedsSpec : ChangeSpec := { name := "segmentNeeds", fn := fun _ => fun
  | [d1, d2] => { results := [.lit (.bool true)], args := [d1, d2] }
  | _ => none }
def segmentNeedsRow : OpenClaim := { program := "ytgngceifpdjbiaa", sum := "e6a47c51deb25434ffab9f78a96efeee3f630947465499ca046d78d905a15369", func := "scrimshaw/scrimshawlaw23.SegmentNeeds", spec := "segmentNeeds", apart := false }
def SegmentNeedsSaid : Prop := segmentNeedsRow.holds Try.pinned (OpenSpec.ofChange segmentNeedsSpec)

/-- ITS FALSE NEIGHBOUR: 'it returns false'. Refute it at one input. -/
def segmentNeedsWrong : ChangeSpec := { name := "segmentNeeds", fn := fun _ => fun
  | [d1, d2] => { results := [.lit (.bool false)], args := [d1, d2] }
  | _ => none }
def SegmentNeedsWrongFalsely : Prop := segmentNeedsRow.holds Try.pinned (OpenSpec.ofChange segmentNeedsWrong)

/- THE SECOND FORM. 'bulk': how many values and letters a reading holds, each counted each time it is reached (what is shared counts as often as it is met; a slice's spare places count too). A statement '..UptoSaid' is the law's where the arguments, and the package variables that the reading takes, are together of bulk at most 1048576: NARROWER than '..Said'. Prove '..Said' where nothing that the law and all that it calls make is longer than what came in: it says more and counts as full. Else prove '..UptoSaid'. A law counts once. -/
mutual
def uptoBulk {H : Type} : DataW H → Nat
  | .lit (.string bytes) => bytes.length + 1
  | .lit _ => 1
  | .nil => 1
  | .ptr d => uptoBulk d + 1
  | .slice elems spare => uptoBulkAll elems + uptoBulkAll spare + 1
  | .agg parts => uptoBulkAll parts + 1
  | .iface _ d => uptoBulk d + 1
  | .map entries => uptoBulkEntries entries + 1
  | .held _ => 1
def uptoBulkAll {H : Type} : List (DataW H) → Nat
  | [] => 0
  | d :: r => uptoBulk d + uptoBulkAll r
def uptoBulkEntries {H : Type} : List (Lit × DataW H) → Nat
  | [] => 0
  | x :: r => uptoBulkEntry x + uptoBulkEntries r
def uptoBulkEntry {H : Type} : Lit × DataW H → Nat
  | (.string bytes, d) => bytes.length + uptoBulk d + 1
  | (_, d) => uptoBulk d + 1
 end
def uptoSmall : (H : Type) → List (DataW H) → Bool := fun _ ds => decide (uptoBulkAll ds ≤ 1048576)
def OpenSpec.upto (s : _root_.Go.ChangeSpec) : _root_.Go.OpenSpec := { _root_.Go.OpenSpec.ofChange s with cond := some uptoSmall }

/-- 'scrimshawlaw23.SegmentSame', WHERE WHAT IT READS IS OF BULK AT MOST 1048576: true; the input reads as it did. -/
def segmentSameUptoRow : OpenClaim := { program := "ytgngceifpdjbiaa", sum := "e6a47c51deb25434ffab9f78a96efeee3f630947465499ca046d78d905a15369", func := "scrimshaw/scrimshawlaw23.SegmentSame", spec := "segmentSame", apart := false, narrowed := true }
def SegmentSameUptoSaid : Prop := segmentSameUptoRow.holds Try.pinned (OpenSpec.upto segmentSameSpec)

/-- 'scrimshawlaw23.SegmentStarts', WHERE WHAT IT READS IS OF BULK AT MOST 1048576: true; the input reads as it did. -/
def segmentStartsUptoRow : OpenClaim := { program := "ytgngceifpdjbiaa", sum := "e6a47c51deb25434ffab9f78a96efeee3f630947465499ca046d78d905a15369", func := "scrimshaw/scrimshawlaw23.SegmentStarts", spec := "segmentStarts", apart := false, narrowed := true }
def SegmentStartsUptoSaid : Prop := segmentStartsUptoRow.holds Try.pinned (OpenSpec.upto segmentStartsSpec)

/-- 'scrimshawlaw23.SegmentErrors', WHERE WHAT IT READS IS OF BULK AT MOST 1048576: true; the input reads as it did. -/
def segmentErrorsUptoRow : OpenClaim := { program := "ytgngceifpdjbiaa", sum := "e6a47c51deb25434ffab9f78a96efeee3f630947465499ca046d78d905a15369", func := "scrimshaw/scrimshawlaw23.SegmentErrors", spec := "segmentErrors", apart := false, narrowed := true }
def SegmentErrorsUptoSaid : Prop := segmentErrorsUptoRow.holds Try.pinned (OpenSpec.upto segmentErrorsSpec)

/-- 'scrimshawlaw23.SegmentNeeds', WHERE WHAT IT READS IS OF BULK AT MOST 1048576: true; the input reads as it did. -/
def segmentNeedsUptoRow : OpenClaim := { program := "ytgngceifpdjbiaa", sum := "e6a47c51deb25434ffab9f78a96efeee3f630947465499ca046d78d905a15369", func := "scrimshaw/scrimshawlaw23.SegmentNeeds", spec := "segmentNeeds", apart := false, narrowed := true }
def SegmentNeedsUptoSaid : Prop := segmentNeedsUptoRow.holds Try.pinned (OpenSpec.upto segmentNeedsSpec)

end Rows
end Go.Proofs.Ytgngceifpdjbiaa
