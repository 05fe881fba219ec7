/-
  DERIVED. GIVEN WITH THE SEED: THE CARDS: each row of YtomklnbaaelchaaDoorRows.lean that lists a variable, with what it lists TIED to the program's text (the seventh form; the later family's looks); each row that meets fmt, with fmt's text TOLD by the authors' own Lean function (tested against real Go, not proved from fmt's source: count such statements apart). THE CARD IS WHAT COUNTS. Prove the row's statement (the work); the ties are given (YtomklnbaaelchaaDoorTie.lean); close each card by the builder's one call (the guide's Derived/Test/ToyasCard.lean, 'card_holds'). Laid BY PROGRAM, IN A SANDBOX (cutbox-door.mjs). By AI agents, Wed Nov 11 2026. No macro, syntax, notation, axiom, sorry.
-/
import Derived.Test.YtomklnbaaelchaaDoorRows
import GoSem.ClaimSeven
namespace Go.Proofs.YtomklnbaaelchaaDoor
namespace Rows

/-- THE TIED CARD OF 'scrimshawlaw02.DatumEquals'. -/
def datumEqualsCard : Claim7 := { stood := { row := datumEqualsRow, standIns := [], harness := (true, "d06cc8f7ce4d5595ff98ff2feb6c5286ae4057c6cf02383298ed86c19cdac35b"), looks := false }, kinds := [], alts := [], laidByText := true, laidKinds := [.data, .data, .data], laidTests := true, laidLooks := .later }
def DatumEqualsCardSaid : Prop := Claim7.holds Tryd.pinned (.plain (OpenSpec.ofChange datumEqualsSpec)) datumEqualsCard

/-- THE TIED CARD OF 'scrimshawlaw02.DatumMakes'. -/
def datumMakesCard : Claim7 := { stood := { row := datumMakesRow, standIns := [], harness := (true, "d06cc8f7ce4d5595ff98ff2feb6c5286ae4057c6cf02383298ed86c19cdac35b"), looks := false }, kinds := [], alts := [], laidByText := true, laidKinds := [.data, .data, .data], laidTests := true, laidLooks := .later }
def DatumMakesCardSaid : Prop := Claim7.holds Tryd.pinned (.plain (OpenSpec.ofChange datumMakesSpec)) datumMakesCard

/-- THE SECOND FORM's CARD OF 'scrimshawlaw02.DatumEquals'. -/
def datumEqualsUptoCard : Claim7 := { stood := { row := datumEqualsUptoRow, standIns := [], harness := (true, "d06cc8f7ce4d5595ff98ff2feb6c5286ae4057c6cf02383298ed86c19cdac35b"), looks := false }, kinds := [], alts := [], laidByText := true, laidKinds := [.data, .data, .data], laidTests := true, laidLooks := .later }
def DatumEqualsUptoCardSaid : Prop := Claim7.holds Tryd.pinned (.plain (OpenSpec.upto datumEqualsSpec)) datumEqualsUptoCard

/-- THE SECOND FORM's CARD OF 'scrimshawlaw02.DatumMakes'. -/
def datumMakesUptoCard : Claim7 := { stood := { row := datumMakesUptoRow, standIns := [], harness := (true, "d06cc8f7ce4d5595ff98ff2feb6c5286ae4057c6cf02383298ed86c19cdac35b"), looks := false }, kinds := [], alts := [], laidByText := true, laidKinds := [.data, .data, .data], laidTests := true, laidLooks := .later }
def DatumMakesUptoCardSaid : Prop := Claim7.holds Tryd.pinned (.plain (OpenSpec.upto datumMakesSpec)) datumMakesUptoCard
end Rows
end Go.Proofs.YtomklnbaaelchaaDoor
