/-
  DERIVED. GIVEN WITH THE SEED: THE CARDS: each row of YthbndcbclhkepaaGreatDoorRows.lean that lists a variable, with what it lists TIED to the program's text (the seventh form; the later family's looks); each row that meets fmt, with fmt's text TOLD by the authors' own Lean function (tested against real Go, not proved from fmt's source: count such statements apart). THE CARD IS WHAT COUNTS. Prove the row's statement (the work); the ties are given (YthbndcbclhkepaaGreatDoorTie.lean); close each card by the builder's one call (the guide's Derived/Test/ToyasCard.lean, 'card_holds'). Laid BY PROGRAM, IN A SANDBOX (cutbox-door.mjs). By AI agents, Wed Nov 11 2026. No macro, syntax, notation, axiom, sorry.
-/
import Derived.Test.YthbndcbclhkepaaGreatDoorRows
import GoSem.ClaimSeven
namespace Go.Proofs.YthbndcbclhkepaaGreatDoor
namespace Rows

/-- THE TIED CARD OF 'quadformlaw25.DyadicVerifies'. -/
def dyadicVerifiesCard : Claim7 := { stood := { row := dyadicVerifiesRow, standIns := [], harness := (true, "72138e4a2907a903d42dd943adf1d21dcb4dd2b75671b7a2c93aa531a3ba2913"), looks := false }, kinds := [], alts := [], laidByText := true, laidKinds := [.data], laidTests := true, laidLooks := .later }
def DyadicVerifiesCardSaid : Prop := Claim7.holds Tryz.pinned (.plain (OpenSpec.ofChange dyadicVerifiesSpec)) dyadicVerifiesCard

/-- THE TIED CARD OF 'quadformlaw25.DyadicDecomposes'. -/
def dyadicDecomposesCard : Claim7 := { stood := { row := dyadicDecomposesRow, standIns := [], harness := (true, "72138e4a2907a903d42dd943adf1d21dcb4dd2b75671b7a2c93aa531a3ba2913"), looks := false }, kinds := [], alts := [], laidByText := true, laidKinds := [.data], laidTests := true, laidLooks := .later }
def DyadicDecomposesCardSaid : Prop := Claim7.holds Tryz.pinned (.plain (OpenSpec.ofChange dyadicDecomposesSpec)) dyadicDecomposesCard

/-- THE TIED CARD OF 'quadformlaw25.DyadicCounts'. -/
def dyadicCountsCard : Claim7 := { stood := { row := dyadicCountsRow, standIns := [], harness := (true, "72138e4a2907a903d42dd943adf1d21dcb4dd2b75671b7a2c93aa531a3ba2913"), looks := false }, kinds := [], alts := [], laidByText := true, laidKinds := [.data], laidTests := true, laidLooks := .later }
def DyadicCountsCardSaid : Prop := Claim7.holds Tryz.pinned (.plain (OpenSpec.ofChange dyadicCountsSpec)) dyadicCountsCard

/-- THE TIED CARD OF 'quadformlaw25.DyadicEven'. -/
def dyadicEvenCard : Claim7 := { stood := { row := dyadicEvenRow, standIns := [], harness := (true, "72138e4a2907a903d42dd943adf1d21dcb4dd2b75671b7a2c93aa531a3ba2913"), looks := false }, kinds := [], alts := [], laidByText := true, laidKinds := [.data], laidTests := true, laidLooks := .later }
def DyadicEvenCardSaid : Prop := Claim7.holds Tryz.pinned (.plain (OpenSpec.ofChange dyadicEvenSpec)) dyadicEvenCard

/-- THE SECOND FORM's CARD OF 'quadformlaw25.DyadicVerifies'. -/
def dyadicVerifiesUptoCard : Claim7 := { stood := { row := dyadicVerifiesUptoRow, standIns := [], harness := (true, "72138e4a2907a903d42dd943adf1d21dcb4dd2b75671b7a2c93aa531a3ba2913"), looks := false }, kinds := [], alts := [], laidByText := true, laidKinds := [.data], laidTests := true, laidLooks := .later }
def DyadicVerifiesUptoCardSaid : Prop := Claim7.holds Tryz.pinned (.plain (OpenSpec.upto dyadicVerifiesSpec)) dyadicVerifiesUptoCard

/-- THE SECOND FORM's CARD OF 'quadformlaw25.DyadicDecomposes'. -/
def dyadicDecomposesUptoCard : Claim7 := { stood := { row := dyadicDecomposesUptoRow, standIns := [], harness := (true, "72138e4a2907a903d42dd943adf1d21dcb4dd2b75671b7a2c93aa531a3ba2913"), looks := false }, kinds := [], alts := [], laidByText := true, laidKinds := [.data], laidTests := true, laidLooks := .later }
def DyadicDecomposesUptoCardSaid : Prop := Claim7.holds Tryz.pinned (.plain (OpenSpec.upto dyadicDecomposesSpec)) dyadicDecomposesUptoCard

/-- THE SECOND FORM's CARD OF 'quadformlaw25.DyadicCounts'. -/
def dyadicCountsUptoCard : Claim7 := { stood := { row := dyadicCountsUptoRow, standIns := [], harness := (true, "72138e4a2907a903d42dd943adf1d21dcb4dd2b75671b7a2c93aa531a3ba2913"), looks := false }, kinds := [], alts := [], laidByText := true, laidKinds := [.data], laidTests := true, laidLooks := .later }
def DyadicCountsUptoCardSaid : Prop := Claim7.holds Tryz.pinned (.plain (OpenSpec.upto dyadicCountsSpec)) dyadicCountsUptoCard

/-- THE SECOND FORM's CARD OF 'quadformlaw25.DyadicEven'. -/
def dyadicEvenUptoCard : Claim7 := { stood := { row := dyadicEvenUptoRow, standIns := [], harness := (true, "72138e4a2907a903d42dd943adf1d21dcb4dd2b75671b7a2c93aa531a3ba2913"), looks := false }, kinds := [], alts := [], laidByText := true, laidKinds := [.data], laidTests := true, laidLooks := .later }
def DyadicEvenUptoCardSaid : Prop := Claim7.holds Tryz.pinned (.plain (OpenSpec.upto dyadicEvenSpec)) dyadicEvenUptoCard
end Rows
end Go.Proofs.YthbndcbclhkepaaGreatDoor
