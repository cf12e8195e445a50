/-
  DERIVED. GIVEN WITH THE SEED: THE CARDS: each row of YtkakafabeobahaaGreatDoorRows.lean that lists a variable, with what it lists TIED to the program's text (the seventh form; the later family's looks); each row that meets fmt, with fmt's text TOLD by the authors' own Lean function (tested against real Go, not proved from fmt's source: count such statements apart). THE CARD IS WHAT COUNTS. Prove the row's statement (the work); the ties are given (YtkakafabeobahaaGreatDoorTie.lean); close each card by the builder's one call (the guide's Derived/Test/ToyasCard.lean, 'card_holds'). Laid BY PROGRAM, IN A SANDBOX (cutbox-door.mjs). By AI agents, Wed Nov 11 2026. No macro, syntax, notation, axiom, sorry.
-/
import Derived.Test.YtkakafabeobahaaGreatDoorRows
import GoSem.ClaimSeven
namespace Go.Proofs.YtkakafabeobahaaGreatDoor
namespace Rows

/-- THE TIED CARD OF 'quadformlaw25.DyadicVerifies'. -/
def dyadicVerifiesCard : Claim7 := { stood := { row := dyadicVerifiesRow, standIns := [], harness := (true, "f85620d58b6c068c55c942975444e30a63c0d254ad7d7d25a671f9a6a1fc5281"), looks := false }, kinds := [], alts := [], laidByText := true, laidKinds := [.data], laidTests := true, laidLooks := .later }
def DyadicVerifiesCardSaid : Prop := Claim7.holds Tryz.pinned (.plain (OpenSpec.ofChange dyadicVerifiesSpec)) dyadicVerifiesCard

/-- THE TIED CARD OF 'quadformlaw24.JordanVerifies'. -/
def jordanVerifiesCard : Claim7 := { stood := { row := jordanVerifiesRow, standIns := [], harness := (true, "f85620d58b6c068c55c942975444e30a63c0d254ad7d7d25a671f9a6a1fc5281"), looks := false }, kinds := [], alts := [], laidByText := true, laidKinds := [.data], laidTests := true, laidLooks := .later }
def JordanVerifiesCardSaid : Prop := Claim7.holds Tryz.pinned (.plain (OpenSpec.ofChange jordanVerifiesSpec)) jordanVerifiesCard

/-- THE TIED CARD OF 'quadformlaw24.JordanInvariant'. -/
def jordanInvariantCard : Claim7 := { stood := { row := jordanInvariantRow, standIns := [], harness := (true, "f85620d58b6c068c55c942975444e30a63c0d254ad7d7d25a671f9a6a1fc5281"), looks := false }, kinds := [], alts := [], laidByText := true, laidKinds := [.data], laidTests := true, laidLooks := .later }
def JordanInvariantCardSaid : Prop := Claim7.holds Tryz.pinned (.plain (OpenSpec.ofChange jordanInvariantSpec)) jordanInvariantCard

/-- THE TIED CARD OF 'quadformlaw25.DyadicDecomposes'. -/
def dyadicDecomposesCard : Claim7 := { stood := { row := dyadicDecomposesRow, standIns := [], harness := (true, "f85620d58b6c068c55c942975444e30a63c0d254ad7d7d25a671f9a6a1fc5281"), looks := false }, kinds := [], alts := [], laidByText := true, laidKinds := [.data], laidTests := true, laidLooks := .later }
def DyadicDecomposesCardSaid : Prop := Claim7.holds Tryz.pinned (.plain (OpenSpec.ofChange dyadicDecomposesSpec)) dyadicDecomposesCard

/-- THE TIED CARD OF 'quadformlaw25.DyadicShape'. -/
def dyadicShapeCard : Claim7 := { stood := { row := dyadicShapeRow, standIns := [], harness := (true, "f85620d58b6c068c55c942975444e30a63c0d254ad7d7d25a671f9a6a1fc5281"), looks := false }, kinds := [], alts := [], laidByText := true, laidKinds := [.data], laidTests := true, laidLooks := .later }
def DyadicShapeCardSaid : Prop := Claim7.holds Tryz.pinned (.plain (OpenSpec.ofChange dyadicShapeSpec)) dyadicShapeCard

/-- THE TIED CARD OF 'quadformlaw25.DyadicTotals'. -/
def dyadicTotalsCard : Claim7 := { stood := { row := dyadicTotalsRow, standIns := [], harness := (true, "f85620d58b6c068c55c942975444e30a63c0d254ad7d7d25a671f9a6a1fc5281"), looks := false }, kinds := [], alts := [], laidByText := true, laidKinds := [.data], laidTests := true, laidLooks := .later }
def DyadicTotalsCardSaid : Prop := Claim7.holds Tryz.pinned (.plain (OpenSpec.ofChange dyadicTotalsSpec)) dyadicTotalsCard

/-- THE SECOND FORM's CARD OF 'quadformlaw25.DyadicVerifies'. -/
def dyadicVerifiesUptoCard : Claim7 := { stood := { row := dyadicVerifiesUptoRow, standIns := [], harness := (true, "f85620d58b6c068c55c942975444e30a63c0d254ad7d7d25a671f9a6a1fc5281"), looks := false }, kinds := [], alts := [], laidByText := true, laidKinds := [.data], laidTests := true, laidLooks := .later }
def DyadicVerifiesUptoCardSaid : Prop := Claim7.holds Tryz.pinned (.plain (OpenSpec.upto dyadicVerifiesSpec)) dyadicVerifiesUptoCard

/-- THE SECOND FORM's CARD OF 'quadformlaw24.JordanVerifies'. -/
def jordanVerifiesUptoCard : Claim7 := { stood := { row := jordanVerifiesUptoRow, standIns := [], harness := (true, "f85620d58b6c068c55c942975444e30a63c0d254ad7d7d25a671f9a6a1fc5281"), looks := false }, kinds := [], alts := [], laidByText := true, laidKinds := [.data], laidTests := true, laidLooks := .later }
def JordanVerifiesUptoCardSaid : Prop := Claim7.holds Tryz.pinned (.plain (OpenSpec.upto jordanVerifiesSpec)) jordanVerifiesUptoCard

/-- THE SECOND FORM's CARD OF 'quadformlaw24.JordanInvariant'. -/
def jordanInvariantUptoCard : Claim7 := { stood := { row := jordanInvariantUptoRow, standIns := [], harness := (true, "f85620d58b6c068c55c942975444e30a63c0d254ad7d7d25a671f9a6a1fc5281"), looks := false }, kinds := [], alts := [], laidByText := true, laidKinds := [.data], laidTests := true, laidLooks := .later }
def JordanInvariantUptoCardSaid : Prop := Claim7.holds Tryz.pinned (.plain (OpenSpec.upto jordanInvariantSpec)) jordanInvariantUptoCard

/-- THE SECOND FORM's CARD OF 'quadformlaw25.DyadicDecomposes'. -/
def dyadicDecomposesUptoCard : Claim7 := { stood := { row := dyadicDecomposesUptoRow, standIns := [], harness := (true, "f85620d58b6c068c55c942975444e30a63c0d254ad7d7d25a671f9a6a1fc5281"), looks := false }, kinds := [], alts := [], laidByText := true, laidKinds := [.data], laidTests := true, laidLooks := .later }
def DyadicDecomposesUptoCardSaid : Prop := Claim7.holds Tryz.pinned (.plain (OpenSpec.upto dyadicDecomposesSpec)) dyadicDecomposesUptoCard

/-- THE SECOND FORM's CARD OF 'quadformlaw25.DyadicShape'. -/
def dyadicShapeUptoCard : Claim7 := { stood := { row := dyadicShapeUptoRow, standIns := [], harness := (true, "f85620d58b6c068c55c942975444e30a63c0d254ad7d7d25a671f9a6a1fc5281"), looks := false }, kinds := [], alts := [], laidByText := true, laidKinds := [.data], laidTests := true, laidLooks := .later }
def DyadicShapeUptoCardSaid : Prop := Claim7.holds Tryz.pinned (.plain (OpenSpec.upto dyadicShapeSpec)) dyadicShapeUptoCard

/-- THE SECOND FORM's CARD OF 'quadformlaw25.DyadicTotals'. -/
def dyadicTotalsUptoCard : Claim7 := { stood := { row := dyadicTotalsUptoRow, standIns := [], harness := (true, "f85620d58b6c068c55c942975444e30a63c0d254ad7d7d25a671f9a6a1fc5281"), looks := false }, kinds := [], alts := [], laidByText := true, laidKinds := [.data], laidTests := true, laidLooks := .later }
def DyadicTotalsUptoCardSaid : Prop := Claim7.holds Tryz.pinned (.plain (OpenSpec.upto dyadicTotalsSpec)) dyadicTotalsUptoCard
end Rows
end Go.Proofs.YtkakafabeobahaaGreatDoor
