/-
  DERIVED. GIVEN WITH THE SEED: THE CARDS: each row of YtdkldlbgcfpglaaGreatDoorRows.lean that lists a variable, with what it lists TIED to the program's text (the seventh form; the later family's looks); each row that meets fmt, with fmt's text TOLD by the authors' own Lean function (tested against real Go, not proved from fmt's source: count such statements apart). THE CARD IS WHAT COUNTS. Prove the row's statement (the work); the ties are given (YtdkldlbgcfpglaaGreatDoorTie.lean); close each card by the builder's one call (the guide's Derived/Test/ToyasCard.lean, 'card_holds'). Laid BY PROGRAM, IN A SANDBOX (cutbox-door.mjs). By AI agents, Wed Nov 11 2026. No macro, syntax, notation, axiom, sorry.
-/
import Derived.Test.YtdkldlbgcfpglaaGreatDoorRows
import GoSem.ClaimSeven
namespace Go.Proofs.YtdkldlbgcfpglaaGreatDoor
namespace Rows

/-- THE TIED CARD OF 'quadformlaw24.JordanVerifies'. -/
def jordanVerifiesCard : Claim7 := { stood := { row := jordanVerifiesRow, standIns := [], harness := (true, "bf0b40e6b5701eaf77f4d0799bf1a3b4540d8fe55bd397fbc7776b22ab5c409f"), looks := false }, kinds := [], alts := [], laidByText := true, laidKinds := [.data], laidTests := true, laidLooks := .later }
def JordanVerifiesCardSaid : Prop := Claim7.holds Tryz.pinned (.plain (OpenSpec.ofChange jordanVerifiesSpec)) jordanVerifiesCard

/-- THE TIED CARD OF 'quadformlaw24.JordanDecomposes'. -/
def jordanDecomposesCard : Claim7 := { stood := { row := jordanDecomposesRow, standIns := [], harness := (true, "bf0b40e6b5701eaf77f4d0799bf1a3b4540d8fe55bd397fbc7776b22ab5c409f"), looks := false }, kinds := [], alts := [], laidByText := true, laidKinds := [.data], laidTests := true, laidLooks := .later }
def JordanDecomposesCardSaid : Prop := Claim7.holds Tryz.pinned (.plain (OpenSpec.ofChange jordanDecomposesSpec)) jordanDecomposesCard

/-- THE TIED CARD OF 'quadformlaw24.JordanRefuses'. -/
def jordanRefusesCard : Claim7 := { stood := { row := jordanRefusesRow, standIns := [], harness := (true, "bf0b40e6b5701eaf77f4d0799bf1a3b4540d8fe55bd397fbc7776b22ab5c409f"), looks := false }, kinds := [], alts := [], laidByText := true, laidKinds := [.data], laidTests := true, laidLooks := .later }
def JordanRefusesCardSaid : Prop := Claim7.holds Tryz.pinned (.plain (OpenSpec.ofChange jordanRefusesSpec)) jordanRefusesCard

/-- THE TIED CARD OF 'quadformlaw24.JordanCounts'. -/
def jordanCountsCard : Claim7 := { stood := { row := jordanCountsRow, standIns := [], harness := (true, "bf0b40e6b5701eaf77f4d0799bf1a3b4540d8fe55bd397fbc7776b22ab5c409f"), looks := false }, kinds := [], alts := [], laidByText := true, laidKinds := [.data], laidTests := true, laidLooks := .later }
def JordanCountsCardSaid : Prop := Claim7.holds Tryz.pinned (.plain (OpenSpec.ofChange jordanCountsSpec)) jordanCountsCard

/-- THE SECOND FORM's CARD OF 'quadformlaw24.JordanVerifies'. -/
def jordanVerifiesUptoCard : Claim7 := { stood := { row := jordanVerifiesUptoRow, standIns := [], harness := (true, "bf0b40e6b5701eaf77f4d0799bf1a3b4540d8fe55bd397fbc7776b22ab5c409f"), looks := false }, kinds := [], alts := [], laidByText := true, laidKinds := [.data], laidTests := true, laidLooks := .later }
def JordanVerifiesUptoCardSaid : Prop := Claim7.holds Tryz.pinned (.plain (OpenSpec.upto jordanVerifiesSpec)) jordanVerifiesUptoCard

/-- THE SECOND FORM's CARD OF 'quadformlaw24.JordanDecomposes'. -/
def jordanDecomposesUptoCard : Claim7 := { stood := { row := jordanDecomposesUptoRow, standIns := [], harness := (true, "bf0b40e6b5701eaf77f4d0799bf1a3b4540d8fe55bd397fbc7776b22ab5c409f"), looks := false }, kinds := [], alts := [], laidByText := true, laidKinds := [.data], laidTests := true, laidLooks := .later }
def JordanDecomposesUptoCardSaid : Prop := Claim7.holds Tryz.pinned (.plain (OpenSpec.upto jordanDecomposesSpec)) jordanDecomposesUptoCard

/-- THE SECOND FORM's CARD OF 'quadformlaw24.JordanRefuses'. -/
def jordanRefusesUptoCard : Claim7 := { stood := { row := jordanRefusesUptoRow, standIns := [], harness := (true, "bf0b40e6b5701eaf77f4d0799bf1a3b4540d8fe55bd397fbc7776b22ab5c409f"), looks := false }, kinds := [], alts := [], laidByText := true, laidKinds := [.data], laidTests := true, laidLooks := .later }
def JordanRefusesUptoCardSaid : Prop := Claim7.holds Tryz.pinned (.plain (OpenSpec.upto jordanRefusesSpec)) jordanRefusesUptoCard

/-- THE SECOND FORM's CARD OF 'quadformlaw24.JordanCounts'. -/
def jordanCountsUptoCard : Claim7 := { stood := { row := jordanCountsUptoRow, standIns := [], harness := (true, "bf0b40e6b5701eaf77f4d0799bf1a3b4540d8fe55bd397fbc7776b22ab5c409f"), looks := false }, kinds := [], alts := [], laidByText := true, laidKinds := [.data], laidTests := true, laidLooks := .later }
def JordanCountsUptoCardSaid : Prop := Claim7.holds Tryz.pinned (.plain (OpenSpec.upto jordanCountsSpec)) jordanCountsUptoCard
end Rows
end Go.Proofs.YtdkldlbgcfpglaaGreatDoor
