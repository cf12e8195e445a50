/-
  DERIVED. GIVEN WITH THE SEED: THE CARDS: each row of YtmmckalinicpaaaGreatDoorRows.lean that lists a variable, with what it lists TIED to the program's text (the seventh form; the later family's looks); each row that meets fmt, with fmt's text TOLD by the authors' own Lean function (tested against real Go, not proved from fmt's source: count such statements apart). THE CARD IS WHAT COUNTS. Prove the row's statement (the work); the ties are given (YtmmckalinicpaaaGreatDoorTie.lean); close each card by the builder's one call (the guide's Derived/Test/ToyasCard.lean, 'card_holds'). Laid BY PROGRAM, IN A SANDBOX (cutbox-door.mjs). By AI agents, Wed Nov 11 2026. No macro, syntax, notation, axiom, sorry.
-/
import Derived.Test.YtmmckalinicpaaaGreatDoorRows
import GoSem.ClaimSeven
namespace Go.Proofs.YtmmckalinicpaaaGreatDoor
namespace Rows

/-- THE TIED CARD OF 'quadformlaw25.DyadicVerifies'. -/
def dyadicVerifiesCard : Claim7 := { stood := { row := dyadicVerifiesRow, standIns := [], harness := (true, "5783f46360df78fbc676bc85d0af546ae712c3e5dcf508c6c1f260436a6ab11e"), looks := false }, kinds := [], alts := [], laidByText := true, laidKinds := [.data], laidTests := true, laidLooks := .later }
def DyadicVerifiesCardSaid : Prop := Claim7.holds Tryz.pinned (.plain (OpenSpec.ofChange dyadicVerifiesSpec)) dyadicVerifiesCard

/-- THE TIED CARD OF 'quadformlaw25.DyadicRaw'. -/
def dyadicRawCard : Claim7 := { stood := { row := dyadicRawRow, standIns := [], harness := (true, "5783f46360df78fbc676bc85d0af546ae712c3e5dcf508c6c1f260436a6ab11e"), looks := false }, kinds := [], alts := [], laidByText := true, laidKinds := [.data], laidTests := true, laidLooks := .later }
def DyadicRawCardSaid : Prop := Claim7.holds Tryz.pinned (.plain (OpenSpec.ofChange dyadicRawSpec)) dyadicRawCard

/-- THE TIED CARD OF 'quadformlaw24.JordanPrecision'. -/
def jordanPrecisionCard : Claim7 := { stood := { row := jordanPrecisionRow, standIns := [], harness := (true, "5783f46360df78fbc676bc85d0af546ae712c3e5dcf508c6c1f260436a6ab11e"), looks := false }, kinds := [], alts := [], laidByText := true, laidKinds := [.data], laidTests := true, laidLooks := .later }
def JordanPrecisionCardSaid : Prop := Claim7.holds Tryz.pinned (.plain (OpenSpec.ofChange jordanPrecisionSpec)) jordanPrecisionCard

/-- THE TIED CARD OF 'quadformlaw24.JordanVerifies'. -/
def jordanVerifiesCard : Claim7 := { stood := { row := jordanVerifiesRow, standIns := [], harness := (true, "5783f46360df78fbc676bc85d0af546ae712c3e5dcf508c6c1f260436a6ab11e"), looks := false }, kinds := [], alts := [], laidByText := true, laidKinds := [.data], laidTests := true, laidLooks := .later }
def JordanVerifiesCardSaid : Prop := Claim7.holds Tryz.pinned (.plain (OpenSpec.ofChange jordanVerifiesSpec)) jordanVerifiesCard

/-- THE TIED CARD OF 'quadformlaw24.JordanRaw'. -/
def jordanRawCard : Claim7 := { stood := { row := jordanRawRow, standIns := [], harness := (true, "5783f46360df78fbc676bc85d0af546ae712c3e5dcf508c6c1f260436a6ab11e"), looks := false }, kinds := [], alts := [], laidByText := true, laidKinds := [.data], laidTests := true, laidLooks := .later }
def JordanRawCardSaid : Prop := Claim7.holds Tryz.pinned (.plain (OpenSpec.ofChange jordanRawSpec)) jordanRawCard

/-- THE TIED CARD OF 'quadformlaw24.JordanDecomposes'. -/
def jordanDecomposesCard : Claim7 := { stood := { row := jordanDecomposesRow, standIns := [], harness := (true, "5783f46360df78fbc676bc85d0af546ae712c3e5dcf508c6c1f260436a6ab11e"), looks := false }, kinds := [], alts := [], laidByText := true, laidKinds := [.data], laidTests := true, laidLooks := .later }
def JordanDecomposesCardSaid : Prop := Claim7.holds Tryz.pinned (.plain (OpenSpec.ofChange jordanDecomposesSpec)) jordanDecomposesCard

/-- THE TIED CARD OF 'quadformlaw24.JordanRefuses'. -/
def jordanRefusesCard : Claim7 := { stood := { row := jordanRefusesRow, standIns := [], harness := (true, "5783f46360df78fbc676bc85d0af546ae712c3e5dcf508c6c1f260436a6ab11e"), looks := false }, kinds := [], alts := [], laidByText := true, laidKinds := [.data], laidTests := true, laidLooks := .later }
def JordanRefusesCardSaid : Prop := Claim7.holds Tryz.pinned (.plain (OpenSpec.ofChange jordanRefusesSpec)) jordanRefusesCard

/-- THE TIED CARD OF 'quadformlaw24.JordanInvariant'. -/
def jordanInvariantCard : Claim7 := { stood := { row := jordanInvariantRow, standIns := [], harness := (true, "5783f46360df78fbc676bc85d0af546ae712c3e5dcf508c6c1f260436a6ab11e"), looks := false }, kinds := [], alts := [], laidByText := true, laidKinds := [.data], laidTests := true, laidLooks := .later }
def JordanInvariantCardSaid : Prop := Claim7.holds Tryz.pinned (.plain (OpenSpec.ofChange jordanInvariantSpec)) jordanInvariantCard

/-- THE TIED CARD OF 'quadformlaw24.JordanCounts'. -/
def jordanCountsCard : Claim7 := { stood := { row := jordanCountsRow, standIns := [], harness := (true, "5783f46360df78fbc676bc85d0af546ae712c3e5dcf508c6c1f260436a6ab11e"), looks := false }, kinds := [], alts := [], laidByText := true, laidKinds := [.data], laidTests := true, laidLooks := .later }
def JordanCountsCardSaid : Prop := Claim7.holds Tryz.pinned (.plain (OpenSpec.ofChange jordanCountsSpec)) jordanCountsCard

/-- THE TIED CARD OF 'quadformlaw25.DyadicDecomposes'. -/
def dyadicDecomposesCard : Claim7 := { stood := { row := dyadicDecomposesRow, standIns := [], harness := (true, "5783f46360df78fbc676bc85d0af546ae712c3e5dcf508c6c1f260436a6ab11e"), looks := false }, kinds := [], alts := [], laidByText := true, laidKinds := [.data], laidTests := true, laidLooks := .later }
def DyadicDecomposesCardSaid : Prop := Claim7.holds Tryz.pinned (.plain (OpenSpec.ofChange dyadicDecomposesSpec)) dyadicDecomposesCard

/-- THE TIED CARD OF 'quadformlaw25.DyadicCounts'. -/
def dyadicCountsCard : Claim7 := { stood := { row := dyadicCountsRow, standIns := [], harness := (true, "5783f46360df78fbc676bc85d0af546ae712c3e5dcf508c6c1f260436a6ab11e"), looks := false }, kinds := [], alts := [], laidByText := true, laidKinds := [.data], laidTests := true, laidLooks := .later }
def DyadicCountsCardSaid : Prop := Claim7.holds Tryz.pinned (.plain (OpenSpec.ofChange dyadicCountsSpec)) dyadicCountsCard

/-- THE TIED CARD OF 'quadformlaw25.DyadicEven'. -/
def dyadicEvenCard : Claim7 := { stood := { row := dyadicEvenRow, standIns := [], harness := (true, "5783f46360df78fbc676bc85d0af546ae712c3e5dcf508c6c1f260436a6ab11e"), looks := false }, kinds := [], alts := [], laidByText := true, laidKinds := [.data], laidTests := true, laidLooks := .later }
def DyadicEvenCardSaid : Prop := Claim7.holds Tryz.pinned (.plain (OpenSpec.ofChange dyadicEvenSpec)) dyadicEvenCard

/-- THE SECOND FORM's CARD OF 'quadformlaw25.DyadicVerifies'. -/
def dyadicVerifiesUptoCard : Claim7 := { stood := { row := dyadicVerifiesUptoRow, standIns := [], harness := (true, "5783f46360df78fbc676bc85d0af546ae712c3e5dcf508c6c1f260436a6ab11e"), looks := false }, kinds := [], alts := [], laidByText := true, laidKinds := [.data], laidTests := true, laidLooks := .later }
def DyadicVerifiesUptoCardSaid : Prop := Claim7.holds Tryz.pinned (.plain (OpenSpec.upto dyadicVerifiesSpec)) dyadicVerifiesUptoCard

/-- THE SECOND FORM's CARD OF 'quadformlaw25.DyadicRaw'. -/
def dyadicRawUptoCard : Claim7 := { stood := { row := dyadicRawUptoRow, standIns := [], harness := (true, "5783f46360df78fbc676bc85d0af546ae712c3e5dcf508c6c1f260436a6ab11e"), looks := false }, kinds := [], alts := [], laidByText := true, laidKinds := [.data], laidTests := true, laidLooks := .later }
def DyadicRawUptoCardSaid : Prop := Claim7.holds Tryz.pinned (.plain (OpenSpec.upto dyadicRawSpec)) dyadicRawUptoCard

/-- THE SECOND FORM's CARD OF 'quadformlaw24.JordanPrecision'. -/
def jordanPrecisionUptoCard : Claim7 := { stood := { row := jordanPrecisionUptoRow, standIns := [], harness := (true, "5783f46360df78fbc676bc85d0af546ae712c3e5dcf508c6c1f260436a6ab11e"), looks := false }, kinds := [], alts := [], laidByText := true, laidKinds := [.data], laidTests := true, laidLooks := .later }
def JordanPrecisionUptoCardSaid : Prop := Claim7.holds Tryz.pinned (.plain (OpenSpec.upto jordanPrecisionSpec)) jordanPrecisionUptoCard

/-- THE SECOND FORM's CARD OF 'quadformlaw24.JordanVerifies'. -/
def jordanVerifiesUptoCard : Claim7 := { stood := { row := jordanVerifiesUptoRow, standIns := [], harness := (true, "5783f46360df78fbc676bc85d0af546ae712c3e5dcf508c6c1f260436a6ab11e"), looks := false }, kinds := [], alts := [], laidByText := true, laidKinds := [.data], laidTests := true, laidLooks := .later }
def JordanVerifiesUptoCardSaid : Prop := Claim7.holds Tryz.pinned (.plain (OpenSpec.upto jordanVerifiesSpec)) jordanVerifiesUptoCard

/-- THE SECOND FORM's CARD OF 'quadformlaw24.JordanRaw'. -/
def jordanRawUptoCard : Claim7 := { stood := { row := jordanRawUptoRow, standIns := [], harness := (true, "5783f46360df78fbc676bc85d0af546ae712c3e5dcf508c6c1f260436a6ab11e"), looks := false }, kinds := [], alts := [], laidByText := true, laidKinds := [.data], laidTests := true, laidLooks := .later }
def JordanRawUptoCardSaid : Prop := Claim7.holds Tryz.pinned (.plain (OpenSpec.upto jordanRawSpec)) jordanRawUptoCard

/-- THE SECOND FORM's CARD OF 'quadformlaw24.JordanDecomposes'. -/
def jordanDecomposesUptoCard : Claim7 := { stood := { row := jordanDecomposesUptoRow, standIns := [], harness := (true, "5783f46360df78fbc676bc85d0af546ae712c3e5dcf508c6c1f260436a6ab11e"), looks := false }, kinds := [], alts := [], laidByText := true, laidKinds := [.data], laidTests := true, laidLooks := .later }
def JordanDecomposesUptoCardSaid : Prop := Claim7.holds Tryz.pinned (.plain (OpenSpec.upto jordanDecomposesSpec)) jordanDecomposesUptoCard

/-- THE SECOND FORM's CARD OF 'quadformlaw24.JordanRefuses'. -/
def jordanRefusesUptoCard : Claim7 := { stood := { row := jordanRefusesUptoRow, standIns := [], harness := (true, "5783f46360df78fbc676bc85d0af546ae712c3e5dcf508c6c1f260436a6ab11e"), looks := false }, kinds := [], alts := [], laidByText := true, laidKinds := [.data], laidTests := true, laidLooks := .later }
def JordanRefusesUptoCardSaid : Prop := Claim7.holds Tryz.pinned (.plain (OpenSpec.upto jordanRefusesSpec)) jordanRefusesUptoCard

/-- THE SECOND FORM's CARD OF 'quadformlaw24.JordanInvariant'. -/
def jordanInvariantUptoCard : Claim7 := { stood := { row := jordanInvariantUptoRow, standIns := [], harness := (true, "5783f46360df78fbc676bc85d0af546ae712c3e5dcf508c6c1f260436a6ab11e"), looks := false }, kinds := [], alts := [], laidByText := true, laidKinds := [.data], laidTests := true, laidLooks := .later }
def JordanInvariantUptoCardSaid : Prop := Claim7.holds Tryz.pinned (.plain (OpenSpec.upto jordanInvariantSpec)) jordanInvariantUptoCard

/-- THE SECOND FORM's CARD OF 'quadformlaw24.JordanCounts'. -/
def jordanCountsUptoCard : Claim7 := { stood := { row := jordanCountsUptoRow, standIns := [], harness := (true, "5783f46360df78fbc676bc85d0af546ae712c3e5dcf508c6c1f260436a6ab11e"), looks := false }, kinds := [], alts := [], laidByText := true, laidKinds := [.data], laidTests := true, laidLooks := .later }
def JordanCountsUptoCardSaid : Prop := Claim7.holds Tryz.pinned (.plain (OpenSpec.upto jordanCountsSpec)) jordanCountsUptoCard

/-- THE SECOND FORM's CARD OF 'quadformlaw25.DyadicDecomposes'. -/
def dyadicDecomposesUptoCard : Claim7 := { stood := { row := dyadicDecomposesUptoRow, standIns := [], harness := (true, "5783f46360df78fbc676bc85d0af546ae712c3e5dcf508c6c1f260436a6ab11e"), looks := false }, kinds := [], alts := [], laidByText := true, laidKinds := [.data], laidTests := true, laidLooks := .later }
def DyadicDecomposesUptoCardSaid : Prop := Claim7.holds Tryz.pinned (.plain (OpenSpec.upto dyadicDecomposesSpec)) dyadicDecomposesUptoCard

/-- THE SECOND FORM's CARD OF 'quadformlaw25.DyadicCounts'. -/
def dyadicCountsUptoCard : Claim7 := { stood := { row := dyadicCountsUptoRow, standIns := [], harness := (true, "5783f46360df78fbc676bc85d0af546ae712c3e5dcf508c6c1f260436a6ab11e"), looks := false }, kinds := [], alts := [], laidByText := true, laidKinds := [.data], laidTests := true, laidLooks := .later }
def DyadicCountsUptoCardSaid : Prop := Claim7.holds Tryz.pinned (.plain (OpenSpec.upto dyadicCountsSpec)) dyadicCountsUptoCard

/-- THE SECOND FORM's CARD OF 'quadformlaw25.DyadicEven'. -/
def dyadicEvenUptoCard : Claim7 := { stood := { row := dyadicEvenUptoRow, standIns := [], harness := (true, "5783f46360df78fbc676bc85d0af546ae712c3e5dcf508c6c1f260436a6ab11e"), looks := false }, kinds := [], alts := [], laidByText := true, laidKinds := [.data], laidTests := true, laidLooks := .later }
def DyadicEvenUptoCardSaid : Prop := Claim7.holds Tryz.pinned (.plain (OpenSpec.upto dyadicEvenSpec)) dyadicEvenUptoCard
end Rows
end Go.Proofs.YtmmckalinicpaaaGreatDoor
