/-
  DERIVED. GIVEN WITH THE SEED: THE CARDS: each row of YtccgaemmdikhcaaDoorRows.lean that lists a variable, with what it lists TIED to the program's text (the seventh form; the later family's looks); each row that meets fmt, with fmt's text TOLD by the authors' own Lean function (tested against real Go, not proved from fmt's source: count such statements apart). THE CARD IS WHAT COUNTS. Prove the row's statement (the work); the ties are given (YtccgaemmdikhcaaDoorTie.lean); close each card by the builder's one call (the guide's Derived/Test/ToyasCard.lean, 'card_holds'). Laid BY PROGRAM, IN A SANDBOX (cutbox-door.mjs). By AI agents, Wed Nov 11 2026. No macro, syntax, notation, axiom, sorry.
-/
import Derived.Test.YtccgaemmdikhcaaDoorRows
import GoSem.ClaimSeven
namespace Go.Proofs.YtccgaemmdikhcaaDoor
namespace Rows

/-- THE TIED CARD OF 'quadformlaw34.LineLimits'. -/
def lineLimitsCard : Claim7 := { stood := { row := lineLimitsRow, standIns := [], harness := (true, "218c57fd1732ddc985ac7d81bda0860bf16eb649a3978c4dbeb599cc0982921c"), looks := false }, kinds := [], alts := [], laidByText := true, laidKinds := [.data], laidTests := true, laidLooks := .later }
def LineLimitsCardSaid : Prop := Claim7.holds Tryd.pinned (.plain (OpenSpec.ofChange lineLimitsSpec)) lineLimitsCard

/-- THE TIED CARD OF 'quadformlaw25.DyadicConstituents'. -/
def dyadicConstituentsCard : Claim7 := { stood := { row := dyadicConstituentsRow, standIns := [], harness := (true, "218c57fd1732ddc985ac7d81bda0860bf16eb649a3978c4dbeb599cc0982921c"), looks := false }, kinds := [], alts := [], laidByText := true, laidKinds := [.data], laidTests := true, laidLooks := .later }
def DyadicConstituentsCardSaid : Prop := Claim7.holds Tryd.pinned (.plain (OpenSpec.ofChange dyadicConstituentsSpec)) dyadicConstituentsCard

/-- THE TIED CARD OF 'quadformlaw25.DyadicBlocks'. -/
def dyadicBlocksCard : Claim7 := { stood := { row := dyadicBlocksRow, standIns := [], harness := (true, "218c57fd1732ddc985ac7d81bda0860bf16eb649a3978c4dbeb599cc0982921c"), looks := false }, kinds := [], alts := [], laidByText := true, laidKinds := [.data], laidTests := true, laidLooks := .later }
def DyadicBlocksCardSaid : Prop := Claim7.holds Tryd.pinned (.plain (OpenSpec.ofChange dyadicBlocksSpec)) dyadicBlocksCard

/-- THE TIED CARD OF 'quadformlaw24.JordanConstituents'. -/
def jordanConstituentsCard : Claim7 := { stood := { row := jordanConstituentsRow, standIns := [], harness := (true, "218c57fd1732ddc985ac7d81bda0860bf16eb649a3978c4dbeb599cc0982921c"), looks := false }, kinds := [], alts := [], laidByText := true, laidKinds := [.data], laidTests := true, laidLooks := .later }
def JordanConstituentsCardSaid : Prop := Claim7.holds Tryd.pinned (.plain (OpenSpec.ofChange jordanConstituentsSpec)) jordanConstituentsCard

/-- THE TIED CARD OF 'quadformlaw24.JordanUnits'. -/
def jordanUnitsCard : Claim7 := { stood := { row := jordanUnitsRow, standIns := [], harness := (true, "218c57fd1732ddc985ac7d81bda0860bf16eb649a3978c4dbeb599cc0982921c"), looks := false }, kinds := [], alts := [], laidByText := true, laidKinds := [.data], laidTests := true, laidLooks := .later }
def JordanUnitsCardSaid : Prop := Claim7.holds Tryd.pinned (.plain (OpenSpec.ofChange jordanUnitsSpec)) jordanUnitsCard

/-- THE SECOND FORM's CARD OF 'quadformlaw34.LineLimits'. -/
def lineLimitsUptoCard : Claim7 := { stood := { row := lineLimitsUptoRow, standIns := [], harness := (true, "218c57fd1732ddc985ac7d81bda0860bf16eb649a3978c4dbeb599cc0982921c"), looks := false }, kinds := [], alts := [], laidByText := true, laidKinds := [.data], laidTests := true, laidLooks := .later }
def LineLimitsUptoCardSaid : Prop := Claim7.holds Tryd.pinned (.plain (OpenSpec.upto lineLimitsSpec)) lineLimitsUptoCard

/-- THE SECOND FORM's CARD OF 'quadformlaw25.DyadicConstituents'. -/
def dyadicConstituentsUptoCard : Claim7 := { stood := { row := dyadicConstituentsUptoRow, standIns := [], harness := (true, "218c57fd1732ddc985ac7d81bda0860bf16eb649a3978c4dbeb599cc0982921c"), looks := false }, kinds := [], alts := [], laidByText := true, laidKinds := [.data], laidTests := true, laidLooks := .later }
def DyadicConstituentsUptoCardSaid : Prop := Claim7.holds Tryd.pinned (.plain (OpenSpec.upto dyadicConstituentsSpec)) dyadicConstituentsUptoCard

/-- THE SECOND FORM's CARD OF 'quadformlaw25.DyadicBlocks'. -/
def dyadicBlocksUptoCard : Claim7 := { stood := { row := dyadicBlocksUptoRow, standIns := [], harness := (true, "218c57fd1732ddc985ac7d81bda0860bf16eb649a3978c4dbeb599cc0982921c"), looks := false }, kinds := [], alts := [], laidByText := true, laidKinds := [.data], laidTests := true, laidLooks := .later }
def DyadicBlocksUptoCardSaid : Prop := Claim7.holds Tryd.pinned (.plain (OpenSpec.upto dyadicBlocksSpec)) dyadicBlocksUptoCard

/-- THE SECOND FORM's CARD OF 'quadformlaw24.JordanConstituents'. -/
def jordanConstituentsUptoCard : Claim7 := { stood := { row := jordanConstituentsUptoRow, standIns := [], harness := (true, "218c57fd1732ddc985ac7d81bda0860bf16eb649a3978c4dbeb599cc0982921c"), looks := false }, kinds := [], alts := [], laidByText := true, laidKinds := [.data], laidTests := true, laidLooks := .later }
def JordanConstituentsUptoCardSaid : Prop := Claim7.holds Tryd.pinned (.plain (OpenSpec.upto jordanConstituentsSpec)) jordanConstituentsUptoCard

/-- THE SECOND FORM's CARD OF 'quadformlaw24.JordanUnits'. -/
def jordanUnitsUptoCard : Claim7 := { stood := { row := jordanUnitsUptoRow, standIns := [], harness := (true, "218c57fd1732ddc985ac7d81bda0860bf16eb649a3978c4dbeb599cc0982921c"), looks := false }, kinds := [], alts := [], laidByText := true, laidKinds := [.data], laidTests := true, laidLooks := .later }
def JordanUnitsUptoCardSaid : Prop := Claim7.holds Tryd.pinned (.plain (OpenSpec.upto jordanUnitsSpec)) jordanUnitsUptoCard
end Rows
end Go.Proofs.YtccgaemmdikhcaaDoor
