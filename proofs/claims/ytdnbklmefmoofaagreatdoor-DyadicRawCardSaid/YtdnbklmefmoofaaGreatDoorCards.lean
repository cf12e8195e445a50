/-
  DERIVED. GIVEN WITH THE SEED: THE CARDS: each row of YtdnbklmefmoofaaGreatDoorRows.lean that lists a variable, with what it lists TIED to the program's text (the seventh form; the later family's looks); each row that meets fmt, with fmt's text TOLD by the authors' own Lean function (tested against real Go, not proved from fmt's source: count such statements apart). THE CARD IS WHAT COUNTS. Prove the row's statement (the work); the ties are given (YtdnbklmefmoofaaGreatDoorTie.lean); close each card by the builder's one call (the guide's Derived/Test/ToyasCard.lean, 'card_holds'). Laid BY PROGRAM, IN A SANDBOX (cutbox-door.mjs). By AI agents, Wed Nov 11 2026. No macro, syntax, notation, axiom, sorry.
-/
import Derived.Test.YtdnbklmefmoofaaGreatDoorRows
import GoSem.ClaimSeven
namespace Go.Proofs.YtdnbklmefmoofaaGreatDoor
namespace Rows

/-- THE TIED CARD OF 'quadformlaw25.DyadicRaw'. -/
def dyadicRawCard : Claim7 := { stood := { row := dyadicRawRow, standIns := [], harness := (true, "18cbc78c9cc6badf78b4cb296fa7a5c220485fbd0f5113a5443d4b543d131239"), looks := false }, kinds := [], alts := [], laidByText := true, laidKinds := [.data], laidTests := true, laidLooks := .later }
def DyadicRawCardSaid : Prop := Claim7.holds Tryz.pinned (.plain (OpenSpec.ofChange dyadicRawSpec)) dyadicRawCard

/-- THE TIED CARD OF 'quadformlaw24.JordanRaw'. -/
def jordanRawCard : Claim7 := { stood := { row := jordanRawRow, standIns := [], harness := (true, "18cbc78c9cc6badf78b4cb296fa7a5c220485fbd0f5113a5443d4b543d131239"), looks := false }, kinds := [], alts := [], laidByText := true, laidKinds := [.data], laidTests := true, laidLooks := .later }
def JordanRawCardSaid : Prop := Claim7.holds Tryz.pinned (.plain (OpenSpec.ofChange jordanRawSpec)) jordanRawCard

/-- THE SECOND FORM's CARD OF 'quadformlaw25.DyadicRaw'. -/
def dyadicRawUptoCard : Claim7 := { stood := { row := dyadicRawUptoRow, standIns := [], harness := (true, "18cbc78c9cc6badf78b4cb296fa7a5c220485fbd0f5113a5443d4b543d131239"), looks := false }, kinds := [], alts := [], laidByText := true, laidKinds := [.data], laidTests := true, laidLooks := .later }
def DyadicRawUptoCardSaid : Prop := Claim7.holds Tryz.pinned (.plain (OpenSpec.upto dyadicRawSpec)) dyadicRawUptoCard

/-- THE SECOND FORM's CARD OF 'quadformlaw24.JordanRaw'. -/
def jordanRawUptoCard : Claim7 := { stood := { row := jordanRawUptoRow, standIns := [], harness := (true, "18cbc78c9cc6badf78b4cb296fa7a5c220485fbd0f5113a5443d4b543d131239"), looks := false }, kinds := [], alts := [], laidByText := true, laidKinds := [.data], laidTests := true, laidLooks := .later }
def JordanRawUptoCardSaid : Prop := Claim7.holds Tryz.pinned (.plain (OpenSpec.upto jordanRawSpec)) jordanRawUptoCard
end Rows
end Go.Proofs.YtdnbklmefmoofaaGreatDoor
