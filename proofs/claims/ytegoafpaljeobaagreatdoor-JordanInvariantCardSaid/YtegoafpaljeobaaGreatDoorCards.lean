/-
  DERIVED. GIVEN WITH THE SEED: THE CARDS: each row of YtegoafpaljeobaaGreatDoorRows.lean that lists a variable, with what it lists TIED to the program's text (the seventh form; the later family's looks); each row that meets fmt, with fmt's text TOLD by the authors' own Lean function (tested against real Go, not proved from fmt's source: count such statements apart). THE CARD IS WHAT COUNTS. Prove the row's statement (the work); the ties are given (YtegoafpaljeobaaGreatDoorTie.lean); close each card by the builder's one call (the guide's Derived/Test/ToyasCard.lean, 'card_holds'). Laid BY PROGRAM, IN A SANDBOX (cutbox-door.mjs). By AI agents, Wed Nov 11 2026. No macro, syntax, notation, axiom, sorry.
-/
import Derived.Test.YtegoafpaljeobaaGreatDoorRows
import GoSem.ClaimSeven
namespace Go.Proofs.YtegoafpaljeobaaGreatDoor
namespace Rows

/-- THE TIED CARD OF 'quadformlaw24.JordanInvariant'. -/
def jordanInvariantCard : Claim7 := { stood := { row := jordanInvariantRow, standIns := [], harness := (true, "071750ec1c22cca10ed54010876627f8e467dd89e2ebcf74c428bd1661987bb6"), looks := false }, kinds := [], alts := [], laidByText := true, laidKinds := [.data], laidTests := true, laidLooks := .later }
def JordanInvariantCardSaid : Prop := Claim7.holds Tryz.pinned (.plain (OpenSpec.ofChange jordanInvariantSpec)) jordanInvariantCard

/-- THE SECOND FORM's CARD OF 'quadformlaw24.JordanInvariant'. -/
def jordanInvariantUptoCard : Claim7 := { stood := { row := jordanInvariantUptoRow, standIns := [], harness := (true, "071750ec1c22cca10ed54010876627f8e467dd89e2ebcf74c428bd1661987bb6"), looks := false }, kinds := [], alts := [], laidByText := true, laidKinds := [.data], laidTests := true, laidLooks := .later }
def JordanInvariantUptoCardSaid : Prop := Claim7.holds Tryz.pinned (.plain (OpenSpec.upto jordanInvariantSpec)) jordanInvariantUptoCard
end Rows
end Go.Proofs.YtegoafpaljeobaaGreatDoor
