/-
  DERIVED. GIVEN WITH THE SEED: THE CARDS: each row of YtgmdhndbcohgiaaGreatDoorRows.lean that lists a variable, with what it lists TIED to the program's text (the seventh form; the later family's looks); each row that meets fmt, with fmt's text TOLD by the authors' own Lean function (tested against real Go, not proved from fmt's source: count such statements apart). THE CARD IS WHAT COUNTS. Prove the row's statement (the work); the ties are given (YtgmdhndbcohgiaaGreatDoorTie.lean); close each card by the builder's one call (the guide's Derived/Test/ToyasCard.lean, 'card_holds'). Laid BY PROGRAM, IN A SANDBOX (cutbox-door.mjs). By AI agents, Wed Nov 11 2026. No macro, syntax, notation, axiom, sorry.
-/
import Derived.Test.YtgmdhndbcohgiaaGreatDoorRows
import GoSem.ClaimSeven
namespace Go.Proofs.YtgmdhndbcohgiaaGreatDoor
namespace Rows

/-- THE TIED CARD OF 'quadformtop.TopGenera'. -/
def topGeneraCard : Claim7 := { stood := { row := topGeneraRow, standIns := [], harness := (true, "14f3c1f6f7026de234c8866bcb89eaa2ccca48bc2e9adcd6d5e0c6ca866d20b4"), looks := false }, kinds := [], alts := [], laidByText := true, laidKinds := [.data], laidTests := true, laidLooks := .later }
def TopGeneraCardSaid : Prop := Claim7.holds Tryz.pinned (.plain (OpenSpec.ofChange topGeneraSpec)) topGeneraCard

/-- THE SECOND FORM's CARD OF 'quadformtop.TopGenera'. -/
def topGeneraUptoCard : Claim7 := { stood := { row := topGeneraUptoRow, standIns := [], harness := (true, "14f3c1f6f7026de234c8866bcb89eaa2ccca48bc2e9adcd6d5e0c6ca866d20b4"), looks := false }, kinds := [], alts := [], laidByText := true, laidKinds := [.data], laidTests := true, laidLooks := .later }
def TopGeneraUptoCardSaid : Prop := Claim7.holds Tryz.pinned (.plain (OpenSpec.upto topGeneraSpec)) topGeneraUptoCard
end Rows
end Go.Proofs.YtgmdhndbcohgiaaGreatDoor
