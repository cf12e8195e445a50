/-
  DERIVED. GIVEN WITH THE SEED: THE CARDS: each row of YtiegjkmfpcgjjaaDoorRows.lean that lists a variable, with what it lists TIED to the program's text (the seventh form; the later family's looks); each row that meets fmt, with fmt's text TOLD by the authors' own Lean function (tested against real Go, not proved from fmt's source: count such statements apart). THE CARD IS WHAT COUNTS. Prove the row's statement (the work); the ties are given (YtiegjkmfpcgjjaaDoorTie.lean); close each card by the builder's one call (the guide's Derived/Test/ToyasCard.lean, 'card_holds'). Laid BY PROGRAM, IN A SANDBOX (cutbox-door.mjs). By AI agents, Wed Nov 11 2026. No macro, syntax, notation, axiom, sorry.
-/
import Derived.Test.YtiegjkmfpcgjjaaDoorRows
import GoSem.ClaimSeven
namespace Go.Proofs.YtiegjkmfpcgjjaaDoor
namespace Rows

/-- THE TIED CARD OF 'quadformlaw34.LineLimits'. -/
def lineLimitsCard : Claim7 := { stood := { row := lineLimitsRow, standIns := [], harness := (true, "ba7cd3f556c19784a670d42f65d2d11b65b2277dc419b88a6adca6d1c5843a09"), looks := false }, kinds := [], alts := [], laidByText := true, laidKinds := [.data], laidTests := true, laidLooks := .later }
def LineLimitsCardSaid : Prop := Claim7.holds Tryd.pinned (.plain (OpenSpec.ofChange lineLimitsSpec)) lineLimitsCard

/-- THE SECOND FORM's CARD OF 'quadformlaw34.LineLimits'. -/
def lineLimitsUptoCard : Claim7 := { stood := { row := lineLimitsUptoRow, standIns := [], harness := (true, "ba7cd3f556c19784a670d42f65d2d11b65b2277dc419b88a6adca6d1c5843a09"), looks := false }, kinds := [], alts := [], laidByText := true, laidKinds := [.data], laidTests := true, laidLooks := .later }
def LineLimitsUptoCardSaid : Prop := Claim7.holds Tryd.pinned (.plain (OpenSpec.upto lineLimitsSpec)) lineLimitsUptoCard
end Rows
end Go.Proofs.YtiegjkmfpcgjjaaDoor
