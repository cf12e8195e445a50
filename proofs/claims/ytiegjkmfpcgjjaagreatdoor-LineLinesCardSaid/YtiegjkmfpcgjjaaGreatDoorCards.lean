/-
  DERIVED. GIVEN WITH THE SEED: THE CARDS: each row of YtiegjkmfpcgjjaaGreatDoorRows.lean that lists a variable, with what it lists TIED to the program's text (the seventh form; the later family's looks); each row that meets fmt, with fmt's text TOLD by the authors' own Lean function (tested against real Go, not proved from fmt's source: count such statements apart). THE CARD IS WHAT COUNTS. Prove the row's statement (the work); the ties are given (YtiegjkmfpcgjjaaGreatDoorTie.lean); close each card by the builder's one call (the guide's Derived/Test/ToyasCard.lean, 'card_holds'). Laid BY PROGRAM, IN A SANDBOX (cutbox-door.mjs). By AI agents, Wed Nov 11 2026. No macro, syntax, notation, axiom, sorry.
-/
import Derived.Test.YtiegjkmfpcgjjaaGreatDoorRows
import GoSem.ClaimSeven
namespace Go.Proofs.YtiegjkmfpcgjjaaGreatDoor
namespace Rows

/-- THE TIED CARD OF 'quadformlaw34.LineLift'. -/
def lineLiftCard : Claim7 := { stood := { row := lineLiftRow, standIns := [], harness := (true, "17d14c1bb88cdae91527a2b2f9a73cb6a5136306cedd5684093eb317d08554ea"), looks := false }, kinds := [], alts := [], laidByText := true, laidKinds := [.data], laidTests := true, laidLooks := .later }
def LineLiftCardSaid : Prop := Claim7.holds Tryz.pinned (.plain (OpenSpec.ofChange lineLiftSpec)) lineLiftCard

/-- THE TIED CARD OF 'quadformlaw34.LineLifts'. -/
def lineLiftsCard : Claim7 := { stood := { row := lineLiftsRow, standIns := [], harness := (true, "17d14c1bb88cdae91527a2b2f9a73cb6a5136306cedd5684093eb317d08554ea"), looks := false }, kinds := [], alts := [], laidByText := true, laidKinds := [.data], laidTests := true, laidLooks := .later }
def LineLiftsCardSaid : Prop := Claim7.holds Tryz.pinned (.plain (OpenSpec.ofChange lineLiftsSpec)) lineLiftsCard

/-- THE TIED CARD OF 'quadformlaw34.LineLines'. -/
def lineLinesCard : Claim7 := { stood := { row := lineLinesRow, standIns := [], harness := (true, "17d14c1bb88cdae91527a2b2f9a73cb6a5136306cedd5684093eb317d08554ea"), looks := false }, kinds := [], alts := [], laidByText := true, laidKinds := [.data], laidTests := true, laidLooks := .later }
def LineLinesCardSaid : Prop := Claim7.holds Tryz.pinned (.plain (OpenSpec.ofChange lineLinesSpec)) lineLinesCard

/-- THE TIED CARD OF 'quadformlaw34.LineIs'. -/
def lineIsCard : Claim7 := { stood := { row := lineIsRow, standIns := [], harness := (true, "17d14c1bb88cdae91527a2b2f9a73cb6a5136306cedd5684093eb317d08554ea"), looks := false }, kinds := [], alts := [], laidByText := true, laidKinds := [.data], laidTests := true, laidLooks := .later }
def LineIsCardSaid : Prop := Claim7.holds Tryz.pinned (.plain (OpenSpec.ofChange lineIsSpec)) lineIsCard

/-- THE TIED CARD OF 'quadformlaw34.LineScales'. -/
def lineScalesCard : Claim7 := { stood := { row := lineScalesRow, standIns := [], harness := (true, "17d14c1bb88cdae91527a2b2f9a73cb6a5136306cedd5684093eb317d08554ea"), looks := false }, kinds := [], alts := [], laidByText := true, laidKinds := [.data], laidTests := true, laidLooks := .later }
def LineScalesCardSaid : Prop := Claim7.holds Tryz.pinned (.plain (OpenSpec.ofChange lineScalesSpec)) lineScalesCard

/-- THE TIED CARD OF 'quadformlaw34.LineSorted'. -/
def lineSortedCard : Claim7 := { stood := { row := lineSortedRow, standIns := [], harness := (true, "17d14c1bb88cdae91527a2b2f9a73cb6a5136306cedd5684093eb317d08554ea"), looks := false }, kinds := [], alts := [], laidByText := true, laidKinds := [.data], laidTests := true, laidLooks := .later }
def LineSortedCardSaid : Prop := Claim7.holds Tryz.pinned (.plain (OpenSpec.ofChange lineSortedSpec)) lineSortedCard

/-- THE SECOND FORM's CARD OF 'quadformlaw34.LineLift'. -/
def lineLiftUptoCard : Claim7 := { stood := { row := lineLiftUptoRow, standIns := [], harness := (true, "17d14c1bb88cdae91527a2b2f9a73cb6a5136306cedd5684093eb317d08554ea"), looks := false }, kinds := [], alts := [], laidByText := true, laidKinds := [.data], laidTests := true, laidLooks := .later }
def LineLiftUptoCardSaid : Prop := Claim7.holds Tryz.pinned (.plain (OpenSpec.upto lineLiftSpec)) lineLiftUptoCard

/-- THE SECOND FORM's CARD OF 'quadformlaw34.LineLifts'. -/
def lineLiftsUptoCard : Claim7 := { stood := { row := lineLiftsUptoRow, standIns := [], harness := (true, "17d14c1bb88cdae91527a2b2f9a73cb6a5136306cedd5684093eb317d08554ea"), looks := false }, kinds := [], alts := [], laidByText := true, laidKinds := [.data], laidTests := true, laidLooks := .later }
def LineLiftsUptoCardSaid : Prop := Claim7.holds Tryz.pinned (.plain (OpenSpec.upto lineLiftsSpec)) lineLiftsUptoCard

/-- THE SECOND FORM's CARD OF 'quadformlaw34.LineLines'. -/
def lineLinesUptoCard : Claim7 := { stood := { row := lineLinesUptoRow, standIns := [], harness := (true, "17d14c1bb88cdae91527a2b2f9a73cb6a5136306cedd5684093eb317d08554ea"), looks := false }, kinds := [], alts := [], laidByText := true, laidKinds := [.data], laidTests := true, laidLooks := .later }
def LineLinesUptoCardSaid : Prop := Claim7.holds Tryz.pinned (.plain (OpenSpec.upto lineLinesSpec)) lineLinesUptoCard

/-- THE SECOND FORM's CARD OF 'quadformlaw34.LineIs'. -/
def lineIsUptoCard : Claim7 := { stood := { row := lineIsUptoRow, standIns := [], harness := (true, "17d14c1bb88cdae91527a2b2f9a73cb6a5136306cedd5684093eb317d08554ea"), looks := false }, kinds := [], alts := [], laidByText := true, laidKinds := [.data], laidTests := true, laidLooks := .later }
def LineIsUptoCardSaid : Prop := Claim7.holds Tryz.pinned (.plain (OpenSpec.upto lineIsSpec)) lineIsUptoCard

/-- THE SECOND FORM's CARD OF 'quadformlaw34.LineScales'. -/
def lineScalesUptoCard : Claim7 := { stood := { row := lineScalesUptoRow, standIns := [], harness := (true, "17d14c1bb88cdae91527a2b2f9a73cb6a5136306cedd5684093eb317d08554ea"), looks := false }, kinds := [], alts := [], laidByText := true, laidKinds := [.data], laidTests := true, laidLooks := .later }
def LineScalesUptoCardSaid : Prop := Claim7.holds Tryz.pinned (.plain (OpenSpec.upto lineScalesSpec)) lineScalesUptoCard

/-- THE SECOND FORM's CARD OF 'quadformlaw34.LineSorted'. -/
def lineSortedUptoCard : Claim7 := { stood := { row := lineSortedUptoRow, standIns := [], harness := (true, "17d14c1bb88cdae91527a2b2f9a73cb6a5136306cedd5684093eb317d08554ea"), looks := false }, kinds := [], alts := [], laidByText := true, laidKinds := [.data], laidTests := true, laidLooks := .later }
def LineSortedUptoCardSaid : Prop := Claim7.holds Tryz.pinned (.plain (OpenSpec.upto lineSortedSpec)) lineSortedUptoCard
end Rows
end Go.Proofs.YtiegjkmfpcgjjaaGreatDoor
