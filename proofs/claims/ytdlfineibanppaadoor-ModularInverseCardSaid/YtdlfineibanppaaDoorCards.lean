/-
  DERIVED. GIVEN WITH THE SEED: THE CARDS: each row of YtdlfineibanppaaDoorRows.lean that lists a variable, with what it lists TIED to the program's text (the seventh form; the later family's looks); each row that meets fmt, with fmt's text TOLD by the authors' own Lean function (tested against real Go, not proved from fmt's source: count such statements apart). THE CARD IS WHAT COUNTS. Prove the row's statement (the work); the ties are given (YtdlfineibanppaaDoorTie.lean); close each card by the builder's one call (the guide's Derived/Test/ToyasCard.lean, 'card_holds'). Laid BY PROGRAM, IN A SANDBOX (cutbox-door.mjs). By AI agents, Wed Nov 11 2026. No macro, syntax, notation, axiom, sorry.
-/
import Derived.Test.YtdlfineibanppaaDoorRows
import GoSem.ClaimSeven
namespace Go.Proofs.YtdlfineibanppaaDoor
namespace Rows

/-- THE TIED CARD OF 'quadformlaw23.ModularKernel'. -/
def modularKernelCard : Claim7 := { stood := { row := modularKernelRow, standIns := [], harness := (true, "cec05a74405070405fa77ea70bec7f01cedbce17a59cdaaad5245d590b4326d8"), looks := false }, kinds := [], alts := [], laidByText := true, laidKinds := [.data], laidTests := true, laidLooks := .later }
def ModularKernelCardSaid : Prop := Claim7.holds Tryd.pinned (.plain (OpenSpec.ofChange modularKernelSpec)) modularKernelCard

/-- THE TIED CARD OF 'quadformlaw23.ModularInverse'. -/
def modularInverseCard : Claim7 := { stood := { row := modularInverseRow, standIns := [], harness := (true, "cec05a74405070405fa77ea70bec7f01cedbce17a59cdaaad5245d590b4326d8"), looks := false }, kinds := [], alts := [], laidByText := true, laidKinds := [.data], laidTests := true, laidLooks := .later }
def ModularInverseCardSaid : Prop := Claim7.holds Tryd.pinned (.plain (OpenSpec.ofChange modularInverseSpec)) modularInverseCard

/-- THE TIED CARD OF 'quadformlaw23.ModularEchelon'. -/
def modularEchelonCard : Claim7 := { stood := { row := modularEchelonRow, standIns := [], harness := (true, "cec05a74405070405fa77ea70bec7f01cedbce17a59cdaaad5245d590b4326d8"), looks := false }, kinds := [], alts := [], laidByText := true, laidKinds := [.data], laidTests := true, laidLooks := .later }
def ModularEchelonCardSaid : Prop := Claim7.holds Tryd.pinned (.plain (OpenSpec.ofChange modularEchelonSpec)) modularEchelonCard

/-- THE TIED CARD OF 'quadformlaw23.ModularResidues'. -/
def modularResiduesCard : Claim7 := { stood := { row := modularResiduesRow, standIns := [], harness := (true, "cec05a74405070405fa77ea70bec7f01cedbce17a59cdaaad5245d590b4326d8"), looks := false }, kinds := [], alts := [], laidByText := true, laidKinds := [.data], laidTests := true, laidLooks := .later }
def ModularResiduesCardSaid : Prop := Claim7.holds Tryd.pinned (.plain (OpenSpec.ofChange modularResiduesSpec)) modularResiduesCard

/-- THE TIED CARD OF 'quadformlaw23.ModularDet'. -/
def modularDetCard : Claim7 := { stood := { row := modularDetRow, standIns := [], harness := (true, "cec05a74405070405fa77ea70bec7f01cedbce17a59cdaaad5245d590b4326d8"), looks := false }, kinds := [], alts := [], laidByText := true, laidKinds := [.data], laidTests := true, laidLooks := .later }
def ModularDetCardSaid : Prop := Claim7.holds Tryd.pinned (.plain (OpenSpec.ofChange modularDetSpec)) modularDetCard

/-- THE TIED CARD OF 'quadformlaw23.ModularMul'. -/
def modularMulCard : Claim7 := { stood := { row := modularMulRow, standIns := [], harness := (true, "cec05a74405070405fa77ea70bec7f01cedbce17a59cdaaad5245d590b4326d8"), looks := false }, kinds := [], alts := [], laidByText := true, laidKinds := [.data], laidTests := true, laidLooks := .later }
def ModularMulCardSaid : Prop := Claim7.holds Tryd.pinned (.plain (OpenSpec.ofChange modularMulSpec)) modularMulCard

/-- THE TIED CARD OF 'quadformlaw23.ModularSpaces'. -/
def modularSpacesCard : Claim7 := { stood := { row := modularSpacesRow, standIns := [], harness := (true, "cec05a74405070405fa77ea70bec7f01cedbce17a59cdaaad5245d590b4326d8"), looks := false }, kinds := [], alts := [], laidByText := true, laidKinds := [.data], laidTests := true, laidLooks := .later }
def ModularSpacesCardSaid : Prop := Claim7.holds Tryd.pinned (.plain (OpenSpec.ofChange modularSpacesSpec)) modularSpacesCard

/-- THE TIED CARD OF 'quadformlaw23.ModularInverts'. -/
def modularInvertsCard : Claim7 := { stood := { row := modularInvertsRow, standIns := [], harness := (true, "cec05a74405070405fa77ea70bec7f01cedbce17a59cdaaad5245d590b4326d8"), looks := false }, kinds := [], alts := [], laidByText := true, laidKinds := [.data], laidTests := true, laidLooks := .later }
def ModularInvertsCardSaid : Prop := Claim7.holds Tryd.pinned (.plain (OpenSpec.ofChange modularInvertsSpec)) modularInvertsCard

/-- THE TIED CARD OF 'quadformlaw23.ModularSolves'. -/
def modularSolvesCard : Claim7 := { stood := { row := modularSolvesRow, standIns := [], harness := (true, "cec05a74405070405fa77ea70bec7f01cedbce17a59cdaaad5245d590b4326d8"), looks := false }, kinds := [], alts := [], laidByText := true, laidKinds := [.data], laidTests := true, laidLooks := .later }
def ModularSolvesCardSaid : Prop := Claim7.holds Tryd.pinned (.plain (OpenSpec.ofChange modularSolvesSpec)) modularSolvesCard

/-- THE TIED CARD OF 'quadformlaw23.ModularCongruence'. -/
def modularCongruenceCard : Claim7 := { stood := { row := modularCongruenceRow, standIns := [], harness := (true, "cec05a74405070405fa77ea70bec7f01cedbce17a59cdaaad5245d590b4326d8"), looks := false }, kinds := [], alts := [], laidByText := true, laidKinds := [.data], laidTests := true, laidLooks := .later }
def ModularCongruenceCardSaid : Prop := Claim7.holds Tryd.pinned (.plain (OpenSpec.ofChange modularCongruenceSpec)) modularCongruenceCard

/-- THE TIED CARD OF 'quadformlaw23.ModularKeeps'. -/
def modularKeepsCard : Claim7 := { stood := { row := modularKeepsRow, standIns := [], harness := (true, "cec05a74405070405fa77ea70bec7f01cedbce17a59cdaaad5245d590b4326d8"), looks := false }, kinds := [], alts := [], laidByText := true, laidKinds := [.data], laidTests := true, laidLooks := .later }
def ModularKeepsCardSaid : Prop := Claim7.holds Tryd.pinned (.plain (OpenSpec.ofChange modularKeepsSpec)) modularKeepsCard

/-- THE TIED CARD OF 'quadformlaw23.ModularDetProduct'. -/
def modularDetProductCard : Claim7 := { stood := { row := modularDetProductRow, standIns := [], harness := (true, "cec05a74405070405fa77ea70bec7f01cedbce17a59cdaaad5245d590b4326d8"), looks := false }, kinds := [], alts := [], laidByText := true, laidKinds := [.data], laidTests := true, laidLooks := .later }
def ModularDetProductCardSaid : Prop := Claim7.holds Tryd.pinned (.plain (OpenSpec.ofChange modularDetProductSpec)) modularDetProductCard

/-- THE SECOND FORM's CARD OF 'quadformlaw23.ModularKernel'. -/
def modularKernelUptoCard : Claim7 := { stood := { row := modularKernelUptoRow, standIns := [], harness := (true, "cec05a74405070405fa77ea70bec7f01cedbce17a59cdaaad5245d590b4326d8"), looks := false }, kinds := [], alts := [], laidByText := true, laidKinds := [.data], laidTests := true, laidLooks := .later }
def ModularKernelUptoCardSaid : Prop := Claim7.holds Tryd.pinned (.plain (OpenSpec.upto modularKernelSpec)) modularKernelUptoCard

/-- THE SECOND FORM's CARD OF 'quadformlaw23.ModularInverse'. -/
def modularInverseUptoCard : Claim7 := { stood := { row := modularInverseUptoRow, standIns := [], harness := (true, "cec05a74405070405fa77ea70bec7f01cedbce17a59cdaaad5245d590b4326d8"), looks := false }, kinds := [], alts := [], laidByText := true, laidKinds := [.data], laidTests := true, laidLooks := .later }
def ModularInverseUptoCardSaid : Prop := Claim7.holds Tryd.pinned (.plain (OpenSpec.upto modularInverseSpec)) modularInverseUptoCard

/-- THE SECOND FORM's CARD OF 'quadformlaw23.ModularEchelon'. -/
def modularEchelonUptoCard : Claim7 := { stood := { row := modularEchelonUptoRow, standIns := [], harness := (true, "cec05a74405070405fa77ea70bec7f01cedbce17a59cdaaad5245d590b4326d8"), looks := false }, kinds := [], alts := [], laidByText := true, laidKinds := [.data], laidTests := true, laidLooks := .later }
def ModularEchelonUptoCardSaid : Prop := Claim7.holds Tryd.pinned (.plain (OpenSpec.upto modularEchelonSpec)) modularEchelonUptoCard

/-- THE SECOND FORM's CARD OF 'quadformlaw23.ModularResidues'. -/
def modularResiduesUptoCard : Claim7 := { stood := { row := modularResiduesUptoRow, standIns := [], harness := (true, "cec05a74405070405fa77ea70bec7f01cedbce17a59cdaaad5245d590b4326d8"), looks := false }, kinds := [], alts := [], laidByText := true, laidKinds := [.data], laidTests := true, laidLooks := .later }
def ModularResiduesUptoCardSaid : Prop := Claim7.holds Tryd.pinned (.plain (OpenSpec.upto modularResiduesSpec)) modularResiduesUptoCard

/-- THE SECOND FORM's CARD OF 'quadformlaw23.ModularDet'. -/
def modularDetUptoCard : Claim7 := { stood := { row := modularDetUptoRow, standIns := [], harness := (true, "cec05a74405070405fa77ea70bec7f01cedbce17a59cdaaad5245d590b4326d8"), looks := false }, kinds := [], alts := [], laidByText := true, laidKinds := [.data], laidTests := true, laidLooks := .later }
def ModularDetUptoCardSaid : Prop := Claim7.holds Tryd.pinned (.plain (OpenSpec.upto modularDetSpec)) modularDetUptoCard

/-- THE SECOND FORM's CARD OF 'quadformlaw23.ModularMul'. -/
def modularMulUptoCard : Claim7 := { stood := { row := modularMulUptoRow, standIns := [], harness := (true, "cec05a74405070405fa77ea70bec7f01cedbce17a59cdaaad5245d590b4326d8"), looks := false }, kinds := [], alts := [], laidByText := true, laidKinds := [.data], laidTests := true, laidLooks := .later }
def ModularMulUptoCardSaid : Prop := Claim7.holds Tryd.pinned (.plain (OpenSpec.upto modularMulSpec)) modularMulUptoCard

/-- THE SECOND FORM's CARD OF 'quadformlaw23.ModularSpaces'. -/
def modularSpacesUptoCard : Claim7 := { stood := { row := modularSpacesUptoRow, standIns := [], harness := (true, "cec05a74405070405fa77ea70bec7f01cedbce17a59cdaaad5245d590b4326d8"), looks := false }, kinds := [], alts := [], laidByText := true, laidKinds := [.data], laidTests := true, laidLooks := .later }
def ModularSpacesUptoCardSaid : Prop := Claim7.holds Tryd.pinned (.plain (OpenSpec.upto modularSpacesSpec)) modularSpacesUptoCard

/-- THE SECOND FORM's CARD OF 'quadformlaw23.ModularInverts'. -/
def modularInvertsUptoCard : Claim7 := { stood := { row := modularInvertsUptoRow, standIns := [], harness := (true, "cec05a74405070405fa77ea70bec7f01cedbce17a59cdaaad5245d590b4326d8"), looks := false }, kinds := [], alts := [], laidByText := true, laidKinds := [.data], laidTests := true, laidLooks := .later }
def ModularInvertsUptoCardSaid : Prop := Claim7.holds Tryd.pinned (.plain (OpenSpec.upto modularInvertsSpec)) modularInvertsUptoCard

/-- THE SECOND FORM's CARD OF 'quadformlaw23.ModularSolves'. -/
def modularSolvesUptoCard : Claim7 := { stood := { row := modularSolvesUptoRow, standIns := [], harness := (true, "cec05a74405070405fa77ea70bec7f01cedbce17a59cdaaad5245d590b4326d8"), looks := false }, kinds := [], alts := [], laidByText := true, laidKinds := [.data], laidTests := true, laidLooks := .later }
def ModularSolvesUptoCardSaid : Prop := Claim7.holds Tryd.pinned (.plain (OpenSpec.upto modularSolvesSpec)) modularSolvesUptoCard

/-- THE SECOND FORM's CARD OF 'quadformlaw23.ModularCongruence'. -/
def modularCongruenceUptoCard : Claim7 := { stood := { row := modularCongruenceUptoRow, standIns := [], harness := (true, "cec05a74405070405fa77ea70bec7f01cedbce17a59cdaaad5245d590b4326d8"), looks := false }, kinds := [], alts := [], laidByText := true, laidKinds := [.data], laidTests := true, laidLooks := .later }
def ModularCongruenceUptoCardSaid : Prop := Claim7.holds Tryd.pinned (.plain (OpenSpec.upto modularCongruenceSpec)) modularCongruenceUptoCard

/-- THE SECOND FORM's CARD OF 'quadformlaw23.ModularKeeps'. -/
def modularKeepsUptoCard : Claim7 := { stood := { row := modularKeepsUptoRow, standIns := [], harness := (true, "cec05a74405070405fa77ea70bec7f01cedbce17a59cdaaad5245d590b4326d8"), looks := false }, kinds := [], alts := [], laidByText := true, laidKinds := [.data], laidTests := true, laidLooks := .later }
def ModularKeepsUptoCardSaid : Prop := Claim7.holds Tryd.pinned (.plain (OpenSpec.upto modularKeepsSpec)) modularKeepsUptoCard

/-- THE SECOND FORM's CARD OF 'quadformlaw23.ModularDetProduct'. -/
def modularDetProductUptoCard : Claim7 := { stood := { row := modularDetProductUptoRow, standIns := [], harness := (true, "cec05a74405070405fa77ea70bec7f01cedbce17a59cdaaad5245d590b4326d8"), looks := false }, kinds := [], alts := [], laidByText := true, laidKinds := [.data], laidTests := true, laidLooks := .later }
def ModularDetProductUptoCardSaid : Prop := Claim7.holds Tryd.pinned (.plain (OpenSpec.upto modularDetProductSpec)) modularDetProductUptoCard
end Rows
end Go.Proofs.YtdlfineibanppaaDoor
