/-
  NARROWER THAN 'FOR EVERY INPUT', by the rows' own cells (each row's printed sentence says how): ModularKernel: laid · ModularInverse: laid · ModularEchelon: laid · ModularResidues: laid · ModularDet: laid · ModularMul: laid · ModularSpaces: laid · ModularInverts: laid · ModularSolves: laid · ModularCongruence: laid · ModularKeeps: laid · ModularDetProduct: laid.
  DERIVED. THE GIVEN ROWS OF THIS SEAT. 12 by the template 'for every input the law returns true; each argument reads behind the call as it read before'; 0 by the template 'total and deterministic' (their statements: YtdlfineibanppaaDoorTotals.lean).
  GIVEN WITH THE SEED: the statements are not yours to turn. If you find one false, say at which input.
  Laid BY PROGRAM, IN A SANDBOX (cutbox-rows.mjs): the forced cells as the released guide's own fill.sh prints them over the translation 00a9228596907c00… (all of the seat's roots in one cut). By AI agents, Wed Nov 11 2026. No macro, syntax, notation, axiom, sorry.
-/
import Derived.Test.YtdlfineibanppaaDoorChecked
import GoSem.Claim
import GoSem.ClaimJoined
import GoSem.ClaimMapViews
import Derived.JoinedTies
import Derived.KernelRfl
namespace Go.Proofs.YtdlfineibanppaaDoor
/- THE CELL 'sum', in the pinned program and in every row, IS THE sha256 OF THE DUMP (.gsa) THAT YtdlfineibanppaaDoorProg.lean LOADS. Nothing in Lean hashes anything: it is a label: what it is worth is what the hold of that sum in a sandbox is worth. -/
noncomputable def Tryd.pinned : Pinned := { name := "ytdlfineibanppaadoor", sum := "00a9228596907c005a4517f569afbe4c87b7291ca97f177fadbb61a9b72531ae", checked := Tryd.checked }
namespace Rows
def none {H : Type} : Left H := { results := [], args := [] }

/- WHAT THE LISTED PACKAGE-LEVEL VARIABLES READ AS WHEN THE CALL BEGINS. Each datum BY PROGRAM (the guide's laid-datum.mjs) off the statement by which the dump's own 'gosem.cut.vars' lays the variable. In a bare row this is a premise. The card (YtdlfineibanppaaDoorCards.lean) ties it to the program's text. -/
def laid_quadform_prime_offsets {H : Type} : DataW H := .agg [.lit (.int .i64 7), .lit (.int .i64 11), .lit (.int .i64 13), .lit (.int .i64 17), .lit (.int .i64 19), .lit (.int .i64 23), .lit (.int .i64 29), .lit (.int .i64 31)]

/-- 'quadformlaw23.ModularKernel': WHATEVER THE INPUT: true; the input reads as it did. -/
def modularKernelSpec : ChangeSpec := { name := "modularKernel", fn := fun _ => fun
  | [d1, d2, d3, d4, d5, d6] => { results := [.lit (.bool true)], args := [d1, d2, d3, d4, d5, d6] }
  | _ => none }
def modularKernelRow : OpenClaim := { program := "ytdlfineibanppaadoor", sum := "00a9228596907c005a4517f569afbe4c87b7291ca97f177fadbb61a9b72531ae", func := "quadform/quadformlaw23.ModularKernel", spec := "modularKernel", unfollowed := true, recurses := true, named := ["quadform/prime.offsets"], apart := false, laid := [("quadform/prime.offsets", laid_quadform_prime_offsets)] }
def ModularKernelSaid : Prop := modularKernelRow.holds Tryd.pinned (OpenSpec.ofChange modularKernelSpec)

/-- ITS FALSE NEIGHBOUR: 'it returns false'. Refute it at one input. -/
def modularKernelWrong : ChangeSpec := { name := "modularKernel", fn := fun _ => fun
  | [d1, d2, d3, d4, d5, d6] => { results := [.lit (.bool false)], args := [d1, d2, d3, d4, d5, d6] }
  | _ => none }
def ModularKernelWrongFalsely : Prop := modularKernelRow.holds Tryd.pinned (OpenSpec.ofChange modularKernelWrong)

/-- 'quadformlaw23.ModularInverse': WHATEVER THE INPUT: true; the input reads as it did. -/
def modularInverseSpec : ChangeSpec := { name := "modularInverse", fn := fun _ => fun
  | [d1, d2, d3, d4, d5, d6] => { results := [.lit (.bool true)], args := [d1, d2, d3, d4, d5, d6] }
  | _ => none }
def modularInverseRow : OpenClaim := { program := "ytdlfineibanppaadoor", sum := "00a9228596907c005a4517f569afbe4c87b7291ca97f177fadbb61a9b72531ae", func := "quadform/quadformlaw23.ModularInverse", spec := "modularInverse", unfollowed := true, recurses := true, named := ["quadform/prime.offsets"], apart := false, laid := [("quadform/prime.offsets", laid_quadform_prime_offsets)] }
def ModularInverseSaid : Prop := modularInverseRow.holds Tryd.pinned (OpenSpec.ofChange modularInverseSpec)

/-- ITS FALSE NEIGHBOUR: 'it returns false'. Refute it at one input. -/
def modularInverseWrong : ChangeSpec := { name := "modularInverse", fn := fun _ => fun
  | [d1, d2, d3, d4, d5, d6] => { results := [.lit (.bool false)], args := [d1, d2, d3, d4, d5, d6] }
  | _ => none }
def ModularInverseWrongFalsely : Prop := modularInverseRow.holds Tryd.pinned (OpenSpec.ofChange modularInverseWrong)

/-- 'quadformlaw23.ModularEchelon': WHATEVER THE INPUT: true; the input reads as it did. -/
def modularEchelonSpec : ChangeSpec := { name := "modularEchelon", fn := fun _ => fun
  | [d1, d2, d3, d4, d5, d6] => { results := [.lit (.bool true)], args := [d1, d2, d3, d4, d5, d6] }
  | _ => none }
def modularEchelonRow : OpenClaim := { program := "ytdlfineibanppaadoor", sum := "00a9228596907c005a4517f569afbe4c87b7291ca97f177fadbb61a9b72531ae", func := "quadform/quadformlaw23.ModularEchelon", spec := "modularEchelon", unfollowed := true, recurses := true, named := ["quadform/prime.offsets"], apart := false, laid := [("quadform/prime.offsets", laid_quadform_prime_offsets)] }
def ModularEchelonSaid : Prop := modularEchelonRow.holds Tryd.pinned (OpenSpec.ofChange modularEchelonSpec)

/-- ITS FALSE NEIGHBOUR: 'it returns false'. Refute it at one input. -/
def modularEchelonWrong : ChangeSpec := { name := "modularEchelon", fn := fun _ => fun
  | [d1, d2, d3, d4, d5, d6] => { results := [.lit (.bool false)], args := [d1, d2, d3, d4, d5, d6] }
  | _ => none }
def ModularEchelonWrongFalsely : Prop := modularEchelonRow.holds Tryd.pinned (OpenSpec.ofChange modularEchelonWrong)

/-- 'quadformlaw23.ModularResidues': WHATEVER THE INPUT: true; the input reads as it did. -/
def modularResiduesSpec : ChangeSpec := { name := "modularResidues", fn := fun _ => fun
  | [d1, d2, d3, d4] => { results := [.lit (.bool true)], args := [d1, d2, d3, d4] }
  | _ => none }
def modularResiduesRow : OpenClaim := { program := "ytdlfineibanppaadoor", sum := "00a9228596907c005a4517f569afbe4c87b7291ca97f177fadbb61a9b72531ae", func := "quadform/quadformlaw23.ModularResidues", spec := "modularResidues", unfollowed := true, recurses := true, named := ["quadform/prime.offsets"], apart := false, laid := [("quadform/prime.offsets", laid_quadform_prime_offsets)] }
def ModularResiduesSaid : Prop := modularResiduesRow.holds Tryd.pinned (OpenSpec.ofChange modularResiduesSpec)

/-- ITS FALSE NEIGHBOUR: 'it returns false'. Refute it at one input. -/
def modularResiduesWrong : ChangeSpec := { name := "modularResidues", fn := fun _ => fun
  | [d1, d2, d3, d4] => { results := [.lit (.bool false)], args := [d1, d2, d3, d4] }
  | _ => none }
def ModularResiduesWrongFalsely : Prop := modularResiduesRow.holds Tryd.pinned (OpenSpec.ofChange modularResiduesWrong)

/-- 'quadformlaw23.ModularDet': WHATEVER THE INPUT: true; the input reads as it did. -/
def modularDetSpec : ChangeSpec := { name := "modularDet", fn := fun _ => fun
  | [d1, d2, d3, d4, d5, d6] => { results := [.lit (.bool true)], args := [d1, d2, d3, d4, d5, d6] }
  | _ => none }
def modularDetRow : OpenClaim := { program := "ytdlfineibanppaadoor", sum := "00a9228596907c005a4517f569afbe4c87b7291ca97f177fadbb61a9b72531ae", func := "quadform/quadformlaw23.ModularDet", spec := "modularDet", unfollowed := true, recurses := true, named := ["quadform/prime.offsets"], apart := false, laid := [("quadform/prime.offsets", laid_quadform_prime_offsets)] }
def ModularDetSaid : Prop := modularDetRow.holds Tryd.pinned (OpenSpec.ofChange modularDetSpec)

/-- ITS FALSE NEIGHBOUR: 'it returns false'. Refute it at one input. -/
def modularDetWrong : ChangeSpec := { name := "modularDet", fn := fun _ => fun
  | [d1, d2, d3, d4, d5, d6] => { results := [.lit (.bool false)], args := [d1, d2, d3, d4, d5, d6] }
  | _ => none }
def ModularDetWrongFalsely : Prop := modularDetRow.holds Tryd.pinned (OpenSpec.ofChange modularDetWrong)

/-- 'quadformlaw23.ModularMul': WHATEVER THE INPUT: true; the input reads as it did. -/
def modularMulSpec : ChangeSpec := { name := "modularMul", fn := fun _ => fun
  | [d1, d2, d3, d4, d5, d6, d7, d8] => { results := [.lit (.bool true)], args := [d1, d2, d3, d4, d5, d6, d7, d8] }
  | _ => none }
def modularMulRow : OpenClaim := { program := "ytdlfineibanppaadoor", sum := "00a9228596907c005a4517f569afbe4c87b7291ca97f177fadbb61a9b72531ae", func := "quadform/quadformlaw23.ModularMul", spec := "modularMul", unfollowed := true, recurses := true, named := ["quadform/prime.offsets"], apart := false, laid := [("quadform/prime.offsets", laid_quadform_prime_offsets)] }
def ModularMulSaid : Prop := modularMulRow.holds Tryd.pinned (OpenSpec.ofChange modularMulSpec)

/-- ITS FALSE NEIGHBOUR: 'it returns false'. Refute it at one input. -/
def modularMulWrong : ChangeSpec := { name := "modularMul", fn := fun _ => fun
  | [d1, d2, d3, d4, d5, d6, d7, d8] => { results := [.lit (.bool false)], args := [d1, d2, d3, d4, d5, d6, d7, d8] }
  | _ => none }
def ModularMulWrongFalsely : Prop := modularMulRow.holds Tryd.pinned (OpenSpec.ofChange modularMulWrong)

/-- 'quadformlaw23.ModularSpaces': WHATEVER THE INPUT: true; the input reads as it did. -/
def modularSpacesSpec : ChangeSpec := { name := "modularSpaces", fn := fun _ => fun
  | [d1, d2, d3] => { results := [.lit (.bool true)], args := [d1, d2, d3] }
  | _ => none }
def modularSpacesRow : OpenClaim := { program := "ytdlfineibanppaadoor", sum := "00a9228596907c005a4517f569afbe4c87b7291ca97f177fadbb61a9b72531ae", func := "quadform/quadformlaw23.ModularSpaces", spec := "modularSpaces", unfollowed := true, recurses := true, named := ["quadform/prime.offsets"], apart := false, laid := [("quadform/prime.offsets", laid_quadform_prime_offsets)] }
def ModularSpacesSaid : Prop := modularSpacesRow.holds Tryd.pinned (OpenSpec.ofChange modularSpacesSpec)

/-- ITS FALSE NEIGHBOUR: 'it returns false'. Refute it at one input. -/
def modularSpacesWrong : ChangeSpec := { name := "modularSpaces", fn := fun _ => fun
  | [d1, d2, d3] => { results := [.lit (.bool false)], args := [d1, d2, d3] }
  | _ => none }
def ModularSpacesWrongFalsely : Prop := modularSpacesRow.holds Tryd.pinned (OpenSpec.ofChange modularSpacesWrong)

/-- 'quadformlaw23.ModularInverts': WHATEVER THE INPUT: true; the input reads as it did. -/
def modularInvertsSpec : ChangeSpec := { name := "modularInverts", fn := fun _ => fun
  | [d1, d2, d3, d4] => { results := [.lit (.bool true)], args := [d1, d2, d3, d4] }
  | _ => none }
def modularInvertsRow : OpenClaim := { program := "ytdlfineibanppaadoor", sum := "00a9228596907c005a4517f569afbe4c87b7291ca97f177fadbb61a9b72531ae", func := "quadform/quadformlaw23.ModularInverts", spec := "modularInverts", unfollowed := true, recurses := true, named := ["quadform/prime.offsets"], apart := false, laid := [("quadform/prime.offsets", laid_quadform_prime_offsets)] }
def ModularInvertsSaid : Prop := modularInvertsRow.holds Tryd.pinned (OpenSpec.ofChange modularInvertsSpec)

/-- ITS FALSE NEIGHBOUR: 'it returns false'. Refute it at one input. -/
def modularInvertsWrong : ChangeSpec := { name := "modularInverts", fn := fun _ => fun
  | [d1, d2, d3, d4] => { results := [.lit (.bool false)], args := [d1, d2, d3, d4] }
  | _ => none }
def ModularInvertsWrongFalsely : Prop := modularInvertsRow.holds Tryd.pinned (OpenSpec.ofChange modularInvertsWrong)

/-- 'quadformlaw23.ModularSolves': WHATEVER THE INPUT: true; the input reads as it did. -/
def modularSolvesSpec : ChangeSpec := { name := "modularSolves", fn := fun _ => fun
  | [d1, d2] => { results := [.lit (.bool true)], args := [d1, d2] }
  | _ => none }
def modularSolvesRow : OpenClaim := { program := "ytdlfineibanppaadoor", sum := "00a9228596907c005a4517f569afbe4c87b7291ca97f177fadbb61a9b72531ae", func := "quadform/quadformlaw23.ModularSolves", spec := "modularSolves", unfollowed := true, recurses := true, named := ["quadform/prime.offsets"], apart := false, laid := [("quadform/prime.offsets", laid_quadform_prime_offsets)] }
def ModularSolvesSaid : Prop := modularSolvesRow.holds Tryd.pinned (OpenSpec.ofChange modularSolvesSpec)

/-- ITS FALSE NEIGHBOUR: 'it returns false'. Refute it at one input. -/
def modularSolvesWrong : ChangeSpec := { name := "modularSolves", fn := fun _ => fun
  | [d1, d2] => { results := [.lit (.bool false)], args := [d1, d2] }
  | _ => none }
def ModularSolvesWrongFalsely : Prop := modularSolvesRow.holds Tryd.pinned (OpenSpec.ofChange modularSolvesWrong)

/-- 'quadformlaw23.ModularCongruence': WHATEVER THE INPUT: true; the input reads as it did. -/
def modularCongruenceSpec : ChangeSpec := { name := "modularCongruence", fn := fun _ => fun
  | [d1, d2, d3, d4, d5, d6, d7, d8] => { results := [.lit (.bool true)], args := [d1, d2, d3, d4, d5, d6, d7, d8] }
  | _ => none }
def modularCongruenceRow : OpenClaim := { program := "ytdlfineibanppaadoor", sum := "00a9228596907c005a4517f569afbe4c87b7291ca97f177fadbb61a9b72531ae", func := "quadform/quadformlaw23.ModularCongruence", spec := "modularCongruence", unfollowed := true, recurses := true, named := ["quadform/prime.offsets"], apart := false, laid := [("quadform/prime.offsets", laid_quadform_prime_offsets)] }
def ModularCongruenceSaid : Prop := modularCongruenceRow.holds Tryd.pinned (OpenSpec.ofChange modularCongruenceSpec)

/-- ITS FALSE NEIGHBOUR: 'it returns false'. Refute it at one input. -/
def modularCongruenceWrong : ChangeSpec := { name := "modularCongruence", fn := fun _ => fun
  | [d1, d2, d3, d4, d5, d6, d7, d8] => { results := [.lit (.bool false)], args := [d1, d2, d3, d4, d5, d6, d7, d8] }
  | _ => none }
def ModularCongruenceWrongFalsely : Prop := modularCongruenceRow.holds Tryd.pinned (OpenSpec.ofChange modularCongruenceWrong)

/-- 'quadformlaw23.ModularKeeps': WHATEVER THE INPUT: true; the input reads as it did. -/
def modularKeepsSpec : ChangeSpec := { name := "modularKeeps", fn := fun _ => fun
  | [d1, d2] => { results := [.lit (.bool true)], args := [d1, d2] }
  | _ => none }
def modularKeepsRow : OpenClaim := { program := "ytdlfineibanppaadoor", sum := "00a9228596907c005a4517f569afbe4c87b7291ca97f177fadbb61a9b72531ae", func := "quadform/quadformlaw23.ModularKeeps", spec := "modularKeeps", unfollowed := true, recurses := true, named := ["quadform/prime.offsets"], apart := false, laid := [("quadform/prime.offsets", laid_quadform_prime_offsets)] }
def ModularKeepsSaid : Prop := modularKeepsRow.holds Tryd.pinned (OpenSpec.ofChange modularKeepsSpec)

/-- ITS FALSE NEIGHBOUR: 'it returns false'. Refute it at one input. -/
def modularKeepsWrong : ChangeSpec := { name := "modularKeeps", fn := fun _ => fun
  | [d1, d2] => { results := [.lit (.bool false)], args := [d1, d2] }
  | _ => none }
def ModularKeepsWrongFalsely : Prop := modularKeepsRow.holds Tryd.pinned (OpenSpec.ofChange modularKeepsWrong)

/-- 'quadformlaw23.ModularDetProduct': WHATEVER THE INPUT: true; the input reads as it did. -/
def modularDetProductSpec : ChangeSpec := { name := "modularDetProduct", fn := fun _ => fun
  | [d1, d2, d3] => { results := [.lit (.bool true)], args := [d1, d2, d3] }
  | _ => none }
def modularDetProductRow : OpenClaim := { program := "ytdlfineibanppaadoor", sum := "00a9228596907c005a4517f569afbe4c87b7291ca97f177fadbb61a9b72531ae", func := "quadform/quadformlaw23.ModularDetProduct", spec := "modularDetProduct", unfollowed := true, recurses := true, named := ["quadform/prime.offsets"], apart := false, laid := [("quadform/prime.offsets", laid_quadform_prime_offsets)] }
def ModularDetProductSaid : Prop := modularDetProductRow.holds Tryd.pinned (OpenSpec.ofChange modularDetProductSpec)

/-- ITS FALSE NEIGHBOUR: 'it returns false'. Refute it at one input. -/
def modularDetProductWrong : ChangeSpec := { name := "modularDetProduct", fn := fun _ => fun
  | [d1, d2, d3] => { results := [.lit (.bool false)], args := [d1, d2, d3] }
  | _ => none }
def ModularDetProductWrongFalsely : Prop := modularDetProductRow.holds Tryd.pinned (OpenSpec.ofChange modularDetProductWrong)

/- THE SECOND FORM. 'bulk': how many values and letters a reading holds, each counted each time it is reached (what is shared counts as often as it is met; a slice's spare places count too). A statement '..UptoSaid' is the law's where the arguments, and the package variables that the reading takes, are together of bulk at most 1048576: NARROWER than '..Said'. Prove '..Said' where nothing that the law and all that it calls make is longer than what came in: it says more and counts as full. Else prove '..UptoSaid'. A law counts once. -/
mutual
def uptoBulk {H : Type} : DataW H → Nat
  | .lit (.string bytes) => bytes.length + 1
  | .lit _ => 1
  | .nil => 1
  | .ptr d => uptoBulk d + 1
  | .slice elems spare => uptoBulkAll elems + uptoBulkAll spare + 1
  | .agg parts => uptoBulkAll parts + 1
  | .iface _ d => uptoBulk d + 1
  | .map entries => uptoBulkEntries entries + 1
  | .held _ => 1
def uptoBulkAll {H : Type} : List (DataW H) → Nat
  | [] => 0
  | d :: r => uptoBulk d + uptoBulkAll r
def uptoBulkEntries {H : Type} : List (Lit × DataW H) → Nat
  | [] => 0
  | x :: r => uptoBulkEntry x + uptoBulkEntries r
def uptoBulkEntry {H : Type} : Lit × DataW H → Nat
  | (.string bytes, d) => bytes.length + uptoBulk d + 1
  | (_, d) => uptoBulk d + 1
 end
def uptoSmall : (H : Type) → List (DataW H) → Bool := fun _ ds => decide (uptoBulkAll ds ≤ 1048576)
def OpenSpec.upto (s : _root_.Go.ChangeSpec) : _root_.Go.OpenSpec := { _root_.Go.OpenSpec.ofChange s with cond := some uptoSmall }

/-- 'quadformlaw23.ModularKernel', WHERE WHAT IT READS IS OF BULK AT MOST 1048576: true; the input reads as it did. -/
def modularKernelUptoRow : OpenClaim := { program := "ytdlfineibanppaadoor", sum := "00a9228596907c005a4517f569afbe4c87b7291ca97f177fadbb61a9b72531ae", func := "quadform/quadformlaw23.ModularKernel", spec := "modularKernel", unfollowed := true, recurses := true, named := ["quadform/prime.offsets"], apart := false, laid := [("quadform/prime.offsets", laid_quadform_prime_offsets)], narrowed := true }
def ModularKernelUptoSaid : Prop := modularKernelUptoRow.holds Tryd.pinned (OpenSpec.upto modularKernelSpec)

/-- 'quadformlaw23.ModularInverse', WHERE WHAT IT READS IS OF BULK AT MOST 1048576: true; the input reads as it did. -/
def modularInverseUptoRow : OpenClaim := { program := "ytdlfineibanppaadoor", sum := "00a9228596907c005a4517f569afbe4c87b7291ca97f177fadbb61a9b72531ae", func := "quadform/quadformlaw23.ModularInverse", spec := "modularInverse", unfollowed := true, recurses := true, named := ["quadform/prime.offsets"], apart := false, laid := [("quadform/prime.offsets", laid_quadform_prime_offsets)], narrowed := true }
def ModularInverseUptoSaid : Prop := modularInverseUptoRow.holds Tryd.pinned (OpenSpec.upto modularInverseSpec)

/-- 'quadformlaw23.ModularEchelon', WHERE WHAT IT READS IS OF BULK AT MOST 1048576: true; the input reads as it did. -/
def modularEchelonUptoRow : OpenClaim := { program := "ytdlfineibanppaadoor", sum := "00a9228596907c005a4517f569afbe4c87b7291ca97f177fadbb61a9b72531ae", func := "quadform/quadformlaw23.ModularEchelon", spec := "modularEchelon", unfollowed := true, recurses := true, named := ["quadform/prime.offsets"], apart := false, laid := [("quadform/prime.offsets", laid_quadform_prime_offsets)], narrowed := true }
def ModularEchelonUptoSaid : Prop := modularEchelonUptoRow.holds Tryd.pinned (OpenSpec.upto modularEchelonSpec)

/-- 'quadformlaw23.ModularResidues', WHERE WHAT IT READS IS OF BULK AT MOST 1048576: true; the input reads as it did. -/
def modularResiduesUptoRow : OpenClaim := { program := "ytdlfineibanppaadoor", sum := "00a9228596907c005a4517f569afbe4c87b7291ca97f177fadbb61a9b72531ae", func := "quadform/quadformlaw23.ModularResidues", spec := "modularResidues", unfollowed := true, recurses := true, named := ["quadform/prime.offsets"], apart := false, laid := [("quadform/prime.offsets", laid_quadform_prime_offsets)], narrowed := true }
def ModularResiduesUptoSaid : Prop := modularResiduesUptoRow.holds Tryd.pinned (OpenSpec.upto modularResiduesSpec)

/-- 'quadformlaw23.ModularDet', WHERE WHAT IT READS IS OF BULK AT MOST 1048576: true; the input reads as it did. -/
def modularDetUptoRow : OpenClaim := { program := "ytdlfineibanppaadoor", sum := "00a9228596907c005a4517f569afbe4c87b7291ca97f177fadbb61a9b72531ae", func := "quadform/quadformlaw23.ModularDet", spec := "modularDet", unfollowed := true, recurses := true, named := ["quadform/prime.offsets"], apart := false, laid := [("quadform/prime.offsets", laid_quadform_prime_offsets)], narrowed := true }
def ModularDetUptoSaid : Prop := modularDetUptoRow.holds Tryd.pinned (OpenSpec.upto modularDetSpec)

/-- 'quadformlaw23.ModularMul', WHERE WHAT IT READS IS OF BULK AT MOST 1048576: true; the input reads as it did. -/
def modularMulUptoRow : OpenClaim := { program := "ytdlfineibanppaadoor", sum := "00a9228596907c005a4517f569afbe4c87b7291ca97f177fadbb61a9b72531ae", func := "quadform/quadformlaw23.ModularMul", spec := "modularMul", unfollowed := true, recurses := true, named := ["quadform/prime.offsets"], apart := false, laid := [("quadform/prime.offsets", laid_quadform_prime_offsets)], narrowed := true }
def ModularMulUptoSaid : Prop := modularMulUptoRow.holds Tryd.pinned (OpenSpec.upto modularMulSpec)

/-- 'quadformlaw23.ModularSpaces', WHERE WHAT IT READS IS OF BULK AT MOST 1048576: true; the input reads as it did. -/
def modularSpacesUptoRow : OpenClaim := { program := "ytdlfineibanppaadoor", sum := "00a9228596907c005a4517f569afbe4c87b7291ca97f177fadbb61a9b72531ae", func := "quadform/quadformlaw23.ModularSpaces", spec := "modularSpaces", unfollowed := true, recurses := true, named := ["quadform/prime.offsets"], apart := false, laid := [("quadform/prime.offsets", laid_quadform_prime_offsets)], narrowed := true }
def ModularSpacesUptoSaid : Prop := modularSpacesUptoRow.holds Tryd.pinned (OpenSpec.upto modularSpacesSpec)

/-- 'quadformlaw23.ModularInverts', WHERE WHAT IT READS IS OF BULK AT MOST 1048576: true; the input reads as it did. -/
def modularInvertsUptoRow : OpenClaim := { program := "ytdlfineibanppaadoor", sum := "00a9228596907c005a4517f569afbe4c87b7291ca97f177fadbb61a9b72531ae", func := "quadform/quadformlaw23.ModularInverts", spec := "modularInverts", unfollowed := true, recurses := true, named := ["quadform/prime.offsets"], apart := false, laid := [("quadform/prime.offsets", laid_quadform_prime_offsets)], narrowed := true }
def ModularInvertsUptoSaid : Prop := modularInvertsUptoRow.holds Tryd.pinned (OpenSpec.upto modularInvertsSpec)

/-- 'quadformlaw23.ModularSolves', WHERE WHAT IT READS IS OF BULK AT MOST 1048576: true; the input reads as it did. -/
def modularSolvesUptoRow : OpenClaim := { program := "ytdlfineibanppaadoor", sum := "00a9228596907c005a4517f569afbe4c87b7291ca97f177fadbb61a9b72531ae", func := "quadform/quadformlaw23.ModularSolves", spec := "modularSolves", unfollowed := true, recurses := true, named := ["quadform/prime.offsets"], apart := false, laid := [("quadform/prime.offsets", laid_quadform_prime_offsets)], narrowed := true }
def ModularSolvesUptoSaid : Prop := modularSolvesUptoRow.holds Tryd.pinned (OpenSpec.upto modularSolvesSpec)

/-- 'quadformlaw23.ModularCongruence', WHERE WHAT IT READS IS OF BULK AT MOST 1048576: true; the input reads as it did. -/
def modularCongruenceUptoRow : OpenClaim := { program := "ytdlfineibanppaadoor", sum := "00a9228596907c005a4517f569afbe4c87b7291ca97f177fadbb61a9b72531ae", func := "quadform/quadformlaw23.ModularCongruence", spec := "modularCongruence", unfollowed := true, recurses := true, named := ["quadform/prime.offsets"], apart := false, laid := [("quadform/prime.offsets", laid_quadform_prime_offsets)], narrowed := true }
def ModularCongruenceUptoSaid : Prop := modularCongruenceUptoRow.holds Tryd.pinned (OpenSpec.upto modularCongruenceSpec)

/-- 'quadformlaw23.ModularKeeps', WHERE WHAT IT READS IS OF BULK AT MOST 1048576: true; the input reads as it did. -/
def modularKeepsUptoRow : OpenClaim := { program := "ytdlfineibanppaadoor", sum := "00a9228596907c005a4517f569afbe4c87b7291ca97f177fadbb61a9b72531ae", func := "quadform/quadformlaw23.ModularKeeps", spec := "modularKeeps", unfollowed := true, recurses := true, named := ["quadform/prime.offsets"], apart := false, laid := [("quadform/prime.offsets", laid_quadform_prime_offsets)], narrowed := true }
def ModularKeepsUptoSaid : Prop := modularKeepsUptoRow.holds Tryd.pinned (OpenSpec.upto modularKeepsSpec)

/-- 'quadformlaw23.ModularDetProduct', WHERE WHAT IT READS IS OF BULK AT MOST 1048576: true; the input reads as it did. -/
def modularDetProductUptoRow : OpenClaim := { program := "ytdlfineibanppaadoor", sum := "00a9228596907c005a4517f569afbe4c87b7291ca97f177fadbb61a9b72531ae", func := "quadform/quadformlaw23.ModularDetProduct", spec := "modularDetProduct", unfollowed := true, recurses := true, named := ["quadform/prime.offsets"], apart := false, laid := [("quadform/prime.offsets", laid_quadform_prime_offsets)], narrowed := true }
def ModularDetProductUptoSaid : Prop := modularDetProductUptoRow.holds Tryd.pinned (OpenSpec.upto modularDetProductSpec)

end Rows
end Go.Proofs.YtdlfineibanppaaDoor
