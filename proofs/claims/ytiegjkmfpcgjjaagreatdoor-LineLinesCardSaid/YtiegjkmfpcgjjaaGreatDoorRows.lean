/-
  NARROWER THAN 'FOR EVERY INPUT', by the rows' own cells (each row's printed sentence says how): LineLift: laid · LineLifts: laid · LineLines: laid · LineIs: laid · LineScales: laid · LineSorted: laid.
  DERIVED. THE GIVEN ROWS OF THIS SEAT. 6 by the template 'for every input the law returns true; each argument reads behind the call as it read before'; 0 by the template 'total and deterministic' (their statements: YtiegjkmfpcgjjaaGreatDoorTotals.lean).
  GIVEN WITH THE SEED: the statements are not yours to turn. If you find one false, say at which input.
  Laid BY PROGRAM, IN A SANDBOX (cutbox-rows.mjs): the forced cells as the released guide's own fill.sh prints them over the translation c0a95019ee0876f9… (all of the seat's roots in one cut). By AI agents, Wed Nov 11 2026. No macro, syntax, notation, axiom, sorry.
-/
import Derived.Test.YtiegjkmfpcgjjaaGreatDoorChecked
import GoSem.Claim
import GoSem.ClaimJoined
import GoSem.ClaimMapViews
import Derived.JoinedTies
import Derived.KernelRfl
namespace Go.Proofs.YtiegjkmfpcgjjaaGreatDoor
/- THE CELL 'sum', in the pinned program and in every row, IS THE sha256 OF THE DUMP (.gsa) THAT YtiegjkmfpcgjjaaGreatDoorProg.lean LOADS. Nothing in Lean hashes anything: it is a label: what it is worth is what the hold of that sum in a sandbox is worth. -/
noncomputable def Tryz.pinned : Pinned := { name := "ytiegjkmfpcgjjaagreatdoor", sum := "c0a95019ee0876f9a90f4d7af74336065610140e33f6aec9d65a1c7954a51483", checked := Tryz.checked }
namespace Rows
def none {H : Type} : Left H := { results := [], args := [] }

/- WHAT THE LISTED PACKAGE-LEVEL VARIABLES READ AS WHEN THE CALL BEGINS. Each datum BY PROGRAM (the guide's laid-datum.mjs) off the statement by which the dump's own 'gosem.cut.vars' lays the variable. In a bare row this is a premise. The card (YtiegjkmfpcgjjaaGreatDoorCards.lean) ties it to the program's text. -/
def laid_quadform_prime_offsets {H : Type} : DataW H := .agg [.lit (.int .i64 7), .lit (.int .i64 11), .lit (.int .i64 13), .lit (.int .i64 17), .lit (.int .i64 19), .lit (.int .i64 23), .lit (.int .i64 29), .lit (.int .i64 31)]

/-- 'quadformlaw34.LineLift': WHATEVER THE INPUT: true; the input reads as it did. -/
def lineLiftSpec : ChangeSpec := { name := "lineLift", fn := fun _ => fun
  | [d1, d2, d3, d4, d5, d6, d7, d8] => { results := [.lit (.bool true)], args := [d1, d2, d3, d4, d5, d6, d7, d8] }
  | _ => none }
def lineLiftRow : OpenClaim := { program := "ytiegjkmfpcgjjaagreatdoor", sum := "c0a95019ee0876f9a90f4d7af74336065610140e33f6aec9d65a1c7954a51483", func := "quadform/quadformlaw34.LineLift", spec := "lineLift", unfollowed := true, recurses := true, named := ["quadform/prime.offsets"], apart := false, laid := [("quadform/prime.offsets", laid_quadform_prime_offsets)] }
def LineLiftSaid : Prop := lineLiftRow.holds Tryz.pinned (OpenSpec.ofChange lineLiftSpec)

/-- ITS FALSE NEIGHBOUR: 'it returns false'. Refute it at one input. -/
def lineLiftWrong : ChangeSpec := { name := "lineLift", fn := fun _ => fun
  | [d1, d2, d3, d4, d5, d6, d7, d8] => { results := [.lit (.bool false)], args := [d1, d2, d3, d4, d5, d6, d7, d8] }
  | _ => none }
def LineLiftWrongFalsely : Prop := lineLiftRow.holds Tryz.pinned (OpenSpec.ofChange lineLiftWrong)

/-- 'quadformlaw34.LineLifts': WHATEVER THE INPUT: true; the input reads as it did. -/
def lineLiftsSpec : ChangeSpec := { name := "lineLifts", fn := fun _ => fun
  | [d1, d2, d3] => { results := [.lit (.bool true)], args := [d1, d2, d3] }
  | _ => none }
def lineLiftsRow : OpenClaim := { program := "ytiegjkmfpcgjjaagreatdoor", sum := "c0a95019ee0876f9a90f4d7af74336065610140e33f6aec9d65a1c7954a51483", func := "quadform/quadformlaw34.LineLifts", spec := "lineLifts", unfollowed := true, recurses := true, named := ["quadform/prime.offsets"], apart := false, laid := [("quadform/prime.offsets", laid_quadform_prime_offsets)] }
def LineLiftsSaid : Prop := lineLiftsRow.holds Tryz.pinned (OpenSpec.ofChange lineLiftsSpec)

/-- ITS FALSE NEIGHBOUR: 'it returns false'. Refute it at one input. -/
def lineLiftsWrong : ChangeSpec := { name := "lineLifts", fn := fun _ => fun
  | [d1, d2, d3] => { results := [.lit (.bool false)], args := [d1, d2, d3] }
  | _ => none }
def LineLiftsWrongFalsely : Prop := lineLiftsRow.holds Tryz.pinned (OpenSpec.ofChange lineLiftsWrong)

/-- 'quadformlaw34.LineLines': WHATEVER THE INPUT: true; the input reads as it did. -/
def lineLinesSpec : ChangeSpec := { name := "lineLines", fn := fun _ => fun
  | [d1, d2, d3, d4, d5, d6] => { results := [.lit (.bool true)], args := [d1, d2, d3, d4, d5, d6] }
  | _ => none }
def lineLinesRow : OpenClaim := { program := "ytiegjkmfpcgjjaagreatdoor", sum := "c0a95019ee0876f9a90f4d7af74336065610140e33f6aec9d65a1c7954a51483", func := "quadform/quadformlaw34.LineLines", spec := "lineLines", unfollowed := true, recurses := true, named := ["quadform/prime.offsets"], apart := false, laid := [("quadform/prime.offsets", laid_quadform_prime_offsets)] }
def LineLinesSaid : Prop := lineLinesRow.holds Tryz.pinned (OpenSpec.ofChange lineLinesSpec)

/-- ITS FALSE NEIGHBOUR: 'it returns false'. Refute it at one input. -/
def lineLinesWrong : ChangeSpec := { name := "lineLines", fn := fun _ => fun
  | [d1, d2, d3, d4, d5, d6] => { results := [.lit (.bool false)], args := [d1, d2, d3, d4, d5, d6] }
  | _ => none }
def LineLinesWrongFalsely : Prop := lineLinesRow.holds Tryz.pinned (OpenSpec.ofChange lineLinesWrong)

/-- 'quadformlaw34.LineIs': WHATEVER THE INPUT: true; the input reads as it did. -/
def lineIsSpec : ChangeSpec := { name := "lineIs", fn := fun _ => fun
  | [d1, d2, d3, d4, d5, d6, d7, d8] => { results := [.lit (.bool true)], args := [d1, d2, d3, d4, d5, d6, d7, d8] }
  | _ => none }
def lineIsRow : OpenClaim := { program := "ytiegjkmfpcgjjaagreatdoor", sum := "c0a95019ee0876f9a90f4d7af74336065610140e33f6aec9d65a1c7954a51483", func := "quadform/quadformlaw34.LineIs", spec := "lineIs", unfollowed := true, recurses := true, named := ["quadform/prime.offsets"], apart := false, laid := [("quadform/prime.offsets", laid_quadform_prime_offsets)] }
def LineIsSaid : Prop := lineIsRow.holds Tryz.pinned (OpenSpec.ofChange lineIsSpec)

/-- ITS FALSE NEIGHBOUR: 'it returns false'. Refute it at one input. -/
def lineIsWrong : ChangeSpec := { name := "lineIs", fn := fun _ => fun
  | [d1, d2, d3, d4, d5, d6, d7, d8] => { results := [.lit (.bool false)], args := [d1, d2, d3, d4, d5, d6, d7, d8] }
  | _ => none }
def LineIsWrongFalsely : Prop := lineIsRow.holds Tryz.pinned (OpenSpec.ofChange lineIsWrong)

/-- 'quadformlaw34.LineScales': WHATEVER THE INPUT: true; the input reads as it did. -/
def lineScalesSpec : ChangeSpec := { name := "lineScales", fn := fun _ => fun
  | [d1, d2, d3] => { results := [.lit (.bool true)], args := [d1, d2, d3] }
  | _ => none }
def lineScalesRow : OpenClaim := { program := "ytiegjkmfpcgjjaagreatdoor", sum := "c0a95019ee0876f9a90f4d7af74336065610140e33f6aec9d65a1c7954a51483", func := "quadform/quadformlaw34.LineScales", spec := "lineScales", unfollowed := true, recurses := true, named := ["quadform/prime.offsets"], apart := false, laid := [("quadform/prime.offsets", laid_quadform_prime_offsets)] }
def LineScalesSaid : Prop := lineScalesRow.holds Tryz.pinned (OpenSpec.ofChange lineScalesSpec)

/-- ITS FALSE NEIGHBOUR: 'it returns false'. Refute it at one input. -/
def lineScalesWrong : ChangeSpec := { name := "lineScales", fn := fun _ => fun
  | [d1, d2, d3] => { results := [.lit (.bool false)], args := [d1, d2, d3] }
  | _ => none }
def LineScalesWrongFalsely : Prop := lineScalesRow.holds Tryz.pinned (OpenSpec.ofChange lineScalesWrong)

/-- 'quadformlaw34.LineSorted': WHATEVER THE INPUT: true; the input reads as it did. -/
def lineSortedSpec : ChangeSpec := { name := "lineSorted", fn := fun _ => fun
  | [d1, d2] => { results := [.lit (.bool true)], args := [d1, d2] }
  | _ => none }
def lineSortedRow : OpenClaim := { program := "ytiegjkmfpcgjjaagreatdoor", sum := "c0a95019ee0876f9a90f4d7af74336065610140e33f6aec9d65a1c7954a51483", func := "quadform/quadformlaw34.LineSorted", spec := "lineSorted", unfollowed := true, recurses := true, named := ["quadform/prime.offsets"], apart := false, laid := [("quadform/prime.offsets", laid_quadform_prime_offsets)] }
def LineSortedSaid : Prop := lineSortedRow.holds Tryz.pinned (OpenSpec.ofChange lineSortedSpec)

/-- ITS FALSE NEIGHBOUR: 'it returns false'. Refute it at one input. -/
def lineSortedWrong : ChangeSpec := { name := "lineSorted", fn := fun _ => fun
  | [d1, d2] => { results := [.lit (.bool false)], args := [d1, d2] }
  | _ => none }
def LineSortedWrongFalsely : Prop := lineSortedRow.holds Tryz.pinned (OpenSpec.ofChange lineSortedWrong)

/- THE SECOND FORM. 'bulk': how many values and letters a reading holds, each counted each time it is reached (what is shared counts as often as it is met; a slice's spare places count too). A statement '..UptoSaid' is the law's where the arguments, and the package variables that the reading takes, are together of bulk at most 1048576: NARROWER than '..Said'. Prove '..Said' where nothing that the law and all that it calls make is longer than what came in: it says more and counts as full. Else prove '..UptoSaid'. A law counts once. -/
mutual
def uptoBulk {H : Type} : DataW H → Nat
  | .lit (.string bytes) => bytes.length + 1
  | .lit _ => 1
  | .nil => 1
  | .ptr d => uptoBulk d + 1
  | .slice elems spare => uptoBulkAll elems + uptoBulkAll spare + 1
  | .agg parts => uptoBulkAll parts + 1
  | .iface _ d => uptoBulk d + 1
  | .map entries => uptoBulkEntries entries + 1
  | .held _ => 1
def uptoBulkAll {H : Type} : List (DataW H) → Nat
  | [] => 0
  | d :: r => uptoBulk d + uptoBulkAll r
def uptoBulkEntries {H : Type} : List (Lit × DataW H) → Nat
  | [] => 0
  | x :: r => uptoBulkEntry x + uptoBulkEntries r
def uptoBulkEntry {H : Type} : Lit × DataW H → Nat
  | (.string bytes, d) => bytes.length + uptoBulk d + 1
  | (_, d) => uptoBulk d + 1
 end
def uptoSmall : (H : Type) → List (DataW H) → Bool := fun _ ds => decide (uptoBulkAll ds ≤ 1048576)
def OpenSpec.upto (s : _root_.Go.ChangeSpec) : _root_.Go.OpenSpec := { _root_.Go.OpenSpec.ofChange s with cond := some uptoSmall }

/-- 'quadformlaw34.LineLift', WHERE WHAT IT READS IS OF BULK AT MOST 1048576: true; the input reads as it did. -/
def lineLiftUptoRow : OpenClaim := { program := "ytiegjkmfpcgjjaagreatdoor", sum := "c0a95019ee0876f9a90f4d7af74336065610140e33f6aec9d65a1c7954a51483", func := "quadform/quadformlaw34.LineLift", spec := "lineLift", unfollowed := true, recurses := true, named := ["quadform/prime.offsets"], apart := false, laid := [("quadform/prime.offsets", laid_quadform_prime_offsets)], narrowed := true }
def LineLiftUptoSaid : Prop := lineLiftUptoRow.holds Tryz.pinned (OpenSpec.upto lineLiftSpec)

/-- 'quadformlaw34.LineLifts', WHERE WHAT IT READS IS OF BULK AT MOST 1048576: true; the input reads as it did. -/
def lineLiftsUptoRow : OpenClaim := { program := "ytiegjkmfpcgjjaagreatdoor", sum := "c0a95019ee0876f9a90f4d7af74336065610140e33f6aec9d65a1c7954a51483", func := "quadform/quadformlaw34.LineLifts", spec := "lineLifts", unfollowed := true, recurses := true, named := ["quadform/prime.offsets"], apart := false, laid := [("quadform/prime.offsets", laid_quadform_prime_offsets)], narrowed := true }
def LineLiftsUptoSaid : Prop := lineLiftsUptoRow.holds Tryz.pinned (OpenSpec.upto lineLiftsSpec)

/-- 'quadformlaw34.LineLines', WHERE WHAT IT READS IS OF BULK AT MOST 1048576: true; the input reads as it did. -/
def lineLinesUptoRow : OpenClaim := { program := "ytiegjkmfpcgjjaagreatdoor", sum := "c0a95019ee0876f9a90f4d7af74336065610140e33f6aec9d65a1c7954a51483", func := "quadform/quadformlaw34.LineLines", spec := "lineLines", unfollowed := true, recurses := true, named := ["quadform/prime.offsets"], apart := false, laid := [("quadform/prime.offsets", laid_quadform_prime_offsets)], narrowed := true }
def LineLinesUptoSaid : Prop := lineLinesUptoRow.holds Tryz.pinned (OpenSpec.upto lineLinesSpec)

/-- 'quadformlaw34.LineIs', WHERE WHAT IT READS IS OF BULK AT MOST 1048576: true; the input reads as it did. -/
def lineIsUptoRow : OpenClaim := { program := "ytiegjkmfpcgjjaagreatdoor", sum := "c0a95019ee0876f9a90f4d7af74336065610140e33f6aec9d65a1c7954a51483", func := "quadform/quadformlaw34.LineIs", spec := "lineIs", unfollowed := true, recurses := true, named := ["quadform/prime.offsets"], apart := false, laid := [("quadform/prime.offsets", laid_quadform_prime_offsets)], narrowed := true }
def LineIsUptoSaid : Prop := lineIsUptoRow.holds Tryz.pinned (OpenSpec.upto lineIsSpec)

/-- 'quadformlaw34.LineScales', WHERE WHAT IT READS IS OF BULK AT MOST 1048576: true; the input reads as it did. -/
def lineScalesUptoRow : OpenClaim := { program := "ytiegjkmfpcgjjaagreatdoor", sum := "c0a95019ee0876f9a90f4d7af74336065610140e33f6aec9d65a1c7954a51483", func := "quadform/quadformlaw34.LineScales", spec := "lineScales", unfollowed := true, recurses := true, named := ["quadform/prime.offsets"], apart := false, laid := [("quadform/prime.offsets", laid_quadform_prime_offsets)], narrowed := true }
def LineScalesUptoSaid : Prop := lineScalesUptoRow.holds Tryz.pinned (OpenSpec.upto lineScalesSpec)

/-- 'quadformlaw34.LineSorted', WHERE WHAT IT READS IS OF BULK AT MOST 1048576: true; the input reads as it did. -/
def lineSortedUptoRow : OpenClaim := { program := "ytiegjkmfpcgjjaagreatdoor", sum := "c0a95019ee0876f9a90f4d7af74336065610140e33f6aec9d65a1c7954a51483", func := "quadform/quadformlaw34.LineSorted", spec := "lineSorted", unfollowed := true, recurses := true, named := ["quadform/prime.offsets"], apart := false, laid := [("quadform/prime.offsets", laid_quadform_prime_offsets)], narrowed := true }
def LineSortedUptoSaid : Prop := lineSortedUptoRow.holds Tryz.pinned (OpenSpec.upto lineSortedSpec)

end Rows
end Go.Proofs.YtiegjkmfpcgjjaaGreatDoor
