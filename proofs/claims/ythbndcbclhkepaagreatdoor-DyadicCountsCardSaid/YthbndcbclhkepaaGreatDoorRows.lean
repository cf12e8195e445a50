/-
  NARROWER THAN 'FOR EVERY INPUT', by the rows' own cells (each row's printed sentence says how): DyadicVerifies: laid · DyadicDecomposes: laid · DyadicCounts: laid · DyadicEven: laid.
  DERIVED. THE GIVEN ROWS OF THIS SEAT. 4 by the template 'for every input the law returns true; each argument reads behind the call as it read before'; 0 by the template 'total and deterministic' (their statements: YthbndcbclhkepaaGreatDoorTotals.lean).
  GIVEN WITH THE SEED: the statements are not yours to turn. If you find one false, say at which input.
  Laid BY PROGRAM, IN A SANDBOX (cutbox-rows.mjs): the forced cells as the released guide's own fill.sh prints them over the translation 53b2c3377117297e… (all of the seat's roots in one cut). By AI agents, Wed Nov 11 2026. No macro, syntax, notation, axiom, sorry.
-/
import Derived.Test.YthbndcbclhkepaaGreatDoorChecked
import GoSem.Claim
import GoSem.ClaimJoined
import GoSem.ClaimMapViews
import Derived.JoinedTies
import Derived.KernelRfl
namespace Go.Proofs.YthbndcbclhkepaaGreatDoor
/- THE CELL 'sum', in the pinned program and in every row, IS THE sha256 OF THE DUMP (.gsa) THAT YthbndcbclhkepaaGreatDoorProg.lean LOADS. Nothing in Lean hashes anything: it is a label: what it is worth is what the hold of that sum in a sandbox is worth. -/
noncomputable def Tryz.pinned : Pinned := { name := "ythbndcbclhkepaagreatdoor", sum := "53b2c3377117297e5fdf4f8dc6eece61d67e60cf062b941f777fb1878f3cc767", checked := Tryz.checked }
namespace Rows
def none {H : Type} : Left H := { results := [], args := [] }

/- WHAT THE LISTED PACKAGE-LEVEL VARIABLES READ AS WHEN THE CALL BEGINS. Each datum BY PROGRAM (the guide's laid-datum.mjs) off the statement by which the dump's own 'gosem.cut.vars' lays the variable. In a bare row this is a premise. The card (YthbndcbclhkepaaGreatDoorCards.lean) ties it to the program's text. -/
def laid_quadform_prime_offsets {H : Type} : DataW H := .agg [.lit (.int .i64 7), .lit (.int .i64 11), .lit (.int .i64 13), .lit (.int .i64 17), .lit (.int .i64 19), .lit (.int .i64 23), .lit (.int .i64 29), .lit (.int .i64 31)]

/-- 'quadformlaw25.DyadicVerifies': WHATEVER THE INPUT: true; the input reads as it did. -/
def dyadicVerifiesSpec : ChangeSpec := { name := "dyadicVerifies", fn := fun _ => fun
  | [d1, d2, d3, d4] => { results := [.lit (.bool true)], args := [d1, d2, d3, d4] }
  | _ => none }
def dyadicVerifiesRow : OpenClaim := { program := "ythbndcbclhkepaagreatdoor", sum := "53b2c3377117297e5fdf4f8dc6eece61d67e60cf062b941f777fb1878f3cc767", func := "quadform/quadformlaw25.DyadicVerifies", spec := "dyadicVerifies", unfollowed := true, recurses := true, named := ["quadform/prime.offsets"], apart := false, laid := [("quadform/prime.offsets", laid_quadform_prime_offsets)] }
def DyadicVerifiesSaid : Prop := dyadicVerifiesRow.holds Tryz.pinned (OpenSpec.ofChange dyadicVerifiesSpec)

/-- ITS FALSE NEIGHBOUR: 'it returns false'. Refute it at one input. -/
def dyadicVerifiesWrong : ChangeSpec := { name := "dyadicVerifies", fn := fun _ => fun
  | [d1, d2, d3, d4] => { results := [.lit (.bool false)], args := [d1, d2, d3, d4] }
  | _ => none }
def DyadicVerifiesWrongFalsely : Prop := dyadicVerifiesRow.holds Tryz.pinned (OpenSpec.ofChange dyadicVerifiesWrong)

/-- 'quadformlaw25.DyadicDecomposes': WHATEVER THE INPUT: true; the input reads as it did. -/
def dyadicDecomposesSpec : ChangeSpec := { name := "dyadicDecomposes", fn := fun _ => fun
  | [d1, d2, d3] => { results := [.lit (.bool true)], args := [d1, d2, d3] }
  | _ => none }
def dyadicDecomposesRow : OpenClaim := { program := "ythbndcbclhkepaagreatdoor", sum := "53b2c3377117297e5fdf4f8dc6eece61d67e60cf062b941f777fb1878f3cc767", func := "quadform/quadformlaw25.DyadicDecomposes", spec := "dyadicDecomposes", unfollowed := true, recurses := true, named := ["quadform/prime.offsets"], apart := false, laid := [("quadform/prime.offsets", laid_quadform_prime_offsets)] }
def DyadicDecomposesSaid : Prop := dyadicDecomposesRow.holds Tryz.pinned (OpenSpec.ofChange dyadicDecomposesSpec)

/-- ITS FALSE NEIGHBOUR: 'it returns false'. Refute it at one input. -/
def dyadicDecomposesWrong : ChangeSpec := { name := "dyadicDecomposes", fn := fun _ => fun
  | [d1, d2, d3] => { results := [.lit (.bool false)], args := [d1, d2, d3] }
  | _ => none }
def DyadicDecomposesWrongFalsely : Prop := dyadicDecomposesRow.holds Tryz.pinned (OpenSpec.ofChange dyadicDecomposesWrong)

/-- 'quadformlaw25.DyadicCounts': WHATEVER THE INPUT: true; the input reads as it did. -/
def dyadicCountsSpec : ChangeSpec := { name := "dyadicCounts", fn := fun _ => fun
  | [d] => { results := [.lit (.bool true)], args := [d] }
  | _ => none }
def dyadicCountsRow : OpenClaim := { program := "ythbndcbclhkepaagreatdoor", sum := "53b2c3377117297e5fdf4f8dc6eece61d67e60cf062b941f777fb1878f3cc767", func := "quadform/quadformlaw25.DyadicCounts", spec := "dyadicCounts", unfollowed := true, recurses := true, named := ["quadform/prime.offsets"], apart := false, laid := [("quadform/prime.offsets", laid_quadform_prime_offsets)] }
def DyadicCountsSaid : Prop := dyadicCountsRow.holds Tryz.pinned (OpenSpec.ofChange dyadicCountsSpec)

/-- ITS FALSE NEIGHBOUR: 'it returns false'. Refute it at one input. -/
def dyadicCountsWrong : ChangeSpec := { name := "dyadicCounts", fn := fun _ => fun
  | [d] => { results := [.lit (.bool false)], args := [d] }
  | _ => none }
def DyadicCountsWrongFalsely : Prop := dyadicCountsRow.holds Tryz.pinned (OpenSpec.ofChange dyadicCountsWrong)

/-- 'quadformlaw25.DyadicEven': WHATEVER THE INPUT: true; the input reads as it did. -/
def dyadicEvenSpec : ChangeSpec := { name := "dyadicEven", fn := fun _ => fun
  | [d] => { results := [.lit (.bool true)], args := [d] }
  | _ => none }
def dyadicEvenRow : OpenClaim := { program := "ythbndcbclhkepaagreatdoor", sum := "53b2c3377117297e5fdf4f8dc6eece61d67e60cf062b941f777fb1878f3cc767", func := "quadform/quadformlaw25.DyadicEven", spec := "dyadicEven", unfollowed := true, recurses := true, named := ["quadform/prime.offsets"], apart := false, laid := [("quadform/prime.offsets", laid_quadform_prime_offsets)] }
def DyadicEvenSaid : Prop := dyadicEvenRow.holds Tryz.pinned (OpenSpec.ofChange dyadicEvenSpec)

/-- ITS FALSE NEIGHBOUR: 'it returns false'. Refute it at one input. -/
def dyadicEvenWrong : ChangeSpec := { name := "dyadicEven", fn := fun _ => fun
  | [d] => { results := [.lit (.bool false)], args := [d] }
  | _ => none }
def DyadicEvenWrongFalsely : Prop := dyadicEvenRow.holds Tryz.pinned (OpenSpec.ofChange dyadicEvenWrong)

/- THE SECOND FORM. 'bulk': how many values and letters a reading holds, each counted each time it is reached (what is shared counts as often as it is met; a slice's spare places count too). A statement '..UptoSaid' is the law's where the arguments, and the package variables that the reading takes, are together of bulk at most 1048576: NARROWER than '..Said'. Prove '..Said' where nothing that the law and all that it calls make is longer than what came in: it says more and counts as full. Else prove '..UptoSaid'. A law counts once. -/
mutual
def uptoBulk {H : Type} : DataW H → Nat
  | .lit (.string bytes) => bytes.length + 1
  | .lit _ => 1
  | .nil => 1
  | .ptr d => uptoBulk d + 1
  | .slice elems spare => uptoBulkAll elems + uptoBulkAll spare + 1
  | .agg parts => uptoBulkAll parts + 1
  | .iface _ d => uptoBulk d + 1
  | .map entries => uptoBulkEntries entries + 1
  | .held _ => 1
def uptoBulkAll {H : Type} : List (DataW H) → Nat
  | [] => 0
  | d :: r => uptoBulk d + uptoBulkAll r
def uptoBulkEntries {H : Type} : List (Lit × DataW H) → Nat
  | [] => 0
  | x :: r => uptoBulkEntry x + uptoBulkEntries r
def uptoBulkEntry {H : Type} : Lit × DataW H → Nat
  | (.string bytes, d) => bytes.length + uptoBulk d + 1
  | (_, d) => uptoBulk d + 1
 end
def uptoSmall : (H : Type) → List (DataW H) → Bool := fun _ ds => decide (uptoBulkAll ds ≤ 1048576)
def OpenSpec.upto (s : _root_.Go.ChangeSpec) : _root_.Go.OpenSpec := { _root_.Go.OpenSpec.ofChange s with cond := some uptoSmall }

/-- 'quadformlaw25.DyadicVerifies', WHERE WHAT IT READS IS OF BULK AT MOST 1048576: true; the input reads as it did. -/
def dyadicVerifiesUptoRow : OpenClaim := { program := "ythbndcbclhkepaagreatdoor", sum := "53b2c3377117297e5fdf4f8dc6eece61d67e60cf062b941f777fb1878f3cc767", func := "quadform/quadformlaw25.DyadicVerifies", spec := "dyadicVerifies", unfollowed := true, recurses := true, named := ["quadform/prime.offsets"], apart := false, laid := [("quadform/prime.offsets", laid_quadform_prime_offsets)], narrowed := true }
def DyadicVerifiesUptoSaid : Prop := dyadicVerifiesUptoRow.holds Tryz.pinned (OpenSpec.upto dyadicVerifiesSpec)

/-- 'quadformlaw25.DyadicDecomposes', WHERE WHAT IT READS IS OF BULK AT MOST 1048576: true; the input reads as it did. -/
def dyadicDecomposesUptoRow : OpenClaim := { program := "ythbndcbclhkepaagreatdoor", sum := "53b2c3377117297e5fdf4f8dc6eece61d67e60cf062b941f777fb1878f3cc767", func := "quadform/quadformlaw25.DyadicDecomposes", spec := "dyadicDecomposes", unfollowed := true, recurses := true, named := ["quadform/prime.offsets"], apart := false, laid := [("quadform/prime.offsets", laid_quadform_prime_offsets)], narrowed := true }
def DyadicDecomposesUptoSaid : Prop := dyadicDecomposesUptoRow.holds Tryz.pinned (OpenSpec.upto dyadicDecomposesSpec)

/-- 'quadformlaw25.DyadicCounts', WHERE WHAT IT READS IS OF BULK AT MOST 1048576: true; the input reads as it did. -/
def dyadicCountsUptoRow : OpenClaim := { program := "ythbndcbclhkepaagreatdoor", sum := "53b2c3377117297e5fdf4f8dc6eece61d67e60cf062b941f777fb1878f3cc767", func := "quadform/quadformlaw25.DyadicCounts", spec := "dyadicCounts", unfollowed := true, recurses := true, named := ["quadform/prime.offsets"], apart := false, laid := [("quadform/prime.offsets", laid_quadform_prime_offsets)], narrowed := true }
def DyadicCountsUptoSaid : Prop := dyadicCountsUptoRow.holds Tryz.pinned (OpenSpec.upto dyadicCountsSpec)

/-- 'quadformlaw25.DyadicEven', WHERE WHAT IT READS IS OF BULK AT MOST 1048576: true; the input reads as it did. -/
def dyadicEvenUptoRow : OpenClaim := { program := "ythbndcbclhkepaagreatdoor", sum := "53b2c3377117297e5fdf4f8dc6eece61d67e60cf062b941f777fb1878f3cc767", func := "quadform/quadformlaw25.DyadicEven", spec := "dyadicEven", unfollowed := true, recurses := true, named := ["quadform/prime.offsets"], apart := false, laid := [("quadform/prime.offsets", laid_quadform_prime_offsets)], narrowed := true }
def DyadicEvenUptoSaid : Prop := dyadicEvenUptoRow.holds Tryz.pinned (OpenSpec.upto dyadicEvenSpec)

end Rows
end Go.Proofs.YthbndcbclhkepaaGreatDoor
