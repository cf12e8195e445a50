/-
  NARROWER THAN 'FOR EVERY INPUT', by the rows' own cells (each row's printed sentence says how): DyadicVerifies: laid · JordanVerifies: laid · JordanInvariant: laid · DyadicDecomposes: laid · DyadicShape: laid · DyadicTotals: laid.
  DERIVED. THE GIVEN ROWS OF THIS SEAT. 6 by the template 'for every input the law returns true; each argument reads behind the call as it read before'; 0 by the template 'total and deterministic' (their statements: YtkakafabeobahaaGreatDoorTotals.lean).
  GIVEN WITH THE SEED: the statements are not yours to turn. If you find one false, say at which input.
  Laid BY PROGRAM, IN A SANDBOX (cutbox-rows.mjs): the forced cells as the released guide's own fill.sh prints them over the translation a5c602d0061605e8… (all of the seat's roots in one cut). By AI agents, Wed Nov 11 2026. No macro, syntax, notation, axiom, sorry.
-/
import Derived.Test.YtkakafabeobahaaGreatDoorChecked
import GoSem.Claim
import GoSem.ClaimJoined
import GoSem.ClaimMapViews
import Derived.JoinedTies
import Derived.KernelRfl
namespace Go.Proofs.YtkakafabeobahaaGreatDoor
/- THE CELL 'sum', in the pinned program and in every row, IS THE sha256 OF THE DUMP (.gsa) THAT YtkakafabeobahaaGreatDoorProg.lean LOADS. Nothing in Lean hashes anything: it is a label: what it is worth is what the hold of that sum in a sandbox is worth. -/
noncomputable def Tryz.pinned : Pinned := { name := "ytkakafabeobahaagreatdoor", sum := "a5c602d0061605e877985456959499634f956a2c94d2009bb54f7bc3c7524f12", checked := Tryz.checked }
namespace Rows
def none {H : Type} : Left H := { results := [], args := [] }

/- WHAT THE LISTED PACKAGE-LEVEL VARIABLES READ AS WHEN THE CALL BEGINS. Each datum BY PROGRAM (the guide's laid-datum.mjs) off the statement by which the dump's own 'gosem.cut.vars' lays the variable. In a bare row this is a premise. The card (YtkakafabeobahaaGreatDoorCards.lean) ties it to the program's text. -/
def laid_quadform_prime_offsets {H : Type} : DataW H := .agg [.lit (.int .i64 7), .lit (.int .i64 11), .lit (.int .i64 13), .lit (.int .i64 17), .lit (.int .i64 19), .lit (.int .i64 23), .lit (.int .i64 29), .lit (.int .i64 31)]

/-- 'quadformlaw25.DyadicVerifies': WHATEVER THE INPUT: true; the input reads as it did. -/
def dyadicVerifiesSpec : ChangeSpec := { name := "dyadicVerifies", fn := fun _ => fun
  | [d1, d2, d3, d4] => { results := [.lit (.bool true)], args := [d1, d2, d3, d4] }
  | _ => none }
def dyadicVerifiesRow : OpenClaim := { program := "ytkakafabeobahaagreatdoor", sum := "a5c602d0061605e877985456959499634f956a2c94d2009bb54f7bc3c7524f12", func := "quadform/quadformlaw25.DyadicVerifies", spec := "dyadicVerifies", unfollowed := true, recurses := true, named := ["quadform/prime.offsets"], apart := false, laid := [("quadform/prime.offsets", laid_quadform_prime_offsets)] }
def DyadicVerifiesSaid : Prop := dyadicVerifiesRow.holds Tryz.pinned (OpenSpec.ofChange dyadicVerifiesSpec)

/-- ITS FALSE NEIGHBOUR: 'it returns false'. Refute it at one input. -/
def dyadicVerifiesWrong : ChangeSpec := { name := "dyadicVerifies", fn := fun _ => fun
  | [d1, d2, d3, d4] => { results := [.lit (.bool false)], args := [d1, d2, d3, d4] }
  | _ => none }
def DyadicVerifiesWrongFalsely : Prop := dyadicVerifiesRow.holds Tryz.pinned (OpenSpec.ofChange dyadicVerifiesWrong)

/-- 'quadformlaw24.JordanVerifies': WHATEVER THE INPUT: true; the input reads as it did. -/
def jordanVerifiesSpec : ChangeSpec := { name := "jordanVerifies", fn := fun _ => fun
  | [d1, d2, d3, d4, d5] => { results := [.lit (.bool true)], args := [d1, d2, d3, d4, d5] }
  | _ => none }
def jordanVerifiesRow : OpenClaim := { program := "ytkakafabeobahaagreatdoor", sum := "a5c602d0061605e877985456959499634f956a2c94d2009bb54f7bc3c7524f12", func := "quadform/quadformlaw24.JordanVerifies", spec := "jordanVerifies", unfollowed := true, recurses := true, named := ["quadform/prime.offsets"], apart := false, laid := [("quadform/prime.offsets", laid_quadform_prime_offsets)] }
def JordanVerifiesSaid : Prop := jordanVerifiesRow.holds Tryz.pinned (OpenSpec.ofChange jordanVerifiesSpec)

/-- ITS FALSE NEIGHBOUR: 'it returns false'. Refute it at one input. -/
def jordanVerifiesWrong : ChangeSpec := { name := "jordanVerifies", fn := fun _ => fun
  | [d1, d2, d3, d4, d5] => { results := [.lit (.bool false)], args := [d1, d2, d3, d4, d5] }
  | _ => none }
def JordanVerifiesWrongFalsely : Prop := jordanVerifiesRow.holds Tryz.pinned (OpenSpec.ofChange jordanVerifiesWrong)

/-- 'quadformlaw24.JordanInvariant': WHATEVER THE INPUT: true; the input reads as it did. -/
def jordanInvariantSpec : ChangeSpec := { name := "jordanInvariant", fn := fun _ => fun
  | [d1, d2] => { results := [.lit (.bool true)], args := [d1, d2] }
  | _ => none }
def jordanInvariantRow : OpenClaim := { program := "ytkakafabeobahaagreatdoor", sum := "a5c602d0061605e877985456959499634f956a2c94d2009bb54f7bc3c7524f12", func := "quadform/quadformlaw24.JordanInvariant", spec := "jordanInvariant", unfollowed := true, recurses := true, named := ["quadform/prime.offsets"], apart := false, laid := [("quadform/prime.offsets", laid_quadform_prime_offsets)] }
def JordanInvariantSaid : Prop := jordanInvariantRow.holds Tryz.pinned (OpenSpec.ofChange jordanInvariantSpec)

/-- ITS FALSE NEIGHBOUR: 'it returns false'. Refute it at one input. -/
def jordanInvariantWrong : ChangeSpec := { name := "jordanInvariant", fn := fun _ => fun
  | [d1, d2] => { results := [.lit (.bool false)], args := [d1, d2] }
  | _ => none }
def JordanInvariantWrongFalsely : Prop := jordanInvariantRow.holds Tryz.pinned (OpenSpec.ofChange jordanInvariantWrong)

/-- 'quadformlaw25.DyadicDecomposes': WHATEVER THE INPUT: true; the input reads as it did. -/
def dyadicDecomposesSpec : ChangeSpec := { name := "dyadicDecomposes", fn := fun _ => fun
  | [d1, d2, d3] => { results := [.lit (.bool true)], args := [d1, d2, d3] }
  | _ => none }
def dyadicDecomposesRow : OpenClaim := { program := "ytkakafabeobahaagreatdoor", sum := "a5c602d0061605e877985456959499634f956a2c94d2009bb54f7bc3c7524f12", func := "quadform/quadformlaw25.DyadicDecomposes", spec := "dyadicDecomposes", unfollowed := true, recurses := true, named := ["quadform/prime.offsets"], apart := false, laid := [("quadform/prime.offsets", laid_quadform_prime_offsets)] }
def DyadicDecomposesSaid : Prop := dyadicDecomposesRow.holds Tryz.pinned (OpenSpec.ofChange dyadicDecomposesSpec)

/-- ITS FALSE NEIGHBOUR: 'it returns false'. Refute it at one input. -/
def dyadicDecomposesWrong : ChangeSpec := { name := "dyadicDecomposes", fn := fun _ => fun
  | [d1, d2, d3] => { results := [.lit (.bool false)], args := [d1, d2, d3] }
  | _ => none }
def DyadicDecomposesWrongFalsely : Prop := dyadicDecomposesRow.holds Tryz.pinned (OpenSpec.ofChange dyadicDecomposesWrong)

/-- 'quadformlaw25.DyadicShape': WHATEVER THE INPUT: true; the input reads as it did. -/
def dyadicShapeSpec : ChangeSpec := { name := "dyadicShape", fn := fun _ => fun
  | [d] => { results := [.lit (.bool true)], args := [d] }
  | _ => none }
def dyadicShapeRow : OpenClaim := { program := "ytkakafabeobahaagreatdoor", sum := "a5c602d0061605e877985456959499634f956a2c94d2009bb54f7bc3c7524f12", func := "quadform/quadformlaw25.DyadicShape", spec := "dyadicShape", unfollowed := true, recurses := true, named := ["quadform/prime.offsets"], apart := false, laid := [("quadform/prime.offsets", laid_quadform_prime_offsets)] }
def DyadicShapeSaid : Prop := dyadicShapeRow.holds Tryz.pinned (OpenSpec.ofChange dyadicShapeSpec)

/-- ITS FALSE NEIGHBOUR: 'it returns false'. Refute it at one input. -/
def dyadicShapeWrong : ChangeSpec := { name := "dyadicShape", fn := fun _ => fun
  | [d] => { results := [.lit (.bool false)], args := [d] }
  | _ => none }
def DyadicShapeWrongFalsely : Prop := dyadicShapeRow.holds Tryz.pinned (OpenSpec.ofChange dyadicShapeWrong)

/-- 'quadformlaw25.DyadicTotals': WHATEVER THE INPUT: true; the input reads as it did. -/
def dyadicTotalsSpec : ChangeSpec := { name := "dyadicTotals", fn := fun _ => fun
  | [d] => { results := [.lit (.bool true)], args := [d] }
  | _ => none }
def dyadicTotalsRow : OpenClaim := { program := "ytkakafabeobahaagreatdoor", sum := "a5c602d0061605e877985456959499634f956a2c94d2009bb54f7bc3c7524f12", func := "quadform/quadformlaw25.DyadicTotals", spec := "dyadicTotals", unfollowed := true, recurses := true, named := ["quadform/prime.offsets"], apart := false, laid := [("quadform/prime.offsets", laid_quadform_prime_offsets)] }
def DyadicTotalsSaid : Prop := dyadicTotalsRow.holds Tryz.pinned (OpenSpec.ofChange dyadicTotalsSpec)

/-- ITS FALSE NEIGHBOUR: 'it returns false'. Refute it at one input. -/
def dyadicTotalsWrong : ChangeSpec := { name := "dyadicTotals", fn := fun _ => fun
  | [d] => { results := [.lit (.bool false)], args := [d] }
  | _ => none }
def DyadicTotalsWrongFalsely : Prop := dyadicTotalsRow.holds Tryz.pinned (OpenSpec.ofChange dyadicTotalsWrong)

/- THE SECOND FORM. 'bulk': how many values and letters a reading holds, each counted each time it is reached (what is shared counts as often as it is met; a slice's spare places count too). A statement '..UptoSaid' is the law's where the arguments, and the package variables that the reading takes, are together of bulk at most 1048576: NARROWER than '..Said'. Prove '..Said' where nothing that the law and all that it calls make is longer than what came in: it says more and counts as full. Else prove '..UptoSaid'. A law counts once. -/
mutual
def uptoBulk {H : Type} : DataW H → Nat
  | .lit (.string bytes) => bytes.length + 1
  | .lit _ => 1
  | .nil => 1
  | .ptr d => uptoBulk d + 1
  | .slice elems spare => uptoBulkAll elems + uptoBulkAll spare + 1
  | .agg parts => uptoBulkAll parts + 1
  | .iface _ d => uptoBulk d + 1
  | .map entries => uptoBulkEntries entries + 1
  | .held _ => 1
def uptoBulkAll {H : Type} : List (DataW H) → Nat
  | [] => 0
  | d :: r => uptoBulk d + uptoBulkAll r
def uptoBulkEntries {H : Type} : List (Lit × DataW H) → Nat
  | [] => 0
  | x :: r => uptoBulkEntry x + uptoBulkEntries r
def uptoBulkEntry {H : Type} : Lit × DataW H → Nat
  | (.string bytes, d) => bytes.length + uptoBulk d + 1
  | (_, d) => uptoBulk d + 1
 end
def uptoSmall : (H : Type) → List (DataW H) → Bool := fun _ ds => decide (uptoBulkAll ds ≤ 1048576)
def OpenSpec.upto (s : _root_.Go.ChangeSpec) : _root_.Go.OpenSpec := { _root_.Go.OpenSpec.ofChange s with cond := some uptoSmall }

/-- 'quadformlaw25.DyadicVerifies', WHERE WHAT IT READS IS OF BULK AT MOST 1048576: true; the input reads as it did. -/
def dyadicVerifiesUptoRow : OpenClaim := { program := "ytkakafabeobahaagreatdoor", sum := "a5c602d0061605e877985456959499634f956a2c94d2009bb54f7bc3c7524f12", func := "quadform/quadformlaw25.DyadicVerifies", spec := "dyadicVerifies", unfollowed := true, recurses := true, named := ["quadform/prime.offsets"], apart := false, laid := [("quadform/prime.offsets", laid_quadform_prime_offsets)], narrowed := true }
def DyadicVerifiesUptoSaid : Prop := dyadicVerifiesUptoRow.holds Tryz.pinned (OpenSpec.upto dyadicVerifiesSpec)

/-- 'quadformlaw24.JordanVerifies', WHERE WHAT IT READS IS OF BULK AT MOST 1048576: true; the input reads as it did. -/
def jordanVerifiesUptoRow : OpenClaim := { program := "ytkakafabeobahaagreatdoor", sum := "a5c602d0061605e877985456959499634f956a2c94d2009bb54f7bc3c7524f12", func := "quadform/quadformlaw24.JordanVerifies", spec := "jordanVerifies", unfollowed := true, recurses := true, named := ["quadform/prime.offsets"], apart := false, laid := [("quadform/prime.offsets", laid_quadform_prime_offsets)], narrowed := true }
def JordanVerifiesUptoSaid : Prop := jordanVerifiesUptoRow.holds Tryz.pinned (OpenSpec.upto jordanVerifiesSpec)

/-- 'quadformlaw24.JordanInvariant', WHERE WHAT IT READS IS OF BULK AT MOST 1048576: true; the input reads as it did. -/
def jordanInvariantUptoRow : OpenClaim := { program := "ytkakafabeobahaagreatdoor", sum := "a5c602d0061605e877985456959499634f956a2c94d2009bb54f7bc3c7524f12", func := "quadform/quadformlaw24.JordanInvariant", spec := "jordanInvariant", unfollowed := true, recurses := true, named := ["quadform/prime.offsets"], apart := false, laid := [("quadform/prime.offsets", laid_quadform_prime_offsets)], narrowed := true }
def JordanInvariantUptoSaid : Prop := jordanInvariantUptoRow.holds Tryz.pinned (OpenSpec.upto jordanInvariantSpec)

/-- 'quadformlaw25.DyadicDecomposes', WHERE WHAT IT READS IS OF BULK AT MOST 1048576: true; the input reads as it did. -/
def dyadicDecomposesUptoRow : OpenClaim := { program := "ytkakafabeobahaagreatdoor", sum := "a5c602d0061605e877985456959499634f956a2c94d2009bb54f7bc3c7524f12", func := "quadform/quadformlaw25.DyadicDecomposes", spec := "dyadicDecomposes", unfollowed := true, recurses := true, named := ["quadform/prime.offsets"], apart := false, laid := [("quadform/prime.offsets", laid_quadform_prime_offsets)], narrowed := true }
def DyadicDecomposesUptoSaid : Prop := dyadicDecomposesUptoRow.holds Tryz.pinned (OpenSpec.upto dyadicDecomposesSpec)

/-- 'quadformlaw25.DyadicShape', WHERE WHAT IT READS IS OF BULK AT MOST 1048576: true; the input reads as it did. -/
def dyadicShapeUptoRow : OpenClaim := { program := "ytkakafabeobahaagreatdoor", sum := "a5c602d0061605e877985456959499634f956a2c94d2009bb54f7bc3c7524f12", func := "quadform/quadformlaw25.DyadicShape", spec := "dyadicShape", unfollowed := true, recurses := true, named := ["quadform/prime.offsets"], apart := false, laid := [("quadform/prime.offsets", laid_quadform_prime_offsets)], narrowed := true }
def DyadicShapeUptoSaid : Prop := dyadicShapeUptoRow.holds Tryz.pinned (OpenSpec.upto dyadicShapeSpec)

/-- 'quadformlaw25.DyadicTotals', WHERE WHAT IT READS IS OF BULK AT MOST 1048576: true; the input reads as it did. -/
def dyadicTotalsUptoRow : OpenClaim := { program := "ytkakafabeobahaagreatdoor", sum := "a5c602d0061605e877985456959499634f956a2c94d2009bb54f7bc3c7524f12", func := "quadform/quadformlaw25.DyadicTotals", spec := "dyadicTotals", unfollowed := true, recurses := true, named := ["quadform/prime.offsets"], apart := false, laid := [("quadform/prime.offsets", laid_quadform_prime_offsets)], narrowed := true }
def DyadicTotalsUptoSaid : Prop := dyadicTotalsUptoRow.holds Tryz.pinned (OpenSpec.upto dyadicTotalsSpec)

end Rows
end Go.Proofs.YtkakafabeobahaaGreatDoor
