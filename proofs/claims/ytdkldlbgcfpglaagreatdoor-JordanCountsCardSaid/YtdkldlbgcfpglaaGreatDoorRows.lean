/-
  NARROWER THAN 'FOR EVERY INPUT', by the rows' own cells (each row's printed sentence says how): JordanVerifies: laid · JordanDecomposes: laid · JordanRefuses: laid · JordanCounts: laid.
  DERIVED. THE GIVEN ROWS OF THIS SEAT. 4 by the template 'for every input the law returns true; each argument reads behind the call as it read before'; 0 by the template 'total and deterministic' (their statements: YtdkldlbgcfpglaaGreatDoorTotals.lean).
  GIVEN WITH THE SEED: the statements are not yours to turn. If you find one false, say at which input.
  Laid BY PROGRAM, IN A SANDBOX (cutbox-rows.mjs): the forced cells as the released guide's own fill.sh prints them over the translation 78d5fa9b9645f77c… (all of the seat's roots in one cut). By AI agents, Wed Nov 11 2026. No macro, syntax, notation, axiom, sorry.
-/
import Derived.Test.YtdkldlbgcfpglaaGreatDoorChecked
import GoSem.Claim
import GoSem.ClaimJoined
import GoSem.ClaimMapViews
import Derived.JoinedTies
import Derived.KernelRfl
namespace Go.Proofs.YtdkldlbgcfpglaaGreatDoor
/- THE CELL 'sum', in the pinned program and in every row, IS THE sha256 OF THE DUMP (.gsa) THAT YtdkldlbgcfpglaaGreatDoorProg.lean LOADS. Nothing in Lean hashes anything: it is a label: what it is worth is what the hold of that sum in a sandbox is worth. -/
noncomputable def Tryz.pinned : Pinned := { name := "ytdkldlbgcfpglaagreatdoor", sum := "78d5fa9b9645f77c85b98e6a8af9c32e034ba766b507ae5517b2d92d4fd80b43", checked := Tryz.checked }
namespace Rows
def none {H : Type} : Left H := { results := [], args := [] }

/- WHAT THE LISTED PACKAGE-LEVEL VARIABLES READ AS WHEN THE CALL BEGINS. Each datum BY PROGRAM (the guide's laid-datum.mjs) off the statement by which the dump's own 'gosem.cut.vars' lays the variable. In a bare row this is a premise. The card (YtdkldlbgcfpglaaGreatDoorCards.lean) ties it to the program's text. -/
def laid_quadform_prime_offsets {H : Type} : DataW H := .agg [.lit (.int .i64 7), .lit (.int .i64 11), .lit (.int .i64 13), .lit (.int .i64 17), .lit (.int .i64 19), .lit (.int .i64 23), .lit (.int .i64 29), .lit (.int .i64 31)]

/-- 'quadformlaw24.JordanVerifies': WHATEVER THE INPUT: true; the input reads as it did. -/
def jordanVerifiesSpec : ChangeSpec := { name := "jordanVerifies", fn := fun _ => fun
  | [d1, d2, d3, d4, d5] => { results := [.lit (.bool true)], args := [d1, d2, d3, d4, d5] }
  | _ => none }
def jordanVerifiesRow : OpenClaim := { program := "ytdkldlbgcfpglaagreatdoor", sum := "78d5fa9b9645f77c85b98e6a8af9c32e034ba766b507ae5517b2d92d4fd80b43", func := "quadform/quadformlaw24.JordanVerifies", spec := "jordanVerifies", unfollowed := true, recurses := true, named := ["quadform/prime.offsets"], apart := false, laid := [("quadform/prime.offsets", laid_quadform_prime_offsets)] }
def JordanVerifiesSaid : Prop := jordanVerifiesRow.holds Tryz.pinned (OpenSpec.ofChange jordanVerifiesSpec)

/-- ITS FALSE NEIGHBOUR: 'it returns false'. Refute it at one input. -/
def jordanVerifiesWrong : ChangeSpec := { name := "jordanVerifies", fn := fun _ => fun
  | [d1, d2, d3, d4, d5] => { results := [.lit (.bool false)], args := [d1, d2, d3, d4, d5] }
  | _ => none }
def JordanVerifiesWrongFalsely : Prop := jordanVerifiesRow.holds Tryz.pinned (OpenSpec.ofChange jordanVerifiesWrong)

/-- 'quadformlaw24.JordanDecomposes': WHATEVER THE INPUT: true; the input reads as it did. -/
def jordanDecomposesSpec : ChangeSpec := { name := "jordanDecomposes", fn := fun _ => fun
  | [d1, d2] => { results := [.lit (.bool true)], args := [d1, d2] }
  | _ => none }
def jordanDecomposesRow : OpenClaim := { program := "ytdkldlbgcfpglaagreatdoor", sum := "78d5fa9b9645f77c85b98e6a8af9c32e034ba766b507ae5517b2d92d4fd80b43", func := "quadform/quadformlaw24.JordanDecomposes", spec := "jordanDecomposes", unfollowed := true, recurses := true, named := ["quadform/prime.offsets"], apart := false, laid := [("quadform/prime.offsets", laid_quadform_prime_offsets)] }
def JordanDecomposesSaid : Prop := jordanDecomposesRow.holds Tryz.pinned (OpenSpec.ofChange jordanDecomposesSpec)

/-- ITS FALSE NEIGHBOUR: 'it returns false'. Refute it at one input. -/
def jordanDecomposesWrong : ChangeSpec := { name := "jordanDecomposes", fn := fun _ => fun
  | [d1, d2] => { results := [.lit (.bool false)], args := [d1, d2] }
  | _ => none }
def JordanDecomposesWrongFalsely : Prop := jordanDecomposesRow.holds Tryz.pinned (OpenSpec.ofChange jordanDecomposesWrong)

/-- 'quadformlaw24.JordanRefuses': WHATEVER THE INPUT: true; the input reads as it did. -/
def jordanRefusesSpec : ChangeSpec := { name := "jordanRefuses", fn := fun _ => fun
  | [d1, d2, d3, d4, d5, d6] => { results := [.lit (.bool true)], args := [d1, d2, d3, d4, d5, d6] }
  | _ => none }
def jordanRefusesRow : OpenClaim := { program := "ytdkldlbgcfpglaagreatdoor", sum := "78d5fa9b9645f77c85b98e6a8af9c32e034ba766b507ae5517b2d92d4fd80b43", func := "quadform/quadformlaw24.JordanRefuses", spec := "jordanRefuses", unfollowed := true, recurses := true, named := ["quadform/prime.offsets"], apart := false, laid := [("quadform/prime.offsets", laid_quadform_prime_offsets)] }
def JordanRefusesSaid : Prop := jordanRefusesRow.holds Tryz.pinned (OpenSpec.ofChange jordanRefusesSpec)

/-- ITS FALSE NEIGHBOUR: 'it returns false'. Refute it at one input. -/
def jordanRefusesWrong : ChangeSpec := { name := "jordanRefuses", fn := fun _ => fun
  | [d1, d2, d3, d4, d5, d6] => { results := [.lit (.bool false)], args := [d1, d2, d3, d4, d5, d6] }
  | _ => none }
def JordanRefusesWrongFalsely : Prop := jordanRefusesRow.holds Tryz.pinned (OpenSpec.ofChange jordanRefusesWrong)

/-- 'quadformlaw24.JordanCounts': WHATEVER THE INPUT: true; the input reads as it did. -/
def jordanCountsSpec : ChangeSpec := { name := "jordanCounts", fn := fun _ => fun
  | [d1, d2] => { results := [.lit (.bool true)], args := [d1, d2] }
  | _ => none }
def jordanCountsRow : OpenClaim := { program := "ytdkldlbgcfpglaagreatdoor", sum := "78d5fa9b9645f77c85b98e6a8af9c32e034ba766b507ae5517b2d92d4fd80b43", func := "quadform/quadformlaw24.JordanCounts", spec := "jordanCounts", unfollowed := true, recurses := true, named := ["quadform/prime.offsets"], apart := false, laid := [("quadform/prime.offsets", laid_quadform_prime_offsets)] }
def JordanCountsSaid : Prop := jordanCountsRow.holds Tryz.pinned (OpenSpec.ofChange jordanCountsSpec)

/-- ITS FALSE NEIGHBOUR: 'it returns false'. Refute it at one input. -/
def jordanCountsWrong : ChangeSpec := { name := "jordanCounts", fn := fun _ => fun
  | [d1, d2] => { results := [.lit (.bool false)], args := [d1, d2] }
  | _ => none }
def JordanCountsWrongFalsely : Prop := jordanCountsRow.holds Tryz.pinned (OpenSpec.ofChange jordanCountsWrong)

/- THE SECOND FORM. 'bulk': how many values and letters a reading holds, each counted each time it is reached (what is shared counts as often as it is met; a slice's spare places count too). A statement '..UptoSaid' is the law's where the arguments, and the package variables that the reading takes, are together of bulk at most 1048576: NARROWER than '..Said'. Prove '..Said' where nothing that the law and all that it calls make is longer than what came in: it says more and counts as full. Else prove '..UptoSaid'. A law counts once. -/
mutual
def uptoBulk {H : Type} : DataW H → Nat
  | .lit (.string bytes) => bytes.length + 1
  | .lit _ => 1
  | .nil => 1
  | .ptr d => uptoBulk d + 1
  | .slice elems spare => uptoBulkAll elems + uptoBulkAll spare + 1
  | .agg parts => uptoBulkAll parts + 1
  | .iface _ d => uptoBulk d + 1
  | .map entries => uptoBulkEntries entries + 1
  | .held _ => 1
def uptoBulkAll {H : Type} : List (DataW H) → Nat
  | [] => 0
  | d :: r => uptoBulk d + uptoBulkAll r
def uptoBulkEntries {H : Type} : List (Lit × DataW H) → Nat
  | [] => 0
  | x :: r => uptoBulkEntry x + uptoBulkEntries r
def uptoBulkEntry {H : Type} : Lit × DataW H → Nat
  | (.string bytes, d) => bytes.length + uptoBulk d + 1
  | (_, d) => uptoBulk d + 1
 end
def uptoSmall : (H : Type) → List (DataW H) → Bool := fun _ ds => decide (uptoBulkAll ds ≤ 1048576)
def OpenSpec.upto (s : _root_.Go.ChangeSpec) : _root_.Go.OpenSpec := { _root_.Go.OpenSpec.ofChange s with cond := some uptoSmall }

/-- 'quadformlaw24.JordanVerifies', WHERE WHAT IT READS IS OF BULK AT MOST 1048576: true; the input reads as it did. -/
def jordanVerifiesUptoRow : OpenClaim := { program := "ytdkldlbgcfpglaagreatdoor", sum := "78d5fa9b9645f77c85b98e6a8af9c32e034ba766b507ae5517b2d92d4fd80b43", func := "quadform/quadformlaw24.JordanVerifies", spec := "jordanVerifies", unfollowed := true, recurses := true, named := ["quadform/prime.offsets"], apart := false, laid := [("quadform/prime.offsets", laid_quadform_prime_offsets)], narrowed := true }
def JordanVerifiesUptoSaid : Prop := jordanVerifiesUptoRow.holds Tryz.pinned (OpenSpec.upto jordanVerifiesSpec)

/-- 'quadformlaw24.JordanDecomposes', WHERE WHAT IT READS IS OF BULK AT MOST 1048576: true; the input reads as it did. -/
def jordanDecomposesUptoRow : OpenClaim := { program := "ytdkldlbgcfpglaagreatdoor", sum := "78d5fa9b9645f77c85b98e6a8af9c32e034ba766b507ae5517b2d92d4fd80b43", func := "quadform/quadformlaw24.JordanDecomposes", spec := "jordanDecomposes", unfollowed := true, recurses := true, named := ["quadform/prime.offsets"], apart := false, laid := [("quadform/prime.offsets", laid_quadform_prime_offsets)], narrowed := true }
def JordanDecomposesUptoSaid : Prop := jordanDecomposesUptoRow.holds Tryz.pinned (OpenSpec.upto jordanDecomposesSpec)

/-- 'quadformlaw24.JordanRefuses', WHERE WHAT IT READS IS OF BULK AT MOST 1048576: true; the input reads as it did. -/
def jordanRefusesUptoRow : OpenClaim := { program := "ytdkldlbgcfpglaagreatdoor", sum := "78d5fa9b9645f77c85b98e6a8af9c32e034ba766b507ae5517b2d92d4fd80b43", func := "quadform/quadformlaw24.JordanRefuses", spec := "jordanRefuses", unfollowed := true, recurses := true, named := ["quadform/prime.offsets"], apart := false, laid := [("quadform/prime.offsets", laid_quadform_prime_offsets)], narrowed := true }
def JordanRefusesUptoSaid : Prop := jordanRefusesUptoRow.holds Tryz.pinned (OpenSpec.upto jordanRefusesSpec)

/-- 'quadformlaw24.JordanCounts', WHERE WHAT IT READS IS OF BULK AT MOST 1048576: true; the input reads as it did. -/
def jordanCountsUptoRow : OpenClaim := { program := "ytdkldlbgcfpglaagreatdoor", sum := "78d5fa9b9645f77c85b98e6a8af9c32e034ba766b507ae5517b2d92d4fd80b43", func := "quadform/quadformlaw24.JordanCounts", spec := "jordanCounts", unfollowed := true, recurses := true, named := ["quadform/prime.offsets"], apart := false, laid := [("quadform/prime.offsets", laid_quadform_prime_offsets)], narrowed := true }
def JordanCountsUptoSaid : Prop := jordanCountsUptoRow.holds Tryz.pinned (OpenSpec.upto jordanCountsSpec)

end Rows
end Go.Proofs.YtdkldlbgcfpglaaGreatDoor
