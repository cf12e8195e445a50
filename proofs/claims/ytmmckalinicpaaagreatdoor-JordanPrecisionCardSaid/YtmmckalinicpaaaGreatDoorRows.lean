/-
  NARROWER THAN 'FOR EVERY INPUT', by the rows' own cells (each row's printed sentence says how): DyadicVerifies: laid · DyadicRaw: laid · JordanPrecision: laid · JordanVerifies: laid · JordanRaw: laid · JordanDecomposes: laid · JordanRefuses: laid · JordanInvariant: laid · JordanCounts: laid · DyadicDecomposes: laid · DyadicCounts: laid · DyadicEven: laid.
  DERIVED. THE GIVEN ROWS OF THIS SEAT. 12 by the template 'for every input the law returns true; each argument reads behind the call as it read before'; 0 by the template 'total and deterministic' (their statements: YtmmckalinicpaaaGreatDoorTotals.lean).
  GIVEN WITH THE SEED: the statements are not yours to turn. If you find one false, say at which input.
  Laid BY PROGRAM, IN A SANDBOX (cutbox-rows.mjs): the forced cells as the released guide's own fill.sh prints them over the translation a2458d006fc1aeab… (all of the seat's roots in one cut). By AI agents, Wed Nov 11 2026. No macro, syntax, notation, axiom, sorry.
-/
import Derived.Test.YtmmckalinicpaaaGreatDoorChecked
import GoSem.Claim
import GoSem.ClaimJoined
import GoSem.ClaimMapViews
import Derived.JoinedTies
import Derived.KernelRfl
namespace Go.Proofs.YtmmckalinicpaaaGreatDoor
/- THE CELL 'sum', in the pinned program and in every row, IS THE sha256 OF THE DUMP (.gsa) THAT YtmmckalinicpaaaGreatDoorProg.lean LOADS. Nothing in Lean hashes anything: it is a label: what it is worth is what the hold of that sum in a sandbox is worth. -/
noncomputable def Tryz.pinned : Pinned := { name := "ytmmckalinicpaaagreatdoor", sum := "a2458d006fc1aeab0ae8fbcf9f7fc11fb30d1cadcaed33b7d74d287eda4e0f97", checked := Tryz.checked }
namespace Rows
def none {H : Type} : Left H := { results := [], args := [] }

/- WHAT THE LISTED PACKAGE-LEVEL VARIABLES READ AS WHEN THE CALL BEGINS. Each datum BY PROGRAM (the guide's laid-datum.mjs) off the statement by which the dump's own 'gosem.cut.vars' lays the variable. In a bare row this is a premise. The card (YtmmckalinicpaaaGreatDoorCards.lean) ties it to the program's text. -/
def laid_quadform_prime_offsets {H : Type} : DataW H := .agg [.lit (.int .i64 7), .lit (.int .i64 11), .lit (.int .i64 13), .lit (.int .i64 17), .lit (.int .i64 19), .lit (.int .i64 23), .lit (.int .i64 29), .lit (.int .i64 31)]

/-- 'quadformlaw25.DyadicVerifies': WHATEVER THE INPUT: true; the input reads as it did. -/
def dyadicVerifiesSpec : ChangeSpec := { name := "dyadicVerifies", fn := fun _ => fun
  | [d1, d2, d3, d4] => { results := [.lit (.bool true)], args := [d1, d2, d3, d4] }
  | _ => none }
def dyadicVerifiesRow : OpenClaim := { program := "ytmmckalinicpaaagreatdoor", sum := "a2458d006fc1aeab0ae8fbcf9f7fc11fb30d1cadcaed33b7d74d287eda4e0f97", func := "quadform/quadformlaw25.DyadicVerifies", spec := "dyadicVerifies", unfollowed := true, recurses := true, named := ["quadform/prime.offsets"], apart := false, laid := [("quadform/prime.offsets", laid_quadform_prime_offsets)] }
def DyadicVerifiesSaid : Prop := dyadicVerifiesRow.holds Tryz.pinned (OpenSpec.ofChange dyadicVerifiesSpec)

/-- ITS FALSE NEIGHBOUR: 'it returns false'. Refute it at one input. -/
def dyadicVerifiesWrong : ChangeSpec := { name := "dyadicVerifies", fn := fun _ => fun
  | [d1, d2, d3, d4] => { results := [.lit (.bool false)], args := [d1, d2, d3, d4] }
  | _ => none }
def DyadicVerifiesWrongFalsely : Prop := dyadicVerifiesRow.holds Tryz.pinned (OpenSpec.ofChange dyadicVerifiesWrong)

/-- 'quadformlaw25.DyadicRaw': WHATEVER THE INPUT: true; the input reads as it did. -/
def dyadicRawSpec : ChangeSpec := { name := "dyadicRaw", fn := fun _ => fun
  | [d1, d2, d3, d4] => { results := [.lit (.bool true)], args := [d1, d2, d3, d4] }
  | _ => none }
def dyadicRawRow : OpenClaim := { program := "ytmmckalinicpaaagreatdoor", sum := "a2458d006fc1aeab0ae8fbcf9f7fc11fb30d1cadcaed33b7d74d287eda4e0f97", func := "quadform/quadformlaw25.DyadicRaw", spec := "dyadicRaw", unfollowed := true, recurses := true, named := ["quadform/prime.offsets"], apart := false, laid := [("quadform/prime.offsets", laid_quadform_prime_offsets)] }
def DyadicRawSaid : Prop := dyadicRawRow.holds Tryz.pinned (OpenSpec.ofChange dyadicRawSpec)

/-- ITS FALSE NEIGHBOUR: 'it returns false'. Refute it at one input. -/
def dyadicRawWrong : ChangeSpec := { name := "dyadicRaw", fn := fun _ => fun
  | [d1, d2, d3, d4] => { results := [.lit (.bool false)], args := [d1, d2, d3, d4] }
  | _ => none }
def DyadicRawWrongFalsely : Prop := dyadicRawRow.holds Tryz.pinned (OpenSpec.ofChange dyadicRawWrong)

/-- 'quadformlaw24.JordanPrecision': WHATEVER THE INPUT: true; the input reads as it did. -/
def jordanPrecisionSpec : ChangeSpec := { name := "jordanPrecision", fn := fun _ => fun
  | [d1, d2, d3, d4, d5, d6] => { results := [.lit (.bool true)], args := [d1, d2, d3, d4, d5, d6] }
  | _ => none }
def jordanPrecisionRow : OpenClaim := { program := "ytmmckalinicpaaagreatdoor", sum := "a2458d006fc1aeab0ae8fbcf9f7fc11fb30d1cadcaed33b7d74d287eda4e0f97", func := "quadform/quadformlaw24.JordanPrecision", spec := "jordanPrecision", unfollowed := true, recurses := true, named := ["quadform/prime.offsets"], apart := false, laid := [("quadform/prime.offsets", laid_quadform_prime_offsets)] }
def JordanPrecisionSaid : Prop := jordanPrecisionRow.holds Tryz.pinned (OpenSpec.ofChange jordanPrecisionSpec)

/-- ITS FALSE NEIGHBOUR: 'it returns false'. Refute it at one input. -/
def jordanPrecisionWrong : ChangeSpec := { name := "jordanPrecision", fn := fun _ => fun
  | [d1, d2, d3, d4, d5, d6] => { results := [.lit (.bool false)], args := [d1, d2, d3, d4, d5, d6] }
  | _ => none }
def JordanPrecisionWrongFalsely : Prop := jordanPrecisionRow.holds Tryz.pinned (OpenSpec.ofChange jordanPrecisionWrong)

/-- 'quadformlaw24.JordanVerifies': WHATEVER THE INPUT: true; the input reads as it did. -/
def jordanVerifiesSpec : ChangeSpec := { name := "jordanVerifies", fn := fun _ => fun
  | [d1, d2, d3, d4, d5] => { results := [.lit (.bool true)], args := [d1, d2, d3, d4, d5] }
  | _ => none }
def jordanVerifiesRow : OpenClaim := { program := "ytmmckalinicpaaagreatdoor", sum := "a2458d006fc1aeab0ae8fbcf9f7fc11fb30d1cadcaed33b7d74d287eda4e0f97", func := "quadform/quadformlaw24.JordanVerifies", spec := "jordanVerifies", unfollowed := true, recurses := true, named := ["quadform/prime.offsets"], apart := false, laid := [("quadform/prime.offsets", laid_quadform_prime_offsets)] }
def JordanVerifiesSaid : Prop := jordanVerifiesRow.holds Tryz.pinned (OpenSpec.ofChange jordanVerifiesSpec)

/-- ITS FALSE NEIGHBOUR: 'it returns false'. Refute it at one input. -/
def jordanVerifiesWrong : ChangeSpec := { name := "jordanVerifies", fn := fun _ => fun
  | [d1, d2, d3, d4, d5] => { results := [.lit (.bool false)], args := [d1, d2, d3, d4, d5] }
  | _ => none }
def JordanVerifiesWrongFalsely : Prop := jordanVerifiesRow.holds Tryz.pinned (OpenSpec.ofChange jordanVerifiesWrong)

/-- 'quadformlaw24.JordanRaw': WHATEVER THE INPUT: true; the input reads as it did. -/
def jordanRawSpec : ChangeSpec := { name := "jordanRaw", fn := fun _ => fun
  | [d1, d2, d3, d4] => { results := [.lit (.bool true)], args := [d1, d2, d3, d4] }
  | _ => none }
def jordanRawRow : OpenClaim := { program := "ytmmckalinicpaaagreatdoor", sum := "a2458d006fc1aeab0ae8fbcf9f7fc11fb30d1cadcaed33b7d74d287eda4e0f97", func := "quadform/quadformlaw24.JordanRaw", spec := "jordanRaw", unfollowed := true, recurses := true, named := ["quadform/prime.offsets"], apart := false, laid := [("quadform/prime.offsets", laid_quadform_prime_offsets)] }
def JordanRawSaid : Prop := jordanRawRow.holds Tryz.pinned (OpenSpec.ofChange jordanRawSpec)

/-- ITS FALSE NEIGHBOUR: 'it returns false'. Refute it at one input. -/
def jordanRawWrong : ChangeSpec := { name := "jordanRaw", fn := fun _ => fun
  | [d1, d2, d3, d4] => { results := [.lit (.bool false)], args := [d1, d2, d3, d4] }
  | _ => none }
def JordanRawWrongFalsely : Prop := jordanRawRow.holds Tryz.pinned (OpenSpec.ofChange jordanRawWrong)

/-- 'quadformlaw24.JordanDecomposes': WHATEVER THE INPUT: true; the input reads as it did. -/
def jordanDecomposesSpec : ChangeSpec := { name := "jordanDecomposes", fn := fun _ => fun
  | [d1, d2] => { results := [.lit (.bool true)], args := [d1, d2] }
  | _ => none }
def jordanDecomposesRow : OpenClaim := { program := "ytmmckalinicpaaagreatdoor", sum := "a2458d006fc1aeab0ae8fbcf9f7fc11fb30d1cadcaed33b7d74d287eda4e0f97", func := "quadform/quadformlaw24.JordanDecomposes", spec := "jordanDecomposes", unfollowed := true, recurses := true, named := ["quadform/prime.offsets"], apart := false, laid := [("quadform/prime.offsets", laid_quadform_prime_offsets)] }
def JordanDecomposesSaid : Prop := jordanDecomposesRow.holds Tryz.pinned (OpenSpec.ofChange jordanDecomposesSpec)

/-- ITS FALSE NEIGHBOUR: 'it returns false'. Refute it at one input. -/
def jordanDecomposesWrong : ChangeSpec := { name := "jordanDecomposes", fn := fun _ => fun
  | [d1, d2] => { results := [.lit (.bool false)], args := [d1, d2] }
  | _ => none }
def JordanDecomposesWrongFalsely : Prop := jordanDecomposesRow.holds Tryz.pinned (OpenSpec.ofChange jordanDecomposesWrong)

/-- 'quadformlaw24.JordanRefuses': WHATEVER THE INPUT: true; the input reads as it did. -/
def jordanRefusesSpec : ChangeSpec := { name := "jordanRefuses", fn := fun _ => fun
  | [d1, d2, d3, d4, d5, d6] => { results := [.lit (.bool true)], args := [d1, d2, d3, d4, d5, d6] }
  | _ => none }
def jordanRefusesRow : OpenClaim := { program := "ytmmckalinicpaaagreatdoor", sum := "a2458d006fc1aeab0ae8fbcf9f7fc11fb30d1cadcaed33b7d74d287eda4e0f97", func := "quadform/quadformlaw24.JordanRefuses", spec := "jordanRefuses", unfollowed := true, recurses := true, named := ["quadform/prime.offsets"], apart := false, laid := [("quadform/prime.offsets", laid_quadform_prime_offsets)] }
def JordanRefusesSaid : Prop := jordanRefusesRow.holds Tryz.pinned (OpenSpec.ofChange jordanRefusesSpec)

/-- ITS FALSE NEIGHBOUR: 'it returns false'. Refute it at one input. -/
def jordanRefusesWrong : ChangeSpec := { name := "jordanRefuses", fn := fun _ => fun
  | [d1, d2, d3, d4, d5, d6] => { results := [.lit (.bool false)], args := [d1, d2, d3, d4, d5, d6] }
  | _ => none }
def JordanRefusesWrongFalsely : Prop := jordanRefusesRow.holds Tryz.pinned (OpenSpec.ofChange jordanRefusesWrong)

/-- 'quadformlaw24.JordanInvariant': WHATEVER THE INPUT: true; the input reads as it did. -/
def jordanInvariantSpec : ChangeSpec := { name := "jordanInvariant", fn := fun _ => fun
  | [d1, d2] => { results := [.lit (.bool true)], args := [d1, d2] }
  | _ => none }
def jordanInvariantRow : OpenClaim := { program := "ytmmckalinicpaaagreatdoor", sum := "a2458d006fc1aeab0ae8fbcf9f7fc11fb30d1cadcaed33b7d74d287eda4e0f97", func := "quadform/quadformlaw24.JordanInvariant", spec := "jordanInvariant", unfollowed := true, recurses := true, named := ["quadform/prime.offsets"], apart := false, laid := [("quadform/prime.offsets", laid_quadform_prime_offsets)] }
def JordanInvariantSaid : Prop := jordanInvariantRow.holds Tryz.pinned (OpenSpec.ofChange jordanInvariantSpec)

/-- ITS FALSE NEIGHBOUR: 'it returns false'. Refute it at one input. -/
def jordanInvariantWrong : ChangeSpec := { name := "jordanInvariant", fn := fun _ => fun
  | [d1, d2] => { results := [.lit (.bool false)], args := [d1, d2] }
  | _ => none }
def JordanInvariantWrongFalsely : Prop := jordanInvariantRow.holds Tryz.pinned (OpenSpec.ofChange jordanInvariantWrong)

/-- 'quadformlaw24.JordanCounts': WHATEVER THE INPUT: true; the input reads as it did. -/
def jordanCountsSpec : ChangeSpec := { name := "jordanCounts", fn := fun _ => fun
  | [d1, d2] => { results := [.lit (.bool true)], args := [d1, d2] }
  | _ => none }
def jordanCountsRow : OpenClaim := { program := "ytmmckalinicpaaagreatdoor", sum := "a2458d006fc1aeab0ae8fbcf9f7fc11fb30d1cadcaed33b7d74d287eda4e0f97", func := "quadform/quadformlaw24.JordanCounts", spec := "jordanCounts", unfollowed := true, recurses := true, named := ["quadform/prime.offsets"], apart := false, laid := [("quadform/prime.offsets", laid_quadform_prime_offsets)] }
def JordanCountsSaid : Prop := jordanCountsRow.holds Tryz.pinned (OpenSpec.ofChange jordanCountsSpec)

/-- ITS FALSE NEIGHBOUR: 'it returns false'. Refute it at one input. -/
def jordanCountsWrong : ChangeSpec := { name := "jordanCounts", fn := fun _ => fun
  | [d1, d2] => { results := [.lit (.bool false)], args := [d1, d2] }
  | _ => none }
def JordanCountsWrongFalsely : Prop := jordanCountsRow.holds Tryz.pinned (OpenSpec.ofChange jordanCountsWrong)

/-- 'quadformlaw25.DyadicDecomposes': WHATEVER THE INPUT: true; the input reads as it did. -/
def dyadicDecomposesSpec : ChangeSpec := { name := "dyadicDecomposes", fn := fun _ => fun
  | [d1, d2, d3] => { results := [.lit (.bool true)], args := [d1, d2, d3] }
  | _ => none }
def dyadicDecomposesRow : OpenClaim := { program := "ytmmckalinicpaaagreatdoor", sum := "a2458d006fc1aeab0ae8fbcf9f7fc11fb30d1cadcaed33b7d74d287eda4e0f97", func := "quadform/quadformlaw25.DyadicDecomposes", spec := "dyadicDecomposes", unfollowed := true, recurses := true, named := ["quadform/prime.offsets"], apart := false, laid := [("quadform/prime.offsets", laid_quadform_prime_offsets)] }
def DyadicDecomposesSaid : Prop := dyadicDecomposesRow.holds Tryz.pinned (OpenSpec.ofChange dyadicDecomposesSpec)

/-- ITS FALSE NEIGHBOUR: 'it returns false'. Refute it at one input. -/
def dyadicDecomposesWrong : ChangeSpec := { name := "dyadicDecomposes", fn := fun _ => fun
  | [d1, d2, d3] => { results := [.lit (.bool false)], args := [d1, d2, d3] }
  | _ => none }
def DyadicDecomposesWrongFalsely : Prop := dyadicDecomposesRow.holds Tryz.pinned (OpenSpec.ofChange dyadicDecomposesWrong)

/-- 'quadformlaw25.DyadicCounts': WHATEVER THE INPUT: true; the input reads as it did. -/
def dyadicCountsSpec : ChangeSpec := { name := "dyadicCounts", fn := fun _ => fun
  | [d] => { results := [.lit (.bool true)], args := [d] }
  | _ => none }
def dyadicCountsRow : OpenClaim := { program := "ytmmckalinicpaaagreatdoor", sum := "a2458d006fc1aeab0ae8fbcf9f7fc11fb30d1cadcaed33b7d74d287eda4e0f97", func := "quadform/quadformlaw25.DyadicCounts", spec := "dyadicCounts", unfollowed := true, recurses := true, named := ["quadform/prime.offsets"], apart := false, laid := [("quadform/prime.offsets", laid_quadform_prime_offsets)] }
def DyadicCountsSaid : Prop := dyadicCountsRow.holds Tryz.pinned (OpenSpec.ofChange dyadicCountsSpec)

/-- ITS FALSE NEIGHBOUR: 'it returns false'. Refute it at one input. -/
def dyadicCountsWrong : ChangeSpec := { name := "dyadicCounts", fn := fun _ => fun
  | [d] => { results := [.lit (.bool false)], args := [d] }
  | _ => none }
def DyadicCountsWrongFalsely : Prop := dyadicCountsRow.holds Tryz.pinned (OpenSpec.ofChange dyadicCountsWrong)

/-- 'quadformlaw25.DyadicEven': WHATEVER THE INPUT: true; the input reads as it did. -/
def dyadicEvenSpec : ChangeSpec := { name := "dyadicEven", fn := fun _ => fun
  | [d] => { results := [.lit (.bool true)], args := [d] }
  | _ => none }
def dyadicEvenRow : OpenClaim := { program := "ytmmckalinicpaaagreatdoor", sum := "a2458d006fc1aeab0ae8fbcf9f7fc11fb30d1cadcaed33b7d74d287eda4e0f97", func := "quadform/quadformlaw25.DyadicEven", spec := "dyadicEven", unfollowed := true, recurses := true, named := ["quadform/prime.offsets"], apart := false, laid := [("quadform/prime.offsets", laid_quadform_prime_offsets)] }
def DyadicEvenSaid : Prop := dyadicEvenRow.holds Tryz.pinned (OpenSpec.ofChange dyadicEvenSpec)

/-- ITS FALSE NEIGHBOUR: 'it returns false'. Refute it at one input. -/
def dyadicEvenWrong : ChangeSpec := { name := "dyadicEven", fn := fun _ => fun
  | [d] => { results := [.lit (.bool false)], args := [d] }
  | _ => none }
def DyadicEvenWrongFalsely : Prop := dyadicEvenRow.holds Tryz.pinned (OpenSpec.ofChange dyadicEvenWrong)

/- THE SECOND FORM. 'bulk': how many values and letters a reading holds, each counted each time it is reached (what is shared counts as often as it is met; a slice's spare places count too). A statement '..UptoSaid' is the law's where the arguments, and the package variables that the reading takes, are together of bulk at most 1048576: NARROWER than '..Said'. Prove '..Said' where nothing that the law and all that it calls make is longer than what came in: it says more and counts as full. Else prove '..UptoSaid'. A law counts once. -/
mutual
def uptoBulk {H : Type} : DataW H → Nat
  | .lit (.string bytes) => bytes.length + 1
  | .lit _ => 1
  | .nil => 1
  | .ptr d => uptoBulk d + 1
  | .slice elems spare => uptoBulkAll elems + uptoBulkAll spare + 1
  | .agg parts => uptoBulkAll parts + 1
  | .iface _ d => uptoBulk d + 1
  | .map entries => uptoBulkEntries entries + 1
  | .held _ => 1
def uptoBulkAll {H : Type} : List (DataW H) → Nat
  | [] => 0
  | d :: r => uptoBulk d + uptoBulkAll r
def uptoBulkEntries {H : Type} : List (Lit × DataW H) → Nat
  | [] => 0
  | x :: r => uptoBulkEntry x + uptoBulkEntries r
def uptoBulkEntry {H : Type} : Lit × DataW H → Nat
  | (.string bytes, d) => bytes.length + uptoBulk d + 1
  | (_, d) => uptoBulk d + 1
 end
def uptoSmall : (H : Type) → List (DataW H) → Bool := fun _ ds => decide (uptoBulkAll ds ≤ 1048576)
def OpenSpec.upto (s : _root_.Go.ChangeSpec) : _root_.Go.OpenSpec := { _root_.Go.OpenSpec.ofChange s with cond := some uptoSmall }

/-- 'quadformlaw25.DyadicVerifies', WHERE WHAT IT READS IS OF BULK AT MOST 1048576: true; the input reads as it did. -/
def dyadicVerifiesUptoRow : OpenClaim := { program := "ytmmckalinicpaaagreatdoor", sum := "a2458d006fc1aeab0ae8fbcf9f7fc11fb30d1cadcaed33b7d74d287eda4e0f97", func := "quadform/quadformlaw25.DyadicVerifies", spec := "dyadicVerifies", unfollowed := true, recurses := true, named := ["quadform/prime.offsets"], apart := false, laid := [("quadform/prime.offsets", laid_quadform_prime_offsets)], narrowed := true }
def DyadicVerifiesUptoSaid : Prop := dyadicVerifiesUptoRow.holds Tryz.pinned (OpenSpec.upto dyadicVerifiesSpec)

/-- 'quadformlaw25.DyadicRaw', WHERE WHAT IT READS IS OF BULK AT MOST 1048576: true; the input reads as it did. -/
def dyadicRawUptoRow : OpenClaim := { program := "ytmmckalinicpaaagreatdoor", sum := "a2458d006fc1aeab0ae8fbcf9f7fc11fb30d1cadcaed33b7d74d287eda4e0f97", func := "quadform/quadformlaw25.DyadicRaw", spec := "dyadicRaw", unfollowed := true, recurses := true, named := ["quadform/prime.offsets"], apart := false, laid := [("quadform/prime.offsets", laid_quadform_prime_offsets)], narrowed := true }
def DyadicRawUptoSaid : Prop := dyadicRawUptoRow.holds Tryz.pinned (OpenSpec.upto dyadicRawSpec)

/-- 'quadformlaw24.JordanPrecision', WHERE WHAT IT READS IS OF BULK AT MOST 1048576: true; the input reads as it did. -/
def jordanPrecisionUptoRow : OpenClaim := { program := "ytmmckalinicpaaagreatdoor", sum := "a2458d006fc1aeab0ae8fbcf9f7fc11fb30d1cadcaed33b7d74d287eda4e0f97", func := "quadform/quadformlaw24.JordanPrecision", spec := "jordanPrecision", unfollowed := true, recurses := true, named := ["quadform/prime.offsets"], apart := false, laid := [("quadform/prime.offsets", laid_quadform_prime_offsets)], narrowed := true }
def JordanPrecisionUptoSaid : Prop := jordanPrecisionUptoRow.holds Tryz.pinned (OpenSpec.upto jordanPrecisionSpec)

/-- 'quadformlaw24.JordanVerifies', WHERE WHAT IT READS IS OF BULK AT MOST 1048576: true; the input reads as it did. -/
def jordanVerifiesUptoRow : OpenClaim := { program := "ytmmckalinicpaaagreatdoor", sum := "a2458d006fc1aeab0ae8fbcf9f7fc11fb30d1cadcaed33b7d74d287eda4e0f97", func := "quadform/quadformlaw24.JordanVerifies", spec := "jordanVerifies", unfollowed := true, recurses := true, named := ["quadform/prime.offsets"], apart := false, laid := [("quadform/prime.offsets", laid_quadform_prime_offsets)], narrowed := true }
def JordanVerifiesUptoSaid : Prop := jordanVerifiesUptoRow.holds Tryz.pinned (OpenSpec.upto jordanVerifiesSpec)

/-- 'quadformlaw24.JordanRaw', WHERE WHAT IT READS IS OF BULK AT MOST 1048576: true; the input reads as it did. -/
def jordanRawUptoRow : OpenClaim := { program := "ytmmckalinicpaaagreatdoor", sum := "a2458d006fc1aeab0ae8fbcf9f7fc11fb30d1cadcaed33b7d74d287eda4e0f97", func := "quadform/quadformlaw24.JordanRaw", spec := "jordanRaw", unfollowed := true, recurses := true, named := ["quadform/prime.offsets"], apart := false, laid := [("quadform/prime.offsets", laid_quadform_prime_offsets)], narrowed := true }
def JordanRawUptoSaid : Prop := jordanRawUptoRow.holds Tryz.pinned (OpenSpec.upto jordanRawSpec)

/-- 'quadformlaw24.JordanDecomposes', WHERE WHAT IT READS IS OF BULK AT MOST 1048576: true; the input reads as it did. -/
def jordanDecomposesUptoRow : OpenClaim := { program := "ytmmckalinicpaaagreatdoor", sum := "a2458d006fc1aeab0ae8fbcf9f7fc11fb30d1cadcaed33b7d74d287eda4e0f97", func := "quadform/quadformlaw24.JordanDecomposes", spec := "jordanDecomposes", unfollowed := true, recurses := true, named := ["quadform/prime.offsets"], apart := false, laid := [("quadform/prime.offsets", laid_quadform_prime_offsets)], narrowed := true }
def JordanDecomposesUptoSaid : Prop := jordanDecomposesUptoRow.holds Tryz.pinned (OpenSpec.upto jordanDecomposesSpec)

/-- 'quadformlaw24.JordanRefuses', WHERE WHAT IT READS IS OF BULK AT MOST 1048576: true; the input reads as it did. -/
def jordanRefusesUptoRow : OpenClaim := { program := "ytmmckalinicpaaagreatdoor", sum := "a2458d006fc1aeab0ae8fbcf9f7fc11fb30d1cadcaed33b7d74d287eda4e0f97", func := "quadform/quadformlaw24.JordanRefuses", spec := "jordanRefuses", unfollowed := true, recurses := true, named := ["quadform/prime.offsets"], apart := false, laid := [("quadform/prime.offsets", laid_quadform_prime_offsets)], narrowed := true }
def JordanRefusesUptoSaid : Prop := jordanRefusesUptoRow.holds Tryz.pinned (OpenSpec.upto jordanRefusesSpec)

/-- 'quadformlaw24.JordanInvariant', WHERE WHAT IT READS IS OF BULK AT MOST 1048576: true; the input reads as it did. -/
def jordanInvariantUptoRow : OpenClaim := { program := "ytmmckalinicpaaagreatdoor", sum := "a2458d006fc1aeab0ae8fbcf9f7fc11fb30d1cadcaed33b7d74d287eda4e0f97", func := "quadform/quadformlaw24.JordanInvariant", spec := "jordanInvariant", unfollowed := true, recurses := true, named := ["quadform/prime.offsets"], apart := false, laid := [("quadform/prime.offsets", laid_quadform_prime_offsets)], narrowed := true }
def JordanInvariantUptoSaid : Prop := jordanInvariantUptoRow.holds Tryz.pinned (OpenSpec.upto jordanInvariantSpec)

/-- 'quadformlaw24.JordanCounts', WHERE WHAT IT READS IS OF BULK AT MOST 1048576: true; the input reads as it did. -/
def jordanCountsUptoRow : OpenClaim := { program := "ytmmckalinicpaaagreatdoor", sum := "a2458d006fc1aeab0ae8fbcf9f7fc11fb30d1cadcaed33b7d74d287eda4e0f97", func := "quadform/quadformlaw24.JordanCounts", spec := "jordanCounts", unfollowed := true, recurses := true, named := ["quadform/prime.offsets"], apart := false, laid := [("quadform/prime.offsets", laid_quadform_prime_offsets)], narrowed := true }
def JordanCountsUptoSaid : Prop := jordanCountsUptoRow.holds Tryz.pinned (OpenSpec.upto jordanCountsSpec)

/-- 'quadformlaw25.DyadicDecomposes', WHERE WHAT IT READS IS OF BULK AT MOST 1048576: true; the input reads as it did. -/
def dyadicDecomposesUptoRow : OpenClaim := { program := "ytmmckalinicpaaagreatdoor", sum := "a2458d006fc1aeab0ae8fbcf9f7fc11fb30d1cadcaed33b7d74d287eda4e0f97", func := "quadform/quadformlaw25.DyadicDecomposes", spec := "dyadicDecomposes", unfollowed := true, recurses := true, named := ["quadform/prime.offsets"], apart := false, laid := [("quadform/prime.offsets", laid_quadform_prime_offsets)], narrowed := true }
def DyadicDecomposesUptoSaid : Prop := dyadicDecomposesUptoRow.holds Tryz.pinned (OpenSpec.upto dyadicDecomposesSpec)

/-- 'quadformlaw25.DyadicCounts', WHERE WHAT IT READS IS OF BULK AT MOST 1048576: true; the input reads as it did. -/
def dyadicCountsUptoRow : OpenClaim := { program := "ytmmckalinicpaaagreatdoor", sum := "a2458d006fc1aeab0ae8fbcf9f7fc11fb30d1cadcaed33b7d74d287eda4e0f97", func := "quadform/quadformlaw25.DyadicCounts", spec := "dyadicCounts", unfollowed := true, recurses := true, named := ["quadform/prime.offsets"], apart := false, laid := [("quadform/prime.offsets", laid_quadform_prime_offsets)], narrowed := true }
def DyadicCountsUptoSaid : Prop := dyadicCountsUptoRow.holds Tryz.pinned (OpenSpec.upto dyadicCountsSpec)

/-- 'quadformlaw25.DyadicEven', WHERE WHAT IT READS IS OF BULK AT MOST 1048576: true; the input reads as it did. -/
def dyadicEvenUptoRow : OpenClaim := { program := "ytmmckalinicpaaagreatdoor", sum := "a2458d006fc1aeab0ae8fbcf9f7fc11fb30d1cadcaed33b7d74d287eda4e0f97", func := "quadform/quadformlaw25.DyadicEven", spec := "dyadicEven", unfollowed := true, recurses := true, named := ["quadform/prime.offsets"], apart := false, laid := [("quadform/prime.offsets", laid_quadform_prime_offsets)], narrowed := true }
def DyadicEvenUptoSaid : Prop := dyadicEvenUptoRow.holds Tryz.pinned (OpenSpec.upto dyadicEvenSpec)

end Rows
end Go.Proofs.YtmmckalinicpaaaGreatDoor
