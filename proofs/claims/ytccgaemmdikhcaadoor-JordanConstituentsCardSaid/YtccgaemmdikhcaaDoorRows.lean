/-
  NARROWER THAN 'FOR EVERY INPUT', by the rows' own cells (each row's printed sentence says how): LineLimits: laid · DyadicConstituents: laid · DyadicBlocks: laid · JordanConstituents: laid · JordanUnits: laid.
  DERIVED. THE GIVEN ROWS OF THIS SEAT. 5 by the template 'for every input the law returns true; each argument reads behind the call as it read before'; 0 by the template 'total and deterministic' (their statements: YtccgaemmdikhcaaDoorTotals.lean).
  GIVEN WITH THE SEED: the statements are not yours to turn. If you find one false, say at which input.
  Laid BY PROGRAM, IN A SANDBOX (cutbox-rows.mjs): the forced cells as the released guide's own fill.sh prints them over the translation 1c12e0113b82d0fe… (all of the seat's roots in one cut). By AI agents, Wed Nov 11 2026. No macro, syntax, notation, axiom, sorry.
-/
import Derived.Test.YtccgaemmdikhcaaDoorChecked
import GoSem.Claim
import GoSem.ClaimJoined
import GoSem.ClaimMapViews
import Derived.JoinedTies
import Derived.KernelRfl
namespace Go.Proofs.YtccgaemmdikhcaaDoor
/- THE CELL 'sum', in the pinned program and in every row, IS THE sha256 OF THE DUMP (.gsa) THAT YtccgaemmdikhcaaDoorProg.lean LOADS. Nothing in Lean hashes anything: it is a label: what it is worth is what the hold of that sum in a sandbox is worth. -/
noncomputable def Tryd.pinned : Pinned := { name := "ytccgaemmdikhcaadoor", sum := "1c12e0113b82d0fedc6f7ece74d3ae7a2aebbf8d46eda71a3400cd21a05d840c", checked := Tryd.checked }
namespace Rows
def none {H : Type} : Left H := { results := [], args := [] }

/- WHAT THE LISTED PACKAGE-LEVEL VARIABLES READ AS WHEN THE CALL BEGINS. Each datum BY PROGRAM (the guide's laid-datum.mjs) off the statement by which the dump's own 'gosem.cut.vars' lays the variable. In a bare row this is a premise. The card (YtccgaemmdikhcaaDoorCards.lean) ties it to the program's text. -/
def laid_quadform_prime_offsets {H : Type} : DataW H := .agg [.lit (.int .i64 7), .lit (.int .i64 11), .lit (.int .i64 13), .lit (.int .i64 17), .lit (.int .i64 19), .lit (.int .i64 23), .lit (.int .i64 29), .lit (.int .i64 31)]

/-- 'quadformlaw34.LineLimits': WHATEVER THE INPUT: true; the input reads as it did. -/
def lineLimitsSpec : ChangeSpec := { name := "lineLimits", fn := fun _ => fun
  | [d] => { results := [.lit (.bool true)], args := [d] }
  | _ => none }
def lineLimitsRow : OpenClaim := { program := "ytccgaemmdikhcaadoor", sum := "1c12e0113b82d0fedc6f7ece74d3ae7a2aebbf8d46eda71a3400cd21a05d840c", func := "quadform/quadformlaw34.LineLimits", spec := "lineLimits", unfollowed := true, recurses := true, named := ["quadform/prime.offsets"], apart := false, laid := [("quadform/prime.offsets", laid_quadform_prime_offsets)] }
def LineLimitsSaid : Prop := lineLimitsRow.holds Tryd.pinned (OpenSpec.ofChange lineLimitsSpec)

/-- ITS FALSE NEIGHBOUR: 'it returns false'. Refute it at one input. -/
def lineLimitsWrong : ChangeSpec := { name := "lineLimits", fn := fun _ => fun
  | [d] => { results := [.lit (.bool false)], args := [d] }
  | _ => none }
def LineLimitsWrongFalsely : Prop := lineLimitsRow.holds Tryd.pinned (OpenSpec.ofChange lineLimitsWrong)

/-- 'quadformlaw25.DyadicConstituents': WHATEVER THE INPUT: true; the input reads as it did. -/
def dyadicConstituentsSpec : ChangeSpec := { name := "dyadicConstituents", fn := fun _ => fun
  | [d1, d2, d3] => { results := [.lit (.bool true)], args := [d1, d2, d3] }
  | _ => none }
def dyadicConstituentsRow : OpenClaim := { program := "ytccgaemmdikhcaadoor", sum := "1c12e0113b82d0fedc6f7ece74d3ae7a2aebbf8d46eda71a3400cd21a05d840c", func := "quadform/quadformlaw25.DyadicConstituents", spec := "dyadicConstituents", unfollowed := true, recurses := true, named := ["quadform/prime.offsets"], apart := false, laid := [("quadform/prime.offsets", laid_quadform_prime_offsets)] }
def DyadicConstituentsSaid : Prop := dyadicConstituentsRow.holds Tryd.pinned (OpenSpec.ofChange dyadicConstituentsSpec)

/-- ITS FALSE NEIGHBOUR: 'it returns false'. Refute it at one input. -/
def dyadicConstituentsWrong : ChangeSpec := { name := "dyadicConstituents", fn := fun _ => fun
  | [d1, d2, d3] => { results := [.lit (.bool false)], args := [d1, d2, d3] }
  | _ => none }
def DyadicConstituentsWrongFalsely : Prop := dyadicConstituentsRow.holds Tryd.pinned (OpenSpec.ofChange dyadicConstituentsWrong)

/-- 'quadformlaw25.DyadicBlocks': WHATEVER THE INPUT: true; the input reads as it did. -/
def dyadicBlocksSpec : ChangeSpec := { name := "dyadicBlocks", fn := fun _ => fun
  | [d1, d2, d3, d4] => { results := [.lit (.bool true)], args := [d1, d2, d3, d4] }
  | _ => none }
def dyadicBlocksRow : OpenClaim := { program := "ytccgaemmdikhcaadoor", sum := "1c12e0113b82d0fedc6f7ece74d3ae7a2aebbf8d46eda71a3400cd21a05d840c", func := "quadform/quadformlaw25.DyadicBlocks", spec := "dyadicBlocks", unfollowed := true, recurses := true, named := ["quadform/prime.offsets"], apart := false, laid := [("quadform/prime.offsets", laid_quadform_prime_offsets)] }
def DyadicBlocksSaid : Prop := dyadicBlocksRow.holds Tryd.pinned (OpenSpec.ofChange dyadicBlocksSpec)

/-- ITS FALSE NEIGHBOUR: 'it returns false'. Refute it at one input. -/
def dyadicBlocksWrong : ChangeSpec := { name := "dyadicBlocks", fn := fun _ => fun
  | [d1, d2, d3, d4] => { results := [.lit (.bool false)], args := [d1, d2, d3, d4] }
  | _ => none }
def DyadicBlocksWrongFalsely : Prop := dyadicBlocksRow.holds Tryd.pinned (OpenSpec.ofChange dyadicBlocksWrong)

/-- 'quadformlaw24.JordanConstituents': WHATEVER THE INPUT: true; the input reads as it did. -/
def jordanConstituentsSpec : ChangeSpec := { name := "jordanConstituents", fn := fun _ => fun
  | [d1, d2, d3, d4] => { results := [.lit (.bool true)], args := [d1, d2, d3, d4] }
  | _ => none }
def jordanConstituentsRow : OpenClaim := { program := "ytccgaemmdikhcaadoor", sum := "1c12e0113b82d0fedc6f7ece74d3ae7a2aebbf8d46eda71a3400cd21a05d840c", func := "quadform/quadformlaw24.JordanConstituents", spec := "jordanConstituents", unfollowed := true, recurses := true, named := ["quadform/prime.offsets"], apart := false, laid := [("quadform/prime.offsets", laid_quadform_prime_offsets)] }
def JordanConstituentsSaid : Prop := jordanConstituentsRow.holds Tryd.pinned (OpenSpec.ofChange jordanConstituentsSpec)

/-- ITS FALSE NEIGHBOUR: 'it returns false'. Refute it at one input. -/
def jordanConstituentsWrong : ChangeSpec := { name := "jordanConstituents", fn := fun _ => fun
  | [d1, d2, d3, d4] => { results := [.lit (.bool false)], args := [d1, d2, d3, d4] }
  | _ => none }
def JordanConstituentsWrongFalsely : Prop := jordanConstituentsRow.holds Tryd.pinned (OpenSpec.ofChange jordanConstituentsWrong)

/-- 'quadformlaw24.JordanUnits': WHATEVER THE INPUT: true; the input reads as it did. -/
def jordanUnitsSpec : ChangeSpec := { name := "jordanUnits", fn := fun _ => fun
  | [d1, d2, d3, d4] => { results := [.lit (.bool true)], args := [d1, d2, d3, d4] }
  | _ => none }
def jordanUnitsRow : OpenClaim := { program := "ytccgaemmdikhcaadoor", sum := "1c12e0113b82d0fedc6f7ece74d3ae7a2aebbf8d46eda71a3400cd21a05d840c", func := "quadform/quadformlaw24.JordanUnits", spec := "jordanUnits", unfollowed := true, recurses := true, named := ["quadform/prime.offsets"], apart := false, laid := [("quadform/prime.offsets", laid_quadform_prime_offsets)] }
def JordanUnitsSaid : Prop := jordanUnitsRow.holds Tryd.pinned (OpenSpec.ofChange jordanUnitsSpec)

/-- ITS FALSE NEIGHBOUR: 'it returns false'. Refute it at one input. -/
def jordanUnitsWrong : ChangeSpec := { name := "jordanUnits", fn := fun _ => fun
  | [d1, d2, d3, d4] => { results := [.lit (.bool false)], args := [d1, d2, d3, d4] }
  | _ => none }
def JordanUnitsWrongFalsely : Prop := jordanUnitsRow.holds Tryd.pinned (OpenSpec.ofChange jordanUnitsWrong)

/- THE SECOND FORM. 'bulk': how many values and letters a reading holds, each counted each time it is reached (what is shared counts as often as it is met; a slice's spare places count too). A statement '..UptoSaid' is the law's where the arguments, and the package variables that the reading takes, are together of bulk at most 1048576: NARROWER than '..Said'. Prove '..Said' where nothing that the law and all that it calls make is longer than what came in: it says more and counts as full. Else prove '..UptoSaid'. A law counts once. -/
mutual
def uptoBulk {H : Type} : DataW H → Nat
  | .lit (.string bytes) => bytes.length + 1
  | .lit _ => 1
  | .nil => 1
  | .ptr d => uptoBulk d + 1
  | .slice elems spare => uptoBulkAll elems + uptoBulkAll spare + 1
  | .agg parts => uptoBulkAll parts + 1
  | .iface _ d => uptoBulk d + 1
  | .map entries => uptoBulkEntries entries + 1
  | .held _ => 1
def uptoBulkAll {H : Type} : List (DataW H) → Nat
  | [] => 0
  | d :: r => uptoBulk d + uptoBulkAll r
def uptoBulkEntries {H : Type} : List (Lit × DataW H) → Nat
  | [] => 0
  | x :: r => uptoBulkEntry x + uptoBulkEntries r
def uptoBulkEntry {H : Type} : Lit × DataW H → Nat
  | (.string bytes, d) => bytes.length + uptoBulk d + 1
  | (_, d) => uptoBulk d + 1
 end
def uptoSmall : (H : Type) → List (DataW H) → Bool := fun _ ds => decide (uptoBulkAll ds ≤ 1048576)
def OpenSpec.upto (s : _root_.Go.ChangeSpec) : _root_.Go.OpenSpec := { _root_.Go.OpenSpec.ofChange s with cond := some uptoSmall }

/-- 'quadformlaw34.LineLimits', WHERE WHAT IT READS IS OF BULK AT MOST 1048576: true; the input reads as it did. -/
def lineLimitsUptoRow : OpenClaim := { program := "ytccgaemmdikhcaadoor", sum := "1c12e0113b82d0fedc6f7ece74d3ae7a2aebbf8d46eda71a3400cd21a05d840c", func := "quadform/quadformlaw34.LineLimits", spec := "lineLimits", unfollowed := true, recurses := true, named := ["quadform/prime.offsets"], apart := false, laid := [("quadform/prime.offsets", laid_quadform_prime_offsets)], narrowed := true }
def LineLimitsUptoSaid : Prop := lineLimitsUptoRow.holds Tryd.pinned (OpenSpec.upto lineLimitsSpec)

/-- 'quadformlaw25.DyadicConstituents', WHERE WHAT IT READS IS OF BULK AT MOST 1048576: true; the input reads as it did. -/
def dyadicConstituentsUptoRow : OpenClaim := { program := "ytccgaemmdikhcaadoor", sum := "1c12e0113b82d0fedc6f7ece74d3ae7a2aebbf8d46eda71a3400cd21a05d840c", func := "quadform/quadformlaw25.DyadicConstituents", spec := "dyadicConstituents", unfollowed := true, recurses := true, named := ["quadform/prime.offsets"], apart := false, laid := [("quadform/prime.offsets", laid_quadform_prime_offsets)], narrowed := true }
def DyadicConstituentsUptoSaid : Prop := dyadicConstituentsUptoRow.holds Tryd.pinned (OpenSpec.upto dyadicConstituentsSpec)

/-- 'quadformlaw25.DyadicBlocks', WHERE WHAT IT READS IS OF BULK AT MOST 1048576: true; the input reads as it did. -/
def dyadicBlocksUptoRow : OpenClaim := { program := "ytccgaemmdikhcaadoor", sum := "1c12e0113b82d0fedc6f7ece74d3ae7a2aebbf8d46eda71a3400cd21a05d840c", func := "quadform/quadformlaw25.DyadicBlocks", spec := "dyadicBlocks", unfollowed := true, recurses := true, named := ["quadform/prime.offsets"], apart := false, laid := [("quadform/prime.offsets", laid_quadform_prime_offsets)], narrowed := true }
def DyadicBlocksUptoSaid : Prop := dyadicBlocksUptoRow.holds Tryd.pinned (OpenSpec.upto dyadicBlocksSpec)

/-- 'quadformlaw24.JordanConstituents', WHERE WHAT IT READS IS OF BULK AT MOST 1048576: true; the input reads as it did. -/
def jordanConstituentsUptoRow : OpenClaim := { program := "ytccgaemmdikhcaadoor", sum := "1c12e0113b82d0fedc6f7ece74d3ae7a2aebbf8d46eda71a3400cd21a05d840c", func := "quadform/quadformlaw24.JordanConstituents", spec := "jordanConstituents", unfollowed := true, recurses := true, named := ["quadform/prime.offsets"], apart := false, laid := [("quadform/prime.offsets", laid_quadform_prime_offsets)], narrowed := true }
def JordanConstituentsUptoSaid : Prop := jordanConstituentsUptoRow.holds Tryd.pinned (OpenSpec.upto jordanConstituentsSpec)

/-- 'quadformlaw24.JordanUnits', WHERE WHAT IT READS IS OF BULK AT MOST 1048576: true; the input reads as it did. -/
def jordanUnitsUptoRow : OpenClaim := { program := "ytccgaemmdikhcaadoor", sum := "1c12e0113b82d0fedc6f7ece74d3ae7a2aebbf8d46eda71a3400cd21a05d840c", func := "quadform/quadformlaw24.JordanUnits", spec := "jordanUnits", unfollowed := true, recurses := true, named := ["quadform/prime.offsets"], apart := false, laid := [("quadform/prime.offsets", laid_quadform_prime_offsets)], narrowed := true }
def JordanUnitsUptoSaid : Prop := jordanUnitsUptoRow.holds Tryd.pinned (OpenSpec.upto jordanUnitsSpec)

end Rows
end Go.Proofs.YtccgaemmdikhcaaDoor
