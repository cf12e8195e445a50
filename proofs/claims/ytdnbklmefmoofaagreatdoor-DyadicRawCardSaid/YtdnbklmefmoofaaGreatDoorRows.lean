/-
  NARROWER THAN 'FOR EVERY INPUT', by the rows' own cells (each row's printed sentence says how): DyadicRaw: laid · JordanRaw: laid.
  DERIVED. THE GIVEN ROWS OF THIS SEAT. 2 by the template 'for every input the law returns true; each argument reads behind the call as it read before'; 0 by the template 'total and deterministic' (their statements: YtdnbklmefmoofaaGreatDoorTotals.lean).
  GIVEN WITH THE SEED: the statements are not yours to turn. If you find one false, say at which input.
  Laid BY PROGRAM, IN A SANDBOX (cutbox-rows.mjs): the forced cells as the released guide's own fill.sh prints them over the translation 04d7189aaae06293… (all of the seat's roots in one cut). By AI agents, Wed Nov 11 2026. No macro, syntax, notation, axiom, sorry.
-/
import Derived.Test.YtdnbklmefmoofaaGreatDoorChecked
import GoSem.Claim
import GoSem.ClaimJoined
import GoSem.ClaimMapViews
import Derived.JoinedTies
import Derived.KernelRfl
namespace Go.Proofs.YtdnbklmefmoofaaGreatDoor
/- THE CELL 'sum', in the pinned program and in every row, IS THE sha256 OF THE DUMP (.gsa) THAT YtdnbklmefmoofaaGreatDoorProg.lean LOADS. Nothing in Lean hashes anything: it is a label: what it is worth is what the hold of that sum in a sandbox is worth. -/
noncomputable def Tryz.pinned : Pinned := { name := "ytdnbklmefmoofaagreatdoor", sum := "04d7189aaae062933e3e2f64ea946ce519d21b55aab549eecbfe633063de7a0e", checked := Tryz.checked }
namespace Rows
def none {H : Type} : Left H := { results := [], args := [] }

/- WHAT THE LISTED PACKAGE-LEVEL VARIABLES READ AS WHEN THE CALL BEGINS. Each datum BY PROGRAM (the guide's laid-datum.mjs) off the statement by which the dump's own 'gosem.cut.vars' lays the variable. In a bare row this is a premise. The card (YtdnbklmefmoofaaGreatDoorCards.lean) ties it to the program's text. -/
def laid_quadform_prime_offsets {H : Type} : DataW H := .agg [.lit (.int .i64 7), .lit (.int .i64 11), .lit (.int .i64 13), .lit (.int .i64 17), .lit (.int .i64 19), .lit (.int .i64 23), .lit (.int .i64 29), .lit (.int .i64 31)]

/-- 'quadformlaw25.DyadicRaw': WHATEVER THE INPUT: true; the input reads as it did. -/
def dyadicRawSpec : ChangeSpec := { name := "dyadicRaw", fn := fun _ => fun
  | [d1, d2, d3, d4] => { results := [.lit (.bool true)], args := [d1, d2, d3, d4] }
  | _ => none }
def dyadicRawRow : OpenClaim := { program := "ytdnbklmefmoofaagreatdoor", sum := "04d7189aaae062933e3e2f64ea946ce519d21b55aab549eecbfe633063de7a0e", func := "quadform/quadformlaw25.DyadicRaw", spec := "dyadicRaw", unfollowed := true, recurses := true, named := ["quadform/prime.offsets"], apart := false, laid := [("quadform/prime.offsets", laid_quadform_prime_offsets)] }
def DyadicRawSaid : Prop := dyadicRawRow.holds Tryz.pinned (OpenSpec.ofChange dyadicRawSpec)

/-- ITS FALSE NEIGHBOUR: 'it returns false'. Refute it at one input. -/
def dyadicRawWrong : ChangeSpec := { name := "dyadicRaw", fn := fun _ => fun
  | [d1, d2, d3, d4] => { results := [.lit (.bool false)], args := [d1, d2, d3, d4] }
  | _ => none }
def DyadicRawWrongFalsely : Prop := dyadicRawRow.holds Tryz.pinned (OpenSpec.ofChange dyadicRawWrong)

/-- 'quadformlaw24.JordanRaw': WHATEVER THE INPUT: true; the input reads as it did. -/
def jordanRawSpec : ChangeSpec := { name := "jordanRaw", fn := fun _ => fun
  | [d1, d2, d3, d4] => { results := [.lit (.bool true)], args := [d1, d2, d3, d4] }
  | _ => none }
def jordanRawRow : OpenClaim := { program := "ytdnbklmefmoofaagreatdoor", sum := "04d7189aaae062933e3e2f64ea946ce519d21b55aab549eecbfe633063de7a0e", func := "quadform/quadformlaw24.JordanRaw", spec := "jordanRaw", unfollowed := true, recurses := true, named := ["quadform/prime.offsets"], apart := false, laid := [("quadform/prime.offsets", laid_quadform_prime_offsets)] }
def JordanRawSaid : Prop := jordanRawRow.holds Tryz.pinned (OpenSpec.ofChange jordanRawSpec)

/-- ITS FALSE NEIGHBOUR: 'it returns false'. Refute it at one input. -/
def jordanRawWrong : ChangeSpec := { name := "jordanRaw", fn := fun _ => fun
  | [d1, d2, d3, d4] => { results := [.lit (.bool false)], args := [d1, d2, d3, d4] }
  | _ => none }
def JordanRawWrongFalsely : Prop := jordanRawRow.holds Tryz.pinned (OpenSpec.ofChange jordanRawWrong)

/- THE SECOND FORM. 'bulk': how many values and letters a reading holds, each counted each time it is reached (what is shared counts as often as it is met; a slice's spare places count too). A statement '..UptoSaid' is the law's where the arguments, and the package variables that the reading takes, are together of bulk at most 1048576: NARROWER than '..Said'. Prove '..Said' where nothing that the law and all that it calls make is longer than what came in: it says more and counts as full. Else prove '..UptoSaid'. A law counts once. -/
mutual
def uptoBulk {H : Type} : DataW H → Nat
  | .lit (.string bytes) => bytes.length + 1
  | .lit _ => 1
  | .nil => 1
  | .ptr d => uptoBulk d + 1
  | .slice elems spare => uptoBulkAll elems + uptoBulkAll spare + 1
  | .agg parts => uptoBulkAll parts + 1
  | .iface _ d => uptoBulk d + 1
  | .map entries => uptoBulkEntries entries + 1
  | .held _ => 1
def uptoBulkAll {H : Type} : List (DataW H) → Nat
  | [] => 0
  | d :: r => uptoBulk d + uptoBulkAll r
def uptoBulkEntries {H : Type} : List (Lit × DataW H) → Nat
  | [] => 0
  | x :: r => uptoBulkEntry x + uptoBulkEntries r
def uptoBulkEntry {H : Type} : Lit × DataW H → Nat
  | (.string bytes, d) => bytes.length + uptoBulk d + 1
  | (_, d) => uptoBulk d + 1
 end
def uptoSmall : (H : Type) → List (DataW H) → Bool := fun _ ds => decide (uptoBulkAll ds ≤ 1048576)
def OpenSpec.upto (s : _root_.Go.ChangeSpec) : _root_.Go.OpenSpec := { _root_.Go.OpenSpec.ofChange s with cond := some uptoSmall }

/-- 'quadformlaw25.DyadicRaw', WHERE WHAT IT READS IS OF BULK AT MOST 1048576: true; the input reads as it did. -/
def dyadicRawUptoRow : OpenClaim := { program := "ytdnbklmefmoofaagreatdoor", sum := "04d7189aaae062933e3e2f64ea946ce519d21b55aab549eecbfe633063de7a0e", func := "quadform/quadformlaw25.DyadicRaw", spec := "dyadicRaw", unfollowed := true, recurses := true, named := ["quadform/prime.offsets"], apart := false, laid := [("quadform/prime.offsets", laid_quadform_prime_offsets)], narrowed := true }
def DyadicRawUptoSaid : Prop := dyadicRawUptoRow.holds Tryz.pinned (OpenSpec.upto dyadicRawSpec)

/-- 'quadformlaw24.JordanRaw', WHERE WHAT IT READS IS OF BULK AT MOST 1048576: true; the input reads as it did. -/
def jordanRawUptoRow : OpenClaim := { program := "ytdnbklmefmoofaagreatdoor", sum := "04d7189aaae062933e3e2f64ea946ce519d21b55aab549eecbfe633063de7a0e", func := "quadform/quadformlaw24.JordanRaw", spec := "jordanRaw", unfollowed := true, recurses := true, named := ["quadform/prime.offsets"], apart := false, laid := [("quadform/prime.offsets", laid_quadform_prime_offsets)], narrowed := true }
def JordanRawUptoSaid : Prop := jordanRawUptoRow.holds Tryz.pinned (OpenSpec.upto jordanRawSpec)

end Rows
end Go.Proofs.YtdnbklmefmoofaaGreatDoor
