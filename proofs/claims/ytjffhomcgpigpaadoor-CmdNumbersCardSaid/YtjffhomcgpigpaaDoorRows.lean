/-
  NARROWER THAN 'FOR EVERY INPUT', by the rows' own cells (each row's printed sentence says how): CmdTells: laid · CmdLower: laid · CmdNumbers: laid · CmdNames: laid.
  DERIVED. THE GIVEN ROWS OF THIS SEAT. 4 by the template 'for every input the law returns true; each argument reads behind the call as it read before'; 0 by the template 'total and deterministic' (their statements: YtjffhomcgpigpaaDoorTotals.lean).
  GIVEN WITH THE SEED: the statements are not yours to turn. If you find one false, say at which input.
  Laid BY PROGRAM, IN A SANDBOX (cutbox-rows.mjs): the forced cells as the released guide's own fill.sh prints them over the translation a615b102f9d00409… (all of the seat's roots in one cut). By AI agents, Wed Nov 11 2026. No macro, syntax, notation, axiom, sorry.
-/
import Derived.Test.YtjffhomcgpigpaaDoorChecked
import GoSem.Claim
import GoSem.ClaimJoined
import GoSem.ClaimMapViews
import Derived.JoinedTies
import Derived.KernelRfl
namespace Go.Proofs.YtjffhomcgpigpaaDoor
/- THE CELL 'sum', in the pinned program and in every row, IS THE sha256 OF THE DUMP (.gsa) THAT YtjffhomcgpigpaaDoorProg.lean LOADS. Nothing in Lean hashes anything: it is a label: what it is worth is what the hold of that sum in a sandbox is worth. -/
noncomputable def Tryd.pinned : Pinned := { name := "ytjffhomcgpigpaadoor", sum := "a615b102f9d00409ead633678253836cba17545cb6103e1fe21f13d87765916b", checked := Tryd.checked }
namespace Rows
def none {H : Type} : Left H := { results := [], args := [] }

/- WHAT THE LISTED PACKAGE-LEVEL VARIABLES READ AS WHEN THE CALL BEGINS. Each datum BY PROGRAM (the guide's laid-datum.mjs) off the statement by which the dump's own 'gosem.cut.vars' lays the variable. In a bare row this is a premise. The card (YtjffhomcgpigpaaDoorCards.lean) ties it to the program's text. -/
def laid_errors_errorType {H : Type} : DataW H := .iface "internal/reflectlite.rtype" (.agg [.ptr (.lit (.string [101, 114, 114, 111, 114]))])

/-- 'tallboylaw20.CmdTells': WHATEVER THE INPUT: true; the input reads as it did. -/
def cmdTellsSpec : ChangeSpec := { name := "cmdTells", fn := fun _ => fun
  | [d1, d2, d3] => { results := [.lit (.bool true)], args := [d1, d2, d3] }
  | _ => none }
def cmdTellsRow : OpenClaim := { program := "ytjffhomcgpigpaadoor", sum := "a615b102f9d00409ead633678253836cba17545cb6103e1fe21f13d87765916b", func := "tallboy/tallboylaw20.CmdTells", spec := "cmdTells", inPlace := ["internal/reflectlite.ValueOf", "(internal/reflectlite.Value).Type", "(internal/reflectlite.Value).IsNil", "internal/reflectlite.TypeOf", "(internal/reflectlite.Value).Elem", "(internal/reflectlite.Value).Set"], unfollowed := true, recurses := true, named := ["errors.errorType"], apart := false, laid := [("errors.errorType", laid_errors_errorType)] }
def CmdTellsSaid : Prop := cmdTellsRow.holds Tryd.pinned (OpenSpec.ofChange cmdTellsSpec)

/-- ITS FALSE NEIGHBOUR: 'it returns false'. Refute it at one input. -/
def cmdTellsWrong : ChangeSpec := { name := "cmdTells", fn := fun _ => fun
  | [d1, d2, d3] => { results := [.lit (.bool false)], args := [d1, d2, d3] }
  | _ => none }
def CmdTellsWrongFalsely : Prop := cmdTellsRow.holds Tryd.pinned (OpenSpec.ofChange cmdTellsWrong)

/-- 'tallboylaw20.CmdLower': WHATEVER THE INPUT: true; the input reads as it did. -/
def cmdLowerSpec : ChangeSpec := { name := "cmdLower", fn := fun _ => fun
  | [d1, d2] => { results := [.lit (.bool true)], args := [d1, d2] }
  | _ => none }
def cmdLowerRow : OpenClaim := { program := "ytjffhomcgpigpaadoor", sum := "a615b102f9d00409ead633678253836cba17545cb6103e1fe21f13d87765916b", func := "tallboy/tallboylaw20.CmdLower", spec := "cmdLower", inPlace := ["internal/reflectlite.ValueOf", "(internal/reflectlite.Value).Type", "(internal/reflectlite.Value).IsNil", "internal/reflectlite.TypeOf", "(internal/reflectlite.Value).Elem", "(internal/reflectlite.Value).Set"], unfollowed := true, recurses := true, named := ["errors.errorType"], apart := false, laid := [("errors.errorType", laid_errors_errorType)] }
def CmdLowerSaid : Prop := cmdLowerRow.holds Tryd.pinned (OpenSpec.ofChange cmdLowerSpec)

/-- ITS FALSE NEIGHBOUR: 'it returns false'. Refute it at one input. -/
def cmdLowerWrong : ChangeSpec := { name := "cmdLower", fn := fun _ => fun
  | [d1, d2] => { results := [.lit (.bool false)], args := [d1, d2] }
  | _ => none }
def CmdLowerWrongFalsely : Prop := cmdLowerRow.holds Tryd.pinned (OpenSpec.ofChange cmdLowerWrong)

/-- 'tallboylaw20.CmdNumbers': WHATEVER THE INPUT: true; the input reads as it did. -/
def cmdNumbersSpec : ChangeSpec := { name := "cmdNumbers", fn := fun _ => fun
  | [] => { results := [.lit (.bool true)], args := [] }
  | _ => none }
def cmdNumbersRow : OpenClaim := { program := "ytjffhomcgpigpaadoor", sum := "a615b102f9d00409ead633678253836cba17545cb6103e1fe21f13d87765916b", func := "tallboy/tallboylaw20.CmdNumbers", spec := "cmdNumbers", inPlace := ["internal/reflectlite.ValueOf", "(internal/reflectlite.Value).Type", "(internal/reflectlite.Value).IsNil", "internal/reflectlite.TypeOf", "(internal/reflectlite.Value).Elem", "(internal/reflectlite.Value).Set"], unfollowed := true, recurses := true, named := ["errors.errorType"], apart := false, laid := [("errors.errorType", laid_errors_errorType)] }
def CmdNumbersSaid : Prop := cmdNumbersRow.holds Tryd.pinned (OpenSpec.ofChange cmdNumbersSpec)

/-- ITS FALSE NEIGHBOUR: 'it returns false'. Refute it at one input. -/
def cmdNumbersWrong : ChangeSpec := { name := "cmdNumbers", fn := fun _ => fun
  | [] => { results := [.lit (.bool false)], args := [] }
  | _ => none }
def CmdNumbersWrongFalsely : Prop := cmdNumbersRow.holds Tryd.pinned (OpenSpec.ofChange cmdNumbersWrong)

/-- 'tallboylaw20.CmdNames': WHATEVER THE INPUT: true; the input reads as it did. -/
def cmdNamesSpec : ChangeSpec := { name := "cmdNames", fn := fun _ => fun
  | [d] => { results := [.lit (.bool true)], args := [d] }
  | _ => none }
def cmdNamesRow : OpenClaim := { program := "ytjffhomcgpigpaadoor", sum := "a615b102f9d00409ead633678253836cba17545cb6103e1fe21f13d87765916b", func := "tallboy/tallboylaw20.CmdNames", spec := "cmdNames", inPlace := ["internal/reflectlite.ValueOf", "(internal/reflectlite.Value).Type", "(internal/reflectlite.Value).IsNil", "internal/reflectlite.TypeOf", "(internal/reflectlite.Value).Elem", "(internal/reflectlite.Value).Set"], unfollowed := true, recurses := true, named := ["errors.errorType"], apart := false, laid := [("errors.errorType", laid_errors_errorType)] }
def CmdNamesSaid : Prop := cmdNamesRow.holds Tryd.pinned (OpenSpec.ofChange cmdNamesSpec)

/-- ITS FALSE NEIGHBOUR: 'it returns false'. Refute it at one input. -/
def cmdNamesWrong : ChangeSpec := { name := "cmdNames", fn := fun _ => fun
  | [d] => { results := [.lit (.bool false)], args := [d] }
  | _ => none }
def CmdNamesWrongFalsely : Prop := cmdNamesRow.holds Tryd.pinned (OpenSpec.ofChange cmdNamesWrong)

/- THE SECOND FORM. 'bulk': how many values and letters a reading holds, each counted each time it is reached (what is shared counts as often as it is met; a slice's spare places count too). A statement '..UptoSaid' is the law's where the arguments, and the package variables that the reading takes, are together of bulk at most 1048576: NARROWER than '..Said'. Prove '..Said' where nothing that the law and all that it calls make is longer than what came in: it says more and counts as full. Else prove '..UptoSaid'. A law counts once. -/
mutual
def uptoBulk {H : Type} : DataW H → Nat
  | .lit (.string bytes) => bytes.length + 1
  | .lit _ => 1
  | .nil => 1
  | .ptr d => uptoBulk d + 1
  | .slice elems spare => uptoBulkAll elems + uptoBulkAll spare + 1
  | .agg parts => uptoBulkAll parts + 1
  | .iface _ d => uptoBulk d + 1
  | .map entries => uptoBulkEntries entries + 1
  | .held _ => 1
def uptoBulkAll {H : Type} : List (DataW H) → Nat
  | [] => 0
  | d :: r => uptoBulk d + uptoBulkAll r
def uptoBulkEntries {H : Type} : List (Lit × DataW H) → Nat
  | [] => 0
  | x :: r => uptoBulkEntry x + uptoBulkEntries r
def uptoBulkEntry {H : Type} : Lit × DataW H → Nat
  | (.string bytes, d) => bytes.length + uptoBulk d + 1
  | (_, d) => uptoBulk d + 1
 end
def uptoSmall : (H : Type) → List (DataW H) → Bool := fun _ ds => decide (uptoBulkAll ds ≤ 1048576)
def OpenSpec.upto (s : _root_.Go.ChangeSpec) : _root_.Go.OpenSpec := { _root_.Go.OpenSpec.ofChange s with cond := some uptoSmall }

/-- 'tallboylaw20.CmdTells', WHERE WHAT IT READS IS OF BULK AT MOST 1048576: true; the input reads as it did. -/
def cmdTellsUptoRow : OpenClaim := { program := "ytjffhomcgpigpaadoor", sum := "a615b102f9d00409ead633678253836cba17545cb6103e1fe21f13d87765916b", func := "tallboy/tallboylaw20.CmdTells", spec := "cmdTells", inPlace := ["internal/reflectlite.ValueOf", "(internal/reflectlite.Value).Type", "(internal/reflectlite.Value).IsNil", "internal/reflectlite.TypeOf", "(internal/reflectlite.Value).Elem", "(internal/reflectlite.Value).Set"], unfollowed := true, recurses := true, named := ["errors.errorType"], apart := false, laid := [("errors.errorType", laid_errors_errorType)], narrowed := true }
def CmdTellsUptoSaid : Prop := cmdTellsUptoRow.holds Tryd.pinned (OpenSpec.upto cmdTellsSpec)

/-- 'tallboylaw20.CmdLower', WHERE WHAT IT READS IS OF BULK AT MOST 1048576: true; the input reads as it did. -/
def cmdLowerUptoRow : OpenClaim := { program := "ytjffhomcgpigpaadoor", sum := "a615b102f9d00409ead633678253836cba17545cb6103e1fe21f13d87765916b", func := "tallboy/tallboylaw20.CmdLower", spec := "cmdLower", inPlace := ["internal/reflectlite.ValueOf", "(internal/reflectlite.Value).Type", "(internal/reflectlite.Value).IsNil", "internal/reflectlite.TypeOf", "(internal/reflectlite.Value).Elem", "(internal/reflectlite.Value).Set"], unfollowed := true, recurses := true, named := ["errors.errorType"], apart := false, laid := [("errors.errorType", laid_errors_errorType)], narrowed := true }
def CmdLowerUptoSaid : Prop := cmdLowerUptoRow.holds Tryd.pinned (OpenSpec.upto cmdLowerSpec)

/-- 'tallboylaw20.CmdNumbers', WHERE WHAT IT READS IS OF BULK AT MOST 1048576: true; the input reads as it did. -/
def cmdNumbersUptoRow : OpenClaim := { program := "ytjffhomcgpigpaadoor", sum := "a615b102f9d00409ead633678253836cba17545cb6103e1fe21f13d87765916b", func := "tallboy/tallboylaw20.CmdNumbers", spec := "cmdNumbers", inPlace := ["internal/reflectlite.ValueOf", "(internal/reflectlite.Value).Type", "(internal/reflectlite.Value).IsNil", "internal/reflectlite.TypeOf", "(internal/reflectlite.Value).Elem", "(internal/reflectlite.Value).Set"], unfollowed := true, recurses := true, named := ["errors.errorType"], apart := false, laid := [("errors.errorType", laid_errors_errorType)], narrowed := true }
def CmdNumbersUptoSaid : Prop := cmdNumbersUptoRow.holds Tryd.pinned (OpenSpec.upto cmdNumbersSpec)

/-- 'tallboylaw20.CmdNames', WHERE WHAT IT READS IS OF BULK AT MOST 1048576: true; the input reads as it did. -/
def cmdNamesUptoRow : OpenClaim := { program := "ytjffhomcgpigpaadoor", sum := "a615b102f9d00409ead633678253836cba17545cb6103e1fe21f13d87765916b", func := "tallboy/tallboylaw20.CmdNames", spec := "cmdNames", inPlace := ["internal/reflectlite.ValueOf", "(internal/reflectlite.Value).Type", "(internal/reflectlite.Value).IsNil", "internal/reflectlite.TypeOf", "(internal/reflectlite.Value).Elem", "(internal/reflectlite.Value).Set"], unfollowed := true, recurses := true, named := ["errors.errorType"], apart := false, laid := [("errors.errorType", laid_errors_errorType)], narrowed := true }
def CmdNamesUptoSaid : Prop := cmdNamesUptoRow.holds Tryd.pinned (OpenSpec.upto cmdNamesSpec)

end Rows
end Go.Proofs.YtjffhomcgpigpaaDoor
