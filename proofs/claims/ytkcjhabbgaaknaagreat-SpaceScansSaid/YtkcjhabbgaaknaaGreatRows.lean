/-
  No cell of these rows narrows 'for every input' (looked for: loops, veiled, ifaces, maps, wideKeys, modest, calm, conditions, laid).
  DERIVED. THE GIVEN ROWS OF THIS SEAT. 3 by the template 'for every input the law returns true; each argument reads behind the call as it read before'; 0 by the template 'total and deterministic' (their statements: YtkcjhabbgaaknaaGreatTotals.lean).
  GIVEN WITH THE SEED: the statements are not yours to turn. If you find one false, say at which input.
  Laid BY PROGRAM, IN A SANDBOX (cutbox-rows.mjs): the forced cells as the released guide's own fill.sh prints them over the translation d058c3bf16cca4c0… (all of the seat's roots in one cut). By AI agents, Wed Nov 11 2026. No macro, syntax, notation, axiom, sorry.
-/
import Derived.Test.YtkcjhabbgaaknaaGreatChecked
import GoSem.Claim
import GoSem.ClaimJoined
import GoSem.ClaimMapViews
import Derived.JoinedTies
import Derived.KernelRfl
namespace Go.Proofs.YtkcjhabbgaaknaaGreat
/- THE CELL 'sum', in the pinned program and in every row, IS THE sha256 OF THE DUMP (.gsa) THAT YtkcjhabbgaaknaaGreatProg.lean LOADS. Nothing in Lean hashes anything: it is a label: what it is worth is what the hold of that sum in a sandbox is worth. -/
noncomputable def Tryz.pinned : Pinned := { name := "ytkcjhabbgaaknaagreat", sum := "d058c3bf16cca4c072acae4630dfa876ec9ac33668f045282d36b5078b452149", checked := Tryz.checked }
namespace Rows
def none {H : Type} : Left H := { results := [], args := [] }

/-- 'tallboylaw16.SpaceRenames': WHATEVER THE INPUT: true; the input reads as it did. -/
def spaceRenamesSpec : ChangeSpec := { name := "spaceRenames", fn := fun _ => fun
  | [d1, d2, d3] => { results := [.lit (.bool true)], args := [d1, d2, d3] }
  | _ => none }
def spaceRenamesRow : OpenClaim := { program := "ytkcjhabbgaaknaagreat", sum := "d058c3bf16cca4c072acae4630dfa876ec9ac33668f045282d36b5078b452149", func := "tallboy/tallboylaw16.SpaceRenames", spec := "spaceRenames", unfollowed := true, recurses := true, apart := false }
def SpaceRenamesSaid : Prop := spaceRenamesRow.holds Tryz.pinned (OpenSpec.ofChange spaceRenamesSpec)

/-- ITS FALSE NEIGHBOUR: 'it returns false'. Refute it at one input. -/
def spaceRenamesWrong : ChangeSpec := { name := "spaceRenames", fn := fun _ => fun
  | [d1, d2, d3] => { results := [.lit (.bool false)], args := [d1, d2, d3] }
  | _ => none }
def SpaceRenamesWrongFalsely : Prop := spaceRenamesRow.holds Tryz.pinned (OpenSpec.ofChange spaceRenamesWrong)

/-- 'tallboylaw16.SpaceScans': WHATEVER THE INPUT: true; the input reads as it did. -/
def spaceScansSpec : ChangeSpec := { name := "spaceScans", fn := fun _ => fun
  | [d1, d2, d3, d4] => { results := [.lit (.bool true)], args := [d1, d2, d3, d4] }
  | _ => none }
def spaceScansRow : OpenClaim := { program := "ytkcjhabbgaaknaagreat", sum := "d058c3bf16cca4c072acae4630dfa876ec9ac33668f045282d36b5078b452149", func := "tallboy/tallboylaw16.SpaceScans", spec := "spaceScans", unfollowed := true, recurses := true, apart := false }
def SpaceScansSaid : Prop := spaceScansRow.holds Tryz.pinned (OpenSpec.ofChange spaceScansSpec)

/-- ITS FALSE NEIGHBOUR: 'it returns false'. Refute it at one input. -/
def spaceScansWrong : ChangeSpec := { name := "spaceScans", fn := fun _ => fun
  | [d1, d2, d3, d4] => { results := [.lit (.bool false)], args := [d1, d2, d3, d4] }
  | _ => none }
def SpaceScansWrongFalsely : Prop := spaceScansRow.holds Tryz.pinned (OpenSpec.ofChange spaceScansWrong)

/-- 'tallboylaw16.SpaceVersions': WHATEVER THE INPUT: true; the input reads as it did. -/
def spaceVersionsSpec : ChangeSpec := { name := "spaceVersions", fn := fun _ => fun
  | [d1, d2] => { results := [.lit (.bool true)], args := [d1, d2] }
  | _ => none }
def spaceVersionsRow : OpenClaim := { program := "ytkcjhabbgaaknaagreat", sum := "d058c3bf16cca4c072acae4630dfa876ec9ac33668f045282d36b5078b452149", func := "tallboy/tallboylaw16.SpaceVersions", spec := "spaceVersions", unfollowed := true, recurses := true, apart := false }
def SpaceVersionsSaid : Prop := spaceVersionsRow.holds Tryz.pinned (OpenSpec.ofChange spaceVersionsSpec)

/-- ITS FALSE NEIGHBOUR: 'it returns false'. Refute it at one input. -/
def spaceVersionsWrong : ChangeSpec := { name := "spaceVersions", fn := fun _ => fun
  | [d1, d2] => { results := [.lit (.bool false)], args := [d1, d2] }
  | _ => none }
def SpaceVersionsWrongFalsely : Prop := spaceVersionsRow.holds Tryz.pinned (OpenSpec.ofChange spaceVersionsWrong)

/- THE SECOND FORM. 'bulk': how many values and letters a reading holds, each counted each time it is reached (what is shared counts as often as it is met; a slice's spare places count too). A statement '..UptoSaid' is the law's where the arguments, and the package variables that the reading takes, are together of bulk at most 1048576: NARROWER than '..Said'. Prove '..Said' where nothing that the law and all that it calls make is longer than what came in: it says more and counts as full. Else prove '..UptoSaid'. A law counts once. -/
mutual
def uptoBulk {H : Type} : DataW H → Nat
  | .lit (.string bytes) => bytes.length + 1
  | .lit _ => 1
  | .nil => 1
  | .ptr d => uptoBulk d + 1
  | .slice elems spare => uptoBulkAll elems + uptoBulkAll spare + 1
  | .agg parts => uptoBulkAll parts + 1
  | .iface _ d => uptoBulk d + 1
  | .map entries => uptoBulkEntries entries + 1
  | .held _ => 1
def uptoBulkAll {H : Type} : List (DataW H) → Nat
  | [] => 0
  | d :: r => uptoBulk d + uptoBulkAll r
def uptoBulkEntries {H : Type} : List (Lit × DataW H) → Nat
  | [] => 0
  | x :: r => uptoBulkEntry x + uptoBulkEntries r
def uptoBulkEntry {H : Type} : Lit × DataW H → Nat
  | (.string bytes, d) => bytes.length + uptoBulk d + 1
  | (_, d) => uptoBulk d + 1
 end
def uptoSmall : (H : Type) → List (DataW H) → Bool := fun _ ds => decide (uptoBulkAll ds ≤ 1048576)
def OpenSpec.upto (s : _root_.Go.ChangeSpec) : _root_.Go.OpenSpec := { _root_.Go.OpenSpec.ofChange s with cond := some uptoSmall }

/-- 'tallboylaw16.SpaceRenames', WHERE WHAT IT READS IS OF BULK AT MOST 1048576: true; the input reads as it did. -/
def spaceRenamesUptoRow : OpenClaim := { program := "ytkcjhabbgaaknaagreat", sum := "d058c3bf16cca4c072acae4630dfa876ec9ac33668f045282d36b5078b452149", func := "tallboy/tallboylaw16.SpaceRenames", spec := "spaceRenames", unfollowed := true, recurses := true, apart := false, narrowed := true }
def SpaceRenamesUptoSaid : Prop := spaceRenamesUptoRow.holds Tryz.pinned (OpenSpec.upto spaceRenamesSpec)

/-- 'tallboylaw16.SpaceScans', WHERE WHAT IT READS IS OF BULK AT MOST 1048576: true; the input reads as it did. -/
def spaceScansUptoRow : OpenClaim := { program := "ytkcjhabbgaaknaagreat", sum := "d058c3bf16cca4c072acae4630dfa876ec9ac33668f045282d36b5078b452149", func := "tallboy/tallboylaw16.SpaceScans", spec := "spaceScans", unfollowed := true, recurses := true, apart := false, narrowed := true }
def SpaceScansUptoSaid : Prop := spaceScansUptoRow.holds Tryz.pinned (OpenSpec.upto spaceScansSpec)

/-- 'tallboylaw16.SpaceVersions', WHERE WHAT IT READS IS OF BULK AT MOST 1048576: true; the input reads as it did. -/
def spaceVersionsUptoRow : OpenClaim := { program := "ytkcjhabbgaaknaagreat", sum := "d058c3bf16cca4c072acae4630dfa876ec9ac33668f045282d36b5078b452149", func := "tallboy/tallboylaw16.SpaceVersions", spec := "spaceVersions", unfollowed := true, recurses := true, apart := false, narrowed := true }
def SpaceVersionsUptoSaid : Prop := spaceVersionsUptoRow.holds Tryz.pinned (OpenSpec.upto spaceVersionsSpec)

end Rows
end Go.Proofs.YtkcjhabbgaaknaaGreat
