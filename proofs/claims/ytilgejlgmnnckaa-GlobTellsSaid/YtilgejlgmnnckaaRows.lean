/-
  No cell of these rows narrows 'for every input' (looked for: loops, veiled, ifaces, maps, wideKeys, modest, calm, conditions, laid).
  DERIVED. THE GIVEN ROWS OF THIS SEAT. 6 by the template 'for every input the law returns true; each argument reads behind the call as it read before'; 0 by the template 'total and deterministic' (their statements: YtilgejlgmnnckaaTotals.lean).
  GIVEN WITH THE SEED: the statements are not yours to turn. If you find one false, say at which input.
  Laid BY PROGRAM, IN A SANDBOX (cutbox-rows.mjs): the forced cells as the released guide's own fill.sh prints them over the translation 153ca98ce9d789eb… (all of the seat's roots in one cut). By AI agents, Wed Nov 11 2026. No macro, syntax, notation, axiom, sorry.
-/
import Derived.Test.YtilgejlgmnnckaaChecked
import GoSem.Claim
import GoSem.ClaimJoined
import GoSem.ClaimMapViews
import Derived.JoinedTies
import Derived.KernelRfl
namespace Go.Proofs.Ytilgejlgmnnckaa
/- THE CELL 'sum', in the pinned program and in every row, IS THE sha256 OF THE DUMP (.gsa) THAT YtilgejlgmnnckaaProg.lean LOADS. Nothing in Lean hashes anything: it is a label: what it is worth is what the hold of that sum in a sandbox is worth. -/
noncomputable def Try.pinned : Pinned := { name := "ytilgejlgmnnckaa", sum := "153ca98ce9d789eb279ea72b20fe37d65e3a1f3ceda98f213271b236f14a4b5c", checked := Try.checked }
namespace Rows
def none {H : Type} : Left H := { results := [], args := [] }

/-- 'tallboylaw3.GlobTells': WHATEVER THE INPUT: true; the input reads as it did. -/
def globTellsSpec : ChangeSpec := { name := "globTells", fn := fun _ => fun
  | [d1, d2, d3] => { results := [.lit (.bool true)], args := [d1, d2, d3] }
  | _ => none }
def globTellsRow : OpenClaim := { program := "ytilgejlgmnnckaa", sum := "153ca98ce9d789eb279ea72b20fe37d65e3a1f3ceda98f213271b236f14a4b5c", func := "tallboy/tallboylaw3.GlobTells", spec := "globTells", apart := false }
def GlobTellsSaid : Prop := globTellsRow.holds Try.pinned (OpenSpec.ofChange globTellsSpec)

/-- ITS FALSE NEIGHBOUR: 'it returns false'. Refute it at one input. -/
def globTellsWrong : ChangeSpec := { name := "globTells", fn := fun _ => fun
  | [d1, d2, d3] => { results := [.lit (.bool false)], args := [d1, d2, d3] }
  | _ => none }
def GlobTellsWrongFalsely : Prop := globTellsRow.holds Try.pinned (OpenSpec.ofChange globTellsWrong)

/-- 'tallboylaw3.GlobClasses': WHATEVER THE INPUT: true; the input reads as it did. -/
def globClassesSpec : ChangeSpec := { name := "globClasses", fn := fun _ => fun
  | [d1, d2] => { results := [.lit (.bool true)], args := [d1, d2] }
  | _ => none }
def globClassesRow : OpenClaim := { program := "ytilgejlgmnnckaa", sum := "153ca98ce9d789eb279ea72b20fe37d65e3a1f3ceda98f213271b236f14a4b5c", func := "tallboy/tallboylaw3.GlobClasses", spec := "globClasses", apart := false }
def GlobClassesSaid : Prop := globClassesRow.holds Try.pinned (OpenSpec.ofChange globClassesSpec)

/-- ITS FALSE NEIGHBOUR: 'it returns false'. Refute it at one input. -/
def globClassesWrong : ChangeSpec := { name := "globClasses", fn := fun _ => fun
  | [d1, d2] => { results := [.lit (.bool false)], args := [d1, d2] }
  | _ => none }
def GlobClassesWrongFalsely : Prop := globClassesRow.holds Try.pinned (OpenSpec.ofChange globClassesWrong)

/-- 'tallboylaw3.GlobEscapes': WHATEVER THE INPUT: true; the input reads as it did. -/
def globEscapesSpec : ChangeSpec := { name := "globEscapes", fn := fun _ => fun
  | [d1, d2] => { results := [.lit (.bool true)], args := [d1, d2] }
  | _ => none }
def globEscapesRow : OpenClaim := { program := "ytilgejlgmnnckaa", sum := "153ca98ce9d789eb279ea72b20fe37d65e3a1f3ceda98f213271b236f14a4b5c", func := "tallboy/tallboylaw3.GlobEscapes", spec := "globEscapes", apart := false }
def GlobEscapesSaid : Prop := globEscapesRow.holds Try.pinned (OpenSpec.ofChange globEscapesSpec)

/-- ITS FALSE NEIGHBOUR: 'it returns false'. Refute it at one input. -/
def globEscapesWrong : ChangeSpec := { name := "globEscapes", fn := fun _ => fun
  | [d1, d2] => { results := [.lit (.bool false)], args := [d1, d2] }
  | _ => none }
def GlobEscapesWrongFalsely : Prop := globEscapesRow.holds Try.pinned (OpenSpec.ofChange globEscapesWrong)

/-- 'tallboylaw3.GlobMarks': WHATEVER THE INPUT: true; the input reads as it did. -/
def globMarksSpec : ChangeSpec := { name := "globMarks", fn := fun _ => fun
  | [d1, d2] => { results := [.lit (.bool true)], args := [d1, d2] }
  | _ => none }
def globMarksRow : OpenClaim := { program := "ytilgejlgmnnckaa", sum := "153ca98ce9d789eb279ea72b20fe37d65e3a1f3ceda98f213271b236f14a4b5c", func := "tallboy/tallboylaw3.GlobMarks", spec := "globMarks", apart := false }
def GlobMarksSaid : Prop := globMarksRow.holds Try.pinned (OpenSpec.ofChange globMarksSpec)

/-- ITS FALSE NEIGHBOUR: 'it returns false'. Refute it at one input. -/
def globMarksWrong : ChangeSpec := { name := "globMarks", fn := fun _ => fun
  | [d1, d2] => { results := [.lit (.bool false)], args := [d1, d2] }
  | _ => none }
def GlobMarksWrongFalsely : Prop := globMarksRow.holds Try.pinned (OpenSpec.ofChange globMarksWrong)

/-- 'tallboylaw3.GlobNumbers': WHATEVER THE INPUT: true; the input reads as it did. -/
def globNumbersSpec : ChangeSpec := { name := "globNumbers", fn := fun _ => fun
  | [] => { results := [.lit (.bool true)], args := [] }
  | _ => none }
def globNumbersRow : OpenClaim := { program := "ytilgejlgmnnckaa", sum := "153ca98ce9d789eb279ea72b20fe37d65e3a1f3ceda98f213271b236f14a4b5c", func := "tallboy/tallboylaw3.GlobNumbers", spec := "globNumbers", apart := false }
def GlobNumbersSaid : Prop := globNumbersRow.holds Try.pinned (OpenSpec.ofChange globNumbersSpec)

/-- ITS FALSE NEIGHBOUR: 'it returns false'. Refute it at one input. -/
def globNumbersWrong : ChangeSpec := { name := "globNumbers", fn := fun _ => fun
  | [] => { results := [.lit (.bool false)], args := [] }
  | _ => none }
def GlobNumbersWrongFalsely : Prop := globNumbersRow.holds Try.pinned (OpenSpec.ofChange globNumbersWrong)

/-- 'tallboylaw3.GlobStars': WHATEVER THE INPUT: true; the input reads as it did. -/
def globStarsSpec : ChangeSpec := { name := "globStars", fn := fun _ => fun
  | [d1, d2] => { results := [.lit (.bool true)], args := [d1, d2] }
  | _ => none }
def globStarsRow : OpenClaim := { program := "ytilgejlgmnnckaa", sum := "153ca98ce9d789eb279ea72b20fe37d65e3a1f3ceda98f213271b236f14a4b5c", func := "tallboy/tallboylaw3.GlobStars", spec := "globStars", apart := false }
def GlobStarsSaid : Prop := globStarsRow.holds Try.pinned (OpenSpec.ofChange globStarsSpec)

/-- ITS FALSE NEIGHBOUR: 'it returns false'. Refute it at one input. -/
def globStarsWrong : ChangeSpec := { name := "globStars", fn := fun _ => fun
  | [d1, d2] => { results := [.lit (.bool false)], args := [d1, d2] }
  | _ => none }
def GlobStarsWrongFalsely : Prop := globStarsRow.holds Try.pinned (OpenSpec.ofChange globStarsWrong)

/- THE SECOND FORM. 'bulk': how many values and letters a reading holds, each counted each time it is reached (what is shared counts as often as it is met; a slice's spare places count too). A statement '..UptoSaid' is the law's where the arguments, and the package variables that the reading takes, are together of bulk at most 1048576: NARROWER than '..Said'. Prove '..Said' where nothing that the law and all that it calls make is longer than what came in: it says more and counts as full. Else prove '..UptoSaid'. A law counts once. -/
mutual
def uptoBulk {H : Type} : DataW H → Nat
  | .lit (.string bytes) => bytes.length + 1
  | .lit _ => 1
  | .nil => 1
  | .ptr d => uptoBulk d + 1
  | .slice elems spare => uptoBulkAll elems + uptoBulkAll spare + 1
  | .agg parts => uptoBulkAll parts + 1
  | .iface _ d => uptoBulk d + 1
  | .map entries => uptoBulkEntries entries + 1
  | .held _ => 1
def uptoBulkAll {H : Type} : List (DataW H) → Nat
  | [] => 0
  | d :: r => uptoBulk d + uptoBulkAll r
def uptoBulkEntries {H : Type} : List (Lit × DataW H) → Nat
  | [] => 0
  | x :: r => uptoBulkEntry x + uptoBulkEntries r
def uptoBulkEntry {H : Type} : Lit × DataW H → Nat
  | (.string bytes, d) => bytes.length + uptoBulk d + 1
  | (_, d) => uptoBulk d + 1
 end
def uptoSmall : (H : Type) → List (DataW H) → Bool := fun _ ds => decide (uptoBulkAll ds ≤ 1048576)
def OpenSpec.upto (s : _root_.Go.ChangeSpec) : _root_.Go.OpenSpec := { _root_.Go.OpenSpec.ofChange s with cond := some uptoSmall }

/-- 'tallboylaw3.GlobTells', WHERE WHAT IT READS IS OF BULK AT MOST 1048576: true; the input reads as it did. -/
def globTellsUptoRow : OpenClaim := { program := "ytilgejlgmnnckaa", sum := "153ca98ce9d789eb279ea72b20fe37d65e3a1f3ceda98f213271b236f14a4b5c", func := "tallboy/tallboylaw3.GlobTells", spec := "globTells", apart := false, narrowed := true }
def GlobTellsUptoSaid : Prop := globTellsUptoRow.holds Try.pinned (OpenSpec.upto globTellsSpec)

/-- 'tallboylaw3.GlobClasses', WHERE WHAT IT READS IS OF BULK AT MOST 1048576: true; the input reads as it did. -/
def globClassesUptoRow : OpenClaim := { program := "ytilgejlgmnnckaa", sum := "153ca98ce9d789eb279ea72b20fe37d65e3a1f3ceda98f213271b236f14a4b5c", func := "tallboy/tallboylaw3.GlobClasses", spec := "globClasses", apart := false, narrowed := true }
def GlobClassesUptoSaid : Prop := globClassesUptoRow.holds Try.pinned (OpenSpec.upto globClassesSpec)

/-- 'tallboylaw3.GlobEscapes', WHERE WHAT IT READS IS OF BULK AT MOST 1048576: true; the input reads as it did. -/
def globEscapesUptoRow : OpenClaim := { program := "ytilgejlgmnnckaa", sum := "153ca98ce9d789eb279ea72b20fe37d65e3a1f3ceda98f213271b236f14a4b5c", func := "tallboy/tallboylaw3.GlobEscapes", spec := "globEscapes", apart := false, narrowed := true }
def GlobEscapesUptoSaid : Prop := globEscapesUptoRow.holds Try.pinned (OpenSpec.upto globEscapesSpec)

/-- 'tallboylaw3.GlobMarks', WHERE WHAT IT READS IS OF BULK AT MOST 1048576: true; the input reads as it did. -/
def globMarksUptoRow : OpenClaim := { program := "ytilgejlgmnnckaa", sum := "153ca98ce9d789eb279ea72b20fe37d65e3a1f3ceda98f213271b236f14a4b5c", func := "tallboy/tallboylaw3.GlobMarks", spec := "globMarks", apart := false, narrowed := true }
def GlobMarksUptoSaid : Prop := globMarksUptoRow.holds Try.pinned (OpenSpec.upto globMarksSpec)

/-- 'tallboylaw3.GlobNumbers', WHERE WHAT IT READS IS OF BULK AT MOST 1048576: true; the input reads as it did. -/
def globNumbersUptoRow : OpenClaim := { program := "ytilgejlgmnnckaa", sum := "153ca98ce9d789eb279ea72b20fe37d65e3a1f3ceda98f213271b236f14a4b5c", func := "tallboy/tallboylaw3.GlobNumbers", spec := "globNumbers", apart := false, narrowed := true }
def GlobNumbersUptoSaid : Prop := globNumbersUptoRow.holds Try.pinned (OpenSpec.upto globNumbersSpec)

/-- 'tallboylaw3.GlobStars', WHERE WHAT IT READS IS OF BULK AT MOST 1048576: true; the input reads as it did. -/
def globStarsUptoRow : OpenClaim := { program := "ytilgejlgmnnckaa", sum := "153ca98ce9d789eb279ea72b20fe37d65e3a1f3ceda98f213271b236f14a4b5c", func := "tallboy/tallboylaw3.GlobStars", spec := "globStars", apart := false, narrowed := true }
def GlobStarsUptoSaid : Prop := globStarsUptoRow.holds Try.pinned (OpenSpec.upto globStarsSpec)

end Rows
end Go.Proofs.Ytilgejlgmnnckaa
