/-
  DERIVED. GIVEN WITH THE SEED: THE CARDS: each row of YtjffhomcgpigpaaDoorRows.lean that lists a variable, with what it lists TIED to the program's text (the seventh form; the later family's looks); each row that meets fmt, with fmt's text TOLD by the authors' own Lean function (tested against real Go, not proved from fmt's source: count such statements apart). THE CARD IS WHAT COUNTS. Prove the row's statement (the work); the ties are given (YtjffhomcgpigpaaDoorTie.lean); close each card by the builder's one call (the guide's Derived/Test/ToyasCard.lean, 'card_holds'). Laid BY PROGRAM, IN A SANDBOX (cutbox-door.mjs). By AI agents, Wed Nov 11 2026. No macro, syntax, notation, axiom, sorry.
-/
import Derived.Test.YtjffhomcgpigpaaDoorRows
import GoSem.ClaimSeven
namespace Go.Proofs.YtjffhomcgpigpaaDoor
namespace Rows

/-- THE TIED CARD OF 'tallboylaw20.CmdTells'. -/
def cmdTellsCard : Claim7 := { stood := { row := cmdTellsRow, standIns := [], harness := (true, "25e7a7ce053d11ffa69fece5188e0ed8ab5ddadf03dc70477841453f76bd4c5b"), looks := true }, kinds := [], alts := [], laidByText := true, laidKinds := [.handle], laidTests := true, laidLooks := .later }
def CmdTellsCardSaid : Prop := Claim7.holds Tryd.pinned (.plain (OpenSpec.ofChange cmdTellsSpec)) cmdTellsCard

/-- THE TIED CARD OF 'tallboylaw20.CmdLower'. -/
def cmdLowerCard : Claim7 := { stood := { row := cmdLowerRow, standIns := [], harness := (true, "25e7a7ce053d11ffa69fece5188e0ed8ab5ddadf03dc70477841453f76bd4c5b"), looks := true }, kinds := [], alts := [], laidByText := true, laidKinds := [.handle], laidTests := true, laidLooks := .later }
def CmdLowerCardSaid : Prop := Claim7.holds Tryd.pinned (.plain (OpenSpec.ofChange cmdLowerSpec)) cmdLowerCard

/-- THE TIED CARD OF 'tallboylaw20.CmdNumbers'. -/
def cmdNumbersCard : Claim7 := { stood := { row := cmdNumbersRow, standIns := [], harness := (true, "25e7a7ce053d11ffa69fece5188e0ed8ab5ddadf03dc70477841453f76bd4c5b"), looks := true }, kinds := [], alts := [], laidByText := true, laidKinds := [.handle], laidTests := true, laidLooks := .later }
def CmdNumbersCardSaid : Prop := Claim7.holds Tryd.pinned (.plain (OpenSpec.ofChange cmdNumbersSpec)) cmdNumbersCard

/-- THE TIED CARD OF 'tallboylaw20.CmdNames'. -/
def cmdNamesCard : Claim7 := { stood := { row := cmdNamesRow, standIns := [], harness := (true, "25e7a7ce053d11ffa69fece5188e0ed8ab5ddadf03dc70477841453f76bd4c5b"), looks := true }, kinds := [], alts := [], laidByText := true, laidKinds := [.handle], laidTests := true, laidLooks := .later }
def CmdNamesCardSaid : Prop := Claim7.holds Tryd.pinned (.plain (OpenSpec.ofChange cmdNamesSpec)) cmdNamesCard

/-- THE SECOND FORM's CARD OF 'tallboylaw20.CmdTells'. -/
def cmdTellsUptoCard : Claim7 := { stood := { row := cmdTellsUptoRow, standIns := [], harness := (true, "25e7a7ce053d11ffa69fece5188e0ed8ab5ddadf03dc70477841453f76bd4c5b"), looks := true }, kinds := [], alts := [], laidByText := true, laidKinds := [.handle], laidTests := true, laidLooks := .later }
def CmdTellsUptoCardSaid : Prop := Claim7.holds Tryd.pinned (.plain (OpenSpec.upto cmdTellsSpec)) cmdTellsUptoCard

/-- THE SECOND FORM's CARD OF 'tallboylaw20.CmdLower'. -/
def cmdLowerUptoCard : Claim7 := { stood := { row := cmdLowerUptoRow, standIns := [], harness := (true, "25e7a7ce053d11ffa69fece5188e0ed8ab5ddadf03dc70477841453f76bd4c5b"), looks := true }, kinds := [], alts := [], laidByText := true, laidKinds := [.handle], laidTests := true, laidLooks := .later }
def CmdLowerUptoCardSaid : Prop := Claim7.holds Tryd.pinned (.plain (OpenSpec.upto cmdLowerSpec)) cmdLowerUptoCard

/-- THE SECOND FORM's CARD OF 'tallboylaw20.CmdNumbers'. -/
def cmdNumbersUptoCard : Claim7 := { stood := { row := cmdNumbersUptoRow, standIns := [], harness := (true, "25e7a7ce053d11ffa69fece5188e0ed8ab5ddadf03dc70477841453f76bd4c5b"), looks := true }, kinds := [], alts := [], laidByText := true, laidKinds := [.handle], laidTests := true, laidLooks := .later }
def CmdNumbersUptoCardSaid : Prop := Claim7.holds Tryd.pinned (.plain (OpenSpec.upto cmdNumbersSpec)) cmdNumbersUptoCard

/-- THE SECOND FORM's CARD OF 'tallboylaw20.CmdNames'. -/
def cmdNamesUptoCard : Claim7 := { stood := { row := cmdNamesUptoRow, standIns := [], harness := (true, "25e7a7ce053d11ffa69fece5188e0ed8ab5ddadf03dc70477841453f76bd4c5b"), looks := true }, kinds := [], alts := [], laidByText := true, laidKinds := [.handle], laidTests := true, laidLooks := .later }
def CmdNamesUptoCardSaid : Prop := Claim7.holds Tryd.pinned (.plain (OpenSpec.upto cmdNamesSpec)) cmdNamesUptoCard
end Rows
end Go.Proofs.YtjffhomcgpigpaaDoor
