/-
  DERIVED. GIVEN WITH THE SEED: THE CARDS: each row of YtpcbjkjgjoemaaaDoorRows.lean that lists a variable, with what it lists TIED to the program's text (the seventh form; the later family's looks); each row that meets fmt, with fmt's text TOLD by the authors' own Lean function (tested against real Go, not proved from fmt's source: count such statements apart). THE CARD IS WHAT COUNTS. Prove the row's statement (the work); the ties are given (YtpcbjkjgjoemaaaDoorTie.lean); close each card by the builder's one call (the guide's Derived/Test/ToyasCard.lean, 'card_holds'). Laid BY PROGRAM, IN A SANDBOX (cutbox-door.mjs). By AI agents, Wed Nov 11 2026. No macro, syntax, notation, axiom, sorry.
-/
import Derived.Test.YtpcbjkjgjoemaaaDoorRows
import GoSem.ClaimSeven
namespace Go.Proofs.YtpcbjkjgjoemaaaDoor
namespace Rows

/-- THE TIED CARD OF 'wavestorelaw59.DrawNumbers'. -/
def drawNumbersCard : Claim7 := { stood := { row := drawNumbersRow, standIns := [], harness := (true, "869552cd9fdfb782159f0bd75a9dab2bd0cf5168a3e8c1a894037d856f580738"), looks := false }, kinds := [], alts := [], laidByText := true, laidKinds := [.data, .pinned], laidTests := true, laidLooks := .later }
def DrawNumbersCardSaid : Prop := Claim7.holds Tryd.pinned (.plain (OpenSpec.ofChange drawNumbersSpec)) drawNumbersCard

/-- THE TIED CARD OF 'wavestorelaw59.DrawLines'. -/
def drawLinesCard : Claim7 := { stood := { row := drawLinesRow, standIns := [], harness := (true, "869552cd9fdfb782159f0bd75a9dab2bd0cf5168a3e8c1a894037d856f580738"), looks := false }, kinds := [], alts := [], laidByText := true, laidKinds := [.data, .pinned], laidTests := true, laidLooks := .later }
def DrawLinesCardSaid : Prop := Claim7.holds Tryd.pinned (.plain (OpenSpec.ofChange drawLinesSpec)) drawLinesCard

/-- THE TIED CARD OF 'wavestorelaw59.DrawLevels'. -/
def drawLevelsCard : Claim7 := { stood := { row := drawLevelsRow, standIns := [], harness := (true, "869552cd9fdfb782159f0bd75a9dab2bd0cf5168a3e8c1a894037d856f580738"), looks := false }, kinds := [], alts := [], laidByText := true, laidKinds := [.data, .pinned], laidTests := true, laidLooks := .later }
def DrawLevelsCardSaid : Prop := Claim7.holds Tryd.pinned (.plain (OpenSpec.ofChange drawLevelsSpec)) drawLevelsCard

/-- THE TIED CARD OF 'wavestorelaw59.DrawRulers'. -/
def drawRulersCard : Claim7 := { stood := { row := drawRulersRow, standIns := [], harness := (true, "869552cd9fdfb782159f0bd75a9dab2bd0cf5168a3e8c1a894037d856f580738"), looks := false }, kinds := [], alts := [], laidByText := true, laidKinds := [.data, .data, .data, .data, .pinned], laidTests := true, laidLooks := .later }
def DrawRulersCardSaid : Prop := Claim7.holds Tryd.pinned (.plain (OpenSpec.ofChange drawRulersSpec)) drawRulersCard

/-- THE SECOND FORM's CARD OF 'wavestorelaw59.DrawNumbers'. -/
def drawNumbersUptoCard : Claim7 := { stood := { row := drawNumbersUptoRow, standIns := [], harness := (true, "869552cd9fdfb782159f0bd75a9dab2bd0cf5168a3e8c1a894037d856f580738"), looks := false }, kinds := [], alts := [], laidByText := true, laidKinds := [.data, .pinned], laidTests := true, laidLooks := .later }
def DrawNumbersUptoCardSaid : Prop := Claim7.holds Tryd.pinned (.plain (OpenSpec.upto drawNumbersSpec)) drawNumbersUptoCard

/-- THE SECOND FORM's CARD OF 'wavestorelaw59.DrawLines'. -/
def drawLinesUptoCard : Claim7 := { stood := { row := drawLinesUptoRow, standIns := [], harness := (true, "869552cd9fdfb782159f0bd75a9dab2bd0cf5168a3e8c1a894037d856f580738"), looks := false }, kinds := [], alts := [], laidByText := true, laidKinds := [.data, .pinned], laidTests := true, laidLooks := .later }
def DrawLinesUptoCardSaid : Prop := Claim7.holds Tryd.pinned (.plain (OpenSpec.upto drawLinesSpec)) drawLinesUptoCard

/-- THE SECOND FORM's CARD OF 'wavestorelaw59.DrawLevels'. -/
def drawLevelsUptoCard : Claim7 := { stood := { row := drawLevelsUptoRow, standIns := [], harness := (true, "869552cd9fdfb782159f0bd75a9dab2bd0cf5168a3e8c1a894037d856f580738"), looks := false }, kinds := [], alts := [], laidByText := true, laidKinds := [.data, .pinned], laidTests := true, laidLooks := .later }
def DrawLevelsUptoCardSaid : Prop := Claim7.holds Tryd.pinned (.plain (OpenSpec.upto drawLevelsSpec)) drawLevelsUptoCard

/-- THE SECOND FORM's CARD OF 'wavestorelaw59.DrawRulers'. -/
def drawRulersUptoCard : Claim7 := { stood := { row := drawRulersUptoRow, standIns := [], harness := (true, "869552cd9fdfb782159f0bd75a9dab2bd0cf5168a3e8c1a894037d856f580738"), looks := false }, kinds := [], alts := [], laidByText := true, laidKinds := [.data, .data, .data, .data, .pinned], laidTests := true, laidLooks := .later }
def DrawRulersUptoCardSaid : Prop := Claim7.holds Tryd.pinned (.plain (OpenSpec.upto drawRulersSpec)) drawRulersUptoCard
end Rows
end Go.Proofs.YtpcbjkjgjoemaaaDoor
