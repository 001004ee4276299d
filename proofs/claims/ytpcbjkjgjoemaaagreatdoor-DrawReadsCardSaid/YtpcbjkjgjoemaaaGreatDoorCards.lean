/-
  DERIVED. GIVEN WITH THE SEED: THE CARDS: each row of YtpcbjkjgjoemaaaGreatDoorRows.lean that lists a variable, with what it lists TIED to the program's text (the seventh form; the later family's looks); each row that meets fmt, with fmt's text TOLD by the authors' own Lean function (tested against real Go, not proved from fmt's source: count such statements apart). THE CARD IS WHAT COUNTS. Prove the row's statement (the work); the ties are given (YtpcbjkjgjoemaaaGreatDoorTie.lean); close each card by the builder's one call (the guide's Derived/Test/ToyasCard.lean, 'card_holds'). Laid BY PROGRAM, IN A SANDBOX (cutbox-door.mjs). By AI agents, Wed Nov 11 2026. No macro, syntax, notation, axiom, sorry.
-/
import Derived.Test.YtpcbjkjgjoemaaaGreatDoorRows
import GoSem.ClaimSeven
namespace Go.Proofs.YtpcbjkjgjoemaaaGreatDoor
namespace Rows

/-- THE TIED CARD OF 'wavestorelaw59.DrawPictures'. -/
def drawPicturesCard : Claim7 := { stood := { row := drawPicturesRow, standIns := [], harness := (true, "dd2e574d33d53df16082a8236a2821b02a6a884c116ef7d71ffc51a61cc778d8"), looks := true }, kinds := [], alts := [], laidByText := true, laidKinds := [.data, .data, .data, .data, .pinned], laidTests := true, laidLooks := .later }
def DrawPicturesCardSaid : Prop := Claim7.holds Tryz.pinned (.plain (OpenSpec.ofChange drawPicturesSpec)) drawPicturesCard

/-- THE TIED CARD OF 'wavestorelaw59.DrawReads'. -/
def drawReadsCard : Claim7 := { stood := { row := drawReadsRow, standIns := [], harness := (true, "dd2e574d33d53df16082a8236a2821b02a6a884c116ef7d71ffc51a61cc778d8"), looks := true }, kinds := [], alts := [], laidByText := true, laidKinds := [.data, .data, .data, .data, .sentinel, .sentinel, .pinned], laidTests := true, laidLooks := .later }
def DrawReadsCardSaid : Prop := Claim7.holds Tryz.pinned (.plain (OpenSpec.ofChange drawReadsSpec)) drawReadsCard

/-- THE TIED CARD OF 'wavestorelaw58.CompareSame'. -/
def compareSameCard : Claim7 := { stood := { row := compareSameRow, standIns := [], harness := (true, "dd2e574d33d53df16082a8236a2821b02a6a884c116ef7d71ffc51a61cc778d8"), looks := true }, kinds := [], alts := [], laidByText := true, laidKinds := [.data, .data, .data, .data, .pinned], laidTests := true, laidLooks := .later }
def CompareSameCardSaid : Prop := Claim7.holds Tryz.pinned (.plain (OpenSpec.ofChange compareSameSpec)) compareSameCard

/-- THE TIED CARD OF 'wavestorelaw58.CompareSignals'. -/
def compareSignalsCard : Claim7 := { stood := { row := compareSignalsRow, standIns := [], harness := (true, "dd2e574d33d53df16082a8236a2821b02a6a884c116ef7d71ffc51a61cc778d8"), looks := true }, kinds := [], alts := [], laidByText := true, laidKinds := [.data, .data, .data, .data, .pinned], laidTests := true, laidLooks := .later }
def CompareSignalsCardSaid : Prop := Claim7.holds Tryz.pinned (.plain (OpenSpec.ofChange compareSignalsSpec)) compareSignalsCard

/-- THE TIED CARD OF 'wavestorelaw58.CompareMetric'. -/
def compareMetricCard : Claim7 := { stood := { row := compareMetricRow, standIns := [], harness := (true, "dd2e574d33d53df16082a8236a2821b02a6a884c116ef7d71ffc51a61cc778d8"), looks := true }, kinds := [], alts := [], laidByText := true, laidKinds := [.data, .data, .data, .data, .pinned], laidTests := true, laidLooks := .later }
def CompareMetricCardSaid : Prop := Claim7.holds Tryz.pinned (.plain (OpenSpec.ofChange compareMetricSpec)) compareMetricCard

/-- THE TIED CARD OF 'wavestorelaw58.CompareJitter'. -/
def compareJitterCard : Claim7 := { stood := { row := compareJitterRow, standIns := [], harness := (true, "dd2e574d33d53df16082a8236a2821b02a6a884c116ef7d71ffc51a61cc778d8"), looks := true }, kinds := [], alts := [], laidByText := true, laidKinds := [.data, .data, .data, .data, .pinned], laidTests := true, laidLooks := .later }
def CompareJitterCardSaid : Prop := Claim7.holds Tryz.pinned (.plain (OpenSpec.ofChange compareJitterSpec)) compareJitterCard

/-- THE TIED CARD OF 'wavestorelaw58.CompareReads'. -/
def compareReadsCard : Claim7 := { stood := { row := compareReadsRow, standIns := [], harness := (true, "dd2e574d33d53df16082a8236a2821b02a6a884c116ef7d71ffc51a61cc778d8"), looks := true }, kinds := [], alts := [], laidByText := true, laidKinds := [.data, .data, .data, .data, .pinned], laidTests := true, laidLooks := .later }
def CompareReadsCardSaid : Prop := Claim7.holds Tryz.pinned (.plain (OpenSpec.ofChange compareReadsSpec)) compareReadsCard

/-- THE SECOND FORM's CARD OF 'wavestorelaw59.DrawPictures'. -/
def drawPicturesUptoCard : Claim7 := { stood := { row := drawPicturesUptoRow, standIns := [], harness := (true, "dd2e574d33d53df16082a8236a2821b02a6a884c116ef7d71ffc51a61cc778d8"), looks := true }, kinds := [], alts := [], laidByText := true, laidKinds := [.data, .data, .data, .data, .pinned], laidTests := true, laidLooks := .later }
def DrawPicturesUptoCardSaid : Prop := Claim7.holds Tryz.pinned (.plain (OpenSpec.upto drawPicturesSpec)) drawPicturesUptoCard

/-- THE SECOND FORM's CARD OF 'wavestorelaw59.DrawReads'. -/
def drawReadsUptoCard : Claim7 := { stood := { row := drawReadsUptoRow, standIns := [], harness := (true, "dd2e574d33d53df16082a8236a2821b02a6a884c116ef7d71ffc51a61cc778d8"), looks := true }, kinds := [], alts := [], laidByText := true, laidKinds := [.data, .data, .data, .data, .sentinel, .sentinel, .pinned], laidTests := true, laidLooks := .later }
def DrawReadsUptoCardSaid : Prop := Claim7.holds Tryz.pinned (.plain (OpenSpec.upto drawReadsSpec)) drawReadsUptoCard

/-- THE SECOND FORM's CARD OF 'wavestorelaw58.CompareSame'. -/
def compareSameUptoCard : Claim7 := { stood := { row := compareSameUptoRow, standIns := [], harness := (true, "dd2e574d33d53df16082a8236a2821b02a6a884c116ef7d71ffc51a61cc778d8"), looks := true }, kinds := [], alts := [], laidByText := true, laidKinds := [.data, .data, .data, .data, .pinned], laidTests := true, laidLooks := .later }
def CompareSameUptoCardSaid : Prop := Claim7.holds Tryz.pinned (.plain (OpenSpec.upto compareSameSpec)) compareSameUptoCard

/-- THE SECOND FORM's CARD OF 'wavestorelaw58.CompareSignals'. -/
def compareSignalsUptoCard : Claim7 := { stood := { row := compareSignalsUptoRow, standIns := [], harness := (true, "dd2e574d33d53df16082a8236a2821b02a6a884c116ef7d71ffc51a61cc778d8"), looks := true }, kinds := [], alts := [], laidByText := true, laidKinds := [.data, .data, .data, .data, .pinned], laidTests := true, laidLooks := .later }
def CompareSignalsUptoCardSaid : Prop := Claim7.holds Tryz.pinned (.plain (OpenSpec.upto compareSignalsSpec)) compareSignalsUptoCard

/-- THE SECOND FORM's CARD OF 'wavestorelaw58.CompareMetric'. -/
def compareMetricUptoCard : Claim7 := { stood := { row := compareMetricUptoRow, standIns := [], harness := (true, "dd2e574d33d53df16082a8236a2821b02a6a884c116ef7d71ffc51a61cc778d8"), looks := true }, kinds := [], alts := [], laidByText := true, laidKinds := [.data, .data, .data, .data, .pinned], laidTests := true, laidLooks := .later }
def CompareMetricUptoCardSaid : Prop := Claim7.holds Tryz.pinned (.plain (OpenSpec.upto compareMetricSpec)) compareMetricUptoCard

/-- THE SECOND FORM's CARD OF 'wavestorelaw58.CompareJitter'. -/
def compareJitterUptoCard : Claim7 := { stood := { row := compareJitterUptoRow, standIns := [], harness := (true, "dd2e574d33d53df16082a8236a2821b02a6a884c116ef7d71ffc51a61cc778d8"), looks := true }, kinds := [], alts := [], laidByText := true, laidKinds := [.data, .data, .data, .data, .pinned], laidTests := true, laidLooks := .later }
def CompareJitterUptoCardSaid : Prop := Claim7.holds Tryz.pinned (.plain (OpenSpec.upto compareJitterSpec)) compareJitterUptoCard

/-- THE SECOND FORM's CARD OF 'wavestorelaw58.CompareReads'. -/
def compareReadsUptoCard : Claim7 := { stood := { row := compareReadsUptoRow, standIns := [], harness := (true, "dd2e574d33d53df16082a8236a2821b02a6a884c116ef7d71ffc51a61cc778d8"), looks := true }, kinds := [], alts := [], laidByText := true, laidKinds := [.data, .data, .data, .data, .pinned], laidTests := true, laidLooks := .later }
def CompareReadsUptoCardSaid : Prop := Claim7.holds Tryz.pinned (.plain (OpenSpec.upto compareReadsSpec)) compareReadsUptoCard
end Rows
end Go.Proofs.YtpcbjkjgjoemaaaGreatDoor
