/-
  DERIVED. GIVEN WITH THE SEED: THE CARDS: each row of YtiekphbkomddfaaGreatDoorRows.lean that lists a variable, with what it lists TIED to the program's text (the seventh form; the later family's looks); each row that meets fmt, with fmt's text TOLD by the authors' own Lean function (tested against real Go, not proved from fmt's source: count such statements apart). THE CARD IS WHAT COUNTS. Prove the row's statement (the work); the ties are given (YtiekphbkomddfaaGreatDoorTie.lean); close each card by the builder's one call (the guide's Derived/Test/ToyasCard.lean, 'card_holds'). Laid BY PROGRAM, IN A SANDBOX (cutbox-door.mjs). By AI agents, Wed Nov 11 2026. No macro, syntax, notation, axiom, sorry.
-/
import Derived.Test.YtiekphbkomddfaaGreatDoorRows
import GoSem.ClaimSeven
namespace Go.Proofs.YtiekphbkomddfaaGreatDoor
namespace Rows

/-- THE TIED CARD OF 'wavestorelaw58.CompareSame'. -/
def compareSameCard : Claim7 := { stood := { row := compareSameRow, standIns := [], harness := (true, "a652fbc292e257aee7d982119596a1e697e5d3d8c539f9dfcc7af75db70e6a9f"), looks := false }, kinds := [], alts := [], laidByText := true, laidKinds := [.data, .data, .data, .data, .pinned], laidTests := true, laidLooks := .later }
def CompareSameCardSaid : Prop := Claim7.holds Tryz.pinned (.plain (OpenSpec.ofChange compareSameSpec)) compareSameCard

/-- THE TIED CARD OF 'wavestorelaw58.CompareSignals'. -/
def compareSignalsCard : Claim7 := { stood := { row := compareSignalsRow, standIns := [], harness := (true, "a652fbc292e257aee7d982119596a1e697e5d3d8c539f9dfcc7af75db70e6a9f"), looks := false }, kinds := [], alts := [], laidByText := true, laidKinds := [.data, .data, .data, .data, .pinned], laidTests := true, laidLooks := .later }
def CompareSignalsCardSaid : Prop := Claim7.holds Tryz.pinned (.plain (OpenSpec.ofChange compareSignalsSpec)) compareSignalsCard

/-- THE TIED CARD OF 'wavestorelaw58.CompareMetric'. -/
def compareMetricCard : Claim7 := { stood := { row := compareMetricRow, standIns := [], harness := (true, "a652fbc292e257aee7d982119596a1e697e5d3d8c539f9dfcc7af75db70e6a9f"), looks := false }, kinds := [], alts := [], laidByText := true, laidKinds := [.data, .data, .data, .data, .pinned], laidTests := true, laidLooks := .later }
def CompareMetricCardSaid : Prop := Claim7.holds Tryz.pinned (.plain (OpenSpec.ofChange compareMetricSpec)) compareMetricCard

/-- THE TIED CARD OF 'wavestorelaw58.CompareJitter'. -/
def compareJitterCard : Claim7 := { stood := { row := compareJitterRow, standIns := [], harness := (true, "a652fbc292e257aee7d982119596a1e697e5d3d8c539f9dfcc7af75db70e6a9f"), looks := false }, kinds := [], alts := [], laidByText := true, laidKinds := [.data, .data, .data, .data, .pinned], laidTests := true, laidLooks := .later }
def CompareJitterCardSaid : Prop := Claim7.holds Tryz.pinned (.plain (OpenSpec.ofChange compareJitterSpec)) compareJitterCard

/-- THE TIED CARD OF 'wavestorelaw58.CompareReads'. -/
def compareReadsCard : Claim7 := { stood := { row := compareReadsRow, standIns := [], harness := (true, "a652fbc292e257aee7d982119596a1e697e5d3d8c539f9dfcc7af75db70e6a9f"), looks := false }, kinds := [], alts := [], laidByText := true, laidKinds := [.data, .data, .data, .data, .pinned], laidTests := true, laidLooks := .later }
def CompareReadsCardSaid : Prop := Claim7.holds Tryz.pinned (.plain (OpenSpec.ofChange compareReadsSpec)) compareReadsCard

/-- THE SECOND FORM's CARD OF 'wavestorelaw58.CompareSame'. -/
def compareSameUptoCard : Claim7 := { stood := { row := compareSameUptoRow, standIns := [], harness := (true, "a652fbc292e257aee7d982119596a1e697e5d3d8c539f9dfcc7af75db70e6a9f"), looks := false }, kinds := [], alts := [], laidByText := true, laidKinds := [.data, .data, .data, .data, .pinned], laidTests := true, laidLooks := .later }
def CompareSameUptoCardSaid : Prop := Claim7.holds Tryz.pinned (.plain (OpenSpec.upto compareSameSpec)) compareSameUptoCard

/-- THE SECOND FORM's CARD OF 'wavestorelaw58.CompareSignals'. -/
def compareSignalsUptoCard : Claim7 := { stood := { row := compareSignalsUptoRow, standIns := [], harness := (true, "a652fbc292e257aee7d982119596a1e697e5d3d8c539f9dfcc7af75db70e6a9f"), looks := false }, kinds := [], alts := [], laidByText := true, laidKinds := [.data, .data, .data, .data, .pinned], laidTests := true, laidLooks := .later }
def CompareSignalsUptoCardSaid : Prop := Claim7.holds Tryz.pinned (.plain (OpenSpec.upto compareSignalsSpec)) compareSignalsUptoCard

/-- THE SECOND FORM's CARD OF 'wavestorelaw58.CompareMetric'. -/
def compareMetricUptoCard : Claim7 := { stood := { row := compareMetricUptoRow, standIns := [], harness := (true, "a652fbc292e257aee7d982119596a1e697e5d3d8c539f9dfcc7af75db70e6a9f"), looks := false }, kinds := [], alts := [], laidByText := true, laidKinds := [.data, .data, .data, .data, .pinned], laidTests := true, laidLooks := .later }
def CompareMetricUptoCardSaid : Prop := Claim7.holds Tryz.pinned (.plain (OpenSpec.upto compareMetricSpec)) compareMetricUptoCard

/-- THE SECOND FORM's CARD OF 'wavestorelaw58.CompareJitter'. -/
def compareJitterUptoCard : Claim7 := { stood := { row := compareJitterUptoRow, standIns := [], harness := (true, "a652fbc292e257aee7d982119596a1e697e5d3d8c539f9dfcc7af75db70e6a9f"), looks := false }, kinds := [], alts := [], laidByText := true, laidKinds := [.data, .data, .data, .data, .pinned], laidTests := true, laidLooks := .later }
def CompareJitterUptoCardSaid : Prop := Claim7.holds Tryz.pinned (.plain (OpenSpec.upto compareJitterSpec)) compareJitterUptoCard

/-- THE SECOND FORM's CARD OF 'wavestorelaw58.CompareReads'. -/
def compareReadsUptoCard : Claim7 := { stood := { row := compareReadsUptoRow, standIns := [], harness := (true, "a652fbc292e257aee7d982119596a1e697e5d3d8c539f9dfcc7af75db70e6a9f"), looks := false }, kinds := [], alts := [], laidByText := true, laidKinds := [.data, .data, .data, .data, .pinned], laidTests := true, laidLooks := .later }
def CompareReadsUptoCardSaid : Prop := Claim7.holds Tryz.pinned (.plain (OpenSpec.upto compareReadsSpec)) compareReadsUptoCard
end Rows
end Go.Proofs.YtiekphbkomddfaaGreatDoor
