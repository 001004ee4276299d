/-
  DERIVED. GIVEN WITH THE SEED: THE CARDS: each row of YtmlhaikblfjghaaGreatDoorRows.lean that lists a variable, with what it lists TIED to the program's text (the seventh form; the later family's looks); each row that meets fmt, with fmt's text TOLD by the authors' own Lean function (tested against real Go, not proved from fmt's source: count such statements apart). THE CARD IS WHAT COUNTS. Prove the row's statement (the work); the ties are given (YtmlhaikblfjghaaGreatDoorTie.lean); close each card by the builder's one call (the guide's Derived/Test/ToyasCard.lean, 'card_holds'). Laid BY PROGRAM, IN A SANDBOX (cutbox-door.mjs). By AI agents, Wed Nov 11 2026. No macro, syntax, notation, axiom, sorry.
-/
import Derived.Test.YtmlhaikblfjghaaGreatDoorRows
import GoSem.ClaimSeven
namespace Go.Proofs.YtmlhaikblfjghaaGreatDoor
namespace Rows

/-- THE TIED CARD OF 'wavestorelaw44.CompactionInverts'. -/
def compactionInvertsCard : Claim7 := { stood := { row := compactionInvertsRow, standIns := [], harness := (true, "8b6c880f2a9058f2563cf201659077a9e849a60c3476002274e628213ad77926"), looks := false }, kinds := [], alts := [], laidByText := true, laidKinds := [.data, .data, .data, .data, .pinned], laidTests := true, laidLooks := .later }
def CompactionInvertsCardSaid : Prop := Claim7.holds Tryz.pinned (.plain (OpenSpec.ofChange compactionInvertsSpec)) compactionInvertsCard

/-- THE SECOND FORM's CARD OF 'wavestorelaw44.CompactionInverts'. -/
def compactionInvertsUptoCard : Claim7 := { stood := { row := compactionInvertsUptoRow, standIns := [], harness := (true, "8b6c880f2a9058f2563cf201659077a9e849a60c3476002274e628213ad77926"), looks := false }, kinds := [], alts := [], laidByText := true, laidKinds := [.data, .data, .data, .data, .pinned], laidTests := true, laidLooks := .later }
def CompactionInvertsUptoCardSaid : Prop := Claim7.holds Tryz.pinned (.plain (OpenSpec.upto compactionInvertsSpec)) compactionInvertsUptoCard
end Rows
end Go.Proofs.YtmlhaikblfjghaaGreatDoor
