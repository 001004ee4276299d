/-
  No cell of these rows narrows 'for every input' (looked for: loops, veiled, ifaces, maps, wideKeys, modest, calm, conditions, laid).
  DERIVED. THE GIVEN ROWS OF THIS SEAT. 6 by the template 'for every input the law returns true; each argument reads behind the call as it read before'; 0 by the template 'total and deterministic' (their statements: YtjajmmdnplgjmaaTotals.lean).
  GIVEN WITH THE SEED: the statements are not yours to turn. If you find one false, say at which input.
  Laid BY PROGRAM, IN A SANDBOX (cutbox-rows.mjs): the forced cells as the released guide's own fill.sh prints them over the translation 4bfea258fecda794… (all of the seat's roots in one cut). By AI agents, Wed Nov 11 2026. No macro, syntax, notation, axiom, sorry.
-/
import Derived.Test.YtjajmmdnplgjmaaChecked
import GoSem.Claim
import GoSem.ClaimJoined
import GoSem.ClaimMapViews
import Derived.JoinedTies
import Derived.KernelRfl
namespace Go.Proofs.Ytjajmmdnplgjmaa
/- THE CELL 'sum', in the pinned program and in every row, IS THE sha256 OF THE DUMP (.gsa) THAT YtjajmmdnplgjmaaProg.lean LOADS. Nothing in Lean hashes anything: it is a label: what it is worth is what the hold of that sum in a sandbox is worth. -/
noncomputable def Try.pinned : Pinned := { name := "ytjajmmdnplgjmaa", sum := "4bfea258fecda79468937d07193b65d7b6b74e4f6de6432e04ba6a27c9a90e1c", checked := Try.checked }
namespace Rows
def none {H : Type} : Left H := { results := [], args := [] }

/-- 'wavestorelaw47.RunsOf': WHATEVER THE INPUT: true; the input reads as it did. -/
def runsOfSpec : ChangeSpec := { name := "runsOf", fn := fun _ => fun
  | [d1, d2, d3, d4] => { results := [.lit (.bool true)], args := [d1, d2, d3, d4] }
  | _ => none }
def runsOfRow : OpenClaim := { program := "ytjajmmdnplgjmaa", sum := "4bfea258fecda79468937d07193b65d7b6b74e4f6de6432e04ba6a27c9a90e1c", func := "wavestore/wavestorelaw47.RunsOf", spec := "runsOf", unfollowed := true, recurses := true, apart := false }
def RunsOfSaid : Prop := runsOfRow.holds Try.pinned (OpenSpec.ofChange runsOfSpec)

/-- ITS FALSE NEIGHBOUR: 'it returns false'. Refute it at one input. -/
def runsOfWrong : ChangeSpec := { name := "runsOf", fn := fun _ => fun
  | [d1, d2, d3, d4] => { results := [.lit (.bool false)], args := [d1, d2, d3, d4] }
  | _ => none }
def RunsOfWrongFalsely : Prop := runsOfRow.holds Try.pinned (OpenSpec.ofChange runsOfWrong)

/-- 'wavestorelaw47.RunsReads': WHATEVER THE INPUT: true; the input reads as it did. -/
def runsReadsSpec : ChangeSpec := { name := "runsReads", fn := fun _ => fun
  | [d1, d2, d3, d4, d5] => { results := [.lit (.bool true)], args := [d1, d2, d3, d4, d5] }
  | _ => none }
def runsReadsRow : OpenClaim := { program := "ytjajmmdnplgjmaa", sum := "4bfea258fecda79468937d07193b65d7b6b74e4f6de6432e04ba6a27c9a90e1c", func := "wavestore/wavestorelaw47.RunsReads", spec := "runsReads", unfollowed := true, recurses := true, apart := false }
def RunsReadsSaid : Prop := runsReadsRow.holds Try.pinned (OpenSpec.ofChange runsReadsSpec)

/-- ITS FALSE NEIGHBOUR: 'it returns false'. Refute it at one input. -/
def runsReadsWrong : ChangeSpec := { name := "runsReads", fn := fun _ => fun
  | [d1, d2, d3, d4, d5] => { results := [.lit (.bool false)], args := [d1, d2, d3, d4, d5] }
  | _ => none }
def RunsReadsWrongFalsely : Prop := runsReadsRow.holds Try.pinned (OpenSpec.ofChange runsReadsWrong)

/-- 'wavestorelaw47.RunsRows': WHATEVER THE INPUT: true; the input reads as it did. -/
def runsRowsSpec : ChangeSpec := { name := "runsRows", fn := fun _ => fun
  | [d1, d2, d3, d4, d5] => { results := [.lit (.bool true)], args := [d1, d2, d3, d4, d5] }
  | _ => none }
def runsRowsRow : OpenClaim := { program := "ytjajmmdnplgjmaa", sum := "4bfea258fecda79468937d07193b65d7b6b74e4f6de6432e04ba6a27c9a90e1c", func := "wavestore/wavestorelaw47.RunsRows", spec := "runsRows", unfollowed := true, recurses := true, apart := false }
def RunsRowsSaid : Prop := runsRowsRow.holds Try.pinned (OpenSpec.ofChange runsRowsSpec)

/-- ITS FALSE NEIGHBOUR: 'it returns false'. Refute it at one input. -/
def runsRowsWrong : ChangeSpec := { name := "runsRows", fn := fun _ => fun
  | [d1, d2, d3, d4, d5] => { results := [.lit (.bool false)], args := [d1, d2, d3, d4, d5] }
  | _ => none }
def RunsRowsWrongFalsely : Prop := runsRowsRow.holds Try.pinned (OpenSpec.ofChange runsRowsWrong)

/-- 'wavestorelaw47.RunsValues': WHATEVER THE INPUT: true; the input reads as it did. -/
def runsValuesSpec : ChangeSpec := { name := "runsValues", fn := fun _ => fun
  | [d1, d2, d3, d4] => { results := [.lit (.bool true)], args := [d1, d2, d3, d4] }
  | _ => none }
def runsValuesRow : OpenClaim := { program := "ytjajmmdnplgjmaa", sum := "4bfea258fecda79468937d07193b65d7b6b74e4f6de6432e04ba6a27c9a90e1c", func := "wavestore/wavestorelaw47.RunsValues", spec := "runsValues", unfollowed := true, recurses := true, apart := false }
def RunsValuesSaid : Prop := runsValuesRow.holds Try.pinned (OpenSpec.ofChange runsValuesSpec)

/-- ITS FALSE NEIGHBOUR: 'it returns false'. Refute it at one input. -/
def runsValuesWrong : ChangeSpec := { name := "runsValues", fn := fun _ => fun
  | [d1, d2, d3, d4] => { results := [.lit (.bool false)], args := [d1, d2, d3, d4] }
  | _ => none }
def RunsValuesWrongFalsely : Prop := runsValuesRow.holds Try.pinned (OpenSpec.ofChange runsValuesWrong)

/-- 'wavestorelaw47.RunsJoin': WHATEVER THE INPUT: true; the input reads as it did. -/
def runsJoinSpec : ChangeSpec := { name := "runsJoin", fn := fun _ => fun
  | [d1, d2] => { results := [.lit (.bool true)], args := [d1, d2] }
  | _ => none }
def runsJoinRow : OpenClaim := { program := "ytjajmmdnplgjmaa", sum := "4bfea258fecda79468937d07193b65d7b6b74e4f6de6432e04ba6a27c9a90e1c", func := "wavestore/wavestorelaw47.RunsJoin", spec := "runsJoin", unfollowed := true, recurses := true, apart := false }
def RunsJoinSaid : Prop := runsJoinRow.holds Try.pinned (OpenSpec.ofChange runsJoinSpec)

/-- ITS FALSE NEIGHBOUR: 'it returns false'. Refute it at one input. -/
def runsJoinWrong : ChangeSpec := { name := "runsJoin", fn := fun _ => fun
  | [d1, d2] => { results := [.lit (.bool false)], args := [d1, d2] }
  | _ => none }
def RunsJoinWrongFalsely : Prop := runsJoinRow.holds Try.pinned (OpenSpec.ofChange runsJoinWrong)

/-- 'wavestorelaw47.RunsMakes': WHATEVER THE INPUT: true; the input reads as it did. -/
def runsMakesSpec : ChangeSpec := { name := "runsMakes", fn := fun _ => fun
  | [d1, d2, d3, d4, d5, d6] => { results := [.lit (.bool true)], args := [d1, d2, d3, d4, d5, d6] }
  | _ => none }
def runsMakesRow : OpenClaim := { program := "ytjajmmdnplgjmaa", sum := "4bfea258fecda79468937d07193b65d7b6b74e4f6de6432e04ba6a27c9a90e1c", func := "wavestore/wavestorelaw47.RunsMakes", spec := "runsMakes", inPlace := ["internal/reflectlite.ValueOf", "internal/reflectlite.Swapper", "(internal/reflectlite.Value).Len"], unfollowed := true, recurses := true, apart := false }
def RunsMakesSaid : Prop := runsMakesRow.holds Try.pinned (OpenSpec.ofChange runsMakesSpec)

/-- ITS FALSE NEIGHBOUR: 'it returns false'. Refute it at one input. -/
def runsMakesWrong : ChangeSpec := { name := "runsMakes", fn := fun _ => fun
  | [d1, d2, d3, d4, d5, d6] => { results := [.lit (.bool false)], args := [d1, d2, d3, d4, d5, d6] }
  | _ => none }
def RunsMakesWrongFalsely : Prop := runsMakesRow.holds Try.pinned (OpenSpec.ofChange runsMakesWrong)

/- THE SECOND FORM. 'bulk': how many values and letters a reading holds, each counted each time it is reached (what is shared counts as often as it is met; a slice's spare places count too). A statement '..UptoSaid' is the law's where the arguments, and the package variables that the reading takes, are together of bulk at most 1048576: NARROWER than '..Said'. Prove '..Said' where nothing that the law and all that it calls make is longer than what came in: it says more and counts as full. Else prove '..UptoSaid'. A law counts once. -/
mutual
def uptoBulk {H : Type} : DataW H → Nat
  | .lit (.string bytes) => bytes.length + 1
  | .lit _ => 1
  | .nil => 1
  | .ptr d => uptoBulk d + 1
  | .slice elems spare => uptoBulkAll elems + uptoBulkAll spare + 1
  | .agg parts => uptoBulkAll parts + 1
  | .iface _ d => uptoBulk d + 1
  | .map entries => uptoBulkEntries entries + 1
  | .held _ => 1
def uptoBulkAll {H : Type} : List (DataW H) → Nat
  | [] => 0
  | d :: r => uptoBulk d + uptoBulkAll r
def uptoBulkEntries {H : Type} : List (Lit × DataW H) → Nat
  | [] => 0
  | x :: r => uptoBulkEntry x + uptoBulkEntries r
def uptoBulkEntry {H : Type} : Lit × DataW H → Nat
  | (.string bytes, d) => bytes.length + uptoBulk d + 1
  | (_, d) => uptoBulk d + 1
 end
def uptoSmall : (H : Type) → List (DataW H) → Bool := fun _ ds => decide (uptoBulkAll ds ≤ 1048576)
def OpenSpec.upto (s : _root_.Go.ChangeSpec) : _root_.Go.OpenSpec := { _root_.Go.OpenSpec.ofChange s with cond := some uptoSmall }

/-- 'wavestorelaw47.RunsOf', WHERE WHAT IT READS IS OF BULK AT MOST 1048576: true; the input reads as it did. -/
def runsOfUptoRow : OpenClaim := { program := "ytjajmmdnplgjmaa", sum := "4bfea258fecda79468937d07193b65d7b6b74e4f6de6432e04ba6a27c9a90e1c", func := "wavestore/wavestorelaw47.RunsOf", spec := "runsOf", unfollowed := true, recurses := true, apart := false, narrowed := true }
def RunsOfUptoSaid : Prop := runsOfUptoRow.holds Try.pinned (OpenSpec.upto runsOfSpec)

/-- 'wavestorelaw47.RunsReads', WHERE WHAT IT READS IS OF BULK AT MOST 1048576: true; the input reads as it did. -/
def runsReadsUptoRow : OpenClaim := { program := "ytjajmmdnplgjmaa", sum := "4bfea258fecda79468937d07193b65d7b6b74e4f6de6432e04ba6a27c9a90e1c", func := "wavestore/wavestorelaw47.RunsReads", spec := "runsReads", unfollowed := true, recurses := true, apart := false, narrowed := true }
def RunsReadsUptoSaid : Prop := runsReadsUptoRow.holds Try.pinned (OpenSpec.upto runsReadsSpec)

/-- 'wavestorelaw47.RunsRows', WHERE WHAT IT READS IS OF BULK AT MOST 1048576: true; the input reads as it did. -/
def runsRowsUptoRow : OpenClaim := { program := "ytjajmmdnplgjmaa", sum := "4bfea258fecda79468937d07193b65d7b6b74e4f6de6432e04ba6a27c9a90e1c", func := "wavestore/wavestorelaw47.RunsRows", spec := "runsRows", unfollowed := true, recurses := true, apart := false, narrowed := true }
def RunsRowsUptoSaid : Prop := runsRowsUptoRow.holds Try.pinned (OpenSpec.upto runsRowsSpec)

/-- 'wavestorelaw47.RunsValues', WHERE WHAT IT READS IS OF BULK AT MOST 1048576: true; the input reads as it did. -/
def runsValuesUptoRow : OpenClaim := { program := "ytjajmmdnplgjmaa", sum := "4bfea258fecda79468937d07193b65d7b6b74e4f6de6432e04ba6a27c9a90e1c", func := "wavestore/wavestorelaw47.RunsValues", spec := "runsValues", unfollowed := true, recurses := true, apart := false, narrowed := true }
def RunsValuesUptoSaid : Prop := runsValuesUptoRow.holds Try.pinned (OpenSpec.upto runsValuesSpec)

/-- 'wavestorelaw47.RunsJoin', WHERE WHAT IT READS IS OF BULK AT MOST 1048576: true; the input reads as it did. -/
def runsJoinUptoRow : OpenClaim := { program := "ytjajmmdnplgjmaa", sum := "4bfea258fecda79468937d07193b65d7b6b74e4f6de6432e04ba6a27c9a90e1c", func := "wavestore/wavestorelaw47.RunsJoin", spec := "runsJoin", unfollowed := true, recurses := true, apart := false, narrowed := true }
def RunsJoinUptoSaid : Prop := runsJoinUptoRow.holds Try.pinned (OpenSpec.upto runsJoinSpec)

/-- 'wavestorelaw47.RunsMakes', WHERE WHAT IT READS IS OF BULK AT MOST 1048576: true; the input reads as it did. -/
def runsMakesUptoRow : OpenClaim := { program := "ytjajmmdnplgjmaa", sum := "4bfea258fecda79468937d07193b65d7b6b74e4f6de6432e04ba6a27c9a90e1c", func := "wavestore/wavestorelaw47.RunsMakes", spec := "runsMakes", inPlace := ["internal/reflectlite.ValueOf", "internal/reflectlite.Swapper", "(internal/reflectlite.Value).Len"], unfollowed := true, recurses := true, apart := false, narrowed := true }
def RunsMakesUptoSaid : Prop := runsMakesUptoRow.holds Try.pinned (OpenSpec.upto runsMakesSpec)

end Rows
end Go.Proofs.Ytjajmmdnplgjmaa
