/-
  No cell of these rows narrows 'for every input' (looked for: loops, veiled, ifaces, maps, wideKeys, modest, calm, conditions, laid).
  DERIVED. THE GIVEN ROWS OF THIS SEAT. 5 by the template 'for every input the law returns true; each argument reads behind the call as it read before'; 0 by the template 'total and deterministic' (their statements: YtmlhaikblfjghaaTotals.lean).
  GIVEN WITH THE SEED: the statements are not yours to turn. If you find one false, say at which input.
  Laid BY PROGRAM, IN A SANDBOX (cutbox-rows.mjs): the forced cells as the released guide's own fill.sh prints them over the translation d72e4d82035a9d90… (all of the seat's roots in one cut). By AI agents, Wed Nov 11 2026. No macro, syntax, notation, axiom, sorry.
-/
import Derived.Test.YtmlhaikblfjghaaChecked
import GoSem.Claim
import GoSem.ClaimJoined
import GoSem.ClaimMapViews
import Derived.JoinedTies
import Derived.KernelRfl
namespace Go.Proofs.Ytmlhaikblfjghaa
/- THE CELL 'sum', in the pinned program and in every row, IS THE sha256 OF THE DUMP (.gsa) THAT YtmlhaikblfjghaaProg.lean LOADS. Nothing in Lean hashes anything: it is a label: what it is worth is what the hold of that sum in a sandbox is worth. -/
noncomputable def Try.pinned : Pinned := { name := "ytmlhaikblfjghaa", sum := "d72e4d82035a9d90608e562a5fac01f714f99569bc834eea7afbc77a2fbc39ad", checked := Try.checked }
namespace Rows
def none {H : Type} : Left H := { results := [], args := [] }

/-- 'wavestorelaw43.ThinningPlans': WHATEVER THE INPUT: true; the input reads as it did. -/
def thinningPlansSpec : ChangeSpec := { name := "thinningPlans", fn := fun _ => fun
  | [d1, d2, d3, d4] => { results := [.lit (.bool true)], args := [d1, d2, d3, d4] }
  | _ => none }
def thinningPlansRow : OpenClaim := { program := "ytmlhaikblfjghaa", sum := "d72e4d82035a9d90608e562a5fac01f714f99569bc834eea7afbc77a2fbc39ad", func := "wavestore/wavestorelaw43.ThinningPlans", spec := "thinningPlans", unfollowed := true, recurses := true, apart := false }
def ThinningPlansSaid : Prop := thinningPlansRow.holds Try.pinned (OpenSpec.ofChange thinningPlansSpec)

/-- ITS FALSE NEIGHBOUR: 'it returns false'. Refute it at one input. -/
def thinningPlansWrong : ChangeSpec := { name := "thinningPlans", fn := fun _ => fun
  | [d1, d2, d3, d4] => { results := [.lit (.bool false)], args := [d1, d2, d3, d4] }
  | _ => none }
def ThinningPlansWrongFalsely : Prop := thinningPlansRow.holds Try.pinned (OpenSpec.ofChange thinningPlansWrong)

/-- 'wavestorelaw43.ThinningReadable': WHATEVER THE INPUT: true; the input reads as it did. -/
def thinningReadableSpec : ChangeSpec := { name := "thinningReadable", fn := fun _ => fun
  | [d1, d2, d3, d4] => { results := [.lit (.bool true)], args := [d1, d2, d3, d4] }
  | _ => none }
def thinningReadableRow : OpenClaim := { program := "ytmlhaikblfjghaa", sum := "d72e4d82035a9d90608e562a5fac01f714f99569bc834eea7afbc77a2fbc39ad", func := "wavestore/wavestorelaw43.ThinningReadable", spec := "thinningReadable", unfollowed := true, recurses := true, apart := false }
def ThinningReadableSaid : Prop := thinningReadableRow.holds Try.pinned (OpenSpec.ofChange thinningReadableSpec)

/-- ITS FALSE NEIGHBOUR: 'it returns false'. Refute it at one input. -/
def thinningReadableWrong : ChangeSpec := { name := "thinningReadable", fn := fun _ => fun
  | [d1, d2, d3, d4] => { results := [.lit (.bool false)], args := [d1, d2, d3, d4] }
  | _ => none }
def ThinningReadableWrongFalsely : Prop := thinningReadableRow.holds Try.pinned (OpenSpec.ofChange thinningReadableWrong)

/-- 'wavestorelaw44.CompactionSplits': WHATEVER THE INPUT: true; the input reads as it did. -/
def compactionSplitsSpec : ChangeSpec := { name := "compactionSplits", fn := fun _ => fun
  | [d1, d2] => { results := [.lit (.bool true)], args := [d1, d2] }
  | _ => none }
def compactionSplitsRow : OpenClaim := { program := "ytmlhaikblfjghaa", sum := "d72e4d82035a9d90608e562a5fac01f714f99569bc834eea7afbc77a2fbc39ad", func := "wavestore/wavestorelaw44.CompactionSplits", spec := "compactionSplits", unfollowed := true, recurses := true, apart := false }
def CompactionSplitsSaid : Prop := compactionSplitsRow.holds Try.pinned (OpenSpec.ofChange compactionSplitsSpec)

/-- ITS FALSE NEIGHBOUR: 'it returns false'. Refute it at one input. -/
def compactionSplitsWrong : ChangeSpec := { name := "compactionSplits", fn := fun _ => fun
  | [d1, d2] => { results := [.lit (.bool false)], args := [d1, d2] }
  | _ => none }
def CompactionSplitsWrongFalsely : Prop := compactionSplitsRow.holds Try.pinned (OpenSpec.ofChange compactionSplitsWrong)

/-- 'wavestorelaw44.CompactionPlans': WHATEVER THE INPUT: true; the input reads as it did. -/
def compactionPlansSpec : ChangeSpec := { name := "compactionPlans", fn := fun _ => fun
  | [d1, d2] => { results := [.lit (.bool true)], args := [d1, d2] }
  | _ => none }
def compactionPlansRow : OpenClaim := { program := "ytmlhaikblfjghaa", sum := "d72e4d82035a9d90608e562a5fac01f714f99569bc834eea7afbc77a2fbc39ad", func := "wavestore/wavestorelaw44.CompactionPlans", spec := "compactionPlans", unfollowed := true, recurses := true, apart := false }
def CompactionPlansSaid : Prop := compactionPlansRow.holds Try.pinned (OpenSpec.ofChange compactionPlansSpec)

/-- ITS FALSE NEIGHBOUR: 'it returns false'. Refute it at one input. -/
def compactionPlansWrong : ChangeSpec := { name := "compactionPlans", fn := fun _ => fun
  | [d1, d2] => { results := [.lit (.bool false)], args := [d1, d2] }
  | _ => none }
def CompactionPlansWrongFalsely : Prop := compactionPlansRow.holds Try.pinned (OpenSpec.ofChange compactionPlansWrong)

/-- 'wavestorelaw44.CompactionGroups': WHATEVER THE INPUT: true; the input reads as it did. -/
def compactionGroupsSpec : ChangeSpec := { name := "compactionGroups", fn := fun _ => fun
  | [d1, d2] => { results := [.lit (.bool true)], args := [d1, d2] }
  | _ => none }
def compactionGroupsRow : OpenClaim := { program := "ytmlhaikblfjghaa", sum := "d72e4d82035a9d90608e562a5fac01f714f99569bc834eea7afbc77a2fbc39ad", func := "wavestore/wavestorelaw44.CompactionGroups", spec := "compactionGroups", unfollowed := true, recurses := true, apart := false }
def CompactionGroupsSaid : Prop := compactionGroupsRow.holds Try.pinned (OpenSpec.ofChange compactionGroupsSpec)

/-- ITS FALSE NEIGHBOUR: 'it returns false'. Refute it at one input. -/
def compactionGroupsWrong : ChangeSpec := { name := "compactionGroups", fn := fun _ => fun
  | [d1, d2] => { results := [.lit (.bool false)], args := [d1, d2] }
  | _ => none }
def CompactionGroupsWrongFalsely : Prop := compactionGroupsRow.holds Try.pinned (OpenSpec.ofChange compactionGroupsWrong)

/- THE SECOND FORM. 'bulk': how many values and letters a reading holds, each counted each time it is reached (what is shared counts as often as it is met; a slice's spare places count too). A statement '..UptoSaid' is the law's where the arguments, and the package variables that the reading takes, are together of bulk at most 1048576: NARROWER than '..Said'. Prove '..Said' where nothing that the law and all that it calls make is longer than what came in: it says more and counts as full. Else prove '..UptoSaid'. A law counts once. -/
mutual
def uptoBulk {H : Type} : DataW H → Nat
  | .lit (.string bytes) => bytes.length + 1
  | .lit _ => 1
  | .nil => 1
  | .ptr d => uptoBulk d + 1
  | .slice elems spare => uptoBulkAll elems + uptoBulkAll spare + 1
  | .agg parts => uptoBulkAll parts + 1
  | .iface _ d => uptoBulk d + 1
  | .map entries => uptoBulkEntries entries + 1
  | .held _ => 1
def uptoBulkAll {H : Type} : List (DataW H) → Nat
  | [] => 0
  | d :: r => uptoBulk d + uptoBulkAll r
def uptoBulkEntries {H : Type} : List (Lit × DataW H) → Nat
  | [] => 0
  | x :: r => uptoBulkEntry x + uptoBulkEntries r
def uptoBulkEntry {H : Type} : Lit × DataW H → Nat
  | (.string bytes, d) => bytes.length + uptoBulk d + 1
  | (_, d) => uptoBulk d + 1
 end
def uptoSmall : (H : Type) → List (DataW H) → Bool := fun _ ds => decide (uptoBulkAll ds ≤ 1048576)
def OpenSpec.upto (s : _root_.Go.ChangeSpec) : _root_.Go.OpenSpec := { _root_.Go.OpenSpec.ofChange s with cond := some uptoSmall }

/-- 'wavestorelaw43.ThinningPlans', WHERE WHAT IT READS IS OF BULK AT MOST 1048576: true; the input reads as it did. -/
def thinningPlansUptoRow : OpenClaim := { program := "ytmlhaikblfjghaa", sum := "d72e4d82035a9d90608e562a5fac01f714f99569bc834eea7afbc77a2fbc39ad", func := "wavestore/wavestorelaw43.ThinningPlans", spec := "thinningPlans", unfollowed := true, recurses := true, apart := false, narrowed := true }
def ThinningPlansUptoSaid : Prop := thinningPlansUptoRow.holds Try.pinned (OpenSpec.upto thinningPlansSpec)

/-- 'wavestorelaw43.ThinningReadable', WHERE WHAT IT READS IS OF BULK AT MOST 1048576: true; the input reads as it did. -/
def thinningReadableUptoRow : OpenClaim := { program := "ytmlhaikblfjghaa", sum := "d72e4d82035a9d90608e562a5fac01f714f99569bc834eea7afbc77a2fbc39ad", func := "wavestore/wavestorelaw43.ThinningReadable", spec := "thinningReadable", unfollowed := true, recurses := true, apart := false, narrowed := true }
def ThinningReadableUptoSaid : Prop := thinningReadableUptoRow.holds Try.pinned (OpenSpec.upto thinningReadableSpec)

/-- 'wavestorelaw44.CompactionSplits', WHERE WHAT IT READS IS OF BULK AT MOST 1048576: true; the input reads as it did. -/
def compactionSplitsUptoRow : OpenClaim := { program := "ytmlhaikblfjghaa", sum := "d72e4d82035a9d90608e562a5fac01f714f99569bc834eea7afbc77a2fbc39ad", func := "wavestore/wavestorelaw44.CompactionSplits", spec := "compactionSplits", unfollowed := true, recurses := true, apart := false, narrowed := true }
def CompactionSplitsUptoSaid : Prop := compactionSplitsUptoRow.holds Try.pinned (OpenSpec.upto compactionSplitsSpec)

/-- 'wavestorelaw44.CompactionPlans', WHERE WHAT IT READS IS OF BULK AT MOST 1048576: true; the input reads as it did. -/
def compactionPlansUptoRow : OpenClaim := { program := "ytmlhaikblfjghaa", sum := "d72e4d82035a9d90608e562a5fac01f714f99569bc834eea7afbc77a2fbc39ad", func := "wavestore/wavestorelaw44.CompactionPlans", spec := "compactionPlans", unfollowed := true, recurses := true, apart := false, narrowed := true }
def CompactionPlansUptoSaid : Prop := compactionPlansUptoRow.holds Try.pinned (OpenSpec.upto compactionPlansSpec)

/-- 'wavestorelaw44.CompactionGroups', WHERE WHAT IT READS IS OF BULK AT MOST 1048576: true; the input reads as it did. -/
def compactionGroupsUptoRow : OpenClaim := { program := "ytmlhaikblfjghaa", sum := "d72e4d82035a9d90608e562a5fac01f714f99569bc834eea7afbc77a2fbc39ad", func := "wavestore/wavestorelaw44.CompactionGroups", spec := "compactionGroups", unfollowed := true, recurses := true, apart := false, narrowed := true }
def CompactionGroupsUptoSaid : Prop := compactionGroupsUptoRow.holds Try.pinned (OpenSpec.upto compactionGroupsSpec)

end Rows
end Go.Proofs.Ytmlhaikblfjghaa
