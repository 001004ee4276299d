/- DrawReads: whatever value comes in, the law returns true, and the argument reads as before. Conditions: none. The row lists tables of the library, tied to its text; the proof reads none of them. -/
import Derived.Test.YtpcbjkjgjoemaaaGreatDoorCCD6
import Derived.Test.YtpcbjkjgjoemaaaGreatDoorCards
import Derived.Test.YtpcbjkjgjoemaaaGreatDoorTie
import Derived.Lay
namespace Go.Proofs.YtpcbjkjgjoemaaaGreatDoor
open Go Go.Ab Go.Proofs Go.Proofs.YtpcbjkjgjoemaaaGreatDoor.S1
open Go.ChangeShapes Go.WideShapes Go.ChangeAt Go.RowKit Go.Joins
local instance : Lay := ⟨fun _ => none, fun _ => none, fun _ _ h => by cases h⟩

set_option maxRecDepth 100000 in
theorem liftedDrawReads (os : Os) (started : os.Started) (H : Type) (enc : TypeId × Value → H) :
    ReturnsInHanded {} Tryz.checked os 4 .any (fun w args => (Rows.drawReadsSpec.pre enc Tryz.prog Tryz.f4 [] false w args ∧ laidMetH Tryz.prog Rows.drawReadsRow.laid w) ∧ sizedMet enc Tryz.prog Tryz.f4 (OpenSpec.ofChange Rows.drawReadsSpec) false w args) (Rows.drawReadsSpec.post enc Tryz.prog Tryz.f4 false true false false) := by
  refine returnsInHanded_of_change_and (C := Tryz.checked) (X := fun w _ => laidMetH Tryz.prog Rows.drawReadsRow.laid w) (fun _ _ _ hh h => h.of_heap hh) own started (by kernel_rfl) Tryz.func4
    (ChangeSpec.witness_shaped (enc := enc) (C := Tryz.checked) (os := os) (X := fun w _ => laidMetH Tryz.prog Rows.drawReadsRow.laid w) false (World.laidAll Tryz.prog os Rows.drawReadsRow.laid) #[.string ⟨#[]⟩] 20 (World.laidAll_os _ _ _)
      (World.shaped_of_ZipB (by kernel_rfl) (by kernel_rfl)) (by kernel_rfl) (by kernel_rfl) (by kernel_rfl)
      (by rw [MakeChecks.laidMetH_plain _ _ _ (by kernel_rfl)]; exact laidMet_laidAll _ (by kernel_rfl) (by kernel_rfl))) ?_
  intro W base args ds gs before hval hW _ _ _ _
  have hval' : ∀ (j : Nat) t v, Tryz.f4.params[j]? = some t → args[j]? = some v → Value.okWide Tryz.prog W .any base t v := hval
  rw [Tryz.params4] at hval'
  have hW' := hW
  obtain ⟨p, q, hA, hV, _, _, _⟩ := hW
  rw [Tryz.params4] at hA
  obtain ⟨v0, r0, d0, e0, _, _, ha0, rfl, t0, hA⟩ := trod_cons hA
  obtain ⟨rfl, rfl⟩ := trod_nil hA
  have hargs : args = #[v0] := by cases args; simpa using ha0
  subst hargs
  have hs0 : v0.cells = #[v0] := by
    obtain ⟨_, hv⟩ := okWide_string Tryz.underlying9 (hval' 0 9 v0 rfl rfl)
    subst hv; rfl
  obtain ⟨x0, _, r0⟩ := Reads.argOne rStr (fun _ => rfl) hs0 t0
  refine ((c4 x0).calls (gw W) W [v0] ⟨fun _ _ h => (by cases h), fun _ _ h => (by cases h)⟩ (gw_sub W) ?_).mono fun e w' ⟨x, σ', he, hx, _, _, _, hb⟩ => ?_
  · simp only [Rs]
    exact ⟨_, _, rfl, r0, rfl⟩
  · simp only [R] at hx
    subst hx
    refine ⟨_, he, post_law hW' laid ?_ rfl Tryz.underlying4 rfl (fun ds' h' => ?_) hb⟩
    · intro t ht
      rw [Tryz.params4] at ht
      simp at ht
      rcases ht with rfl <;> exact ⟨by kernel_rfl, of_decide_eq_true (by kernel_rfl)⟩
    · rw [Tryz.params4] at h'
      obtain ⟨_, _, _, _, _, _, _, rfl, _, h'⟩ := trod_cons h'
      obtain ⟨_, rfl⟩ := trod_nil h'
      rfl
theorem saidDrawReads : Rows.DrawReadsSaid :=
  OpenClaim.holds_of_wide 4 Tryz.f4 rfl rfl rfl rfl rfl rfl rfl ⟨rfl, rfl, rfl, rfl, rfl⟩ rfl rfl rfl rfl rfl (by kernel_rfl) Tryz.func4 (by kernel_rfl)
    (of_decide_eq_true (by kernel_rfl)) (by unfold Func.isWrapper; rw [if_neg (by decide +kernel)]; exact ⟨rfl, rfl⟩)
    (fun os started H enc _ => liftedDrawReads os started H enc)
theorem plainDrawReads (f : FuncId) (fn : Func) (hf : Tryz.pinned.checked.prog.funcNamed "wavestore/wavestorelaw59.DrawReads" = some f) (hfn : Tryz.pinned.checked.prog.funcs[f]? = some fn) :
    true = Tryz.pinned.checked.prog.looks [] ∧ ∀ (j : Nat) t, fn.params[j]? = some t → Tryz.pinned.checked.prog.wantsStandIn t = false := by
  obtain rfl : f = 4 := Option.some.inj ((show Tryz.prog.funcNamed "wavestore/wavestorelaw59.DrawReads" = some 4 by kernel_rfl).symm.trans hf) |>.symm
  obtain rfl : fn = Tryz.f4 := (Option.some.inj (Tryz.func4.symm.trans hfn)).symm
  refine ⟨by kernel_rfl, fun j t ht => ?_⟩
  rw [Tryz.params4] at ht
  have hm : t ∈ [9] := by
    have := Array.mem_of_getElem? ht
    simpa using this
  have hall : ([9].all fun u => !Tryz.prog.wantsStandIn u) = true := by kernel_rfl
  exact (show Tryz.prog.wantsStandIn t = false by simpa using List.all_eq_true.1 hall t hm)
theorem holdsDrawReads : Rows.DrawReadsCardSaid :=
  Claim7.holds_tied_plain_at .later [] _ _ _ _ saidDrawReads (fun _ h => by cases h) (by kernel_rfl) (fun _ h => by cases h) drawReads_row_tie rfl ⟨rfl, rfl⟩ (by kernel_rfl) rfl plainDrawReads (by kernel_rfl)
#print axioms holdsDrawReads
end Go.Proofs.YtpcbjkjgjoemaaaGreatDoor
