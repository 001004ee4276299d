/- DrawRulers: whatever start, step, end and number of columns come in, the law returns true, and the arguments read as before. Conditions: none. The row lists tables of the library, tied to its text; the proof reads internal/strconv.uint64pow10. -/
import Derived.Test.YtpcbjkjgjoemaaaDoorCCR7
import Derived.Test.YtpcbjkjgjoemaaaDoorCards
import Derived.Test.YtpcbjkjgjoemaaaDoorTie
import Derived.Lay
namespace Go.Proofs.YtpcbjkjgjoemaaaDoor
open Go Go.Ab Go.Proofs Go.Proofs.YtpcbjkjgjoemaaaDoor.S1
open Go.ChangeShapes Go.WideShapes Go.ChangeAt Go.RowKit Go.Joins
-- nolay
attribute [local instance] LT10

set_option maxRecDepth 100000 in
theorem liftedDrawRulers (os : Os) (started : os.Started) (H : Type) (enc : TypeId × Value → H) :
    ReturnsInHanded {} Tryd.checked os 6 .any (fun w args => (Rows.drawRulersSpec.pre enc Tryd.prog Tryd.f6 [] false w args ∧ laidMetH Tryd.prog Rows.drawRulersRow.laid w) ∧ sizedMet enc Tryd.prog Tryd.f6 (OpenSpec.ofChange Rows.drawRulersSpec) false w args) (Rows.drawRulersSpec.post enc Tryd.prog Tryd.f6 false true false false) := by
  refine returnsInHanded_of_change_and (C := Tryd.checked) (X := fun w _ => laidMetH Tryd.prog Rows.drawRulersRow.laid w) (fun _ _ _ hh h => h.of_heap hh) own started (by kernel_rfl) Tryd.func6
    (ChangeSpec.witness_shaped (enc := enc) (C := Tryd.checked) (os := os) (X := fun w _ => laidMetH Tryd.prog Rows.drawRulersRow.laid w) false (World.laidAll Tryd.prog os Rows.drawRulersRow.laid) #[.int .i64 0, .int .i64 0, .int .i64 0, .int .i64 0] 20 (World.laidAll_os _ _ _)
      (World.shaped_of_ZipB (by kernel_rfl) (by kernel_rfl)) (by kernel_rfl) (by kernel_rfl) (by kernel_rfl)
      (by rw [MakeChecks.laidMetH_plain _ _ _ (by kernel_rfl)]; exact laidMet_laidAll _ (by kernel_rfl) (by kernel_rfl))) ?_
  intro W base args ds gs before hval hW hx1 hx2 hx3 hx4
  have hL : LayOk (gw W) W := by first | exact layOk_row hx1 | exact layOk_row hx2 | exact layOk_row hx3 | exact layOk_row hx4
  have hval' : ∀ (j : Nat) t v, Tryd.f6.params[j]? = some t → args[j]? = some v → Value.okWide Tryd.prog W .any base t v := hval
  rw [Tryd.params6] at hval'
  have hW' := hW
  obtain ⟨p, q, hA, hV, _, _, _⟩ := hW
  rw [Tryd.params6] at hA
  obtain ⟨v0, r0, d0, e0, _, _, ha0, rfl, t0, hA⟩ := trod_cons hA
  obtain ⟨v1, r1, d1, e1, _, _, rfl, rfl, t1, hA⟩ := trod_cons hA
  obtain ⟨v2, r2, d2, e2, _, _, rfl, rfl, t2, hA⟩ := trod_cons hA
  obtain ⟨v3, r3, d3, e3, _, _, rfl, rfl, t3, hA⟩ := trod_cons hA
  obtain ⟨rfl, rfl⟩ := trod_nil hA
  have hargs : args = #[v0, v1, v2, v3] := by cases args; simpa using ha0
  subst hargs
  obtain ⟨n0, rfl⟩ := okWide_int Tryd.underlying3 (hval' 0 3 v0 rfl rfl)
  obtain ⟨n1, rfl⟩ := okWide_int Tryd.underlying3 (hval' 1 3 v1 rfl rfl)
  obtain ⟨n2, rfl⟩ := okWide_int Tryd.underlying3 (hval' 2 3 v2 rfl rfl)
  obtain ⟨n3, rfl⟩ := okWide_int Tryd.underlying3 (hval' 3 3 v3 rfl rfl)
  refine ((c6 n0 n1 n2 n3).calls (gw W) W [.int .i64 n0, .int .i64 n1, .int .i64 n2, .int .i64 n3] hL (gw_sub W) ?_).mono fun e w' ⟨x, σ', he, hx, _, _, _, hb⟩ => ?_
  · simp only [Rs]
    exact ⟨_, _, rfl, by simp only [R], _, _, rfl, by simp only [R], _, _, rfl, by simp only [R], _, _, rfl, by simp only [R], rfl⟩
  · simp only [R] at hx
    subst hx
    refine ⟨_, he, post_law hW' laid ?_ rfl Tryd.underlying4 rfl (fun ds' h' => ?_) hb⟩
    · intro t ht
      rw [Tryd.params6] at ht
      simp at ht
      rcases ht with rfl <;> exact ⟨by kernel_rfl, of_decide_eq_true (by kernel_rfl)⟩
    · rw [Tryd.params6] at h'
      obtain ⟨_, _, _, _, _, _, _, rfl, _, h'⟩ := trod_cons h'
      obtain ⟨_, _, _, _, _, _, _, rfl, _, h'⟩ := trod_cons h'
      obtain ⟨_, _, _, _, _, _, _, rfl, _, h'⟩ := trod_cons h'
      obtain ⟨_, _, _, _, _, _, _, rfl, _, h'⟩ := trod_cons h'
      obtain ⟨_, rfl⟩ := trod_nil h'
      rfl
theorem saidDrawRulers : Rows.DrawRulersSaid :=
  OpenClaim.holds_of_wide 6 Tryd.f6 rfl rfl rfl rfl rfl rfl rfl ⟨rfl, rfl, rfl, rfl, rfl⟩ rfl rfl rfl rfl rfl (by kernel_rfl) Tryd.func6 (by kernel_rfl)
    (of_decide_eq_true (by kernel_rfl)) (by unfold Func.isWrapper; rw [if_neg (by decide +kernel)]; exact ⟨rfl, rfl⟩)
    (fun os started H enc _ => liftedDrawRulers os started H enc)
theorem plainDrawRulers (f : FuncId) (fn : Func) (hf : Tryd.pinned.checked.prog.funcNamed "wavestore/wavestorelaw59.DrawRulers" = some f) (hfn : Tryd.pinned.checked.prog.funcs[f]? = some fn) :
    false = Tryd.pinned.checked.prog.looks [] ∧ ∀ (j : Nat) t, fn.params[j]? = some t → Tryd.pinned.checked.prog.wantsStandIn t = false := by
  obtain rfl : f = 6 := Option.some.inj ((show Tryd.prog.funcNamed "wavestore/wavestorelaw59.DrawRulers" = some 6 by kernel_rfl).symm.trans hf) |>.symm
  obtain rfl : fn = Tryd.f6 := (Option.some.inj (Tryd.func6.symm.trans hfn)).symm
  refine ⟨by kernel_rfl, fun j t ht => ?_⟩
  rw [Tryd.params6] at ht
  have hm : t ∈ [3] := by
    have := Array.mem_of_getElem? ht
    simpa using this
  have hall : ([3].all fun u => !Tryd.prog.wantsStandIn u) = true := by kernel_rfl
  exact (show Tryd.prog.wantsStandIn t = false by simpa using List.all_eq_true.1 hall t hm)
theorem holdsDrawRulers : Rows.DrawRulersCardSaid :=
  Claim7.holds_tied_plain_at .later [] _ _ _ _ saidDrawRulers (fun _ h => by cases h) (by kernel_rfl) (fun _ h => by cases h) drawRulers_row_tie rfl ⟨rfl, rfl⟩ (by kernel_rfl) rfl plainDrawRulers (by kernel_rfl)
#print axioms holdsDrawRulers
end Go.Proofs.YtpcbjkjgjoemaaaDoor
