/- RunsJoin: whatever list and time come in, the law returns true, and the arguments read as before. Conditions: none. -/
import Derived.Test.YtjajmmdnplgjmaaCE3
namespace Go.Proofs.Ytjajmmdnplgjmaa
open Go Go.Ab Go.Proofs Go.Proofs.Ytjajmmdnplgjmaa.S1
open Go.ChangeShapes Go.WideShapes Go.ChangeAt Go.RowKit Go.Joins

set_option maxRecDepth 100000 in
theorem lifted7 (os : Os) (started : os.Started) (H : Type) (enc : TypeId × Value → H) :
    ReturnsInHanded {} Try.checked os 7 .any (Rows.runsJoinSpec.pre6 enc Try.prog Try.f7 Rows.runsJoinRow.domain false) (Rows.runsJoinSpec.post enc Try.prog Try.f7 false true false false) := by
  refine returnsInHanded_of_change (C := Try.checked) own started (by kernel_rfl) Try.func7
    (ChangeSpec.witness6 (enc := enc) (C := Try.checked) false ⟨#[], #[.slice none 0 0, .int .i64 0], []⟩ 20 (by kernel_rfl) (by kernel_rfl) (by kernel_rfl) (by kernel_rfl)) ?_
  intro W base args ds gs before hval hW _ _
  have hval' : ∀ (j : Nat) t v, Try.f7.params[j]? = some t → args[j]? = some v → Value.okWide Try.prog W .any base t v := hval
  rw [Try.params7] at hval'
  have hW' := hW
  obtain ⟨p, q, hA, hV, _, _, _⟩ := hW
  rw [Try.params7] at hA
  obtain ⟨v0, r0, d0, e0, _, _, ha0, rfl, t0, hA⟩ := trod_cons hA
  obtain ⟨v1, r1, d1, e1, _, _, rfl, rfl, t1, hA⟩ := trod_cons hA
  obtain ⟨rfl, rfl⟩ := trod_nil hA
  have hargs : args = #[v0, v1] := by cases args; simpa using ha0
  subst hargs
  have hs0 : v0.cells = #[v0] := by
    obtain ⟨_, _, _, hv⟩ := okWide_slice Try.underlying28 (hval' 0 28 v0 rfl rfl)
    subst hv; rfl
  obtain ⟨x0, _, r0⟩ := Reads.argOne rSps (fun _ => rfl) hs0 t0
  obtain ⟨n1, rfl⟩ := okWide_int Try.underlying3 (hval' 1 3 v1 rfl rfl)
  refine ((c7 x0 n1).calls (gw W) W [v0, .int .i64 n1] (gw_sub W) ?_).mono fun e w' ⟨x, σ', he, hx, _, _, _, hb⟩ => ?_
  · simp only [Rs]
    exact ⟨_, _, rfl, r0, _, _, rfl, by simp only [R], rfl⟩
  · simp only [R] at hx
    subst hx
    refine ⟨_, he, post_law hW' laid ?_ rfl Try.underlying4 rfl (fun ds' h' => ?_) hb⟩
    · intro t ht
      rw [Try.params7] at ht
      simp at ht
      rcases ht with rfl | rfl <;> exact ⟨by kernel_rfl, of_decide_eq_true (by kernel_rfl)⟩
    · rw [Try.params7] at h'
      obtain ⟨_, _, _, _, _, _, _, rfl, _, h'⟩ := trod_cons h'
      obtain ⟨_, _, _, _, _, _, _, rfl, _, h'⟩ := trod_cons h'
      obtain ⟨_, rfl⟩ := trod_nil h'
      rfl
theorem holds7 : Rows.RunsJoinSaid :=
  OpenClaim.holds_of_wide 7 Try.f7 rfl rfl rfl rfl rfl rfl rfl ⟨rfl, rfl, rfl, rfl, rfl⟩ rfl rfl rfl rfl rfl (by kernel_rfl) Try.func7 (by kernel_rfl)
    (of_decide_eq_true (by kernel_rfl)) (by unfold Func.isWrapper; rw [if_neg (by decide +kernel)]; exact ⟨rfl, rfl⟩)
    (fun os started H enc _ => lifted7 os started H enc)
#print axioms holds7
end Go.Proofs.Ytjajmmdnplgjmaa
