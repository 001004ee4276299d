/- RunsMakes: whatever values, changes, intervals and range come in, the law returns true, and the arguments read as before. Conditions: none. -/
import Derived.Test.YtpcbjkjgjoemaaaCM4
namespace Go.Proofs.Ytpcbjkjgjoemaaa
open Go Go.Ab Go.Proofs Go.Proofs.Ytpcbjkjgjoemaaa.S1
open Go.ChangeShapes Go.WideShapes Go.ChangeAt Go.RowKit Go.Joins

set_option maxRecDepth 100000 in
theorem liftedRunsMakes (os : Os) (started : os.Started) (H : Type) (enc : TypeId × Value → H) :
    ReturnsInHanded {} Try.checked os 3 .any (Rows.runsMakesSpec.pre6 enc Try.prog Try.f3 Rows.runsMakesRow.domain false) (Rows.runsMakesSpec.post enc Try.prog Try.f3 false true false false) := by
  refine returnsInHanded_of_change (C := Try.checked) own started (by kernel_rfl) Try.func3
    (ChangeSpec.witness6 (enc := enc) (C := Try.checked) false ⟨#[], #[.string ⟨#[]⟩, .string ⟨#[]⟩, .slice none 0 0, .slice none 0 0, .int .i64 0, .int .i64 0], []⟩ 20 (by kernel_rfl) (by kernel_rfl) (by kernel_rfl) (by kernel_rfl)) ?_
  intro W base args ds gs before hval hW _ _
  have hval' : ∀ (j : Nat) t v, Try.f3.params[j]? = some t → args[j]? = some v → Value.okWide Try.prog W .any base t v := hval
  rw [Try.params3] at hval'
  have hW' := hW
  obtain ⟨p, q, hA, hV, _, _, _⟩ := hW
  rw [Try.params3] at hA
  obtain ⟨v0, r0, d0, e0, _, _, ha0, rfl, t0, hA⟩ := trod_cons hA
  obtain ⟨v1, r1, d1, e1, _, _, rfl, rfl, t1, hA⟩ := trod_cons hA
  obtain ⟨v2, r2, d2, e2, _, _, rfl, rfl, t2, hA⟩ := trod_cons hA
  obtain ⟨v3, r3, d3, e3, _, _, rfl, rfl, t3, hA⟩ := trod_cons hA
  obtain ⟨v4, r4, d4, e4, _, _, rfl, rfl, t4, hA⟩ := trod_cons hA
  obtain ⟨v5, r5, d5, e5, _, _, rfl, rfl, t5, hA⟩ := trod_cons hA
  obtain ⟨rfl, rfl⟩ := trod_nil hA
  have hargs : args = #[v0, v1, v2, v3, v4, v5] := by cases args; simpa using ha0
  subst hargs
  have hs0 : v0.cells = #[v0] := by
    obtain ⟨_, hv⟩ := okWide_string Try.underlying9 (hval' 0 9 v0 rfl rfl)
    subst hv; rfl
  obtain ⟨x0, _, r0⟩ := Reads.argOne rStr (fun _ => rfl) hs0 t0
  have hs1 : v1.cells = #[v1] := by
    obtain ⟨_, hv⟩ := okWide_string Try.underlying9 (hval' 1 9 v1 rfl rfl)
    subst hv; rfl
  obtain ⟨x1, _, r1⟩ := Reads.argOne rStr (fun _ => rfl) hs1 t1
  have hs2 : v2.cells = #[v2] := by
    obtain ⟨_, _, _, hv⟩ := okWide_slice Try.underlying22 (hval' 2 22 v2 rfl rfl)
    subst hv; rfl
  obtain ⟨x2, _, r2⟩ := Reads.argOne rChgs (fun _ => rfl) hs2 t2
  have hs3 : v3.cells = #[v3] := by
    obtain ⟨_, _, _, hv⟩ := okWide_slice Try.underlying23 (hval' 3 23 v3 rfl rfl)
    subst hv; rfl
  obtain ⟨x3, _, r3⟩ := Reads.argOne rIvs (fun _ => rfl) hs3 t3
  obtain ⟨n4, rfl⟩ := okWide_int Try.underlying3 (hval' 4 3 v4 rfl rfl)
  obtain ⟨n5, rfl⟩ := okWide_int Try.underlying3 (hval' 5 3 v5 rfl rfl)
  refine ((c3 x0 x1 x2 x3 n4 n5).calls (gw W) W [v0, v1, v2, v3, .int .i64 n4, .int .i64 n5] (gw_sub W) ?_).mono fun e w' ⟨x, σ', he, hx, _, _, _, hb⟩ => ?_
  · simp only [Rs]
    exact ⟨_, _, rfl, r0, _, _, rfl, r1, _, _, rfl, r2, _, _, rfl, r3, _, _, rfl, by simp only [R], _, _, rfl, by simp only [R], rfl⟩
  · simp only [R] at hx
    subst hx
    refine ⟨_, he, post_law hW' laid ?_ rfl Try.underlying4 rfl (fun ds' h' => ?_) hb⟩
    · intro t ht
      rw [Try.params3] at ht
      simp at ht
      rcases ht with rfl | rfl | rfl | rfl <;> exact ⟨by kernel_rfl, of_decide_eq_true (by kernel_rfl)⟩
    · rw [Try.params3] at h'
      obtain ⟨_, _, _, _, _, _, _, rfl, _, h'⟩ := trod_cons h'
      obtain ⟨_, _, _, _, _, _, _, rfl, _, h'⟩ := trod_cons h'
      obtain ⟨_, _, _, _, _, _, _, rfl, _, h'⟩ := trod_cons h'
      obtain ⟨_, _, _, _, _, _, _, rfl, _, h'⟩ := trod_cons h'
      obtain ⟨_, _, _, _, _, _, _, rfl, _, h'⟩ := trod_cons h'
      obtain ⟨_, _, _, _, _, _, _, rfl, _, h'⟩ := trod_cons h'
      obtain ⟨_, rfl⟩ := trod_nil h'
      rfl
theorem holdsRunsMakes : Rows.RunsMakesSaid :=
  OpenClaim.holds_of_wide 3 Try.f3 rfl rfl rfl rfl rfl rfl rfl ⟨rfl, rfl, rfl, rfl, rfl⟩ rfl rfl rfl rfl rfl (by kernel_rfl) Try.func3 (by kernel_rfl)
    (of_decide_eq_true (by kernel_rfl)) (by unfold Func.isWrapper; rw [if_neg (by decide +kernel)]; exact ⟨rfl, rfl⟩)
    (fun os started H enc _ => liftedRunsMakes os started H enc)
#print axioms holdsRunsMakes
end Go.Proofs.Ytpcbjkjgjoemaaa
