/- RunsRows: whatever wave, signals and range come in, the law returns true, and the arguments read as before. Conditions: none. -/
import Derived.Test.YtjajmmdnplgjmaaCD3
namespace Go.Proofs.Ytjajmmdnplgjmaa
open Go Go.Ab Go.Proofs Go.Proofs.Ytjajmmdnplgjmaa.S1
open Go.ChangeShapes Go.WideShapes Go.ChangeAt Go.RowKit Go.Joins

set_option maxRecDepth 100000 in
theorem lifted5 (os : Os) (started : os.Started) (H : Type) (enc : TypeId × Value → H) :
    ReturnsInHanded {} Try.checked os 5 .any (Rows.runsRowsSpec.pre6 enc Try.prog Try.f5 Rows.runsRowsRow.domain false) (Rows.runsRowsSpec.post enc Try.prog Try.f5 false true false false) := by
  refine returnsInHanded_of_change (C := Try.checked) own started (by kernel_rfl) Try.func5
    (ChangeSpec.witness6 (enc := enc) (C := Try.checked) false ⟨#[], #[.agg #[.slice none 0 0, .slice none 0 0, .int .i64 0], .int .i64 0, .int .i64 0, .int .i64 0, .int .i64 0], []⟩ 20 (by kernel_rfl) (by kernel_rfl) (by kernel_rfl) (by kernel_rfl)) ?_
  intro W base args ds gs before hval hW _ _
  have hval' : ∀ (j : Nat) t v, Try.f5.params[j]? = some t → args[j]? = some v → Value.okWide Try.prog W .any base t v := hval
  rw [Try.params5] at hval'
  have hW' := hW
  obtain ⟨p, q, hA, hV, _, _, _⟩ := hW
  rw [Try.params5] at hA
  obtain ⟨v0, r0, d0, e0, _, _, ha0, rfl, t0, hA⟩ := trod_cons hA
  obtain ⟨v1, r1, d1, e1, _, _, rfl, rfl, t1, hA⟩ := trod_cons hA
  obtain ⟨v2, r2, d2, e2, _, _, rfl, rfl, t2, hA⟩ := trod_cons hA
  obtain ⟨v3, r3, d3, e3, _, _, rfl, rfl, t3, hA⟩ := trod_cons hA
  obtain ⟨v4, r4, d4, e4, _, _, rfl, rfl, t4, hA⟩ := trod_cons hA
  obtain ⟨rfl, rfl⟩ := trod_nil hA
  have hargs : args = #[v0, v1, v2, v3, v4] := by cases args; simpa using ha0
  subst hargs
  obtain ⟨x0, _, r0⟩ := Reads.argStruct (encF := fun x : Wv => [L x.sig 3 Sig.d, L x.gap 2 Iv.d, I x.fin]) rWv Try.underlying25 (hval' 0 25 v0 rfl rfl) t0
  obtain ⟨n1, rfl⟩ := okWide_int Try.underlying3 (hval' 1 3 v1 rfl rfl)
  obtain ⟨n2, rfl⟩ := okWide_int Try.underlying3 (hval' 2 3 v2 rfl rfl)
  obtain ⟨n3, rfl⟩ := okWide_int Try.underlying3 (hval' 3 3 v3 rfl rfl)
  obtain ⟨n4, rfl⟩ := okWide_int Try.underlying3 (hval' 4 3 v4 rfl rfl)
  refine ((c5 x0 n1 n2 n3 n4).calls (gw W) W [v0, .int .i64 n1, .int .i64 n2, .int .i64 n3, .int .i64 n4] (gw_sub W) ?_).mono fun e w' ⟨x, σ', he, hx, _, _, _, hb⟩ => ?_
  · simp only [Rs]
    exact ⟨_, _, rfl, r0, _, _, rfl, by simp only [R], _, _, rfl, by simp only [R], _, _, rfl, by simp only [R], _, _, rfl, by simp only [R], rfl⟩
  · simp only [R] at hx
    subst hx
    refine ⟨_, he, post_law hW' laid ?_ rfl Try.underlying4 rfl (fun ds' h' => ?_) hb⟩
    · intro t ht
      rw [Try.params5] at ht
      simp at ht
      rcases ht with rfl | rfl <;> exact ⟨by kernel_rfl, of_decide_eq_true (by kernel_rfl)⟩
    · rw [Try.params5] at h'
      obtain ⟨_, _, _, _, _, _, _, rfl, _, h'⟩ := trod_cons h'
      obtain ⟨_, _, _, _, _, _, _, rfl, _, h'⟩ := trod_cons h'
      obtain ⟨_, _, _, _, _, _, _, rfl, _, h'⟩ := trod_cons h'
      obtain ⟨_, _, _, _, _, _, _, rfl, _, h'⟩ := trod_cons h'
      obtain ⟨_, _, _, _, _, _, _, rfl, _, h'⟩ := trod_cons h'
      obtain ⟨_, rfl⟩ := trod_nil h'
      rfl
theorem holds5 : Rows.RunsRowsSaid :=
  OpenClaim.holds_of_wide 5 Try.f5 rfl rfl rfl rfl rfl rfl rfl ⟨rfl, rfl, rfl, rfl, rfl⟩ rfl rfl rfl rfl rfl (by kernel_rfl) Try.func5 (by kernel_rfl)
    (of_decide_eq_true (by kernel_rfl)) (by unfold Func.isWrapper; rw [if_neg (by decide +kernel)]; exact ⟨rfl, rfl⟩)
    (fun os started H enc _ => lifted5 os started H enc)
#print axioms holds5
end Go.Proofs.Ytjajmmdnplgjmaa
