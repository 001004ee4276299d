/- ThinningPlans: whatever policy, directory, entry and time come in, the law returns true, and the arguments read as before. Conditions: none. -/
import Derived.Test.YtmlhaikblfjghaaS11
namespace Go.Proofs.Ytmlhaikblfjghaa
open Go Go.Ab Go.Proofs Go.Proofs.Ytmlhaikblfjghaa.S1
open Go.ChangeShapes Go.WideShapes Go.ChangeAt Go.RowKit Go.Joins

theorem trod_cons {P : Program} {H : Type} {en : TypeId × Value → H} {W : World} {b : Nat} {sp : Nat → Bool} {hd : Bool} {t : TypeId} {ts : List TypeId} {vs : List Value} {ds : List (DataW H)} {ps : List MemPlace} (h : DataW.TrodAll en P W b sp hd (t :: ts) vs ds ps) :
    ∃ v r d e p q, vs = v :: r ∧ ds = d :: e ∧ DataW.Trod en P W b sp hd t v d p ∧ DataW.TrodAll en P W b sp hd ts r e q := by
  cases vs with
  | nil => simp [DataW.TrodAll] at h
  | cons v r => cases ds with
    | nil => simp [DataW.TrodAll] at h
    | cons d e =>
      obtain ⟨p, q, h1, h2, _⟩ := h
      exact ⟨v, r, d, e, p, q, rfl, rfl, h1, h2⟩
theorem trod_nil {P : Program} {H : Type} {en : TypeId × Value → H} {W : World} {b : Nat} {sp : Nat → Bool} {hd : Bool} {vs : List Value} {ds : List (DataW H)} {ps : List MemPlace} (h : DataW.TrodAll en P W b sp hd [] vs ds ps) : vs = [] ∧ ds = [] := by
  cases vs with
  | nil => cases ds with
    | nil => exact ⟨rfl, rfl⟩
    | cons d e => simp [DataW.TrodAll] at h
  | cons v r => simp [DataW.TrodAll] at h

set_option maxRecDepth 100000 in
theorem lifted3 (os : Os) (started : os.Started) (H : Type) (enc : TypeId × Value → H) :
    ReturnsInHanded {} Try.checked os 3 .any (Rows.thinningPlansSpec.pre6 enc Try.prog Try.f3 Rows.thinningPlansRow.domain false) (Rows.thinningPlansSpec.post enc Try.prog Try.f3 false true false false) := by
  refine returnsInHanded_of_change (C := Try.checked) own started (by kernel_rfl) Try.func3
    (ChangeSpec.witness6 (enc := enc) (C := Try.checked) false ⟨#[], #[.agg #[.int .i64 0, .int .i64 0, .int .i64 0], .agg #[.int .i64 0, .int .i64 0, .int .i64 0, .slice none 0 0], .agg #[.int .i64 0, .int .i64 0, .int .i64 0, .int .i64 0, .int .i64 0, .int .i64 0, .int .i64 0], .int .i64 0], []⟩ 20 (by kernel_rfl) (by kernel_rfl) (by kernel_rfl) (by kernel_rfl)) ?_
  intro W base args ds gs before hval hW _ _
  have hval' : ∀ (j : Nat) t v, Try.f3.params[j]? = some t → args[j]? = some v → Value.okWide Try.prog W .any base t v := hval
  rw [Try.params3] at hval'
  have hW' := hW
  obtain ⟨p, q, hA, hV, _, _, _⟩ := hW
  rw [Try.params3] at hA
  obtain ⟨v0, r0, d0, e0, _, _, ha0, rfl, t0, hA⟩ := trod_cons hA
  obtain ⟨v1, r1, d1, e1, _, _, rfl, rfl, t1, hA⟩ := trod_cons hA
  obtain ⟨v2, r2, d2, e2, _, _, rfl, rfl, t2, hA⟩ := trod_cons hA
  obtain ⟨v3, r3, d3, e3, _, _, rfl, rfl, t3, hA⟩ := trod_cons hA
  obtain ⟨rfl, rfl⟩ := trod_nil hA
  have hargs : args = #[v0, v1, v2, v3] := by cases args; simpa using ha0
  subst hargs
  obtain ⟨x0, _, r0⟩ := Reads.argStruct (encF := fun x : Pol => [I x.full, I x.smp, I x.stp]) rPol Try.underlying23 (hval' 0 23 v0 rfl rfl) t0
  obtain ⟨x1, _, r1⟩ := Reads.argStruct (encF := fun x : Dir => [I x.hdr.sec, I x.hdr.len, I x.hdr.sum, L x.blk 7 Ent.d]) rDir Try.underlying28 (hval' 1 28 v1 rfl rfl) t1
  obtain ⟨x2, _, r2⟩ := Reads.argStruct (encF := fun x : Ent => [I x.frm, I x.to, I x.lvl, I x.stp, I x.plc.sec, I x.plc.len, I x.plc.sum]) rEnt Try.underlying30 (hval' 2 30 v2 rfl rfl) t2
  obtain ⟨n, rfl⟩ := okWide_int Try.underlying3 (hval' 3 3 v3 rfl rfl)
  refine ((c3 x0 x1 x2 n).calls (gw W) W [v0, v1, v2, .int .i64 n] (gw_sub W) ?_).mono fun e w' ⟨x, σ', he, hx, _, _, _, hb⟩ => ?_
  · simp only [Rs]
    exact ⟨_, _, rfl, r0, _, _, rfl, r1, _, _, rfl, r2, _, _, rfl, by simp only [R], rfl⟩
  · simp only [R] at hx
    subst hx
    refine ⟨_, he, post_law hW' laid ?_ rfl Try.underlying4 rfl (fun ds' h' => ?_) hb⟩
    · intro t ht
      rw [Try.params3] at ht
      simp at ht
      rcases ht with rfl | rfl | rfl | rfl <;> exact ⟨by kernel_rfl, of_decide_eq_true (by kernel_rfl)⟩
    · rw [Try.params3] at h'
      obtain ⟨_, _, _, _, _, _, _, rfl, _, h'⟩ := trod_cons h'
      obtain ⟨_, _, _, _, _, _, _, rfl, _, h'⟩ := trod_cons h'
      obtain ⟨_, _, _, _, _, _, _, rfl, _, h'⟩ := trod_cons h'
      obtain ⟨_, _, _, _, _, _, _, rfl, _, h'⟩ := trod_cons h'
      obtain ⟨_, rfl⟩ := trod_nil h'
      rfl

theorem holds3 : Rows.ThinningPlansSaid :=
  OpenClaim.holds_of_wide 3 Try.f3 rfl rfl rfl rfl rfl rfl rfl ⟨rfl, rfl, rfl, rfl, rfl⟩ rfl rfl rfl rfl rfl (by kernel_rfl) Try.func3 (by kernel_rfl)
    (of_decide_eq_true (by kernel_rfl)) (by unfold Func.isWrapper; rw [if_neg (by decide +kernel)]; exact ⟨rfl, rfl⟩)
    (fun os started H enc _ => lifted3 os started H enc)
#print axioms holds3
end Go.Proofs.Ytmlhaikblfjghaa
