/- CompactionSplits: whatever chunk and time come in, the law returns true, and the arguments read as before. Conditions: none. -/
import Derived.Test.YtmlhaikblfjghaaCS3
namespace Go.Proofs.Ytmlhaikblfjghaa
open Go Go.Ab Go.Proofs Go.Proofs.Ytmlhaikblfjghaa.S1
open Go.ChangeShapes Go.WideShapes Go.ChangeAt Go.RowKit Go.Joins

theorem trod_cons {P : Program} {H : Type} {en : TypeId × Value → H} {W : World} {b : Nat} {sp : Nat → Bool} {hd : Bool} {t : TypeId} {ts : List TypeId} {vs : List Value} {ds : List (DataW H)} {ps : List MemPlace} (h : DataW.TrodAll en P W b sp hd (t :: ts) vs ds ps) :
    ∃ v r d e p q, vs = v :: r ∧ ds = d :: e ∧ DataW.Trod en P W b sp hd t v d p ∧ DataW.TrodAll en P W b sp hd ts r e q := by
  cases vs with
  | nil => simp [DataW.TrodAll] at h
  | cons v r => cases ds with
    | nil => simp [DataW.TrodAll] at h
    | cons d e =>
      obtain ⟨p, q, h1, h2, _⟩ := h
      exact ⟨v, r, d, e, p, q, rfl, rfl, h1, h2⟩
theorem trod_nil {P : Program} {H : Type} {en : TypeId × Value → H} {W : World} {b : Nat} {sp : Nat → Bool} {hd : Bool} {vs : List Value} {ds : List (DataW H)} {ps : List MemPlace} (h : DataW.TrodAll en P W b sp hd [] vs ds ps) : vs = [] ∧ ds = [] := by
  cases vs with
  | nil => cases ds with
    | nil => exact ⟨rfl, rfl⟩
    | cons d e => simp [DataW.TrodAll] at h
  | cons v r => simp [DataW.TrodAll] at h

theorem cells9 : Try.prog.cellsOf 9 = 1 := by kernel_rfl
theorem cells39 : Try.prog.cellsOf 39 = 1 := by kernel_rfl
theorem cells47 : Try.prog.cellsOf 47 = 1 := by kernel_rfl
theorem cells48 : Try.prog.cellsOf 48 = 1 := by kernel_rfl
theorem cells72 : Try.prog.cellsOf 72 = 2 := by kernel_rfl
theorem cells73 : Try.prog.cellsOf 73 = 1 := by kernel_rfl
theorem cells81 : Try.prog.cellsOf 81 = 2 := by kernel_rfl
theorem cells50 : Try.prog.cellsOf 50 = 5 := by kernel_rfl
theorem rStr : Reads Try.prog 9 (fun s : Str => .str s) any := (Reads.str Try.underlying9 cells9).map (fun n => n) (fun _ => rfl) (fun n => ⟨n, rfl⟩) fun _ _ => trivial
theorem rGp : Reads Try.prog 81 Gp.d any := by
  refine (Reads.struct (ok := any) Try.underlying81 ?_).map (fun x : Int × Int × Unit => (⟨x.1, x.2.1⟩ : Gp)) (fun _ => rfl) (fun b => ⟨(b.frm, b.to, ()), rfl⟩) fun _ _ => trivial
  rw [cells81]
  exact rc rI (rc rI rn rfl rfl (by rw [cells3])) rfl rfl (by rw [cells3])
theorem rCg : Reads Try.prog 72 Cg.d any := by
  refine (Reads.struct (ok := any) Try.underlying72 ?_).map (fun x : Int × Str × Unit => (⟨x.1, x.2.1⟩ : Cg)) (fun _ => rfl) (fun b => ⟨(b.time, b.val, ()), rfl⟩) fun _ _ => trivial
  rw [cells72]
  exact rc rI (rc rStr rn rfl rfl (by rw [cells9])) rfl rfl (by rw [cells3])
theorem rsl {e t sz : Nat} {α : Type} [Inhabited α] {enc : α → D} (h : Reads Try.prog e enc any) (ht : Try.prog.underlying t = some (.slice e)) (hc : Try.prog.cellsOf t = 1) (hp : Try.prog.cellsOf e = sz) (h0 : 0 < sz) : Reads Try.prog t (fun es : List α => L es sz enc) any := by
  have h := Reads.slice h ht hc (by rw [hp]; exact h0)
  rw [hp] at h
  exact h.map (fun n => n) (fun _ => rfl) (fun n => ⟨n, rfl⟩) fun _ _ => trivial
theorem rStrs : Reads Try.prog 47 (fun es : List Str => L es 1 .str) any := rsl rStr Try.underlying47 cells47 cells9 (by decide)
theorem rGps : Reads Try.prog 39 (fun es : List Gp => L es 2 Gp.d) any := rsl rGp Try.underlying39 cells39 cells81 (by decide)
theorem rCgs : Reads Try.prog 73 (fun es : List Cg => L es 2 Cg.d) any := rsl rCg Try.underlying73 cells73 cells72 (by decide)
theorem rCgss : Reads Try.prog 48 (fun es : List (List Cg) => L es 1 fun l => L l 2 Cg.d) any := rsl rCgs Try.underlying48 cells48 cells73 (by decide)
theorem rChk : Reads Try.prog 50 Chk.d any := by
  refine (Reads.struct (ok := any) Try.underlying50 ?_).map (fun x : Int × Int × List Str × List (List Cg) × List Gp × Unit => (⟨x.1, x.2.1, x.2.2.1, x.2.2.2.1, x.2.2.2.2.1⟩ : Chk)) (fun _ => rfl) (fun b => ⟨(b.frm, b.to, b.vals, b.chg, b.gaps, ()), rfl⟩) fun _ _ => trivial
  rw [cells50]
  exact rc rI (rc rI (rc rStrs (rc rCgss (rc rGps rn rfl rfl (by rw [cells39])) rfl rfl (by rw [cells48])) rfl rfl (by rw [cells47])) rfl rfl (by rw [cells3])) rfl rfl (by rw [cells3])
set_option maxRecDepth 100000 in
theorem lifted5 (os : Os) (started : os.Started) (H : Type) (enc : TypeId × Value → H) :
    ReturnsInHanded {} Try.checked os 5 .any (Rows.compactionSplitsSpec.pre6 enc Try.prog Try.f5 Rows.compactionSplitsRow.domain false) (Rows.compactionSplitsSpec.post enc Try.prog Try.f5 false true false false) := by
  refine returnsInHanded_of_change (C := Try.checked) own started (by kernel_rfl) Try.func5
    (ChangeSpec.witness6 (enc := enc) (C := Try.checked) false ⟨#[], #[.agg #[.int .i64 0, .int .i64 0, .slice none 0 0, .slice none 0 0, .slice none 0 0], .int .i64 0], []⟩ 20 (by kernel_rfl) (by kernel_rfl) (by kernel_rfl) (by kernel_rfl)) ?_
  intro W base args ds gs before hval hW _ _
  have hval' : ∀ (j : Nat) t v, Try.f5.params[j]? = some t → args[j]? = some v → Value.okWide Try.prog W .any base t v := hval
  rw [Try.params5] at hval'
  have hW' := hW
  obtain ⟨p, q, hA, hV, _, _, _⟩ := hW
  rw [Try.params5] at hA
  obtain ⟨v0, r0, d0, e0, _, _, ha0, rfl, t0, hA⟩ := trod_cons hA
  obtain ⟨v1, r1, d1, e1, _, _, rfl, rfl, t1, hA⟩ := trod_cons hA
  obtain ⟨rfl, rfl⟩ := trod_nil hA
  have hargs : args = #[v0, v1] := by cases args; simpa using ha0
  subst hargs
  obtain ⟨x0, _, r0⟩ := Reads.argStruct (encF := fun x : Chk => [I x.frm, I x.to, L x.vals 1 .str, L x.chg 1 (fun l => L l 2 Cg.d), L x.gaps 2 Gp.d]) rChk Try.underlying50 (hval' 0 50 v0 rfl rfl) t0
  obtain ⟨n1, rfl⟩ := okWide_int Try.underlying3 (hval' 1 3 v1 rfl rfl)
  refine ((c5 x0 n1).calls (gw W) W [v0, .int .i64 n1] (gw_sub W) ?_).mono fun e w' ⟨x, σ', he, hx, _, _, _, hb⟩ => ?_
  · simp only [Rs]
    exact ⟨_, _, rfl, r0, _, _, rfl, by simp only [R], rfl⟩
  · simp only [R] at hx
    subst hx
    refine ⟨_, he, post_law hW' laid ?_ rfl Try.underlying4 rfl (fun ds' h' => ?_) hb⟩
    · intro t ht
      rw [Try.params5] at ht
      simp at ht
      rcases ht with rfl | rfl <;> exact ⟨by kernel_rfl, of_decide_eq_true (by kernel_rfl)⟩
    · rw [Try.params5] at h'
      obtain ⟨_, _, _, _, _, _, _, rfl, _, h'⟩ := trod_cons h'
      obtain ⟨_, _, _, _, _, _, _, rfl, _, h'⟩ := trod_cons h'
      obtain ⟨_, rfl⟩ := trod_nil h'
      rfl
theorem holds5 : Rows.CompactionSplitsSaid :=
  OpenClaim.holds_of_wide 5 Try.f5 rfl rfl rfl rfl rfl rfl rfl ⟨rfl, rfl, rfl, rfl, rfl⟩ rfl rfl rfl rfl rfl (by kernel_rfl) Try.func5 (by kernel_rfl)
    (of_decide_eq_true (by kernel_rfl)) (by unfold Func.isWrapper; rw [if_neg (by decide +kernel)]; exact ⟨rfl, rfl⟩)
    (fun os started H enc _ => lifted5 os started H enc)
#print axioms holds5
end Go.Proofs.Ytmlhaikblfjghaa
