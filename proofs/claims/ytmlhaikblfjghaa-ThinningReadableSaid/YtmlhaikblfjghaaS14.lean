/- ThinningReadable: whatever head, signals, number and time come in, the law returns true, and the arguments read as before. Conditions: none. -/
import Derived.Test.YtmlhaikblfjghaaS13
import Derived.Test.YtmlhaikblfjghaaS12
namespace Go.Proofs.Ytmlhaikblfjghaa.S1
open Go Go.Ab Go.Proofs
open Go.ChangeShapes Go.WideShapes Go.ChangeAt Go.RowKit Go.Joins
theorem cells4 : Try.prog.cellsOf 4 = 1 := by kernel_rfl
theorem cells38 : Try.prog.cellsOf 38 = 1 := by kernel_rfl
theorem cells39 : Try.prog.cellsOf 39 = 1 := by kernel_rfl
theorem cells41 : Try.prog.cellsOf 41 = 2 := by kernel_rfl
theorem cells42 : Try.prog.cellsOf 42 = 1 := by kernel_rfl
theorem cells44 : Try.prog.cellsOf 44 = 9 := by kernel_rfl
theorem cells45 : Try.prog.cellsOf 45 = 1 := by kernel_rfl
theorem cells69 : Try.prog.cellsOf 69 = 2 := by kernel_rfl
theorem cells81 : Try.prog.cellsOf 81 = 2 := by kernel_rfl
theorem rB : Reads Try.prog 4 (fun b : Bool => B b) any := (Reads.bool Try.underlying4 cells4).map (fun n => n) (fun _ => rfl) (fun n => ⟨n, rfl⟩) fun _ _ => trivial
theorem rBs : Reads Try.prog 38 (fun es : List Bool => L es 1 fun b => B b) any := by
  have h := Reads.slice rB Try.underlying38 cells38 (by rw [cells4]; decide)
  rw [cells4] at h
  exact h.map (fun n => n) (fun _ => rfl) (fun n => ⟨n, rfl⟩) fun _ _ => trivial
theorem rGp : Reads Try.prog 81 Gp.d any := by
  refine (Reads.struct (ok := any) Try.underlying81 ?_).map (fun x : Int × Int × Unit => (⟨x.1, x.2.1⟩ : Gp)) (fun _ => rfl) (fun b => ⟨(b.frm, b.to, ()), rfl⟩) fun _ _ => trivial
  rw [cells81]
  exact rc rI (rc rI rn rfl rfl (by rw [cells3])) rfl rfl (by rw [cells3])
theorem rPt : Reads Try.prog 41 Pt.d any := by
  refine (Reads.struct (ok := any) Try.underlying41 ?_).map (fun x : Int × Int × Unit => (⟨x.1, x.2.1⟩ : Pt)) (fun _ => rfl) (fun b => ⟨(b.off, b.len, ()), rfl⟩) fun _ _ => trivial
  rw [cells41]
  exact rc rI (rc rI rn rfl rfl (by rw [cells3])) rfl rfl (by rw [cells3])
theorem rSto : Reads Try.prog 69 Sto.d any := by
  refine (Reads.struct (ok := any) Try.underlying69 ?_).map (fun x : Int × Int × Unit => (⟨x.1, x.2.1⟩ : Sto)) (fun _ => rfl) (fun b => ⟨(b.kind, b.wid, ()), rfl⟩) fun _ _ => trivial
  rw [cells69]
  exact rc rI (rc rI rn rfl rfl (by rw [cells3])) rfl rfl (by rw [cells3])
theorem rGps : Reads Try.prog 39 (fun es : List Gp => L es 2 Gp.d) any := by
  have h := Reads.slice rGp Try.underlying39 cells39 (by rw [cells81]; decide)
  rw [cells81] at h
  exact h.map (fun n => n) (fun _ => rfl) (fun n => ⟨n, rfl⟩) fun _ _ => trivial
theorem rPts : Reads Try.prog 42 (fun es : List Pt => L es 2 Pt.d) any := by
  have h := Reads.slice rPt Try.underlying42 cells42 (by rw [cells41]; decide)
  rw [cells41] at h
  exact h.map (fun n => n) (fun _ => rfl) (fun n => ⟨n, rfl⟩) fun _ _ => trivial
theorem rStos : Reads Try.prog 45 (fun es : List Sto => L es 2 Sto.d) any := by
  have h := Reads.slice rSto Try.underlying45 cells45 (by rw [cells69]; decide)
  rw [cells69] at h
  exact h.map (fun n => n) (fun _ => rfl) (fun n => ⟨n, rfl⟩) fun _ _ => trivial
theorem rHd : Reads Try.prog 44 Hd.d any := by
  refine (Reads.struct (ok := any) Try.underlying44 ?_).map (fun x : Int × Int × Int × Int × List Bool × List Gp × Pt × List Pt × Unit => (⟨x.1, x.2.1, x.2.2.1, x.2.2.2.1, x.2.2.2.2.1, x.2.2.2.2.2.1, x.2.2.2.2.2.2.1, x.2.2.2.2.2.2.2.1⟩ : Hd)) (fun _ => rfl)
    (fun b => ⟨(b.frm, b.to, b.lvl, b.stp, b.quiet, b.gaps, b.snap, b.strm, ()), rfl⟩) fun _ _ => trivial
  rw [cells44]
  exact rc rI (rc rI (rc rI (rc rI (rc rBs (rc rGps (rc rPt (rc rPts rn rfl rfl (by rw [cells42])) rfl rfl (by rw [cells41])) rfl rfl (by rw [cells39])) rfl rfl (by rw [cells38])) rfl rfl (by rw [cells3])) rfl rfl (by rw [cells3])) rfl rfl (by rw [cells3])) rfl rfl (by rw [cells3])
end Go.Proofs.Ytmlhaikblfjghaa.S1
namespace Go.Proofs.Ytmlhaikblfjghaa
open Go Go.Ab Go.Proofs Go.Proofs.Ytmlhaikblfjghaa.S1
open Go.ChangeShapes Go.WideShapes Go.ChangeAt Go.RowKit Go.Joins
set_option maxRecDepth 100000 in
theorem lifted4 (os : Os) (started : os.Started) (H : Type) (enc : TypeId × Value → H) :
    ReturnsInHanded {} Try.checked os 4 .any (Rows.thinningReadableSpec.pre6 enc Try.prog Try.f4 Rows.thinningReadableRow.domain false) (Rows.thinningReadableSpec.post enc Try.prog Try.f4 false true false false) := by
  refine returnsInHanded_of_change (C := Try.checked) own started (by kernel_rfl) Try.func4
    (ChangeSpec.witness6 (enc := enc) (C := Try.checked) false ⟨#[], #[.agg #[.int .i64 0, .int .i64 0, .int .i64 0, .int .i64 0, .slice none 0 0, .slice none 0 0, .int .i64 0, .int .i64 0, .slice none 0 0], .slice none 0 0, .int .i64 0, .int .i64 0], []⟩ 20 (by kernel_rfl) (by kernel_rfl) (by kernel_rfl) (by kernel_rfl)) ?_
  intro W base args ds gs before hval hW _ _
  have hval' : ∀ (j : Nat) t v, Try.f4.params[j]? = some t → args[j]? = some v → Value.okWide Try.prog W .any base t v := hval
  rw [Try.params4] at hval'
  have hW' := hW
  obtain ⟨p, q, hA, hV, _, _, _⟩ := hW
  rw [Try.params4] at hA
  obtain ⟨v0, r0, d0, e0, _, _, ha0, rfl, t0, hA⟩ := trod_cons hA
  obtain ⟨v1, r1, d1, e1, _, _, rfl, rfl, t1, hA⟩ := trod_cons hA
  obtain ⟨v2, r2, d2, e2, _, _, rfl, rfl, t2, hA⟩ := trod_cons hA
  obtain ⟨v3, r3, d3, e3, _, _, rfl, rfl, t3, hA⟩ := trod_cons hA
  obtain ⟨rfl, rfl⟩ := trod_nil hA
  have hargs : args = #[v0, v1, v2, v3] := by cases args; simpa using ha0
  subst hargs
  obtain ⟨x0, _, r0⟩ := Reads.argStruct (encF := fun x : Hd => [I x.frm, I x.to, I x.lvl, I x.stp, L x.quiet 1 (fun b => B b), L x.gaps 2 Gp.d, I x.snap.off, I x.snap.len, L x.strm 2 Pt.d]) rHd Try.underlying44 (hval' 0 44 v0 rfl rfl) t0
  have hs1 : v1.cells = #[v1] := by
    obtain ⟨_, _, _, hv⟩ := okWide_slice Try.underlying45 (hval' 1 45 v1 rfl rfl)
    subst hv; rfl
  obtain ⟨x1, _, r1⟩ := Reads.argOne rStos (fun _ => rfl) hs1 t1
  obtain ⟨n, rfl⟩ := okWide_int Try.underlying3 (hval' 2 3 v2 rfl rfl)
  obtain ⟨m, rfl⟩ := okWide_int Try.underlying3 (hval' 3 3 v3 rfl rfl)
  refine ((c4 x0 x1 n m).calls (gw W) W [v0, v1, .int .i64 n, .int .i64 m] (gw_sub W) ?_).mono fun e w' ⟨x, σ', he, hx, _, _, _, hb⟩ => ?_
  · simp only [Rs]
    exact ⟨_, _, rfl, r0, _, _, rfl, r1, _, _, rfl, by simp only [R], _, _, rfl, by simp only [R], rfl⟩
  · simp only [R] at hx
    subst hx
    refine ⟨_, he, post_law hW' laid ?_ rfl Try.underlying4 rfl (fun ds' h' => ?_) hb⟩
    · intro t ht
      rw [Try.params4] at ht
      simp at ht
      rcases ht with rfl | rfl | rfl <;> exact ⟨by kernel_rfl, of_decide_eq_true (by kernel_rfl)⟩
    · rw [Try.params4] at h'
      obtain ⟨_, _, _, _, _, _, _, rfl, _, h'⟩ := trod_cons h'
      obtain ⟨_, _, _, _, _, _, _, rfl, _, h'⟩ := trod_cons h'
      obtain ⟨_, _, _, _, _, _, _, rfl, _, h'⟩ := trod_cons h'
      obtain ⟨_, _, _, _, _, _, _, rfl, _, h'⟩ := trod_cons h'
      obtain ⟨_, rfl⟩ := trod_nil h'
      rfl

theorem holds4 : Rows.ThinningReadableSaid :=
  OpenClaim.holds_of_wide 4 Try.f4 rfl rfl rfl rfl rfl rfl rfl ⟨rfl, rfl, rfl, rfl, rfl⟩ rfl rfl rfl rfl rfl (by kernel_rfl) Try.func4 (by kernel_rfl)
    (of_decide_eq_true (by kernel_rfl)) (by unfold Func.isWrapper; rw [if_neg (by decide +kernel)]; exact ⟨rfl, rfl⟩)
    (fun os started H enc _ => lifted4 os started H enc)
#print axioms holds4
end Go.Proofs.Ytmlhaikblfjghaa
