/- DrawPictures: whatever wave, lanes, start, step and number of columns come in, the law returns true, and the arguments read as before. Conditions: none. The row lists tables of the library, tied to its text; the proof reads internal/strconv.uint64pow10. -/
import Derived.Test.YtpcbjkjgjoemaaaGreatDoorCCP7
import Derived.Test.YtpcbjkjgjoemaaaGreatDoorCards
import Derived.Test.YtpcbjkjgjoemaaaGreatDoorTie
import Derived.Lay
import Derived.LaidSub
import Derived.MakeChecks
import Derived.Lib.LaidTab
namespace Go.Proofs.YtpcbjkjgjoemaaaGreatDoor
open Go Go.Ab Go.Proofs Go.Proofs.YtpcbjkjgjoemaaaGreatDoor.S1
open Go.ChangeShapes Go.WideShapes Go.ChangeAt Go.RowKit Go.Joins
-- nolay
attribute [local instance] LT10
theorem powFDrawPictures : (Rows.drawPicturesRow.laid.filter fun x => x.1 == "internal/strconv.uint64pow10") = [("internal/strconv.uint64pow10", Lib.tabData .u64 Lib.pow10Tab)] := by rfl
theorem layOkDrawPictures {W : World} (h : laidMetH PP Rows.drawPicturesRow.laid W) : @LayOk LT10 (gw W) W := by
  rw [MakeChecks.laidMetH_plain _ _ _ (by kernel_rfl)] at h
  have h := h.filter fun x => x.1 == "internal/strconv.uint64pow10"
  rw [powFDrawPictures] at h
  refine layOk_of (Lib.tabIs_of_head (t := 310) (e := 146) (n := 20) gPow_eq (by kernel_rfl) (by kernel_rfl) (by kernel_rfl) (by kernel_rfl) (by kernel_rfl) h) fun b cs T fz i v h1 h2 => ?_
  show W.cell? ⟨b, i, none⟩ = some v
  simp only [World.cell?, h1]
  exact h2

set_option maxRecDepth 100000 in
theorem liftedDrawPictures (os : Os) (started : os.Started) (H : Type) (enc : TypeId × Value → H) :
    ReturnsInHanded {} Tryz.checked os 3 .any (fun w args => (Rows.drawPicturesSpec.pre enc Tryz.prog Tryz.f3 [] false w args ∧ laidMetH Tryz.prog Rows.drawPicturesRow.laid w) ∧ sizedMet enc Tryz.prog Tryz.f3 (OpenSpec.ofChange Rows.drawPicturesSpec) false w args) (Rows.drawPicturesSpec.post enc Tryz.prog Tryz.f3 false true false false) := by
  refine returnsInHanded_of_change_and (C := Tryz.checked) (X := fun w _ => laidMetH Tryz.prog Rows.drawPicturesRow.laid w) (fun _ _ _ hh h => h.of_heap hh) own started (by kernel_rfl) Tryz.func3
    (ChangeSpec.witness_shaped (enc := enc) (C := Tryz.checked) (os := os) (X := fun w _ => laidMetH Tryz.prog Rows.drawPicturesRow.laid w) false (World.laidAll Tryz.prog os Rows.drawPicturesRow.laid) #[.agg #[.slice none 0 0, .slice none 0 0, .int .i64 0], .slice none 0 0, .int .i64 0, .int .i64 0, .int .i64 0] 20 (World.laidAll_os _ _ _)
      (World.shaped_of_ZipB (by kernel_rfl) (by kernel_rfl)) (by kernel_rfl) (by kernel_rfl) (by kernel_rfl)
      (by rw [MakeChecks.laidMetH_plain _ _ _ (by kernel_rfl)]; exact laidMet_laidAll _ (by kernel_rfl) (by kernel_rfl))) ?_
  intro W base args ds gs before hval hW hx1 hx2 hx3 hx4
  have hL : LayOk (gw W) W := by first | exact layOkDrawPictures hx1 | exact layOkDrawPictures hx2 | exact layOkDrawPictures hx3 | exact layOkDrawPictures hx4
  have hval' : ∀ (j : Nat) t v, Tryz.f3.params[j]? = some t → args[j]? = some v → Value.okWide Tryz.prog W .any base t v := hval
  rw [Tryz.params3] at hval'
  have hW' := hW
  obtain ⟨p, q, hA, hV, _, _, _⟩ := hW
  rw [Tryz.params3] at hA
  obtain ⟨v0, r0, d0, e0, _, _, ha0, rfl, t0, hA⟩ := trod_cons hA
  obtain ⟨v1, r1, d1, e1, _, _, rfl, rfl, t1, hA⟩ := trod_cons hA
  obtain ⟨v2, r2, d2, e2, _, _, rfl, rfl, t2, hA⟩ := trod_cons hA
  obtain ⟨v3, r3, d3, e3, _, _, rfl, rfl, t3, hA⟩ := trod_cons hA
  obtain ⟨v4, r4, d4, e4, _, _, rfl, rfl, t4, hA⟩ := trod_cons hA
  obtain ⟨rfl, rfl⟩ := trod_nil hA
  have hargs : args = #[v0, v1, v2, v3, v4] := by cases args; simpa using ha0
  subst hargs
  obtain ⟨x0, _, r0⟩ := Reads.argStruct (encF := fun x : Wv => [L x.sig 3 Sig.d, L x.gap 2 Iv.d, I x.fin]) rWv Tryz.underlying25 (hval' 0 25 v0 rfl rfl) t0
  have hs1 : v1.cells = #[v1] := by
    obtain ⟨_, _, _, hv⟩ := okWide_slice Tryz.underlying26 (hval' 1 26 v1 rfl rfl)
    subst hv; rfl
  obtain ⟨x1, _, r1⟩ := Reads.argOne rLns (fun _ => rfl) hs1 t1
  obtain ⟨n2, rfl⟩ := okWide_int Tryz.underlying3 (hval' 2 3 v2 rfl rfl)
  obtain ⟨n3, rfl⟩ := okWide_int Tryz.underlying3 (hval' 3 3 v3 rfl rfl)
  obtain ⟨n4, rfl⟩ := okWide_int Tryz.underlying3 (hval' 4 3 v4 rfl rfl)
  refine ((c3 x0 x1 n2 n3 n4).calls (gw W) W [v0, v1, .int .i64 n2, .int .i64 n3, .int .i64 n4] hL (gw_sub W) ?_).mono fun e w' ⟨x, σ', he, hx, _, _, _, hb⟩ => ?_
  · simp only [Rs]
    exact ⟨_, _, rfl, r0, _, _, rfl, r1, _, _, rfl, by simp only [R], _, _, rfl, by simp only [R], _, _, rfl, by simp only [R], rfl⟩
  · simp only [R] at hx
    subst hx
    refine ⟨_, he, post_law hW' laid ?_ rfl Tryz.underlying4 rfl (fun ds' h' => ?_) hb⟩
    · intro t ht
      rw [Tryz.params3] at ht
      simp at ht
      rcases ht with rfl | rfl | rfl <;> exact ⟨by kernel_rfl, of_decide_eq_true (by kernel_rfl)⟩
    · rw [Tryz.params3] at h'
      obtain ⟨_, _, _, _, _, _, _, rfl, _, h'⟩ := trod_cons h'
      obtain ⟨_, _, _, _, _, _, _, rfl, _, h'⟩ := trod_cons h'
      obtain ⟨_, _, _, _, _, _, _, rfl, _, h'⟩ := trod_cons h'
      obtain ⟨_, _, _, _, _, _, _, rfl, _, h'⟩ := trod_cons h'
      obtain ⟨_, _, _, _, _, _, _, rfl, _, h'⟩ := trod_cons h'
      obtain ⟨_, rfl⟩ := trod_nil h'
      rfl
theorem saidDrawPictures : Rows.DrawPicturesSaid :=
  OpenClaim.holds_of_wide 3 Tryz.f3 rfl rfl rfl rfl rfl rfl rfl ⟨rfl, rfl, rfl, rfl, rfl⟩ rfl rfl rfl rfl rfl (by kernel_rfl) Tryz.func3 (by kernel_rfl)
    (of_decide_eq_true (by kernel_rfl)) (by unfold Func.isWrapper; rw [if_neg (by decide +kernel)]; exact ⟨rfl, rfl⟩)
    (fun os started H enc _ => liftedDrawPictures os started H enc)
theorem plainDrawPictures (f : FuncId) (fn : Func) (hf : Tryz.pinned.checked.prog.funcNamed "wavestore/wavestorelaw59.DrawPictures" = some f) (hfn : Tryz.pinned.checked.prog.funcs[f]? = some fn) :
    true = Tryz.pinned.checked.prog.looks [] ∧ ∀ (j : Nat) t, fn.params[j]? = some t → Tryz.pinned.checked.prog.wantsStandIn t = false := by
  obtain rfl : f = 3 := Option.some.inj ((show Tryz.prog.funcNamed "wavestore/wavestorelaw59.DrawPictures" = some 3 by kernel_rfl).symm.trans hf) |>.symm
  obtain rfl : fn = Tryz.f3 := (Option.some.inj (Tryz.func3.symm.trans hfn)).symm
  refine ⟨by kernel_rfl, fun j t ht => ?_⟩
  rw [Tryz.params3] at ht
  have hm : t ∈ [25, 26, 3] := by
    have := Array.mem_of_getElem? ht
    simpa using this
  have hall : ([25, 26, 3].all fun u => !Tryz.prog.wantsStandIn u) = true := by kernel_rfl
  exact (show Tryz.prog.wantsStandIn t = false by simpa using List.all_eq_true.1 hall t hm)
theorem holdsDrawPictures : Rows.DrawPicturesCardSaid :=
  Claim7.holds_tied_plain_at .later [] _ _ _ _ saidDrawPictures (fun _ h => by cases h) (by kernel_rfl) (fun _ h => by cases h) drawPictures_row_tie rfl ⟨rfl, rfl⟩ (by kernel_rfl) rfl plainDrawPictures (by kernel_rfl)
#print axioms holdsDrawPictures
end Go.Proofs.YtpcbjkjgjoemaaaGreatDoor
