/- CompactionInverts: whatever stored signals, chunk and time come in, the law returns true, and the arguments read as before. Conditions: none. The row lists tables of the library, tied to its text; the proof reads internal/strconv.uint64pow10. -/
import Derived.Test.YtmlhaikblfjghaaGreatDoorCCI6
import Derived.Test.YtmlhaikblfjghaaGreatDoorCards
import Derived.Test.YtmlhaikblfjghaaGreatDoorTie
import Derived.Lay
import Derived.LaidSub
import Derived.MakeChecks
import Derived.Lib.LaidTab
namespace Go.Proofs.YtmlhaikblfjghaaGreatDoor
open Go Go.Ab Go.Proofs Go.Proofs.YtmlhaikblfjghaaGreatDoor.S1
open Go.ChangeShapes Go.WideShapes Go.ChangeAt Go.RowKit Go.Joins
-- nolay
attribute [local instance] LT10
theorem powFCompactionInverts : (Rows.compactionInvertsRow.laid.filter fun x => x.1 == "internal/strconv.uint64pow10") = [("internal/strconv.uint64pow10", Lib.tabData .u64 Lib.pow10Tab)] := by rfl
theorem layOkCompactionInverts {W : World} (h : laidMetH PP Rows.compactionInvertsRow.laid W) : @LayOk LT10 (gw W) W := by
  rw [MakeChecks.laidMetH_plain _ _ _ (by kernel_rfl)] at h
  have h := h.filter fun x => x.1 == "internal/strconv.uint64pow10"
  rw [powFCompactionInverts] at h
  refine layOk_of (Lib.tabIs_of_head (t := 185) (e := 118) (n := 20) gPow_eq (by kernel_rfl) (by kernel_rfl) (by kernel_rfl) (by kernel_rfl) (by kernel_rfl) h) fun b cs T fz i v h1 h2 => ?_
  show W.cell? ⟨b, i, none⟩ = some v
  simp only [World.cell?, h1]
  exact h2

set_option maxRecDepth 100000 in
theorem liftedCompactionInverts (os : Os) (started : os.Started) (H : Type) (enc : TypeId × Value → H) :
    ReturnsInHanded {} Tryz.checked os 3 .any (fun w args => (Rows.compactionInvertsSpec.pre enc Tryz.prog Tryz.f3 [] false w args ∧ laidMetH Tryz.prog Rows.compactionInvertsRow.laid w) ∧ sizedMet enc Tryz.prog Tryz.f3 (OpenSpec.ofChange Rows.compactionInvertsSpec) false w args) (Rows.compactionInvertsSpec.post enc Tryz.prog Tryz.f3 false true false false) := by
  refine returnsInHanded_of_change_and (C := Tryz.checked) (X := fun w _ => laidMetH Tryz.prog Rows.compactionInvertsRow.laid w) (fun _ _ _ hh h => h.of_heap hh) own started (by kernel_rfl) Tryz.func3
    (ChangeSpec.witness_shaped (enc := enc) (C := Tryz.checked) (os := os) (X := fun w _ => laidMetH Tryz.prog Rows.compactionInvertsRow.laid w) false (World.laidAll Tryz.prog os Rows.compactionInvertsRow.laid) #[.slice none 0 0, .agg #[.int .i64 0, .int .i64 0, .slice none 0 0, .slice none 0 0, .slice none 0 0], .int .i64 0] 20 (World.laidAll_os _ _ _)
      (World.shaped_of_ZipB (by kernel_rfl) (by kernel_rfl)) (by kernel_rfl) (by kernel_rfl) (by kernel_rfl)
      (by rw [MakeChecks.laidMetH_plain _ _ _ (by kernel_rfl)]; exact laidMet_laidAll _ (by kernel_rfl) (by kernel_rfl))) ?_
  intro W base args ds gs before hval hW hx1 hx2 hx3 hx4
  have hL : LayOk (gw W) W := by first | exact layOkCompactionInverts hx1 | exact layOkCompactionInverts hx2 | exact layOkCompactionInverts hx3 | exact layOkCompactionInverts hx4
  have hval' : ∀ (j : Nat) t v, Tryz.f3.params[j]? = some t → args[j]? = some v → Value.okWide Tryz.prog W .any base t v := hval
  rw [Tryz.params3] at hval'
  have hW' := hW
  obtain ⟨p, q, hA, hV, _, _, _⟩ := hW
  rw [Tryz.params3] at hA
  obtain ⟨v0, r0, d0, e0, _, _, ha0, rfl, t0, hA⟩ := trod_cons hA
  obtain ⟨v1, r1, d1, e1, _, _, rfl, rfl, t1, hA⟩ := trod_cons hA
  obtain ⟨v2, r2, d2, e2, _, _, rfl, rfl, t2, hA⟩ := trod_cons hA
  obtain ⟨rfl, rfl⟩ := trod_nil hA
  have hargs : args = #[v0, v1, v2] := by cases args; simpa using ha0
  subst hargs
  have hs0 : v0.cells = #[v0] := by
    obtain ⟨_, _, _, hv⟩ := okWide_slice Tryz.underlying22 (hval' 0 22 v0 rfl rfl)
    subst hv; rfl
  obtain ⟨x0, _, r0⟩ := Reads.argOne rStos (fun _ => rfl) hs0 t0
  obtain ⟨x1, _, r1⟩ := Reads.argStruct (encF := fun x : Chk => [I x.frm, I x.to, L x.vals 1 .str, L x.chg 1 (fun l => L l 2 Cg.d), L x.gaps 2 Gp.d]) rChk Tryz.underlying27 (hval' 1 27 v1 rfl rfl) t1
  obtain ⟨n2, rfl⟩ := okWide_int Tryz.underlying3 (hval' 2 3 v2 rfl rfl)
  refine ((c3 x0 x1 n2).calls (gw W) W [v0, v1, .int .i64 n2] hL (gw_sub W) ?_).mono fun e w' ⟨x, σ', he, hx, _, _, _, hb⟩ => ?_
  · simp only [Rs]
    exact ⟨_, _, rfl, r0, _, _, rfl, r1, _, _, rfl, by simp only [R], rfl⟩
  · simp only [R] at hx
    subst hx
    refine ⟨_, he, post_law hW' laid ?_ rfl Tryz.underlying4 rfl (fun ds' h' => ?_) hb⟩
    · intro t ht
      rw [Tryz.params3] at ht
      simp at ht
      rcases ht with rfl | rfl | rfl <;> exact ⟨by kernel_rfl, of_decide_eq_true (by kernel_rfl)⟩
    · rw [Tryz.params3] at h'
      obtain ⟨_, _, _, _, _, _, _, rfl, _, h'⟩ := trod_cons h'
      obtain ⟨_, _, _, _, _, _, _, rfl, _, h'⟩ := trod_cons h'
      obtain ⟨_, _, _, _, _, _, _, rfl, _, h'⟩ := trod_cons h'
      obtain ⟨_, rfl⟩ := trod_nil h'
      rfl
theorem saidCompactionInverts : Rows.CompactionInvertsSaid :=
  OpenClaim.holds_of_wide 3 Tryz.f3 rfl rfl rfl rfl rfl rfl rfl ⟨rfl, rfl, rfl, rfl, rfl⟩ rfl rfl rfl rfl rfl (by kernel_rfl) Tryz.func3 (by kernel_rfl)
    (of_decide_eq_true (by kernel_rfl)) (by unfold Func.isWrapper; rw [if_neg (by decide +kernel)]; exact ⟨rfl, rfl⟩)
    (fun os started H enc _ => liftedCompactionInverts os started H enc)
theorem plainCompactionInverts (f : FuncId) (fn : Func) (hf : Tryz.pinned.checked.prog.funcNamed "wavestore/wavestorelaw44.CompactionInverts" = some f) (hfn : Tryz.pinned.checked.prog.funcs[f]? = some fn) :
    false = Tryz.pinned.checked.prog.looks [] ∧ ∀ (j : Nat) t, fn.params[j]? = some t → Tryz.pinned.checked.prog.wantsStandIn t = false := by
  obtain rfl : f = 3 := Option.some.inj ((show Tryz.prog.funcNamed "wavestore/wavestorelaw44.CompactionInverts" = some 3 by kernel_rfl).symm.trans hf) |>.symm
  obtain rfl : fn = Tryz.f3 := (Option.some.inj (Tryz.func3.symm.trans hfn)).symm
  refine ⟨by kernel_rfl, fun j t ht => ?_⟩
  rw [Tryz.params3] at ht
  have hm : t ∈ [22, 27, 3] := by
    have := Array.mem_of_getElem? ht
    simpa using this
  have hall : ([22, 27, 3].all fun u => !Tryz.prog.wantsStandIn u) = true := by kernel_rfl
  exact (show Tryz.prog.wantsStandIn t = false by simpa using List.all_eq_true.1 hall t hm)
theorem holdsCompactionInverts : Rows.CompactionInvertsCardSaid :=
  Claim7.holds_tied_plain_at .later [] _ _ _ _ saidCompactionInverts (fun _ h => by cases h) (by kernel_rfl) (fun _ h => by cases h) compactionInverts_row_tie rfl ⟨rfl, rfl⟩ (by kernel_rfl) rfl plainCompactionInverts (by kernel_rfl)
#print axioms holdsCompactionInverts
end Go.Proofs.YtmlhaikblfjghaaGreatDoor
