/- Seat 1: the arguments read. -/
import Derived.Test.YtmlhaikblfjghaaS10
import Derived.Test.YtmlhaikblfjghaaRows
namespace Go.Proofs.Ytmlhaikblfjghaa.S1
open Go Go.Ab Go.Proofs
open Go.ChangeShapes Go.WideShapes Go.ChangeAt Go.RowKit Go.Joins

abbrev any {α : Type} : α → Prop := fun _ => True
theorem rc {P : Program} {total : Nat} {f : Field} {fs : List Field} {off off' t : Nat} {α β : Type} {enc : α → D} {encF : β → List D} (h : Reads P t enc any) (k : ReadsF P total fs off' encF any) (ht : f.type = t) (ho : f.offset = off) (hs : off + P.cellsOf t = off') :
    ReadsF P total (f :: fs) off (fun x : α × β => cellsD (enc x.1) ++ encF x.2) any := by
  subst ht; subst hs
  have hc := ReadsF.cons h k ho
  exact ⟨hc.size, hc.ones, hc.data, fun a b => by obtain ⟨x, _, hr⟩ := hc.it a b; exact ⟨x, trivial, hr⟩⟩
theorem rn {P : Program} {total : Nat} : ReadsF P total [] total (fun _ : Unit => []) any := ReadsF.nil
theorem cells3 : Try.prog.cellsOf 3 = 1 := by kernel_rfl
theorem cells23 : Try.prog.cellsOf 23 = 3 := by kernel_rfl
theorem cells25 : Try.prog.cellsOf 25 = 3 := by kernel_rfl
theorem cells26 : Try.prog.cellsOf 26 = 1 := by kernel_rfl
theorem cells28 : Try.prog.cellsOf 28 = 4 := by kernel_rfl
theorem cells30 : Try.prog.cellsOf 30 = 7 := by kernel_rfl
theorem rI : Reads Try.prog 3 (fun n : Int => I n) any := (Reads.int Try.underlying3 cells3).map (fun n => n) (fun _ => rfl) (fun n => ⟨n, rfl⟩) fun _ _ => trivial
theorem rXt : Reads Try.prog 25 Xt.d any := by
  refine (Reads.struct (ok := any) Try.underlying25 ?_).map (fun x : Int × Int × Int × Unit => (⟨x.1, x.2.1, x.2.2.1⟩ : Xt)) (fun _ => rfl) (fun b => ⟨(b.sec, b.len, b.sum, ()), rfl⟩) fun _ _ => trivial
  rw [cells25]
  exact rc rI (rc rI (rc rI rn rfl rfl (by rw [cells3])) rfl rfl (by rw [cells3])) rfl rfl (by rw [cells3])
theorem rPol : Reads Try.prog 23 Pol.d any := by
  refine (Reads.struct (ok := any) Try.underlying23 ?_).map (fun x : Int × Int × Int × Unit => (⟨x.1, x.2.1, x.2.2.1⟩ : Pol)) (fun _ => rfl) (fun b => ⟨(b.full, b.smp, b.stp, ()), rfl⟩) fun _ _ => trivial
  rw [cells23]
  exact rc rI (rc rI (rc rI rn rfl rfl (by rw [cells3])) rfl rfl (by rw [cells3])) rfl rfl (by rw [cells3])
theorem rEnt : Reads Try.prog 30 Ent.d any := by
  refine (Reads.struct (ok := any) Try.underlying30 ?_).map (fun x : Int × Int × Int × Int × Xt × Unit => (⟨x.1, x.2.1, x.2.2.1, x.2.2.2.1, x.2.2.2.2.1⟩ : Ent)) (fun _ => rfl) (fun b => ⟨(b.frm, b.to, b.lvl, b.stp, b.plc, ()), rfl⟩) fun _ _ => trivial
  rw [cells30]
  exact rc rI (rc rI (rc rI (rc rI (rc rXt rn rfl rfl (by rw [cells25])) rfl rfl (by rw [cells3])) rfl rfl (by rw [cells3])) rfl rfl (by rw [cells3])) rfl rfl (by rw [cells3])
theorem rEnts : Reads Try.prog 26 (fun es : List Ent => L es 7 Ent.d) any := by
  have h := Reads.slice rEnt Try.underlying26 cells26 (by rw [cells30]; decide)
  rw [cells30] at h
  exact h.map (fun n => n) (fun _ => rfl) (fun n => ⟨n, rfl⟩) fun _ _ => trivial
theorem rDir : Reads Try.prog 28 Dir.d any := by
  refine (Reads.struct (ok := any) Try.underlying28 ?_).map (fun x : Xt × List Ent × Unit => (⟨x.1, x.2.1⟩ : Dir)) (fun _ => rfl) (fun b => ⟨(b.hdr, b.blk, ()), rfl⟩) fun _ _ => trivial
  rw [cells28]
  exact rc rXt (rc rEnts rn rfl rfl (by rw [cells26])) rfl rfl (by rw [cells25])
theorem own : ownKnob Try.prog.godebug = none := by kernel_rfl
theorem laid : laidOutB Try.prog = true := by kernel_rfl
end Go.Proofs.Ytmlhaikblfjghaa.S1
