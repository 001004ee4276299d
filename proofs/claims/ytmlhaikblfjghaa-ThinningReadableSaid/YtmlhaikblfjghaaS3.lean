/- Seat 1: the regions of a directory. -/
import Derived.Test.YtmlhaikblfjghaaS2
namespace Go.Proofs.Ytmlhaikblfjghaa.S1
open Go Go.Ab Go.Proofs

theorem add1 {i n : Nat} (h : i < n) (k : n ≤ lenM) : addI .i64 (i : Int) 1 = ((i + 1 : Nat) : Int) := by
  unfold lenM at k
  rw [add64 (by omega) (by omega)]; rfl
theorem ltI {i n : Nat} (h : decide ((i : Int) < (n : Int)) = true) : i < n := by simpa using h
theorem geI {i n : Nat} (h : decide ((i : Int) < (n : Int)) = false) : n ≤ i := by simpa using h
theorem take_snoc {α : Type} [Inhabited α] (l : List α) (i : Nat) (h : i < l.length) : l.take (i + 1) = l.take i ++ [l.getD i default] := by
  rw [List.take_succ_eq_append_getElem h]; simp [List.getD, h]

def regs (d : Dir) : List Rg := regOf d.hdr :: d.blk.map fun e => regOf e.plc
theorem F45 : OkF 45 Try.f45 := ⟨by kernel_rfl, by kernel_rfl, by kernel_rfl⟩
def lv45 : List (List Nat × List Nat) := [([1, 1, 0, 1, 0], [3, 11, 12, 13])]
def n45s (d : Dir) : List Nat → Nat → Option Ans := scrAt [([1, 0], 2, Ans.pure [d.hdr.d] (regOf d.hdr).d)]
theorem n45 (d : Dir) (h : Heap) (K : D → Heap → Prop) : runS (En Try.f45) (fh Try.f45 K) (n45s d) lv45 200 [.code []] ⟨argSlots 0 [d.d], h⟩ =
  (PureW PP 59 [d.hdr.d] [d.hdr.d] (regOf d.hdr).d ∧ (d.blk.length ≤ lenM → At (En Try.f45) (fh Try.f45 K) [It.code [1, 1, 0, 1, 0], It.blk 0, It.code [1, 1, 1]] { sl := [(3, .list 1 2 (litG [.agg [I (regOf d.hdr).frm, I (regOf d.hdr).cnt]]) .full), (11, L d.blk 7 Ent.d), (12, I (↑d.blk.length : Int)), (13, I 0)], h := h })) := by kernel_rfl
def S45 (d : Dir) (h : Heap) (i : Int) (out : List Rg) : St := ⟨[(3, LT out 2 Rg.d h.nt), (11, L d.blk 7 Ent.d), (12, I d.blk.length), (13, I i)], hT h out.length⟩
def n45as (d : Dir) (i : Int) : List Nat → Nat → Option Ans := scrAt [([1, 1, 0, 1, 0, 0, 1, 1, 0, 0, 1], 3, Ans.pure [(d.blk.getD i.toNat default).plc.d] (regOf (d.blk.getD i.toNat default).plc).d)]
theorem n45a (d : Dir) (h : Heap) (i : Int) (out : List Rg) (J : St → Prop) (K : D → Heap → Prop) : runS (En Try.f45) (fh Try.f45 K) (n45as d i) lv45 200 [.code [1, 1, 0, 1, 0, 0], stp [3, 11, 12, 13] J, .blk 0, .code [1, 1, 1]] (S45 d h i out) =
  (bif decide (i < (↑d.blk.length : Int)) then (0 ≤ i ∧ i < (↑d.blk.length : Int)) ∧ True ∧ PureW PP 59 [(d.blk.getD i.toNat default).plc.d] [(d.blk.getD i.toNat default).plc.d] (regOf (d.blk.getD i.toNat default).plc).d ∧ (upd h.hw h.nt (some out.length) h.nt = some out.length ∧ (out.length + 1) * 16 ≤ roomM) ∧ J { sl := [(3, .list (out.length + 1) 2 (catG out.length (fun i => (out.getD i default).d) (litG [.agg [I (regOf (d.blk.getD i.toNat default).plc).frm, I (regOf (d.blk.getD i.toNat default).plc).cnt]])) (.tok h.nt 2)), (11, L d.blk 7 Ent.d), (12, I (↑d.blk.length : Int)), (13, I (addI .i64 i 1))], h := { box := h.box, nl := h.nl, hw := upd (upd h.hw h.nt (some out.length)) h.nt (some (out.length + 1)), nt := h.nt + 1 } } else K (.list out.length 2 (fun i => (out.getD i default).d) (.tok h.nt 2)) { box := h.box, nl := h.nl, hw := upd h.hw h.nt (some out.length), nt := h.nt + 1 }) := by kernel_rfl
theorem regs_snoc (d : Dir) (i : Nat) (h : i < d.blk.length) : regs ⟨d.hdr, d.blk.take (i + 1)⟩ = regs ⟨d.hdr, d.blk.take i⟩ ++ [regOf (d.blk.getD i default).plc] := by
  simp [regs, take_snoc _ _ h]
theorem e45 (d : Dir) (h : Heap) (hm : d.blk.length ≤ 1000000) : Does PP 45 [d.d] h (LT (regs d) 2 Rg.d h.nt) (hT h (regs d).length) := by
  refine du F45 (by kernel_rfl) (of_eq (n45 d h _) ⟨PureW.mk (c59 _), fun hl => ?_⟩)
  refine at_le ?_ (StLe.tok1 _ (x := regOf d.hdr) (enc := Rg.d) 3 rfl)
  refine lp (fn := Try.f45) (fun i : Nat => i ≤ d.blk.length) (fun i => S45 d h i (regs ⟨d.hdr, d.blk.take i⟩)) (fun i => d.blk.length - i) [3, 11, 12, 13] (by kernel_rfl) (fun i hi => of_eq (n45a d h i _ _ _) (cond_intro (fun hlt => ?_) fun hge => ?_)) 0 (Nat.zero_le _)
  · have hlt := ltI hlt
    rw [add1 hlt hl, Int.toNat_natCast]
    refine ⟨⟨by omega, by omega⟩, trivial, PureW.mk (c59 _), ⟨upd_same _ _ _, ?_⟩, Nx.of (i + 1) (by omega) (by omega) ?_⟩
    · simp [regs, roomM]; omega
    · unfold S45
      rw [regs_snoc d i hlt]
      exact (StLe.set 3 rfl Wk.snoc rfl rfl).trans (StLe.heap (by simp [hT, upd_upd]))
  · have := geI hge
    have hd : regs ⟨d.hdr, d.blk.take i⟩ = regs d := by rw [List.take_of_length_le this]
    rw [hd]
    exact RetLe.refl _ _
end Go.Proofs.Ytmlhaikblfjghaa.S1
