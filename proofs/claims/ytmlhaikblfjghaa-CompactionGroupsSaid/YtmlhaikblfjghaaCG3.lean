/- Seat 1: splitting. -/
import Derived.Test.YtmlhaikblfjghaaCG2
namespace Go.Proofs.Ytmlhaikblfjghaa.S1
open Go Go.Ab Go.Proofs
theorem F20 : OkF 20 Try.f20 := ⟨by kernel_rfl, by kernel_rfl, by kernel_rfl⟩
def lv20 : List (List Nat × List Nat) := [([1, 1, 1, 0], [1, 2, 4, 5]), ([1, 1, 1, 1, 1, 0, 1, 0], [1, 4, 5, 8, 9, 53, 54, 55])]
noncomputable def n20s  : List Nat → Nat → Option Ans := scrAt []
theorem n20 (c : Chk) (t : Int) (K : D → Prop) : runS (En Try.f20) (fi Try.f20 K) (n20s ) lv20 200 [.code []] ⟨argSlots 0 [c.d, I t], .empty⟩ =
  (c.chg.length ≤ lenM → c.vals.length ≤ lenM → bif (↑c.chg.length : Int) != (↑c.vals.length : Int) then True ∧ True ∧ K (.tup [.agg [I 0, I 0, .list 0 0 (fun _ => D.junk) .full, .list 0 0 (fun _ => D.junk) .full, .list 0 0 (fun _ => D.junk) .full], .agg [I 0, I 0, .list 0 0 (fun _ => D.junk) .full, .list 0 0 (fun _ => D.junk) .full, .list 0 0 (fun _ => D.junk) .full], I 1]) else bif bif decide (t ≤ c.frm) then true else decide (t ≥ c.to) then True ∧ True ∧ K (.tup [.agg [I 0, I 0, .list 0 0 (fun _ => D.junk) .full, .list 0 0 (fun _ => D.junk) .full, .list 0 0 (fun _ => D.junk) .full], .agg [I 0, I 0, .list 0 0 (fun _ => D.junk) .full, .list 0 0 (fun _ => D.junk) .full, .list 0 0 (fun _ => D.junk) .full], I 2]) else At (En Try.f20) (fi Try.f20 K) [It.code [1, 1, 1, 0], It.code [1, 1, 1, 1]] { sl := [(1, I t), (2, .own [I c.frm, I c.to, L c.vals 1 .str, L c.chg 1 fun l => L l 2 Cg.d, L c.gaps 2 Gp.d]), (4, .own [I 0, I 0, .list 0 0 (fun _ => D.junk) .full, .list 0 0 (fun _ => D.junk) .full, .list 0 0 (fun _ => D.junk) .full]), (5, .own [I 0, I 0, .list 0 0 (fun _ => D.junk) .full, .list 0 0 (fun _ => D.junk) .full, .list 0 0 (fun _ => D.junk) .full])], h := Heap.empty : St }) := by kernel_rfl
def lv20b : List (List Nat × List Nat) := [([1, 1, 1, 1, 1, 0, 1, 0], [1, 4, 5, 8, 9, 53, 54, 55])]
def R20 (c : Chk) (t : Int) : St := ⟨[(1, I t), (2, .ep [I c.frm, I c.to, L c.vals 1 .str, L c.chg 1 (fun l => L l 2 Cg.d), L c.gaps 2 Gp.d]), (4, .own z5), (5, .own z5)], .empty⟩
noncomputable def n20rs (c : Chk) (t : Int) : List Nat → Nat → Option Ans := scrAt [([1, 1, 1, 1, 0], 6, Ans.pure [L c.vals 1 .str] (L c.vals 1 .str)), ([1, 1, 1, 1, 0], 7, Ans.pure [I c.frm, I t, L c.vals 1 .str, D.ep [I c.frm, I c.to, L c.vals 1 .str, L c.chg 1 fun l => L l 2 Cg.d, L c.gaps 2 Gp.d]] (partD c c.frm t c.vals)), ([1, 1, 1, 1, 0], 14, Ans.pure [c.d, I t] (L (valsAt c t) 1 .str)), ([1, 1, 1, 1, 0], 15, Ans.pure [I t, I c.to, L (valsAt c t) 1 .str, D.ep [I c.frm, I c.to, L c.vals 1 .str, L c.chg 1 fun l => L l 2 Cg.d, L c.gaps 2 Gp.d]] (partD c t c.to (valsAt c t)))]
theorem n20r (c : Chk) (t : Int) (K : D → Prop) : runS (En Try.f20) (fi Try.f20 K) (n20rs c t) lv20b 200 [.code [1, 1, 1, 0], .code [1, 1, 1, 1]] (R20 c t) =
  (PureW PP 35 [L c.vals 1 .str] [L c.vals 1 .str] (L c.vals 1 .str) ∧ PureW PP 34 [I c.frm, I t, L c.vals 1 .str, D.ep [I c.frm, I c.to, L c.vals 1 .str, L c.chg 1 fun l => L l 2 Cg.d, L c.gaps 2 Gp.d]] [I c.frm, I t, L c.vals 1 .str, D.ep [I c.frm, I c.to, L c.vals 1 .str, L c.chg 1 fun l => L l 2 Cg.d, L c.gaps 2 Gp.d]] (partD c c.frm t c.vals) ∧ PureW PP 36 [c.d, I t] [c.d, I t] (L (valsAt c t) 1 .str) ∧ PureW PP 34 [I t, I c.to, L (valsAt c t) 1 .str, D.ep [I c.frm, I c.to, L c.vals 1 .str, L c.chg 1 fun l => L l 2 Cg.d, L c.gaps 2 Gp.d]] [I t, I c.to, L (valsAt c t) 1 .str, D.ep [I c.frm, I c.to, L c.vals 1 .str, L c.chg 1 fun l => L l 2 Cg.d, L c.gaps 2 Gp.d]] (partD c t c.to (valsAt c t)) ∧ True ∧ True ∧ (c.gaps.length ≤ lenM → At (En Try.f20) (fi Try.f20 K) [It.code [1, 1, 1, 1, 1, 0, 1, 0], It.blk 0, It.code [1, 1, 1, 1, 1, 1]] { sl := [(1, I t), (4, .own [I 0, I 0, .list 0 0 (fun _ => D.junk) .full, .list 0 0 (fun _ => D.junk) .full, .list 0 0 (fun _ => D.junk) .full]), (5, .own [I 0, I 0, .list 0 0 (fun _ => D.junk) .full, .list 0 0 (fun _ => D.junk) .full, .list 0 0 (fun _ => D.junk) .full]), (8, .own [I c.frm, I t, L c.vals 1 .str, L (List.map (cut c.frm t) c.chg) 1 fun l => L l 2 Cg.d, .list 0 0 (fun _ => D.junk) .full]), (9, .own [I t, I c.to, L (valsAt c t) 1 .str, L (List.map (cut t c.to) c.chg) 1 fun l => L l 2 Cg.d, .list 0 0 (fun _ => D.junk) .full]), (53, L c.gaps 2 Gp.d), (54, I (↑c.gaps.length : Int)), (55, I 0)], h := Heap.empty : St })) := by kernel_rfl
abbrev cell4 (f t : Int) (vs : List Str) (ch : List (List Cg)) (g : D) : List D := [I f, I t, L vs 1 .str, L ch 1 (fun l => L l 2 Cg.d), g]
def hAB (n m : Nat) : Heap := ⟨fun _ => none, 0, upd (upd (fun _ => none) 0 (some n)) 1 (some m), 2, fun _ => none⟩
def S20 (c : Chk) (t : Int) (a b : List Gp) (i : Int) : St := ⟨[(1, I t), (4, .own z5), (5, .own z5), (8, .own (cell4 c.frm t c.vals (c.chg.map (cut c.frm t)) (LT a 2 Gp.d 0))), (9, .own (cell4 t c.to (valsAt c t) (c.chg.map (cut t c.to)) (LT b 2 Gp.d 1))), (53, L c.gaps 2 Gp.d), (54, I c.gaps.length), (55, I i)], hAB a.length b.length⟩
noncomputable def n20as  : List Nat → Nat → Option Ans := scrAt []
theorem n20a (c : Chk) (t : Int) (a b : List Gp) (i : Int) (J : St → Prop) (K : D → Prop) : runS (En Try.f20) (fi Try.f20 K) (n20as ) lv20 200 [.code [1, 1, 1, 1, 1, 0, 1, 0, 0], stp [1, 4, 5, 8, 9, 53, 54, 55] J, .blk 0, .code [1, 1, 1, 1, 1, 1]] (S20 c t a b i) =
  (bif decide (i < (↑c.gaps.length : Int)) then
  (0 ≤ i ∧ i < (↑c.gaps.length : Int)) ∧
    True ∧
      True ∧
        bif decide ((c.gaps.getD i.toNat default).frm < if addI .i64 t 1 < (c.gaps.getD i.toNat default).to then addI .i64 t 1 else (c.gaps.getD i.toNat default).to) then
          (upd (upd (fun _ => none) 0 (some a.length)) 1 (some b.length) 0 = some a.length ∧ (a.length + 1) * 16 ≤ roomM) ∧
            True ∧
              True ∧
                bif decide ((if addI .i64 t 1 > (c.gaps.getD i.toNat default).frm then addI .i64 t 1 else (c.gaps.getD i.toNat default).frm) < (c.gaps.getD i.toNat default).to) then (upd (upd (upd (fun _ => none) 0 (some a.length)) 1 (some b.length)) 0 (some (a.length + 1)) 1 = some b.length ∧ (b.length + 1) * 16 ≤ roomM) ∧ True ∧ J { sl := [(1, I t), (4, .own [I 0, I 0, .list 0 0 (fun _ => D.junk) .full, .list 0 0 (fun _ => D.junk) .full, .list 0 0 (fun _ => D.junk) .full]), (5, .own [I 0, I 0, .list 0 0 (fun _ => D.junk) .full, .list 0 0 (fun _ => D.junk) .full, .list 0 0 (fun _ => D.junk) .full]), (8, .own [I c.frm, I t, L c.vals 1 .str, L (List.map (cut c.frm t) c.chg) 1 fun l => L l 2 Cg.d, .list (a.length + 1) 2 (catG a.length (fun i => (a.getD i default).d) (litG [.agg [I (c.gaps.getD i.toNat default).frm, I (if addI .i64 t 1 < (c.gaps.getD i.toNat default).to then addI .i64 t 1 else (c.gaps.getD i.toNat default).to)]])) (.tok 0 2)]), (9, .own [I t, I c.to, L (valsAt c t) 1 .str, L (List.map (cut t c.to) c.chg) 1 fun l => L l 2 Cg.d, .list (b.length + 1) 2 (catG b.length (fun i => (b.getD i default).d) (litG [.agg [I (if addI .i64 t 1 > (c.gaps.getD i.toNat default).frm then addI .i64 t 1 else (c.gaps.getD i.toNat default).frm), I (c.gaps.getD i.toNat default).to]])) (.tok 1 2)]), (53, L c.gaps 2 Gp.d), (54, I (↑c.gaps.length : Int)), (55, I (addI .i64 i 1))], h := { box := fun _ => none, nl := 0, hw := upd (upd (upd (upd (fun _ => none) 0 (some a.length)) 1 (some b.length)) 0 (some (a.length + 1))) 1 (some (b.length + 1)), nt := 2, vw := fun _ => none : Heap } : St }
                else J { sl := [(1, I t), (4, .own [I 0, I 0, .list 0 0 (fun _ => D.junk) .full, .list 0 0 (fun _ => D.junk) .full, .list 0 0 (fun _ => D.junk) .full]), (5, .own [I 0, I 0, .list 0 0 (fun _ => D.junk) .full, .list 0 0 (fun _ => D.junk) .full, .list 0 0 (fun _ => D.junk) .full]), (8, .own [I c.frm, I t, L c.vals 1 .str, L (List.map (cut c.frm t) c.chg) 1 fun l => L l 2 Cg.d, .list (a.length + 1) 2 (catG a.length (fun i => (a.getD i default).d) (litG [.agg [I (c.gaps.getD i.toNat default).frm, I (if addI .i64 t 1 < (c.gaps.getD i.toNat default).to then addI .i64 t 1 else (c.gaps.getD i.toNat default).to)]])) (.tok 0 2)]), (9, .own [I t, I c.to, L (valsAt c t) 1 .str, L (List.map (cut t c.to) c.chg) 1 fun l => L l 2 Cg.d, .list b.length 2 (fun i => (b.getD i default).d) (.tok 1 2)]), (53, L c.gaps 2 Gp.d), (54, I (↑c.gaps.length : Int)), (55, I (addI .i64 i 1))], h := { box := fun _ => none, nl := 0, hw := upd (upd (upd (fun _ => none) 0 (some a.length)) 1 (some b.length)) 0 (some (a.length + 1)), nt := 2, vw := fun _ => none : Heap } : St }
        else
          True ∧
            bif decide ((if addI .i64 t 1 > (c.gaps.getD i.toNat default).frm then addI .i64 t 1 else (c.gaps.getD i.toNat default).frm) < (c.gaps.getD i.toNat default).to) then (upd (upd (fun _ => none) 0 (some a.length)) 1 (some b.length) 1 = some b.length ∧ (b.length + 1) * 16 ≤ roomM) ∧ True ∧ J { sl := [(1, I t), (4, .own [I 0, I 0, .list 0 0 (fun _ => D.junk) .full, .list 0 0 (fun _ => D.junk) .full, .list 0 0 (fun _ => D.junk) .full]), (5, .own [I 0, I 0, .list 0 0 (fun _ => D.junk) .full, .list 0 0 (fun _ => D.junk) .full, .list 0 0 (fun _ => D.junk) .full]), (8, .own [I c.frm, I t, L c.vals 1 .str, L (List.map (cut c.frm t) c.chg) 1 fun l => L l 2 Cg.d, .list a.length 2 (fun i => (a.getD i default).d) (.tok 0 2)]), (9, .own [I t, I c.to, L (valsAt c t) 1 .str, L (List.map (cut t c.to) c.chg) 1 fun l => L l 2 Cg.d, .list (b.length + 1) 2 (catG b.length (fun i => (b.getD i default).d) (litG [.agg [I (if addI .i64 t 1 > (c.gaps.getD i.toNat default).frm then addI .i64 t 1 else (c.gaps.getD i.toNat default).frm), I (c.gaps.getD i.toNat default).to]])) (.tok 1 2)]), (53, L c.gaps 2 Gp.d), (54, I (↑c.gaps.length : Int)), (55, I (addI .i64 i 1))], h := { box := fun _ => none, nl := 0, hw := upd (upd (upd (fun _ => none) 0 (some a.length)) 1 (some b.length)) 1 (some (b.length + 1)), nt := 2, vw := fun _ => none : Heap } : St }
            else J { sl := [(1, I t), (4, .own [I 0, I 0, .list 0 0 (fun _ => D.junk) .full, .list 0 0 (fun _ => D.junk) .full, .list 0 0 (fun _ => D.junk) .full]), (5, .own [I 0, I 0, .list 0 0 (fun _ => D.junk) .full, .list 0 0 (fun _ => D.junk) .full, .list 0 0 (fun _ => D.junk) .full]), (8, .own [I c.frm, I t, L c.vals 1 .str, L (List.map (cut c.frm t) c.chg) 1 fun l => L l 2 Cg.d, .list a.length 2 (fun i => (a.getD i default).d) (.tok 0 2)]), (9, .own [I t, I c.to, L (valsAt c t) 1 .str, L (List.map (cut t c.to) c.chg) 1 fun l => L l 2 Cg.d, .list b.length 2 (fun i => (b.getD i default).d) (.tok 1 2)]), (53, L c.gaps 2 Gp.d), (54, I (↑c.gaps.length : Int)), (55, I (addI .i64 i 1))], h := { box := fun _ => none, nl := 0, hw := upd (upd (fun _ => none) 0 (some a.length)) 1 (some b.length), nt := 2, vw := fun _ => none : Heap } : St }
 else True ∧ True ∧ K (.tup [.agg [I c.frm, I t, L c.vals 1 .str, L (List.map (cut c.frm t) c.chg) 1 fun l => L l 2 Cg.d, .list a.length 2 (fun i => (a.getD i default).d) (.tok 0 2)], .agg [I t, I c.to, L (valsAt c t) 1 .str, L (List.map (cut t c.to) c.chg) 1 fun l => L l 2 Cg.d, .list b.length 2 (fun i => (b.getD i default).d) (.tok 1 2)], I 0])) := by kernel_rfl
theorem F21 : OkF 21 Try.f21 := ⟨by kernel_rfl, by kernel_rfl, by kernel_rfl⟩
def lv21 : List (List Nat × List Nat) := [([1, 1, 1, 1, 1, 0, 1, 0], [1, 2, 4, 5, 7, 8, 9])]
noncomputable def n21s (c : Chk) (t : Int) : List Nat → Nat → Option Ans := scrAt [([1, 1, 1, 0], 8, Ans.pure [c.d, I c.frm, I t, L ([] ++ c.vals) 1 .str] (partD c c.frm t ([] ++ c.vals))), ([1, 1, 1, 1, 0], 6, Ans.pure [c.d, I t] (L (valsAt c t) 1 .str)), ([1, 1, 1, 1, 0], 7, Ans.pure [c.d, I t, I c.to, L (valsAt c t) 1 .str] (partD c t c.to (valsAt c t)))]
theorem n21 (c : Chk) (t : Int) (K : D → Prop) : runS (En Try.f21) (fi Try.f21 K) (n21s c t) lv21 200 [.code []] ⟨argSlots 0 [c.d, I t], .empty⟩ =
  (c.chg.length ≤ lenM →
  c.vals.length ≤ lenM →
    bif (↑c.chg.length : Int) != (↑c.vals.length : Int) then True ∧ True ∧ K (.tup [.agg [I 0, I 0, .list 0 0 (fun _ => D.junk) .full, .list 0 0 (fun _ => D.junk) .full, .list 0 0 (fun _ => D.junk) .full], .agg [I 0, I 0, .list 0 0 (fun _ => D.junk) .full, .list 0 0 (fun _ => D.junk) .full, .list 0 0 (fun _ => D.junk) .full], I 1])
    else
      bif bif decide (t ≤ c.frm) then true else decide (t ≥ c.to) then True ∧ True ∧ K (.tup [.agg [I 0, I 0, .list 0 0 (fun _ => D.junk) .full, .list 0 0 (fun _ => D.junk) .full, .list 0 0 (fun _ => D.junk) .full], .agg [I 0, I 0, .list 0 0 (fun _ => D.junk) .full, .list 0 0 (fun _ => D.junk) .full, .list 0 0 (fun _ => D.junk) .full], I 2])
      else (0 + c.vals.length) * 16 ≤ roomM ∧ PureW PP 37 [.agg [I c.frm, I c.to, L c.vals 1 .str, L c.chg 1 fun l => L l 2 Cg.d, L c.gaps 2 Gp.d], I c.frm, I t, .list (0 + c.vals.length) 1 (catG 0 (litG []) fun i => .str (c.vals.getD i default)) (.tok 0 1)] [c.d, I c.frm, I t, L ([] ++ c.vals) 1 .str] (partD c c.frm t ([] ++ c.vals)) ∧ True ∧ PureW PP 38 [c.d, I t] [c.d, I t] (L (valsAt c t) 1 .str) ∧ PureW PP 37 [c.d, I t, I c.to, L (valsAt c t) 1 .str] [c.d, I t, I c.to, L (valsAt c t) 1 .str] (partD c t c.to (valsAt c t)) ∧ True ∧ At (En Try.f21) (fi Try.f21 K) [It.code [1, 1, 1, 1, 1, 0, 1, 0], It.blk 0, It.code [1, 1, 1, 1, 1, 1]] { sl := [(1, I t), (2, .own [I c.frm, I c.to, L c.vals 1 .str, L c.chg 1 fun l => L l 2 Cg.d, L c.gaps 2 Gp.d]), (4, .own [I 0, I 0, .list 0 0 (fun _ => D.junk) .full, .list 0 0 (fun _ => D.junk) .full, .list 0 0 (fun _ => D.junk) .full]), (5, .own [I 0, I 0, .list 0 0 (fun _ => D.junk) .full, .list 0 0 (fun _ => D.junk) .full, .list 0 0 (fun _ => D.junk) .full]), (7, .own [I c.frm, I t, L ([] ++ c.vals) 1 .str, L (List.map (cut c.frm t) c.chg) 1 fun l => L l 2 Cg.d, .list 0 0 (fun _ => D.junk) .full]), (8, .own [I t, I c.to, L (valsAt c t) 1 .str, L (List.map (cut t c.to) c.chg) 1 fun l => L l 2 Cg.d, .list 0 0 (fun _ => D.junk) .full]), (9, I 0)], h := { box := fun _ => none, nl := 0, hw := upd (fun _ => none) 0 (some (0 + c.vals.length)), nt := 0 + 1, vw := fun _ => none : Heap } : St }) := by kernel_rfl
def hAB1 (n m : Nat) : Heap := ⟨fun _ => none, 0, upd (upd (fun _ => none) 1 (some n)) 2 (some m), 3, fun _ => none⟩
def S21 (c : Chk) (t : Int) (a b : List Gp) (i : Int) : St := ⟨[(1, I t), (2, .own (cell4 c.frm c.to c.vals c.chg (L c.gaps 2 Gp.d))), (4, .own z5), (5, .own z5), (7, .own (cell4 c.frm t c.vals (c.chg.map (cut c.frm t)) (LT a 2 Gp.d 1))), (8, .own (cell4 t c.to (valsAt c t) (c.chg.map (cut t c.to)) (LT b 2 Gp.d 2))), (9, I i)], hAB1 a.length b.length⟩
noncomputable def n21as  : List Nat → Nat → Option Ans := scrAt []
theorem n21a (c : Chk) (t : Int) (a b : List Gp) (i : Int) (J : St → Prop) (K : D → Prop) : runS (En Try.f21) (fi Try.f21 K) (n21as ) lv21 200 [.code [1, 1, 1, 1, 1, 0, 1, 0, 0], stp [1, 2, 4, 5, 7, 8, 9] J, .blk 0, .code [1, 1, 1, 1, 1, 1]] (S21 c t a b i) =
  (c.gaps.length ≤ lenM →
  bif decide (i < (↑c.gaps.length : Int)) then
    (0 ≤ i ∧ i < (↑c.gaps.length : Int)) ∧
      True ∧
        bif decide ((c.gaps.getD i.toNat default).frm < if addI .i64 t 1 < (c.gaps.getD i.toNat default).to then addI .i64 t 1 else (c.gaps.getD i.toNat default).to) then
          (upd (upd (fun _ => none) 1 (some a.length)) 2 (some b.length) 1 = some a.length ∧ (a.length + 1) * 16 ≤ roomM) ∧
            True ∧
              bif decide ((if addI .i64 t 1 > (c.gaps.getD i.toNat default).frm then addI .i64 t 1 else (c.gaps.getD i.toNat default).frm) < (c.gaps.getD i.toNat default).to) then (upd (upd (upd (fun _ => none) 1 (some a.length)) 2 (some b.length)) 1 (some (a.length + 1)) 2 = some b.length ∧ (b.length + 1) * 16 ≤ roomM) ∧ True ∧ J { sl := [(1, I t), (2, .own [I c.frm, I c.to, L c.vals 1 .str, L c.chg 1 fun l => L l 2 Cg.d, L c.gaps 2 Gp.d]), (4, .own [I 0, I 0, .list 0 0 (fun _ => D.junk) .full, .list 0 0 (fun _ => D.junk) .full, .list 0 0 (fun _ => D.junk) .full]), (5, .own [I 0, I 0, .list 0 0 (fun _ => D.junk) .full, .list 0 0 (fun _ => D.junk) .full, .list 0 0 (fun _ => D.junk) .full]), (7, .own [I c.frm, I t, L c.vals 1 .str, L (List.map (cut c.frm t) c.chg) 1 fun l => L l 2 Cg.d, .list (a.length + 1) 2 (catG a.length (fun i => (a.getD i default).d) (litG [.agg [I (c.gaps.getD i.toNat default).frm, I (if addI .i64 t 1 < (c.gaps.getD i.toNat default).to then addI .i64 t 1 else (c.gaps.getD i.toNat default).to)]])) (.tok 1 2)]), (8, .own [I t, I c.to, L (valsAt c t) 1 .str, L (List.map (cut t c.to) c.chg) 1 fun l => L l 2 Cg.d, .list (b.length + 1) 2 (catG b.length (fun i => (b.getD i default).d) (litG [.agg [I (if addI .i64 t 1 > (c.gaps.getD i.toNat default).frm then addI .i64 t 1 else (c.gaps.getD i.toNat default).frm), I (c.gaps.getD i.toNat default).to]])) (.tok 2 2)]), (9, I (addI .i64 i 1))], h := { box := fun _ => none, nl := 0, hw := upd (upd (upd (upd (fun _ => none) 1 (some a.length)) 2 (some b.length)) 1 (some (a.length + 1))) 2 (some (b.length + 1)), nt := 3, vw := fun _ => none : Heap } : St }
              else J { sl := [(1, I t), (2, .own [I c.frm, I c.to, L c.vals 1 .str, L c.chg 1 fun l => L l 2 Cg.d, L c.gaps 2 Gp.d]), (4, .own [I 0, I 0, .list 0 0 (fun _ => D.junk) .full, .list 0 0 (fun _ => D.junk) .full, .list 0 0 (fun _ => D.junk) .full]), (5, .own [I 0, I 0, .list 0 0 (fun _ => D.junk) .full, .list 0 0 (fun _ => D.junk) .full, .list 0 0 (fun _ => D.junk) .full]), (7, .own [I c.frm, I t, L c.vals 1 .str, L (List.map (cut c.frm t) c.chg) 1 fun l => L l 2 Cg.d, .list (a.length + 1) 2 (catG a.length (fun i => (a.getD i default).d) (litG [.agg [I (c.gaps.getD i.toNat default).frm, I (if addI .i64 t 1 < (c.gaps.getD i.toNat default).to then addI .i64 t 1 else (c.gaps.getD i.toNat default).to)]])) (.tok 1 2)]), (8, .own [I t, I c.to, L (valsAt c t) 1 .str, L (List.map (cut t c.to) c.chg) 1 fun l => L l 2 Cg.d, .list b.length 2 (fun i => (b.getD i default).d) (.tok 2 2)]), (9, I (addI .i64 i 1))], h := { box := fun _ => none, nl := 0, hw := upd (upd (upd (fun _ => none) 1 (some a.length)) 2 (some b.length)) 1 (some (a.length + 1)), nt := 3, vw := fun _ => none : Heap } : St }
        else
          bif decide ((if addI .i64 t 1 > (c.gaps.getD i.toNat default).frm then addI .i64 t 1 else (c.gaps.getD i.toNat default).frm) < (c.gaps.getD i.toNat default).to) then (upd (upd (fun _ => none) 1 (some a.length)) 2 (some b.length) 2 = some b.length ∧ (b.length + 1) * 16 ≤ roomM) ∧ True ∧ J { sl := [(1, I t), (2, .own [I c.frm, I c.to, L c.vals 1 .str, L c.chg 1 fun l => L l 2 Cg.d, L c.gaps 2 Gp.d]), (4, .own [I 0, I 0, .list 0 0 (fun _ => D.junk) .full, .list 0 0 (fun _ => D.junk) .full, .list 0 0 (fun _ => D.junk) .full]), (5, .own [I 0, I 0, .list 0 0 (fun _ => D.junk) .full, .list 0 0 (fun _ => D.junk) .full, .list 0 0 (fun _ => D.junk) .full]), (7, .own [I c.frm, I t, L c.vals 1 .str, L (List.map (cut c.frm t) c.chg) 1 fun l => L l 2 Cg.d, .list a.length 2 (fun i => (a.getD i default).d) (.tok 1 2)]), (8, .own [I t, I c.to, L (valsAt c t) 1 .str, L (List.map (cut t c.to) c.chg) 1 fun l => L l 2 Cg.d, .list (b.length + 1) 2 (catG b.length (fun i => (b.getD i default).d) (litG [.agg [I (if addI .i64 t 1 > (c.gaps.getD i.toNat default).frm then addI .i64 t 1 else (c.gaps.getD i.toNat default).frm), I (c.gaps.getD i.toNat default).to]])) (.tok 2 2)]), (9, I (addI .i64 i 1))], h := { box := fun _ => none, nl := 0, hw := upd (upd (upd (fun _ => none) 1 (some a.length)) 2 (some b.length)) 2 (some (b.length + 1)), nt := 3, vw := fun _ => none : Heap } : St }
          else J { sl := [(1, I t), (2, .own [I c.frm, I c.to, L c.vals 1 .str, L c.chg 1 fun l => L l 2 Cg.d, L c.gaps 2 Gp.d]), (4, .own [I 0, I 0, .list 0 0 (fun _ => D.junk) .full, .list 0 0 (fun _ => D.junk) .full, .list 0 0 (fun _ => D.junk) .full]), (5, .own [I 0, I 0, .list 0 0 (fun _ => D.junk) .full, .list 0 0 (fun _ => D.junk) .full, .list 0 0 (fun _ => D.junk) .full]), (7, .own [I c.frm, I t, L c.vals 1 .str, L (List.map (cut c.frm t) c.chg) 1 fun l => L l 2 Cg.d, .list a.length 2 (fun i => (a.getD i default).d) (.tok 1 2)]), (8, .own [I t, I c.to, L (valsAt c t) 1 .str, L (List.map (cut t c.to) c.chg) 1 fun l => L l 2 Cg.d, .list b.length 2 (fun i => (b.getD i default).d) (.tok 2 2)]), (9, I (addI .i64 i 1))], h := { box := fun _ => none, nl := 0, hw := upd (upd (fun _ => none) 1 (some a.length)) 2 (some b.length), nt := 3, vw := fun _ => none : Heap } : St }
  else True ∧ True ∧ K (.tup [.agg [I c.frm, I t, L c.vals 1 .str, L (List.map (cut c.frm t) c.chg) 1 fun l => L l 2 Cg.d, .list a.length 2 (fun i => (a.getD i default).d) (.tok 1 2)], .agg [I t, I c.to, L (valsAt c t) 1 .str, L (List.map (cut t c.to) c.chg) 1 fun l => L l 2 Cg.d, .list b.length 2 (fun i => (b.getD i default).d) (.tok 2 2)], I 0])) := by kernel_rfl
def mn (a b : Int) : Int := if a < b then a else b
def mx (a b : Int) : Int := if a > b then a else b
def gL (t : Int) (g : Gp) : List Gp := if decide (g.frm < mn (addI .i64 t 1) g.to) = true then [⟨g.frm, mn (addI .i64 t 1) g.to⟩] else []
def gR (t : Int) (g : Gp) : List Gp := if decide (mx (addI .i64 t 1) g.frm < g.to) = true then [⟨mx (addI .i64 t 1) g.frm, g.to⟩] else []
def gapsL (t : Int) (l : List Gp) : List Gp := l.flatMap (gL t)
def gapsR (t : Int) (l : List Gp) : List Gp := l.flatMap (gR t)
theorem gL_len (t : Int) (g : Gp) : (gL t g).length ≤ 1 := by unfold gL; split <;> simp
theorem gR_len (t : Int) (g : Gp) : (gR t g).length ≤ 1 := by unfold gR; split <;> simp
theorem fm_len {α β : Type} (q : α → List β) (h : ∀ x, (q x).length ≤ 1) : ∀ l : List α, (l.flatMap q).length ≤ l.length
  | [] => by simp
  | x :: r => by have := h x; have := fm_len q h r; simp only [List.flatMap_cons, List.length_append, List.length_cons]; omega
theorem fm_take {α β : Type} [Inhabited α] (q : α → List β) (l : List α) (i : Nat) (h : i < l.length) : (l.take (i + 1)).flatMap q = (l.take i).flatMap q ++ q (l.getD i default) := by
  rw [take_snoc _ _ h]; simp
def split (c : Chk) (t : Int) : Chk × Chk × Int :=
  bif (↑c.chg.length : Int) != (↑c.vals.length : Int) then (default, default, 1)
  else bif bif decide (t ≤ c.frm) then true else decide (t ≥ c.to) then (default, default, 2)
  else (⟨c.frm, t, c.vals, c.chg.map (cut c.frm t), gapsL t c.gaps⟩, ⟨t, c.to, valsAt c t, c.chg.map (cut t c.to), gapsR t c.gaps⟩, 0)
def splitD (x : Chk × Chk × Int) : D := .tup [x.1.d, x.2.1.d, I x.2.2]
instance {x : Chk × Chk × Int} : DD (splitD x) := inferInstanceAs (DD (.tup _))
theorem wkZ5 : Wk (.agg z5) (default : Chk).d := Wk.agg (Wks.cons (Wk.refl _) (Wks.cons (Wk.refl _) (Wks.cons Wk.nilL (Wks.cons Wk.nilL (Wks.cons Wk.nilL Wks.nil)))))
theorem updA {α : Type} {f : Nat → α} {a b c : α} : upd (upd (upd f 0 a) 1 b) 0 c = upd (upd f 0 c) 1 b := funext fun i => by
  unfold upd
  cases h0 : Nat.beq i 0 <;> cases h1 : Nat.beq i 1 <;> first | rfl | (have h2 := beq_eq.1 h0; have h3 := beq_eq.1 h1; omega)
theorem updB {α : Type} {f : Nat → α} {a b c : α} : upd (upd (upd f 1 a) 2 b) 1 c = upd (upd f 1 c) 2 b := funext fun i => by
  unfold upd
  cases h0 : Nat.beq i 1 <;> cases h1 : Nat.beq i 2 <;> first | rfl | (have h2 := beq_eq.1 h0; have h3 := beq_eq.1 h1; omega)
theorem drop0 {f : Nat → Option Row} {nl nt : Nat} {a b c : Option Nat} {vw : Nat → Option (Nat → D)} : HeapLe ⟨f, nl, upd (upd (upd (fun _ => none) 0 a) 1 b) 2 c, nt, vw⟩ ⟨f, nl, upd (upd (fun _ => none) 1 b) 2 c, nt, vw⟩ := by
  refine ⟨fun l row' e => (HeapLe.refl _).box l row' e, Nat.le_refl _, fun t n e => ?_, Nat.le_refl _, fun _ _ _ => VwLe.refl _ _, fun _ h => h⟩
  have e' : upd (upd (fun _ => none) 1 b) 2 c t = some n := e
  show upd (upd (upd (fun _ => none) 0 a) 1 b) 2 c t = some n
  unfold upd at e' ⊢
  cases h2 : Nat.beq t 2 <;> cases h1 : Nat.beq t 1 <;> simp [h2, h1] at e' ⊢ <;> exact e'
theorem wkEnd {a : List Gp} {t : Nat} {x y : Int} {vs : List Str} {ch : List (List Cg)} : Wk (.agg [I x, I y, L vs 1 .str, L ch 1 (fun l => L l 2 Cg.d), .list a.length 2 (fun i => Gp.d (a.getD i default)) (.tok t 2)]) (Chk.d ⟨x, y, vs, ch, a⟩) :=
  Wk.agg (Wks.cons (Wk.refl _) (Wks.cons (Wk.refl _) (Wks.cons (Wk.refl _) (Wks.cons (Wk.refl _) (Wks.cons Wk.tokL Wks.nil)))))
theorem wkCell {f t : Int} {vs : List Str} {ch : List (List Cg)} {g g' : D} (h : Wk g g') : Wks (cell4 f t vs ch g) (cell4 f t vs ch g') :=
  Wks.cons (Wk.refl _) (Wks.cons (Wk.refl _) (Wks.cons (Wk.refl _) (Wks.cons (Wk.refl _) (Wks.cons h Wks.nil))))

theorem c20 (c : Chk) (t : Int) (hs : SmallC c) : Pure PP 20 [c.d, I t] (splitD (split c t)) := by
  refine pu F20 (by kernel_rfl) (of_eq (n20 c t _) fun _ _ => cond_intro (fun h1 => ⟨trivial, trivial, ?_⟩) fun h1 => cond_intro (fun h2 => ⟨trivial, trivial, ?_⟩) fun h2 => ?_)
  · simp only [split, h1, cond_true]; exact Wk.tup (Wks.cons wkZ5 (Wks.cons wkZ5 (Wks.refl _)))
  · simp only [split, h1, h2, cond_true, cond_false]; exact Wk.tup (Wks.cons wkZ5 (Wks.cons wkZ5 (Wks.refl _)))
  simp only [split, h1, h2, cond_false]
  have hlen : c.chg.length = c.vals.length := by simp at h1; omega
  have hsm := hs
  obtain ⟨hs1, hs2, hs3, hs4⟩ := hs
  refine at_le (st' := R20 c t) ?_ ((StLe.layOwn 2 rfl rfl).cast (by kernel_rfl))
  refine runS_sound hmix 200 _ _ (of_eq (n20r c t _) ⟨PureW.mk (c35 _ (by omega)), PureW.mk (c34 c _ _ _ hsm), PureW.mk (c36 c t hlen (by omega)), PureW.mk (c34 c _ _ _ hsm), trivial, trivial, fun hg => ?_⟩)
  refine at_le (st' := S20 c t (gapsL t (c.gaps.take 0)) (gapsR t (c.gaps.take 0)) (0 : Nat)) ?_ (((StLe.idleOwn _ none 8 4 2 (fun i => Gp.d (([] : List Gp).getD i default)) rfl rfl).trans (StLe.idleOwn _ none 9 4 2 (fun i => Gp.d (([] : List Gp).getD i default)) rfl rfl)).cast (by kernel_rfl))
  refine lp (fn := Try.f20) (fun i : Nat => i ≤ c.gaps.length) (fun i => S20 c t (gapsL t (c.gaps.take i)) (gapsR t (c.gaps.take i)) i) (fun i => c.gaps.length - i) [1, 4, 5, 8, 9, 53, 54, 55] (by kernel_rfl) (fun i hi => of_eq (n20a c t _ _ i _ _) ((cond_intro (fun hlt => ?_) fun hge => ?_))) 0 (Nat.zero_le _)
  · have hlt := ltI hlt
    rw [add1 hlt hg, Int.toNat_natCast]
    have hL := fm_take (gL t) c.gaps i hlt
    have hR := fm_take (gR t) c.gaps i hlt
    have hLl := fm_len (gL t) (gL_len t) (c.gaps.take i)
    have hRl := fm_len (gR t) (gR_len t) (c.gaps.take i)
    have hti : (c.gaps.take i).length ≤ i := by simp; omega
    unfold gapsL gapsR
    generalize (c.gaps.take i).flatMap (gL t) = a at hL hLl ⊢
    generalize (c.gaps.take i).flatMap (gR t) = b at hR hRl ⊢
    generalize c.gaps.getD i default = g at hL hR ⊢
    have nod : ∀ {q : List Nat}, q = [1, 4, 5, 8, 9, 53, 54, 55] → q.Nodup := fun h => by subst h; decide
    refine ⟨⟨by omega, by omega⟩, trivial, trivial, cond_intro (fun hA => ⟨⟨by rw [upd_other _ _ (by decide), upd_same], by unfold roomM; omega⟩, trivial, trivial, cond_intro (fun hB => ⟨⟨by rw [upd_other _ _ (by decide), upd_same], by unfold roomM; omega⟩, trivial, ?_⟩) fun hB => ?_⟩) fun hA => ⟨trivial, cond_intro (fun hB => ⟨⟨upd_same _ _ _, by unfold roomM; omega⟩, trivial, ?_⟩) fun hB => ?_⟩⟩
    · have hA : decide (g.frm < mn (addI .i64 t 1) g.to) = true := hA
      have hB : decide (mx (addI .i64 t 1) g.frm < g.to) = true := hB
      rw [gL, if_pos hA] at hL
      rw [gR, if_pos hB] at hR
      refine Nx.of (i + 1) (by omega) (by omega) ?_
      unfold S20
      rw [hL, hR]
      exact (StLe.setOwn (nod rfl) 8 rfl (wkCell (Wk.snoc (x := (⟨g.frm, mn (addI .i64 t 1) g.to⟩ : Gp))))).trans ((StLe.setOwn (nod rfl) 9 rfl (wkCell (Wk.snoc (x := (⟨mx (addI .i64 t 1) g.frm, g.to⟩ : Gp))))).trans (StLe.heap (by simp [hAB, updA, upd_upd])))
    · have hA : decide (g.frm < mn (addI .i64 t 1) g.to) = true := hA
      have hB : ¬ decide (mx (addI .i64 t 1) g.frm < g.to) = true := Bool.eq_false_iff.1 hB
      rw [gL, if_pos hA] at hL
      rw [gR, if_neg hB, List.append_nil] at hR
      refine Nx.of (i + 1) (by omega) (by omega) ?_
      unfold S20
      rw [hL, hR]
      exact (StLe.setOwn (nod rfl) 8 rfl (wkCell (Wk.snoc (x := (⟨g.frm, mn (addI .i64 t 1) g.to⟩ : Gp))))).trans (StLe.heap (by simp [hAB, updA, upd_upd]))
    · have hA : ¬ decide (g.frm < mn (addI .i64 t 1) g.to) = true := Bool.eq_false_iff.1 hA
      have hB : decide (mx (addI .i64 t 1) g.frm < g.to) = true := hB
      rw [gL, if_neg hA, List.append_nil] at hL
      rw [gR, if_pos hB] at hR
      refine Nx.of (i + 1) (by omega) (by omega) ?_
      unfold S20
      rw [hL, hR]
      exact (StLe.setOwn (nod rfl) 9 rfl (wkCell (Wk.snoc (x := (⟨mx (addI .i64 t 1) g.frm, g.to⟩ : Gp))))).trans (StLe.heap (by simp [hAB, updA, upd_upd]))
    · have hA : ¬ decide (g.frm < mn (addI .i64 t 1) g.to) = true := Bool.eq_false_iff.1 hA
      have hB : ¬ decide (mx (addI .i64 t 1) g.frm < g.to) = true := Bool.eq_false_iff.1 hB
      rw [gL, if_neg hA, List.append_nil] at hL
      rw [gR, if_neg hB, List.append_nil] at hR
      refine Nx.of (i + 1) (by omega) (by omega) ?_
      unfold S20
      rw [hL, hR]
      exact StLe.refl _ _
  · have := geI hge
    rw [List.take_of_length_le this]
    exact ⟨trivial, trivial, Wk.tup (Wks.cons wkEnd (Wks.cons wkEnd (Wks.refl _)))⟩
theorem c21 (c : Chk) (t : Int) (hs : SmallC c) : Pure PP 21 [c.d, I t] (splitD (split c t)) := by
  refine pu F21 (by kernel_rfl) (of_eq (n21 c t _) fun _ _ => cond_intro (fun h1 => ⟨trivial, trivial, ?_⟩) fun h1 => cond_intro (fun h2 => ⟨trivial, trivial, ?_⟩) fun h2 => ?_)
  · simp only [split, h1, cond_true]; exact Wk.tup (Wks.cons wkZ5 (Wks.cons wkZ5 (Wks.refl _)))
  · simp only [split, h1, h2, cond_true, cond_false]; exact Wk.tup (Wks.cons wkZ5 (Wks.cons wkZ5 (Wks.refl _)))
  simp only [split, h1, h2, cond_false]
  have hlen : c.chg.length = c.vals.length := by simp at h1; omega
  have hsm := hs
  obtain ⟨hs1, hs2, hs3, hs4⟩ := hs
  have hg : c.gaps.length ≤ lenM := by unfold lenM; omega
  refine ⟨by unfold roomM; omega, pw (Wks.cons (Wk.refl _) (Wks.cons (Wk.refl _) (Wks.cons (Wk.refl _) (Wks.cons wkClone Wks.nil)))) (c37 c c.frm t c.vals hsm), trivial, PureW.mk (c38 c t hlen (by omega)), PureW.mk (c37 c _ _ _ hsm), trivial, ?_⟩
  refine at_le (st' := ⟨[(1, I t), (2, .own (cell4 c.frm c.to c.vals c.chg (L c.gaps 2 Gp.d))), (4, .own z5), (5, .own z5), (7, .own (cell4 c.frm t c.vals (c.chg.map (cut c.frm t)) (.list 0 0 (fun _ => .junk) .full))), (8, .own (cell4 t c.to (valsAt c t) (c.chg.map (cut t c.to)) (.list 0 0 (fun _ => .junk) .full))), (9, I 0)], ⟨fun _ => none, 0, upd (fun _ => none) 0 (some (0 + c.vals.length)), 0 + 1, fun _ => none⟩⟩) ?_ ((StLe.refl _ _).cast (by kernel_rfl))
  refine at_le (st' := S21 c t (gapsL t (c.gaps.take 0)) (gapsR t (c.gaps.take 0)) (0 : Nat)) ?_ (((StLe.idleOwn _ none 7 4 2 (fun i => Gp.d (([] : List Gp).getD i default)) rfl rfl).trans (StLe.idleOwn _ none 8 4 2 (fun i => Gp.d (([] : List Gp).getD i default)) rfl rfl))|>.trans ((StLe.heapLe drop0).cast (by kernel_rfl)))
  refine lp (fn := Try.f21) (fun i : Nat => i ≤ c.gaps.length) (fun i => S21 c t (gapsL t (c.gaps.take i)) (gapsR t (c.gaps.take i)) i) (fun i => c.gaps.length - i) [1, 2, 4, 5, 7, 8, 9] (by kernel_rfl) (fun i hi => of_eq (n21a c t _ _ i _ _) (fun _ => (cond_intro (fun hlt => ?_) fun hge => ?_))) 0 (Nat.zero_le _)
  · have hlt := ltI hlt
    rw [add1 hlt hg, Int.toNat_natCast]
    have hL := fm_take (gL t) c.gaps i hlt
    have hR := fm_take (gR t) c.gaps i hlt
    have hLl := fm_len (gL t) (gL_len t) (c.gaps.take i)
    have hRl := fm_len (gR t) (gR_len t) (c.gaps.take i)
    have hti : (c.gaps.take i).length ≤ i := by simp; omega
    unfold gapsL gapsR
    generalize (c.gaps.take i).flatMap (gL t) = a at hL hLl ⊢
    generalize (c.gaps.take i).flatMap (gR t) = b at hR hRl ⊢
    generalize c.gaps.getD i default = g at hL hR ⊢
    have nod : ∀ {q : List Nat}, q = [1, 2, 4, 5, 7, 8, 9] → q.Nodup := fun h => by subst h; decide
    refine ⟨⟨by omega, by omega⟩, trivial, cond_intro (fun hA => ⟨⟨by rw [upd_other _ _ (by decide), upd_same], by unfold roomM; omega⟩, trivial, cond_intro (fun hB => ⟨⟨by rw [upd_other _ _ (by decide), upd_same], by unfold roomM; omega⟩, trivial, ?_⟩) fun hB => ?_⟩) fun hA => cond_intro (fun hB => ⟨⟨upd_same _ _ _, by unfold roomM; omega⟩, trivial, ?_⟩) fun hB => ?_⟩
    · have hA : decide (g.frm < mn (addI .i64 t 1) g.to) = true := hA
      have hB : decide (mx (addI .i64 t 1) g.frm < g.to) = true := hB
      rw [gL, if_pos hA] at hL
      rw [gR, if_pos hB] at hR
      refine Nx.of (i + 1) (by omega) (by omega) ?_
      unfold S21
      rw [hL, hR]
      exact (StLe.setOwn (nod rfl) 7 rfl (wkCell (Wk.snoc (x := (⟨g.frm, mn (addI .i64 t 1) g.to⟩ : Gp))))).trans ((StLe.setOwn (nod rfl) 8 rfl (wkCell (Wk.snoc (x := (⟨mx (addI .i64 t 1) g.frm, g.to⟩ : Gp))))).trans (StLe.heap (by simp [hAB1, updB, upd_upd])))
    · have hA : decide (g.frm < mn (addI .i64 t 1) g.to) = true := hA
      have hB : ¬ decide (mx (addI .i64 t 1) g.frm < g.to) = true := Bool.eq_false_iff.1 hB
      rw [gL, if_pos hA] at hL
      rw [gR, if_neg hB, List.append_nil] at hR
      refine Nx.of (i + 1) (by omega) (by omega) ?_
      unfold S21
      rw [hL, hR]
      exact (StLe.setOwn (nod rfl) 7 rfl (wkCell (Wk.snoc (x := (⟨g.frm, mn (addI .i64 t 1) g.to⟩ : Gp))))).trans (StLe.heap (by simp [hAB1, updB, upd_upd]))
    · have hA : ¬ decide (g.frm < mn (addI .i64 t 1) g.to) = true := Bool.eq_false_iff.1 hA
      have hB : decide (mx (addI .i64 t 1) g.frm < g.to) = true := hB
      rw [gL, if_neg hA, List.append_nil] at hL
      rw [gR, if_pos hB] at hR
      refine Nx.of (i + 1) (by omega) (by omega) ?_
      unfold S21
      rw [hL, hR]
      exact (StLe.setOwn (nod rfl) 8 rfl (wkCell (Wk.snoc (x := (⟨mx (addI .i64 t 1) g.frm, g.to⟩ : Gp))))).trans (StLe.heap (by simp [hAB1, updB, upd_upd]))
    · have hA : ¬ decide (g.frm < mn (addI .i64 t 1) g.to) = true := Bool.eq_false_iff.1 hA
      have hB : ¬ decide (mx (addI .i64 t 1) g.frm < g.to) = true := Bool.eq_false_iff.1 hB
      rw [gL, if_neg hA, List.append_nil] at hL
      rw [gR, if_neg hB, List.append_nil] at hR
      refine Nx.of (i + 1) (by omega) (by omega) ?_
      unfold S21
      rw [hL, hR]
      exact StLe.refl _ _
  · have := geI hge
    rw [List.take_of_length_le this]
    exact ⟨trivial, trivial, Wk.tup (Wks.cons wkEnd (Wks.cons wkEnd (Wks.refl _)))⟩
end Go.Proofs.Ytmlhaikblfjghaa.S1
/- Seat 1: the reference's plans of groups; the laws on plans. -/
namespace Go.Proofs.Ytmlhaikblfjghaa.S1
open Go Go.Ab Go.Proofs
def cplan (d : Dir) (m : Int) : List Rg := bif bif bif !dirOk d then true else decide (m < 1) then true else decide (m > 16384) then [] else groups d m
theorem F24 : OkF 24 Try.f24 := ⟨by kernel_rfl, by kernel_rfl, by kernel_rfl⟩
def lv24 : List (List Nat × List Nat) := []
noncomputable def n24s (d : Dir) (m : Int) : List Nat → Nat → Option Ans := scrAt [([1, 0, 0], 1, Ans.pure [d.d] (B (dirOk d))), ([1, 1, 0], 2, Ans.pure [d.d, I m] (L (groups d m) 2 Rg.d))]
theorem n24 (d : Dir) (m : Int) (K : D → Prop) : runS (En Try.f24) (fi Try.f24 K) (n24s d m) lv24 200 [.code []] ⟨argSlots 0 [d.d, I m], .empty⟩ =
  (PureW PP 27 [d.d] [d.d] (B (dirOk d)) ∧ bif bif bif !dirOk d then true else decide (m < 1) then true else decide (m > 16384) then K (.list 0 0 (fun _ => D.junk) .full) else PureW PP 42 [d.d, I m] [d.d, I m] (L (groups d m) 2 Rg.d) ∧ K (L (groups d m) 2 Rg.d)) := by kernel_rfl
theorem dirOk_of {d : Dir} {m : Int} (h : (bif bif !dirOk d then true else decide (m < 1) then true else decide (m > 16384)) = false) : d.blk.length ≤ 1000 := by
  have : dirOk d = true := by cases h1 : dirOk d <;> simp_all
  have := dirOk_len this; omega
theorem c24 (d : Dir) (m : Int) : Pure PP 24 [d.d, I m] (L (cplan d m) 2 Rg.d) := by
  refine pu F24 (by kernel_rfl) (of_eq (n24 d m _) ⟨PureW.mk (c27 _), cond_intro (fun h => ?_) fun h => ⟨PureW.mk (c42 d m (dirOk_of h)), ?_⟩⟩)
  · simp only [cplan, h, cond_true]; exact Wk.nilL
  · simp only [cplan, h, cond_false]; exact Wk.refl _
theorem F25 : OkF 25 Try.f25 := ⟨by kernel_rfl, by kernel_rfl, by kernel_rfl⟩
def lv25 : List (List Nat × List Nat) := [([1, 1, 1, 0, 1, 0], [1, 2, 5, 6]), ([1, 1, 1, 0, 1, 0, 0, 1, 0, 1, 0, 0], [1, 2, 5, 6, 7, 8])]
noncomputable def n25s (d : Dir) : List Nat → Nat → Option Ans := scrAt [([1, 1, 0, 0], 1, Ans.pure [d.d] (B (dirOk d)))]
theorem n25 (d : Dir) (m : Int) (K : D → Prop) : runS (En Try.f25) (fi Try.f25 K) (n25s d) lv25 200 [.code []] ⟨argSlots 0 [d.d, I m], .empty⟩ =
  (PureW PP 30 [d.d] [d.d] (B (dirOk d)) ∧ bif bif bif !dirOk d then true else decide (m < 1) then true else decide (m > 16384) then K (.list 0 2 (litG []) .full) else At (En Try.f25) (fi Try.f25 K) [It.code [1, 1, 1, 0, 1, 0], It.blk 0, It.code [1, 1, 1, 1]] { sl := [(1, I m), (2, .own [I d.hdr.sec, I d.hdr.len, I d.hdr.sum, L d.blk 7 Ent.d]), (5, .list 0 2 (litG []) .full), (6, I 0)], h := Heap.empty : St }) := by kernel_rfl
def S25 (d : Dir) (m : Int) (out : List Rg) (i : Int) : St := ⟨[(1, I m), (2, .own [I d.hdr.sec, I d.hdr.len, I d.hdr.sum, L d.blk 7 Ent.d]), (5, LT out 2 Rg.d 0), (6, I i)], hT .empty out.length⟩
noncomputable def n25as  : List Nat → Nat → Option Ans := scrAt []
theorem n25a (d : Dir) (m : Int) (out : List Rg) (i : Int) (J : St → Prop) (K : D → Prop) : runS (En Try.f25) (fi Try.f25 K) (n25as ) lv25 200 [.code [1, 1, 1, 0, 1, 0, 0], stp [1, 2, 5, 6] J, .blk 0, .code [1, 1, 1, 1]] (S25 d m out i) =
  (d.blk.length ≤ lenM → bif decide (i < (↑d.blk.length : Int)) then At (En Try.f25) (fi Try.f25 K) [It.code [1, 1, 1, 0, 1, 0, 0, 1, 0, 1, 0, 0], It.blk 2, It.code [1, 1, 1, 0, 1, 0, 0, 1, 0, 1, 1], It.blk 1, stp [1, 2, 5, 6] J, It.blk 0, It.code [1, 1, 1, 1]] { sl := [(1, I m), (2, .own [I d.hdr.sec, I d.hdr.len, I d.hdr.sum, L d.blk 7 Ent.d]), (5, .list out.length 2 (fun i => (out.getD i default).d) (.tok 0 2)), (6, I i), (7, I 0), (8, I 0)], h := { box := fun _ => none, nl := 0, hw := upd (fun _ => none) 0 (some out.length), nt := 1, vw := fun _ => none : Heap } : St } else K (.list out.length 2 (fun i => (out.getD i default).d) (.tok 0 2))) := by kernel_rfl
def T25 (d : Dir) (m : Int) (out : List Rg) (i n total : Int) : St := ⟨[(1, I m), (2, .own [I d.hdr.sec, I d.hdr.len, I d.hdr.sum, L d.blk 7 Ent.d]), (5, LT out 2 Rg.d 0), (6, I i), (7, I n), (8, I total)], hT .empty out.length⟩
noncomputable def n25bs  : List Nat → Nat → Option Ans := scrAt []
theorem n25b (d : Dir) (m : Int) (out : List Rg) (i n total : Int) (J J2 : St → Prop) (K : D → Prop) : runS (En Try.f25) (fi Try.f25 K) (n25bs ) lv25 200 [.code [1, 1, 1, 0, 1, 0, 0, 1, 0, 1, 0, 0, 0], stp [1, 2, 5, 6, 7, 8] J, .blk 2, .code [1, 1, 1, 0, 1, 0, 0, 1, 0, 1, 1], .blk 1, stp [1, 2, 5, 6] J2, .blk 0, .code [1, 1, 1, 1]] (T25 d m out i n total) =
  (d.blk.length ≤ lenM →
  (decide (addI .i64 i n < (↑d.blk.length : Int)) = true → 0 ≤ addI .i64 i n ∧ addI .i64 i n < (↑d.blk.length : Int)) ∧
    (((bif decide (addI .i64 i n < (↑d.blk.length : Int)) then (d.blk.getD (addI .i64 i n).toNat default).lvl == 0 else false) && !n == 0) = true → 0 ≤ addI .i64 i n ∧ addI .i64 i n < (↑d.blk.length : Int)) ∧
      bif bif bif decide (addI .i64 i n < (↑d.blk.length : Int)) then (d.blk.getD (addI .i64 i n).toNat default).lvl == 0 else false then bif n == 0 then true else decide (addI .i64 total (d.blk.getD (addI .i64 i n).toNat default).plc.len ≤ m) else false then (0 ≤ addI .i64 i n ∧ addI .i64 i n < (↑d.blk.length : Int)) ∧ J { sl := [(1, I m), (2, .own [I d.hdr.sec, I d.hdr.len, I d.hdr.sum, L d.blk 7 Ent.d]), (5, .list out.length 2 (fun i => (out.getD i default).d) (.tok 0 2)), (6, I i), (7, I (addI .i64 n 1)), (8, I (addI .i64 total (d.blk.getD (addI .i64 i n).toNat default).plc.len))], h := { box := fun _ => none, nl := 0, hw := upd (fun _ => none) 0 (some out.length), nt := 1, vw := fun _ => none : Heap } : St }
      else bif decide (n ≥ 2) then (upd (fun _ => none) 0 (some out.length) 0 = some out.length ∧ (out.length + 1) * 16 ≤ roomM) ∧ J2 { sl := [(1, I m), (2, .own [I d.hdr.sec, I d.hdr.len, I d.hdr.sum, L d.blk 7 Ent.d]), (5, .list (out.length + 1) 2 (catG out.length (fun i => (out.getD i default).d) (litG [.agg [I i, I n]])) (.tok 0 2)), (6, I (addI .i64 i (if 1 > n then 1 else n)))], h := { box := fun _ => none, nl := 0, hw := upd (upd (fun _ => none) 0 (some out.length)) 0 (some (out.length + 1)), nt := 1, vw := fun _ => none : Heap } : St } else J2 { sl := [(1, I m), (2, .own [I d.hdr.sec, I d.hdr.len, I d.hdr.sum, L d.blk 7 Ent.d]), (5, .list out.length 2 (fun i => (out.getD i default).d) (.tok 0 2)), (6, I (addI .i64 i (if 1 > n then 1 else n)))], h := { box := fun _ => none, nl := 0, hw := upd (fun _ => none) 0 (some out.length), nt := 1, vw := fun _ => none : Heap } : St }) := by kernel_rfl

theorem c25 (d : Dir) (m : Int) : Pure PP 25 [d.d, I m] (L (cplan d m) 2 Rg.d) := by
  refine pu F25 (by kernel_rfl) (of_eq (n25 d m _) ⟨PureW.mk (c30' _), cond_intro (fun h => ?_) fun h => ?_⟩)
  · simp only [cplan, h, cond_true]; exact Wk.nilL
  simp only [cplan, h, cond_false]
  have hm := dirOk_of h
  clear h
  refine at_le (st' := S25 d m [] (0 : Nat)) ?_ (StLe.tok0 _ (α := Rg) (enc := Rg.d) 5 2 rfl)
  refine lp (fn := Try.f25) (fun x : Nat × List Rg × Nat => x.1 ≤ d.blk.length ∧ d.blk.length - x.1 < x.2.2 ∧ x.2.1.length ≤ x.1 ∧ groups d m = x.2.1 ++ grps m x.2.2 x.1 (d.blk.drop x.1)) (fun x => S25 d m x.2.1 x.1) (fun x => d.blk.length - x.1) [1, 2, 5, 6] (by kernel_rfl)
    (fun x hx => of_eq (n25a d m x.2.1 x.1 _ _) ?_) (0, [], d.blk.length + 1) ⟨Nat.zero_le _, by simp, by simp, rfl⟩
  obtain ⟨i, out, k⟩ := x
  obtain ⟨hi, hk, ho, hg⟩ := hx
  simp only at hi hk ho hg ⊢
  refine fun hl => cond_intro (fun hlt => ?_) fun hge => ?_
  · have hlt2 := ltI hlt
    refine lp (fn := Try.f25) (fun y : Nat × Int => i + y.1 ≤ d.blk.length ∧ runG m 0 0 (d.blk.drop i) = runG m y.1 y.2 (d.blk.drop (i + y.1))) (fun y => T25 d m out i y.1 y.2) (fun y => d.blk.length - i - y.1) [1, 2, 5, 6, 7, 8] (by kernel_rfl)
      (fun y hy => of_eq (n25b d m out i y.1 y.2 _ _ _) ?_) (0, 0) ⟨hi, rfl⟩
    obtain ⟨n, total⟩ := y
    obtain ⟨hn, hr⟩ := hy
    simp only at hn hr ⊢
    have ha : addI .i64 (i : Int) (n : Int) = ((i + n : Nat) : Int) := by rw [add64 (by omega) (by omega)]; rfl
    rw [ha, Int.toNat_natCast]
    refine fun _ => ⟨fun h => ⟨by omega, by simpa using h⟩, fun h => ?_, cond_intro (fun hc => ⟨?_, ?_⟩) fun hc => ?_⟩
    · have : i + n < d.blk.length := by
        rcases Nat.lt_or_ge (i + n) d.blk.length with h1 | h1
        · exact h1
        · have : decide (((i + n : Nat) : Int) < (d.blk.length : Int)) = false := by simp; omega
          rw [this] at h; simp at h
      exact ⟨by omega, by omega⟩
    · have : i + n < d.blk.length := by
        rcases Nat.lt_or_ge (i + n) d.blk.length with h1 | h1
        · exact h1
        · have : decide (((i + n : Nat) : Int) < (d.blk.length : Int)) = false := by simp; omega
          rw [this] at hc; simp at hc
      exact ⟨by omega, by omega⟩
    · have hin : i + n < d.blk.length := by
        rcases Nat.lt_or_ge (i + n) d.blk.length with h1 | h1
        · exact h1
        · have : decide (((i + n : Nat) : Int) < (d.blk.length : Int)) = false := by simp; omega
          rw [this] at hc; simp at hc
      have hd : decide (((i + n : Nat) : Int) < (d.blk.length : Int)) = true := by simp; omega
      rw [hd, cond_true] at hc
      rw [drop_cons _ _ hin] at hr
      have hn1 : addI .i64 (n : Int) 1 = ((n + 1 : Nat) : Int) := by rw [add64 (by omega) (by omega)]; rfl
      rw [hn1]
      refine Nx.mk (n + 1, addI .i64 total (d.blk.getD (i + n) default).plc.len) ⟨by simp only; omega, ?_⟩ (by simp only; omega)
      rw [hr]
      simp only [runG, hc, cond_true]
      rfl
    · have hrun : runG m 0 0 (d.blk.drop i) = n := by
        rw [hr]
        rcases Nat.lt_or_ge (i + n) d.blk.length with h1 | h1
        · have hd : decide (((i + n : Nat) : Int) < (d.blk.length : Int)) = true := by simp; omega
          rw [hd, cond_true] at hc
          rw [drop_cons _ _ h1]
          simp only [runG, hc, cond_false]
        · rw [List.drop_of_length_le h1]; rfl
      have hmx : addI .i64 (i : Int) (if 1 > (n : Int) then 1 else (n : Int)) = ((i + max n 1 : Nat) : Int) := by
        split <;> rw [add64 (by omega) (by omega)] <;> omega
      rw [hmx]
      obtain ⟨k', rfl⟩ : ∃ k', k = k' + 1 := ⟨k - 1, by omega⟩
      have hg' : groups d m = out ++ ((if 2 ≤ n then [⟨i, n⟩] else []) ++ grps m k' (i + max n 1) (d.blk.drop (i + max n 1))) := by
        rw [hg]
        have hcons := drop_cons _ _ hlt2
        rw [hcons] at hrun ⊢
        simp only [grps, hrun]
        rw [← hcons, List.drop_drop]
      refine cond_intro (fun h2 => ⟨⟨rfl, by unfold roomM; omega⟩, ?_⟩) fun h2 => ?_
      · have h2 : 2 ≤ n := by simp at h2; omega
        rw [if_pos h2, ← List.append_assoc] at hg'
        refine Nx.of (i + max n 1, out ++ [⟨i, n⟩], k') ⟨by simp only; omega, by simp only; omega, by simp; omega, hg'⟩ (by simp only; omega) ?_
        exact (StLe.set 5 rfl (Wk.snoc (x := (⟨i, n⟩ : Rg))) rfl rfl).trans (StLe.heap (by simp [hT, upd_upd, Heap.empty]))
      · have h2 : ¬ 2 ≤ n := by simp at h2; omega
        rw [if_neg h2, List.nil_append] at hg'
        exact Nx.mk (i + max n 1, out, k') ⟨by simp only; omega, by simp only; omega, by simp only; omega, hg'⟩ (by simp only; omega)
  · have := geI hge
    rw [List.drop_of_length_le this] at hg
    have : grps m k i [] = [] := by cases k <;> rfl
    rw [this, List.append_nil] at hg
    rw [hg]
    exact Wk.tokL

end Go.Proofs.Ytmlhaikblfjghaa.S1
/- Seat 1: joining; the examples. -/
namespace Go.Proofs.Ytmlhaikblfjghaa.S1
open Go Go.Ab Go.Proofs
theorem F49 : OkF 49 Try.f49 := ⟨by kernel_rfl, by kernel_rfl, by kernel_rfl⟩
def lv49 : List (List Nat × List Nat) := [([1, 1, 0, 1, 0], [0, 1, 12, 13])]
noncomputable def n49s  : List Nat → Nat → Option Ans := scrAt []
theorem n49 (a b : List Str) (K : D → Prop) : runS (En Try.f49) (fi Try.f49 K) (n49s ) lv49 200 [.code []] ⟨argSlots 0 [L a 1 .str, L b 1 .str], .empty⟩ =
  (a.length ≤ lenM → b.length ≤ lenM → bif (↑a.length : Int) != (↑b.length : Int) then K (B false) else a.length ≤ lenM → At (En Try.f49) (fi Try.f49 K) [It.code [1, 1, 0, 1, 0], It.blk 0, It.code [1, 1, 1]] { sl := [(0, L a 1 .str), (1, L b 1 .str), (12, I (↑a.length : Int)), (13, I 0)], h := Heap.empty : St }) := by kernel_rfl
def S49 (a b : List Str) (i : Int) : St := ⟨[(0, L a 1 .str), (1, L b 1 .str), (12, I a.length), (13, I i)], .empty⟩
noncomputable def n49as  : List Nat → Nat → Option Ans := scrAt []
theorem n49a (a b : List Str) (i : Int) (J : St → Prop) (K : D → Prop) : runS (En Try.f49) (fi Try.f49 K) (n49as ) lv49 200 [.code [1, 1, 0, 1, 0, 0], stp [0, 1, 12, 13] J, .blk 0, .code [1, 1, 1]] (S49 a b i) =
  (bif decide (i < (↑a.length : Int)) then (0 ≤ i ∧ i < (↑a.length : Int)) ∧ (0 ≤ i ∧ i < (↑b.length : Int)) ∧ bif !a.getD i.toNat default == b.getD i.toNat default then K (B false) else J { sl := [(0, L a 1 .str), (1, L b 1 .str), (12, I (↑a.length : Int)), (13, I (addI .i64 i 1))], h := Heap.empty : St } else K (B true)) := by kernel_rfl
def eqS (a b : List Str) : Bool := decide (a = b)
theorem c49 (a b : List Str) : Pure PP 49 [L a 1 .str, L b 1 .str] (B (eqS a b)) := by
  refine pu F49 (by kernel_rfl) (of_eq (n49 a b _) fun ha hb => cond_intro (fun h => ?_) fun h _ => ?_)
  · have : eqS a b = false := by
      simp at h
      exact decide_eq_false fun e => h (by rw [e])
    rw [this]; exact Wk.refl _
  have hab : a.length = b.length := by simp at h; omega
  refine lp (fn := Try.f49) (fun i : Nat => i ≤ a.length ∧ a.take i = b.take i) (fun i => S49 a b i) (fun i => a.length - i) [0, 1, 12, 13] (by kernel_rfl) (fun i hi => of_eq (n49a a b i _ _) (cond_intro (fun hlt => ?_) fun hge => ?_)) 0 ⟨Nat.zero_le _, by simp⟩
  · have hlt := ltI hlt
    obtain ⟨hi, he⟩ := hi
    rw [add1 hlt ha, Int.toNat_natCast]
    refine ⟨⟨by omega, by omega⟩, ⟨by omega, by omega⟩, cond_intro (fun h => ?_) fun h => Nx.mk (i + 1) ⟨by omega, ?_⟩ (by omega)⟩
    · have : eqS a b = false := decide_eq_false fun e => by subst e; simp at h
      rw [this]; exact Wk.refl _
    · rw [take_snoc _ _ hlt, take_snoc _ _ (by omega), he]
      congr 2
      simpa using h
  · have := geI hge
    obtain ⟨hi, he⟩ := hi
    have : eqS a b = true := decide_eq_true (by rw [List.take_of_length_le this, List.take_of_length_le (by omega)] at he; exact he)
    rw [this]; exact Wk.refl _

theorem e53 (a b : List Gp) (ha : a.length ≤ 1000000) (hb : b.length ≤ 1000000) : Does PP 53 [.vec 0 a.length 2, L b 2 Gp.d] (hVec a Gp.d) (L (a ++ b) 2 Gp.d) ⟨fun _ => none, 0, upd (fun _ => none) 0 (some a.length), 1, upd (upd (fun _ => none) 0 (some (cv a Gp.d))) 0 none⟩ :=
  Pure.lay (t := 0) (n := a.length) (q := cv a Gp.d) (h := hVec a Gp.d) (c53 a b ha hb) rfl rfl (by simp [frzOks, frzOk, L]) (Wks.cons Wk.tokL (Wks.refl _))

theorem F32 : OkF 32 Try.f32 := ⟨by kernel_rfl, by kernel_rfl, by kernel_rfl⟩
def lv32 : List (List Nat × List Nat) := [([1, 1, 1, 1, 0, 1, 0], [2, 3, 4, 7, 61, 62]), ([1, 1, 1, 1, 1, 1, 1, 1, 0], [4, 7, 9])]
theorem c36' (c : Chk) (t : Int) (hc : c.chg.length = c.vals.length) (hm : c.vals.length ≤ 1000000) : Pure PP 36 [c.d, I t] (L (valsAt c t) 1 .str) := c36 c t hc hm
noncomputable def n32s (a : Chk) (b : Chk) : List Nat → Nat → Option Ans := scrAt [([1, 1, 0, 0], 32, Ans.pure [a.d, I a.to] (L (valsAt a a.to) 1 .str)), ([1, 1, 0, 0], 33, Ans.pure [L b.vals 1 .str, L (valsAt a a.to) 1 .str] (B (eqS b.vals (valsAt a a.to)))), ([1, 1, 1, 0], 6, Ans.pure [L a.vals 1 .str] (L a.vals 1 .str))]
theorem n32 (a b : Chk) (K : D → Prop) : runS (En Try.f32) (fi Try.f32 K) (n32s a b) lv32 200 [.code []] ⟨argSlots 0 [a.d, b.d], .empty⟩ =
  (a.vals.length ≤ lenM →
  ((!b.frm != a.to) = true → a.chg.length ≤ lenM) →
    ((!bif b.frm != a.to then true else (↑a.chg.length : Int) != (↑a.vals.length : Int)) = true → b.vals.length ≤ lenM) →
      ((!bif bif b.frm != a.to then true else (↑a.chg.length : Int) != (↑a.vals.length : Int) then true else (↑b.vals.length : Int) != (↑a.vals.length : Int)) = true → b.chg.length ≤ lenM) →
        ((!bif bif bif b.frm != a.to then true else (↑a.chg.length : Int) != (↑a.vals.length : Int) then true else (↑b.vals.length : Int) != (↑a.vals.length : Int) then true else (↑b.chg.length : Int) != (↑a.vals.length : Int)) = true → PureW PP 36 [a.d, I a.to] [a.d, I a.to] (L (valsAt a a.to) 1 .str)) ∧
          ((!bif bif bif b.frm != a.to then true else (↑a.chg.length : Int) != (↑a.vals.length : Int) then true else (↑b.vals.length : Int) != (↑a.vals.length : Int) then true else (↑b.chg.length : Int) != (↑a.vals.length : Int)) = true → PureW PP 49 [L b.vals 1 .str, L (valsAt a a.to) 1 .str] [L b.vals 1 .str, L (valsAt a a.to) 1 .str] (B (eqS b.vals (valsAt a a.to)))) ∧ bif bif bif bif bif b.frm != a.to then true else (↑a.chg.length : Int) != (↑a.vals.length : Int) then true else (↑b.vals.length : Int) != (↑a.vals.length : Int) then true else (↑b.chg.length : Int) != (↑a.vals.length : Int) then true else !eqS b.vals (valsAt a a.to) then True ∧ K (.tup [.agg [I 0, I 0, .list 0 0 (fun _ => D.junk) .full, .list 0 0 (fun _ => D.junk) .full, .list 0 0 (fun _ => D.junk) .full], I 1]) else PureW PP 35 [L a.vals 1 .str] [L a.vals 1 .str] (L a.vals 1 .str) ∧ True ∧ (a.chg.length ≤ lenM → At (En Try.f32) (fi Try.f32 K) [It.code [1, 1, 1, 1, 0, 1, 0], It.blk 0, It.code [1, 1, 1, 1, 1]] { sl := [(2, .own [I a.frm, I a.to, L a.vals 1 .str, L a.chg 1 fun l => L l 2 Cg.d, L a.gaps 2 Gp.d]), (3, .own [I b.frm, I b.to, L b.vals 1 .str, L b.chg 1 fun l => L l 2 Cg.d, L b.gaps 2 Gp.d]), (4, .own [I 0, I 0, .list 0 0 (fun _ => D.junk) .full, .list 0 0 (fun _ => D.junk) .full, .list 0 0 (fun _ => D.junk) .full]), (7, .own [I a.frm, I b.to, L a.vals 1 .str, .list 0 0 (fun _ => D.junk) .full, .list 0 0 (fun _ => D.junk) .full]), (61, I (↑a.chg.length : Int)), (62, I 0)], h := Heap.empty : St })) := by kernel_rfl
def S32 (a b : Chk) (out : List (List Cg)) (i : Int) : St := ⟨[(2, .own (cell4 a.frm a.to a.vals a.chg (L a.gaps 2 Gp.d))), (3, .own (cell4 b.frm b.to b.vals b.chg (L b.gaps 2 Gp.d))), (4, .own z5), (7, .own [I a.frm, I b.to, L a.vals 1 .str, LT out 1 (fun l => L l 2 Cg.d) 0, .list 0 0 (fun _ => .junk) .full]), (61, I a.chg.length), (62, I i)], hN out.length 1⟩
noncomputable def n32as (a : Chk) (b : Chk) (out : List (List Cg)) (i : Int) : List Nat → Nat → Option Ans := scrAt [([1, 1, 1, 1, 0, 1, 0, 0, 1, 1, 0, 0, 1], 7, Ans.pure [L (a.chg.getD i.toNat default) 2 Cg.d] (L (a.chg.getD i.toNat default) 2 Cg.d)), ([1, 1, 1, 1, 0, 1, 0, 0, 1, 1, 0, 0, 1], 13, Ans.pure [L (a.chg.getD i.toNat default) 2 Cg.d, L (b.chg.getD i.toNat default) 2 Cg.d] (L (a.chg.getD i.toNat default ++ b.chg.getD i.toNat default) 2 Cg.d)), ([1, 1, 1, 1, 1, 0], 2, Ans.eff (ren (rnm [] 0) (rnm [] 1) (D.vec 0 a.gaps.length 2)) (frameH [] [] { box := fun _ => none, nl := 0, hw := upd (fun _ => none) 0 (some out.length), nt := 1, vw := fun _ => none : Heap } (hVec a.gaps Gp.d)))]
theorem n32a (a b : Chk) (out : List (List Cg)) (i : Int) (J : St → Prop) (K : D → Prop) : runS (En Try.f32) (fi Try.f32 K) (n32as a b out i) lv32 200 [.code [1, 1, 1, 1, 0, 1, 0, 0], stp [2, 3, 4, 7, 61, 62] J, .blk 0, .code [1, 1, 1, 1, 1]] (S32 a b out i) =
  (bif decide (i < (↑a.chg.length : Int)) then (0 ≤ i ∧ i < (↑a.chg.length : Int)) ∧ PureW PP 51 [L (a.chg.getD i.toNat default) 2 Cg.d] [L (a.chg.getD i.toNat default) 2 Cg.d] (L (a.chg.getD i.toNat default) 2 Cg.d) ∧ (0 ≤ i ∧ i < (↑b.chg.length : Int)) ∧ PureW PP 50 [L (a.chg.getD i.toNat default) 2 Cg.d, L (b.chg.getD i.toNat default) 2 Cg.d] [L (a.chg.getD i.toNat default) 2 Cg.d, L (b.chg.getD i.toNat default) 2 Cg.d] (L (a.chg.getD i.toNat default ++ b.chg.getD i.toNat default) 2 Cg.d) ∧ (upd (fun _ => none) 0 (some out.length) 0 = some out.length ∧ (out.length + 1) * 24 ≤ roomM) ∧ True ∧ J { sl := [(2, .own [I a.frm, I a.to, L a.vals 1 .str, L a.chg 1 fun l => L l 2 Cg.d, L a.gaps 2 Gp.d]), (3, .own [I b.frm, I b.to, L b.vals 1 .str, L b.chg 1 fun l => L l 2 Cg.d, L b.gaps 2 Gp.d]), (4, .own [I 0, I 0, .list 0 0 (fun _ => D.junk) .full, .list 0 0 (fun _ => D.junk) .full, .list 0 0 (fun _ => D.junk) .full]), (7, .own [I a.frm, I b.to, L a.vals 1 .str, .list (out.length + 1) 1 (catG out.length (fun i => L (out.getD i default) 2 Cg.d) (litG [L (a.chg.getD i.toNat default ++ b.chg.getD i.toNat default) 2 Cg.d])) (.tok 0 1), .list 0 0 (fun _ => D.junk) .full]), (61, I (↑a.chg.length : Int)), (62, I (addI .i64 i 1))], h := { box := fun _ => none, nl := 0, hw := upd (upd (fun _ => none) 0 (some out.length)) 0 (some (out.length + 1)), nt := 1, vw := fun _ => none : Heap } : St }
 else
  Does PP 52 [L a.gaps 2 Gp.d] { box := fun _ => none, nl := 0, hw := upd (fun _ => none) 0 (some out.length), nt := 1, vw := fun _ => none : Heap } (ren (rnm [] 0) (rnm [] 1) (D.vec 0 a.gaps.length 2)) (frameH [] [] { box := fun _ => none, nl := 0, hw := upd (fun _ => none) 0 (some out.length), nt := 1, vw := fun _ => none : Heap } (hVec a.gaps Gp.d)) ∧
    True ∧
      (a.gaps.length ≤ lenM →
        (decide ((↑a.gaps.length : Int) > 0) = true → b.gaps.length ≤ lenM) →
          ((bif decide ((↑a.gaps.length : Int) > 0) then decide ((↑b.gaps.length : Int) > 0) else false) = true → updN (upd (fun _ => none) 0 (some out.length)) (rnm [] 1) (upd (fun _ => none) 0 (some a.gaps.length)) 1 1 = some a.gaps.length ∧ 0 ≤ subI .i64 (↑a.gaps.length : Int) 1 ∧ subI .i64 (↑a.gaps.length : Int) 1 < (↑a.gaps.length : Int)) ∧
            ((bif decide ((↑a.gaps.length : Int) > 0) then decide ((↑b.gaps.length : Int) > 0) else false) = true → updN (upd (fun _ => none) 0 (some out.length)) (rnm [] 1) (upd (fun _ => none) 0 (some a.gaps.length)) 1 1 = some a.gaps.length) ∧
              ((bif decide ((↑a.gaps.length : Int) > 0) then decide ((↑b.gaps.length : Int) > 0) else false) = true → (0 : Int) ≤ 0 ∧ 0 < (↑b.gaps.length : Int)) ∧
                bif bif bif decide ((↑a.gaps.length : Int) > 0) then decide ((↑b.gaps.length : Int) > 0) else false then (a.gaps.getD (subI .i64 (↑a.gaps.length : Int) 1).toNat default).to == (b.gaps.getD 0 default).frm else false then ((0 : Int) ≤ 0 ∧ 0 < (↑b.gaps.length : Int)) ∧ (updN (upd (fun _ => none) 0 (some out.length)) (rnm [] 1) (upd (fun _ => none) 0 (some a.gaps.length)) 1 1 = some a.gaps.length ∧ 0 ≤ subI .i64 (↑a.gaps.length : Int) 1 ∧ subI .i64 (↑a.gaps.length : Int) 1 < (↑a.gaps.length : Int)) ∧ updN (upd (fun _ => none) 0 (some out.length)) (rnm [] 1) (upd (fun _ => none) 0 (some a.gaps.length)) 1 1 = some a.gaps.length ∧ ((0 : Int) ≤ 1 ∧ 1 ≤ (↑b.gaps.length : Int)) ∧ At (En Try.f32) (fi Try.f32 K) [It.code [1, 1, 1, 1, 1, 1, 1, 1, 0], It.code [1, 1, 1, 1, 1, 1, 1, 1, 1]] { sl := [(4, .own [I 0, I 0, .list 0 0 (fun _ => D.junk) .full, .list 0 0 (fun _ => D.junk) .full, .list 0 0 (fun _ => D.junk) .full]), (7, .own [I a.frm, I b.to, L a.vals 1 .str, .list out.length 1 (fun i => L (out.getD i default) 2 Cg.d) (.tok 0 1), D.vec 1 a.gaps.length 2]), (9, .list (b.gaps.length - 1) 2 (dropG (fun i => (b.gaps.getD i default).d) 1) .none)], h := { box := fun _ => none, nl := 0, hw := upd (upd (fun _ => none) 0 (some out.length)) 1 (some a.gaps.length), nt := 2, vw := upd (upd (fun _ => none) 1 (some (cv a.gaps Gp.d))) 1 (some (setG (cv a.gaps Gp.d) (subI .i64 (↑a.gaps.length : Int) 1).toNat (.agg [I (a.gaps.getD (subI .i64 (↑a.gaps.length : Int) 1).toNat default).frm, I (b.gaps.getD 0 default).to]))) : Heap } : St }
                else At (En Try.f32) (fi Try.f32 K) [It.code [1, 1, 1, 1, 1, 1, 1, 1, 0], It.code [1, 1, 1, 1, 1, 1, 1, 1, 1]] { sl := [(4, .own [I 0, I 0, .list 0 0 (fun _ => D.junk) .full, .list 0 0 (fun _ => D.junk) .full, .list 0 0 (fun _ => D.junk) .full]), (7, .own [I a.frm, I b.to, L a.vals 1 .str, .list out.length 1 (fun i => L (out.getD i default) 2 Cg.d) (.tok 0 1), D.vec 1 a.gaps.length 2]), (9, L b.gaps 2 Gp.d)], h := { box := fun _ => none, nl := 0, hw := upd (upd (fun _ => none) 0 (some out.length)) 1 (some a.gaps.length), nt := 2, vw := upd (fun _ => none) 1 (some (cv a.gaps Gp.d)) : Heap } : St })) := by kernel_rfl
def P32 (f t : Int) (vs : List Str) (out : List (List Cg)) (gs ms : List Gp) : St := ⟨[(4, .own z5), (7, .own [I f, I t, L vs 1 .str, LT out 1 (fun l => L l 2 Cg.d) 0, .vec 1 gs.length 2]), (9, L ms 2 Gp.d)], ⟨fun _ => none, 0, upd (upd (fun _ => none) 0 (some out.length)) 1 (some gs.length), 2, upd (fun _ => none) 1 (some (cv gs Gp.d))⟩⟩
noncomputable def n32ps (out : List (List Cg)) (gs : List Gp) (ms : List Gp) : List Nat → Nat → Option Ans := scrAt [([1, 1, 1, 1, 1, 1, 1, 1, 0], 3, Ans.eff (ren (rnm [] 0) (rnm [1] 2) (L (gs ++ ms) 2 Gp.d)) (frameH [] [1] { box := fun _ => none, nl := 0, hw := upd (upd (fun _ => none) 0 (some out.length)) 1 (some gs.length), nt := 2, vw := upd (fun _ => none) 1 (some (cv gs Gp.d)) : Heap } { box := fun _ => none, nl := 0, hw := upd (fun _ => none) 0 (some gs.length), nt := 1, vw := upd (upd (fun _ => none) 0 (some (cv gs Gp.d))) 0 none : Heap }))]
theorem n32p (f t : Int) (vs : List Str) (out : List (List Cg)) (gs ms : List Gp) (K : D → Prop) : runS (En Try.f32) (fi Try.f32 K) (n32ps out gs ms) nolv 200 [.code [1, 1, 1, 1, 1, 1, 1, 1, 0], .code [1, 1, 1, 1, 1, 1, 1, 1, 1]] (P32 f t vs out gs ms) =
  (Does PP 53 [D.vec 1 gs.length 2, L ms 2 Gp.d] { box := fun _ => none, nl := 0, hw := upd (upd (fun _ => none) 0 (some out.length)) 1 (some gs.length), nt := 2, vw := upd (fun _ => none) 1 (some (cv gs Gp.d)) : Heap } (ren (rnm [] 0) (rnm [1] 2) (L (gs ++ ms) 2 Gp.d)) (frameH [] [1] { box := fun _ => none, nl := 0, hw := upd (upd (fun _ => none) 0 (some out.length)) 1 (some gs.length), nt := 2, vw := upd (fun _ => none) 1 (some (cv gs Gp.d)) : Heap } { box := fun _ => none, nl := 0, hw := upd (fun _ => none) 0 (some gs.length), nt := 1, vw := upd (upd (fun _ => none) 0 (some (cv gs Gp.d))) 0 none : Heap }) ∧ True ∧ True ∧ K (.tup [.agg [I f, I t, L vs 1 .str, .list out.length 1 (fun i => L (out.getD i default) 2 Cg.d) (.tok 0 1), L (gs ++ ms) 2 Gp.d], I 0])) := by kernel_rfl
def zipC (a b : List (List Cg)) : List (List Cg) := (List.range a.length).map fun i => a.getD i default ++ b.getD i default
def gMeet (a b : List Gp) : Bool := bif bif decide ((↑a.length : Int) > 0) then decide ((↑b.length : Int) > 0) else false then (a.getD (subI .i64 (↑a.length : Int) 1).toNat default).to == (b.getD 0 default).frm else false
def joinG (a b : List Gp) : List Gp := bif gMeet a b then a.set (a.length - 1) ⟨(a.getD (a.length - 1) default).frm, (b.getD 0 default).to⟩ ++ b.drop 1 else a ++ b
def joinBad (a b : Chk) : Bool := bif bif bif bif b.frm != a.to then true else (↑a.chg.length : Int) != (↑a.vals.length : Int) then true else (↑b.vals.length : Int) != (↑a.vals.length : Int) then true else (↑b.chg.length : Int) != (↑a.vals.length : Int) then true else !eqS b.vals (valsAt a a.to)
def join (a b : Chk) : Chk × Int := bif joinBad a b then (default, 1) else (⟨a.frm, b.to, a.vals, zipC a.chg b.chg, joinG a.gaps b.gaps⟩, 0)
def joinD (x : Chk × Int) : D := .tup [x.1.d, I x.2]
instance {x : Chk × Int} : DD (joinD x) := inferInstanceAs (DD (.tup _))
theorem zipC_take (a b : List (List Cg)) (i : Nat) (h : i < a.length) : (zipC a b).take (i + 1) = (zipC a b).take i ++ [a.getD i default ++ b.getD i default] := by
  have hl : (zipC a b).length = a.length := by simp [zipC]
  rw [take_snoc _ _ (by omega)]
  congr 2
  simp [zipC, List.getD, h]
theorem lastN {n : Nat} (h : n ≤ lenM) (h0 : 0 < n) : (subI .i64 (n : Int) 1).toNat = n - 1 := by
  unfold lenM at h
  rw [sub64 (by omega) (by omega)]; omega
theorem joinP (a b : Chk) (hs : SmallC a) (hb : SmallC b) (gs ms : List Gp) (hg : gs.length ≤ 1000000) (hm : ms.length ≤ 1000000) {fin : D → Prop} (hf : fin (.tup [.agg [I a.frm, I b.to, L a.vals 1 .str, .list (zipC a.chg b.chg).length 1 (fun i => L ((zipC a.chg b.chg).getD i default) 2 Cg.d) (.tok 0 1), L (gs ++ ms) 2 Gp.d], I 0])) :
    At (En Try.f32) (fi Try.f32 fin) [It.code [1, 1, 1, 1, 1, 1, 1, 1, 0], It.code [1, 1, 1, 1, 1, 1, 1, 1, 1]] (P32 a.frm b.to a.vals (zipC a.chg b.chg) gs ms) :=
  runS_sound hmix 200 _ _ (of_eq (n32p _ _ _ _ gs ms _) ⟨fr (e53 gs ms hg hm) [] [1], trivial, trivial, hf⟩)
theorem c32 (a b : Chk) (hs : SmallC a) (hb : SmallC b) : Pure PP 32 [a.d, b.d] (joinD (join a b)) := by
  have hsa := hs
  have hsb := hb
  obtain ⟨hs1, hs2, hs3, hs4⟩ := hs
  obtain ⟨hb1, hb2, hb3, hb4⟩ := hb
  refine pu F32 (by kernel_rfl) (of_eq (n32 a b _) fun hv h1 h2 h3 => ⟨fun h => PureW.mk (c36' a _ (by simp at h; omega) (by omega)), fun h => PureW.mk (c49 _ _), cond_intro (fun h => ⟨trivial, ?_⟩) fun h => ?_⟩)
  · have h : joinBad a b = true := h
    simp only [join, h, cond_true]; exact Wk.tup (Wks.cons wkZ5 (Wks.refl _))
  have h : joinBad a b = false := h
  simp only [join, h, cond_false]
  have hj := h
  unfold joinBad at hj
  have hla : a.chg.length = a.vals.length ∧ b.chg.length = a.vals.length := by simp at hj; omega
  refine ⟨PureW.mk (c35 _ (by omega)), trivial, fun hl => ?_⟩
  have hzl : (zipC a.chg b.chg).length = a.chg.length := by simp [zipC]
  refine at_le (st' := S32 a b ((zipC a.chg b.chg).take 0) (0 : Nat)) ?_ ((StLe.idleOwn _ none 7 3 1 (fun i => L (([] : List (List Cg)).getD i default) 2 Cg.d) rfl rfl).cast (by kernel_rfl))
  refine lp (fn := Try.f32) (fun i : Nat => i ≤ a.chg.length) (fun i => S32 a b ((zipC a.chg b.chg).take i) i) (fun i => a.chg.length - i) [2, 3, 4, 7, 61, 62] (by kernel_rfl) (fun i hi => of_eq (n32a a b _ i _ _) (cond_intro (fun hlt => ?_) fun hge => ?_)) 0 (Nat.zero_le _)
  · have hlt := ltI hlt
    have hz := zipC_take a.chg b.chg i hlt
    have hm1 := hs4 _ (getD_mem hlt)
    have hm2 := hb4 _ (getD_mem (l := b.chg) (i := i) (by omega))
    have htl : ((zipC a.chg b.chg).take i).length = i := by simp; omega
    rw [add1 hlt hl, Int.toNat_natCast]
    refine ⟨⟨by omega, by omega⟩, PureW.mk (c51 _ (by omega)), ⟨by omega, by omega⟩, PureW.mk (c50 _ _ (by omega) (by omega)), ⟨upd_same _ _ _, by unfold roomM; omega⟩, trivial, Nx.of (i + 1) (by omega) (by omega) ?_⟩
    unfold S32
    rw [hz]
    exact (StLe.setOwn (of_decide_eq_true (by kernel_rfl)) 7 rfl (Wks.cons (Wk.refl _) (Wks.cons (Wk.refl _) (Wks.cons (Wk.refl _) (Wks.cons (Wk.snoc (enc := fun l => L l 2 Cg.d) (x := a.chg.getD i default ++ b.chg.getD i default)) (Wks.refl _)))))).trans (StLe.heap (by simp [hN, upd_upd]))
  · have hge := geI hge
    rw [List.take_of_length_le (by omega)]
    have hga : a.gaps.length ≤ lenM := by unfold lenM; omega
    have hgb : b.gaps.length ≤ lenM := by unfold lenM; omega
    refine ⟨fr (e52 a.gaps (by omega)) [] [], trivial, fun _ _ => ?_⟩
    have pos : ∀ {p : Prop}, (bif decide ((↑a.gaps.length : Int) > 0) then decide ((↑b.gaps.length : Int) > 0) else false) = true → (0 < a.gaps.length → 0 < b.gaps.length → p) → p := fun h k => by
      simp at h; exact k (by omega) (by omega)
    have hfin : ∀ gs ms, joinG a.gaps b.gaps = gs ++ ms → Wk (.tup [.agg [I a.frm, I b.to, L a.vals 1 .str, .list (zipC a.chg b.chg).length 1 (fun i => L ((zipC a.chg b.chg).getD i default) 2 Cg.d) (.tok 0 1), L (gs ++ ms) 2 Gp.d], I 0]) (joinD (⟨a.frm, b.to, a.vals, zipC a.chg b.chg, joinG a.gaps b.gaps⟩, 0)) := fun gs ms h => by
      rw [← h]
      exact Wk.tup (Wks.cons (Wk.agg (Wks.cons (Wk.refl _) (Wks.cons (Wk.refl _) (Wks.cons (Wk.refl _) (Wks.cons (Wk.tokL (enc := fun l => L l 2 Cg.d)) (Wks.refl _)))))) (Wks.refl _))
    refine ⟨fun h => pos h fun h1 h2 => ⟨rfl, by rw [sub64 (by unfold lenM at hga; omega) (by unfold lenM at hga; omega)]; omega, by rw [sub64 (by unfold lenM at hga; omega) (by unfold lenM at hga; omega)]; omega⟩, fun _ => rfl, fun h => pos h fun h1 h2 => ⟨by decide, by omega⟩, cond_intro (fun hM => ?_) fun hM => ?_⟩
    · have hM' : gMeet a.gaps b.gaps = true := hM
      obtain ⟨p1, p2⟩ : 0 < a.gaps.length ∧ 0 < b.gaps.length := by
        cases h : (bif decide ((↑a.gaps.length : Int) > 0) then decide ((↑b.gaps.length : Int) > 0) else false) with
        | true => exact pos h fun a b => ⟨a, b⟩
        | false => rw [h] at hM; cases hM
      refine ⟨⟨by decide, by omega⟩, ⟨rfl, by rw [sub64 (by unfold lenM at hga; omega) (by unfold lenM at hga; omega)]; omega, by rw [sub64 (by unfold lenM at hga; omega) (by unfold lenM at hga; omega)]; omega⟩, rfl, ⟨by decide, by omega⟩, ?_⟩
      rw [lastN hga p1]
      refine at_le (joinP a b hsa hsb (a.gaps.set (a.gaps.length - 1) ⟨(a.gaps.getD (a.gaps.length - 1) default).frm, (b.gaps.getD 0 default).to⟩) (b.gaps.drop 1) (by simp; omega) (by simp; omega) (hfin _ _ (by unfold joinG; rw [hM']; rfl))) ?_
      unfold P32
      rw [List.length_set]
      refine (StLe.set (d' := L (b.gaps.drop 1) 2 Gp.d) 9 rfl (Wk.toL (es := b.gaps.drop 1) (enc := Gp.d) (by simp) (.inl rfl) (fun i hi => ?_)) rfl rfl).trans ?_
      · simp only [dropG, List.getElem_drop, getD_list (show 1 + i < b.gaps.length by simp at hi; omega)]
      · rw [upd_upd]
        exact StLe.vec (t := 1) (upd_same _ _ _) fun i _ => cv_set (x := (⟨(a.gaps.getD (a.gaps.length - 1) default).frm, (b.gaps.getD 0 default).to⟩ : Gp)) (by omega) i
    · have hM' : gMeet a.gaps b.gaps = false := hM
      exact at_le (joinP a b hsa hsb a.gaps b.gaps (by omega) (by omega) (hfin _ _ (by unfold joinG; rw [hM']; rfl))) (StLe.refl _ _)
theorem F18 : OkF 18 Try.f18 := ⟨by kernel_rfl, by kernel_rfl, by kernel_rfl⟩
def lv18 : List (List Nat × List Nat) := [([1, 1, 0, 1, 0], [1, 14, 15, 16]), ([1, 1, 1, 0], [1])]
noncomputable def n18s  : List Nat → Nat → Option Ans := scrAt []
theorem n18  (K : D → Prop) : runS (En Try.f18) (fi Try.f18 K) (n18s ) lv18 200 [.code []] ⟨argSlots 0 [], .empty⟩ =
  (True ∧ (6 ≤ lenM → At (En Try.f18) (fi Try.f18 K) [It.code [1, 1, 0, 1, 0], It.blk 0, It.code [1, 1, 1]] { sl := [(1, .own [I 4, I 1, I 0, .list 0 0 (fun _ => D.junk) .full]), (14, .list 6 1 (litG [I 40, I 50, I 200, I 30, I 20, I 30]) .full), (15, I (↑6 : Int)), (16, I 0)], h := Heap.empty : St })) := by kernel_rfl
def exN : List Int := [40, 50, 200, 30, 20, 30]
def exB : List Ent := [⟨-1, 0, 0, 0, ⟨10, 40, 0⟩⟩, ⟨0, 1, 0, 0, ⟨15, 50, 0⟩⟩, ⟨1, 2, 0, 0, ⟨20, 200, 0⟩⟩, ⟨2, 3, 0, 0, ⟨25, 30, 0⟩⟩, ⟨3, 4, 0, 0, ⟨30, 20, 0⟩⟩, ⟨4, 5, 0, 0, ⟨35, 30, 0⟩⟩]
def exD : Dir := ⟨⟨4, 1, 0⟩, exB⟩
def S18 (bl : List Ent) (i : Int) : St := ⟨[(1, .own [I 4, I 1, I 0, LT bl 7 Ent.d 0]), (14, L exN 1 (fun n => I n)), (15, I 6), (16, I i)], hN bl.length 1⟩
noncomputable def n18as  : List Nat → Nat → Option Ans := scrAt []
theorem n18a (bl : List Ent) (i : Int) (J : St → Prop) (K : D → Prop) : runS (En Try.f18) (fi Try.f18 K) (n18as ) lv18 200 [.code [1, 1, 0, 1, 0, 0], stp [1, 14, 15, 16] J, .blk 0, .code [1, 1, 1]] (S18 bl i) =
  (bif decide (i < 6) then (0 ≤ i ∧ i < (↑6 : Int)) ∧ (upd (fun _ => none) 0 (some bl.length) 0 = some bl.length ∧ (bl.length + 1) * 56 ≤ roomM) ∧ True ∧ J { sl := [(1, .own [I 4, I 1, I 0, .list (bl.length + 1) 7 (catG bl.length (fun i => (bl.getD i default).d) (litG [.agg [I (subI .i64 i 1), I i, I 0, I 0, I (addI .i64 10 (mulI .i64 5 i)), I (exN.getD i.toNat default), I 0]])) (.tok 0 7)]), (14, L exN 1 fun n => I n), (15, I 6), (16, I (addI .i64 i 1))], h := { box := fun _ => none, nl := 0, hw := upd (upd (fun _ => none) 0 (some bl.length)) 0 (some (bl.length + 1)), nt := 1, vw := fun _ => none : Heap } : St } else At (En Try.f18) (fi Try.f18 K) [It.code [1, 1, 1, 0], It.code [1, 1, 1, 1]] { sl := [(1, .own [I 4, I 1, I 0, .list bl.length 7 (fun i => (bl.getD i default).d) (.tok 0 7)])], h := { box := fun _ => none, nl := 0, hw := upd (fun _ => none) 0 (some bl.length), nt := 1, vw := fun _ => none : Heap } : St }) := by kernel_rfl
theorem exP : cplan exD 100 = [⟨0, 2⟩, ⟨3, 3⟩] := by decide +kernel
def exA : Chk := ⟨-1, 3, [[120]], [[⟨2, [49]⟩]], []⟩
def exE : Chk := ⟨3, 5, [[49]], [[]], []⟩
def exC : Chk := ⟨-1, 5, [[120]], [[⟨2, [49]⟩]], []⟩
theorem smA : SmallC exA := ⟨by decide, by decide, by decide, by decide⟩
theorem smE : SmallC exE := ⟨by decide, by decide, by decide, by decide⟩
theorem smC : SmallC exC := ⟨by decide, by decide, by decide, by decide⟩
theorem exJ : join exA exE = (exC, 0) := by decide +kernel
theorem exS : split exC 3 = (exA, exE, 0) := by decide +kernel
theorem x24 : Pure PP 24 [exD.d, I 100] (L [(⟨0, 2⟩ : Rg), ⟨3, 3⟩] 2 Rg.d) := exP ▸ c24 exD 100
theorem x32 : Pure PP 32 [exA.d, exE.d] (.tup [exC.d, I 0]) := by have := c32 exA exE smA smE; rw [exJ] at this; exact this
theorem x20 : Pure PP 20 [exC.d, I 3] (.tup [exA.d, exE.d, I 0]) := by have := c20 exC 3 smC; rw [exS] at this; exact this
def X18 : St := ⟨[(1, .own [I 4, I 1, I 0, L exB 7 Ent.d])], hN 6 1⟩
noncomputable def n18bs  : List Nat → Nat → Option Ans := scrAt [([1, 1, 1, 0], 1, Ans.pure [exD.d, I 100] (L [{ frm := 0, cnt := 2 : Rg }, { frm := 3, cnt := 3 : Rg }] 2 Rg.d)), ([1, 1, 1, 1, 1, 1, 0], 2, Ans.pure [exA.d, exE.d] (.tup [exC.d, I 0])), ([1, 1, 1, 1, 1, 1, 1, 0], 1, Ans.pure [exC.d, I 3] (.tup [exA.d, exE.d, I 0])), ([1, 1, 1, 1, 1, 1, 1, 1, 0], 33, Ans.pure [{ frm := -1, to := 3, vals := [{ data := #[120] : ByteArray }.data.toList], chg := [[{ time := 2, val := { data := #[49] : ByteArray }.data.toList : Cg }]], gaps := [] : Chk }.d, { frm := -1, to := 3, vals := [{ data := #[120] : ByteArray }.data.toList], chg := [[{ time := 2, val := { data := #[49] : ByteArray }.data.toList : Cg }]], gaps := [] : Chk }.d] (B true)), ([1, 1, 1, 1, 1, 1, 1, 1, 0], 38, Ans.pure [{ frm := 3, to := 5, vals := [{ data := #[49] : ByteArray }.data.toList], chg := [[]], gaps := [] : Chk }.d, { frm := 3, to := 5, vals := [{ data := #[49] : ByteArray }.data.toList], chg := [[]], gaps := [] : Chk }.d] (B true))]
theorem n18b  (K : D → Prop) : runS (En Try.f18) (fi Try.f18 K) (n18bs ) nolv 200 [.code [1, 1, 1, 0], .code [1, 1, 1, 1]] X18 =
  (PureW PP 24 [exD.d, I 100] [exD.d, I 100] (L [{ frm := 0, cnt := 2 : Rg }, { frm := 3, cnt := 3 : Rg }] 2 Rg.d) ∧
  True ∧
    True ∧
      PureW PP 32 [.agg [I (-1), I 3, .list 1 1 (litG [.str { data := #[120] : ByteArray }.data.toList]) .full, .list 1 1 (litG [.list 1 2 (litG [.agg [I 2, .str { data := #[49] : ByteArray }.data.toList]]) .full]) .full, .list 0 0 (fun _ => D.junk) .full], .agg [I 3, I 5, .list 1 1 (litG [.str { data := #[49] : ByteArray }.data.toList]) .full, .list 1 1 (litG [.list 0 0 (fun _ => D.junk) .full]) .full, .list 0 0 (fun _ => D.junk) .full]] [exA.d, exE.d] (.tup [exC.d, I 0]) ∧
        True ∧ PureW PP 20 [exC.d, I 3] [exC.d, I 3] (.tup [exA.d, exE.d, I 0]) ∧ True ∧ True ∧ (2 ≤ lenM → (true = true → (0 : Int) ≤ 0 ∧ 0 < (↑2 : Int)) ∧ (true = true → (0 : Int) ≤ 1 ∧ 1 < (↑2 : Int)) ∧ (true = true → PureW PP 22 [.agg [I exA.frm, I exA.to, L exA.vals 1 .str, L exA.chg 1 fun l => L l 2 Cg.d, L exA.gaps 2 Gp.d], .agg [I (-1), I 3, .list 1 1 (litG [.str { data := #[120] : ByteArray }.data.toList]) .full, .list 1 1 (litG [.list 1 2 (litG [.agg [I 2, .str { data := #[49] : ByteArray }.data.toList]]) .full]) .full, .list 0 0 (fun _ => D.junk) .full]] [{ frm := -1, to := 3, vals := [{ data := #[120] : ByteArray }.data.toList], chg := [[{ time := 2, val := { data := #[49] : ByteArray }.data.toList : Cg }]], gaps := [] : Chk }.d, { frm := -1, to := 3, vals := [{ data := #[120] : ByteArray }.data.toList], chg := [[{ time := 2, val := { data := #[49] : ByteArray }.data.toList : Cg }]], gaps := [] : Chk }.d] (B true)) ∧ (true = true → PureW PP 22 [.agg [I exE.frm, I exE.to, L exE.vals 1 .str, L exE.chg 1 fun l => L l 2 Cg.d, L exE.gaps 2 Gp.d], .agg [I 3, I 5, .list 1 1 (litG [.str { data := #[49] : ByteArray }.data.toList]) .full, .list 1 1 (litG [.list 0 0 (fun _ => D.junk) .full]) .full, .list 0 0 (fun _ => D.junk) .full]] [{ frm := 3, to := 5, vals := [{ data := #[49] : ByteArray }.data.toList], chg := [[]], gaps := [] : Chk }.d, { frm := 3, to := 5, vals := [{ data := #[49] : ByteArray }.data.toList], chg := [[]], gaps := [] : Chk }.d] (B true)) ∧ K (B true))) := by kernel_rfl
theorem wkStr {s : Str} : Wk (.list 1 1 (litG [.str s]) .full) (L [s] 1 .str) := Wk.litL rfl rfl
theorem wkExA : Wk (.agg [I (-1), I 3, .list 1 1 (litG [.str [120]]) .full, .list 1 1 (litG [.list 1 2 (litG [.agg [I 2, .str [49]]]) .full]) .full, .list 0 0 (fun _ => .junk) .full]) exA.d :=
  Wk.agg (Wks.cons (Wk.refl _) (Wks.cons (Wk.refl _) (Wks.cons wkStr (Wks.cons (Wk.listW rfl (.inl rfl) (fun i hi => by
    have : i = 0 := by omega
    subst this
    exact ⟨Wk.litL (enc := Cg.d) (l := [⟨2, [49]⟩]) rfl rfl, fun _ => rfl⟩) (.inl rfl)) (Wks.cons Wk.nilL Wks.nil)))))
theorem wkExE : Wk (.agg [I 3, I 5, .list 1 1 (litG [.str [49]]) .full, .list 1 1 (litG [.list 0 0 (fun _ => .junk) .full]) .full, .list 0 0 (fun _ => .junk) .full]) exE.d :=
  Wk.agg (Wks.cons (Wk.refl _) (Wks.cons (Wk.refl _) (Wks.cons wkStr (Wks.cons (Wk.listW rfl (.inl rfl) (fun i hi => by
    have : i = 0 := by omega
    subst this
    exact ⟨Wk.nilL (α := Cg), fun _ => rfl⟩) (.inl rfl)) (Wks.cons Wk.nilL Wks.nil)))))
theorem exB_take (i : Nat) (h : i < 6) : exB.take (i + 1) = exB.take i ++ [exB.getD i default] := take_snoc exB i (by simpa [exB] using h)
theorem exB_el : ∀ i : Nat, i < 6 → (.agg [I (subI .i64 (i : Int) 1), I i, I 0, I 0, I (addI .i64 10 (mulI .i64 5 (i : Int))), I (exN.getD (i : Int).toNat default), I 0] : D) = Ent.d (exB.getD i default)
  | 0, _ => by kernel_rfl
  | 1, _ => by kernel_rfl
  | 2, _ => by kernel_rfl
  | 3, _ => by kernel_rfl
  | 4, _ => by kernel_rfl
  | 5, _ => by kernel_rfl
  | n + 6, h => by omega
theorem c18 : Pure PP 18 [] (B true) := by
  refine pu F18 (by kernel_rfl) (of_eq (n18 _) ⟨trivial, fun _ => ?_⟩)
  refine at_le (st' := S18 (exB.take 0) (0 : Nat)) ?_ (((StLe.idleOwn _ none 1 3 7 (fun i => Ent.d (([] : List Ent).getD i default)) rfl rfl).trans (StLe.set (d' := L exN 1 fun n => I n) 14 rfl (Wk.litL rfl rfl) rfl rfl)).cast (by kernel_rfl))
  refine lp (fn := Try.f18) (fun i : Nat => i ≤ 6) (fun i => S18 (exB.take i) i) (fun i => 6 - i) [1, 14, 15, 16] (by kernel_rfl) (fun i hi => of_eq (n18a _ i _ _) (cond_intro (fun hlt => ?_) fun hge => ?_)) 0 (Nat.zero_le _)
  · have hlt : i < 6 := by simp at hlt; omega
    have ht := exB_take i hlt
    have hl : (exB.take i).length = i := by simp [exB]; omega
    refine ⟨⟨by omega, by omega⟩, ⟨upd_same _ _ _, by unfold roomM; omega⟩, trivial, Nx.of (i + 1) hlt (by omega) ?_⟩
    unfold S18
    rw [ht, exB_el i hlt, add1 (show i < 6 from hlt) (by decide)]
    exact (StLe.setOwn (of_decide_eq_true (by kernel_rfl)) 1 rfl (Wks.cons (Wk.refl _) (Wks.cons (Wk.refl _) (Wks.cons (Wk.refl _) (Wks.cons (Wk.snoc (x := exB.getD i default)) Wks.nil))))).trans (StLe.heap (by simp [hN, upd_upd]))
  · have : i = 6 := by simp at hge; omega
    subst this
    refine at_le (st' := X18) ?_ (StLe.setOwn (of_decide_eq_true (by kernel_rfl)) 1 rfl (Wks.cons (Wk.refl _) (Wks.cons (Wk.refl _) (Wks.cons (Wk.refl _) (Wks.cons (Wk.tokL (a := exB) (enc := Ent.d)) Wks.nil)))))
    refine runS_sound hmix 200 _ _ (of_eq (n18b _) ⟨PureW.mk x24, trivial, trivial, pw (Wks.cons wkExA (Wks.cons wkExE Wks.nil)) x32, trivial, PureW.mk x20, trivial, trivial, fun _ => ⟨fun _ => ⟨by decide, by decide⟩, fun _ => ⟨by decide, by decide⟩, fun _ => pw (Wks.cons (Wk.refl exA.d) (Wks.cons wkExA Wks.nil)) (c22 exA), fun _ => pw (Wks.cons (Wk.refl exE.d) (Wks.cons wkExE Wks.nil)) (c22 exE), Wk.refl _⟩⟩)
end Go.Proofs.Ytmlhaikblfjghaa.S1
/- Seat 1: the laws on plans and splitting. -/
namespace Go.Proofs.Ytmlhaikblfjghaa.S1
open Go Go.Ab Go.Proofs
theorem F6 : OkF 6 Try.f6 := ⟨by kernel_rfl, by kernel_rfl, by kernel_rfl⟩
def lv6 : List (List Nat × List Nat) := []
noncomputable def n6s (d : Dir) (m : Int) : List Nat → Nat → Option Ans := scrAt [([1, 0, 0], 0, Ans.pure [] (B true)), ([1, 1, 0], 7, Ans.pure [d.d, I m] (L (cplan d m) 2 Rg.d)), ([1, 1, 0], 10, Ans.pure [d.d, I m] (L (cplan d m) 2 Rg.d)), ([1, 1, 0], 11, Ans.pure [L (cplan d m) 2 Rg.d, L (cplan d m) 2 Rg.d] (B true))]
theorem n6 (d : Dir) (m : Int) (K : D → Prop) : runS (En Try.f6) (fi Try.f6 K) (n6s d m) lv6 200 [.code []] ⟨argSlots 0 [d.d, I m], .empty⟩ =
  (PureW PP 18 [] [] (B true) ∧ (d.blk.length ≤ lenM → ((!decide ((↑d.blk.length : Int) > 40)) = true → PureW PP 24 [d.d, I m] [d.d, I m] (L (cplan d m) 2 Rg.d)) ∧ ((!decide ((↑d.blk.length : Int) > 40)) = true → PureW PP 25 [d.d, I m] [d.d, I m] (L (cplan d m) 2 Rg.d)) ∧ ((!decide ((↑d.blk.length : Int) > 40)) = true → PureW PP 23 [L (cplan d m) 2 Rg.d, L (cplan d m) 2 Rg.d] [L (cplan d m) 2 Rg.d, L (cplan d m) 2 Rg.d] (B true)) ∧ K (B (bif decide ((↑d.blk.length : Int) > 40) then true else true)))) := by kernel_rfl
theorem F5 : OkF 5 Try.f5 := ⟨by kernel_rfl, by kernel_rfl, by kernel_rfl⟩
def lv5 : List (List Nat × List Nat) := []
theorem few_small {c : Chk} (h : fewB [] c = true) : SmallC c := by
  unfold fewB few1 at h
  simp at h
  obtain ⟨_, h1, h2⟩ := h
  refine ⟨by omega, by omega, by omega, fun l hl => ?_⟩
  have := (h1 l hl).2
  omega
theorem c20' (c : Chk) (t : Int) (hs : SmallC c) : Pure PP 20 [c.d, I t] (.tup [(split c t).1.d, (split c t).2.1.d, I (split c t).2.2]) := c20 c t hs
theorem c21' (c : Chk) (t : Int) (hs : SmallC c) : Pure PP 21 [c.d, I t] (.tup [(split c t).1.d, (split c t).2.1.d, I (split c t).2.2]) := c21 c t hs
noncomputable def n5s (c : Chk) (t : Int) : List Nat → Nat → Option Ans := scrAt [([1, 0, 0], 0, Ans.pure [] (B true)), ([1, 1, 0, 0], 1, Ans.pure [c.d] (B (fewB [] c))), ([1, 1, 1, 0], 2, Ans.pure [c.d, I t] (.tup [(split c t).fst.d, (split c t).snd.fst.d, I (split c t).snd.snd])), ([1, 1, 1, 1, 0], 2, Ans.pure [c.d, I t] (.tup [(split c t).fst.d, (split c t).snd.fst.d, I (split c t).snd.snd])), ([1, 1, 1, 1, 1, 0], 2, Ans.pure [(split c t).fst.d, (split c t).fst.d] (B true)), ([1, 1, 1, 1, 1, 0], 6, Ans.pure [(split c t).snd.fst.d, (split c t).snd.fst.d] (B true))]
theorem n5 (c : Chk) (t : Int) (K : D → Prop) : runS (En Try.f5) (fi Try.f5 K) (n5s c t) lv5 200 [.code []] ⟨argSlots 0 [c.d, I t], .empty⟩ =
  (PureW PP 18 [] [] (B true) ∧ PureW PP 19 [c.d] [c.d] (B (fewB [] c)) ∧ bif !fewB [] c then K (B true) else PureW PP 20 [c.d, I t] [c.d, I t] (.tup [(split c t).fst.d, (split c t).snd.fst.d, I (split c t).snd.snd]) ∧ True ∧ True ∧ PureW PP 21 [c.d, I t] [c.d, I t] (.tup [(split c t).fst.d, (split c t).snd.fst.d, I (split c t).snd.snd]) ∧ True ∧ True ∧ PureW PP 22 [(split c t).fst.d, (split c t).fst.d] [(split c t).fst.d, (split c t).fst.d] (B true) ∧ (true = true → PureW PP 22 [(split c t).snd.fst.d, (split c t).snd.fst.d] [(split c t).snd.fst.d, (split c t).snd.fst.d] (B true)) ∧ K (B ((split c t).snd.snd == (split c t).snd.snd))) := by kernel_rfl
theorem c6 (d : Dir) (m : Int) : Pure PP 6 [d.d, I m] (B true) :=
  pu F6 (by kernel_rfl) (of_eq (n6 d m _) ⟨PureW.mk c18, fun _ => ⟨fun _ => PureW.mk (c24 d m), fun _ => PureW.mk (c25 d m), fun _ => PureW.mk (c23 _), Wk.of_eq (by cases decide ((↑d.blk.length : Int) > 40) <;> rfl)⟩⟩)
theorem c5 (c : Chk) (t : Int) : Pure PP 5 [c.d, I t] (B true) := by
  refine pu F5 (by kernel_rfl) (of_eq (n5 c t _) ⟨PureW.mk c18, PureW.mk (c19 c), cond_intro (fun _ => Wk.refl _) fun h => ?_⟩)
  have hs : SmallC c := few_small (by simpa using h)
  exact ⟨PureW.mk (c20' c t hs), trivial, trivial, PureW.mk (c21' c t hs), trivial, trivial, PureW.mk (c22 _), fun _ => PureW.mk (c22 _), Wk.of_eq (by simp)⟩
end Go.Proofs.Ytmlhaikblfjghaa.S1
/- Seat 1: what groups are. -/
namespace Go.Proofs.Ytmlhaikblfjghaa.S1
open Go Go.Ab Go.Proofs
def sumB (t : Int) (l : List Ent) : Int := l.foldl (fun t x => addI .i64 t x.plc.len) t
theorem runG_spec (m : Int) : ∀ (l : List Ent) (n : Nat) (t : Int), ∃ c, runG m n t l = n + c ∧ c ≤ l.length ∧ (∀ x ∈ l.take c, x.lvl = 0) ∧ (1 ≤ c → (n ≠ 0 ∨ 2 ≤ c) → sumB t (l.take c) ≤ m) ∧
    (n + c ≠ 0 → c < l.length → (l.getD c default).lvl = 0 → ¬ addI .i64 (sumB t (l.take c)) (l.getD c default).plc.len ≤ m)
  | [], n, t => ⟨0, rfl, Nat.le_refl _, by simp, fun h => by omega, fun _ h => by simp at h⟩
  | x :: r, n, t => by
    unfold runG
    cases hc : (bif x.lvl == 0 then bif (n : Int) == 0 then true else decide (addI .i64 t x.plc.len ≤ m) else false) with
    | false =>
      refine ⟨0, rfl, Nat.zero_le _, by simp, fun h => by omega, fun h0 _ hl => ?_⟩
      simp only [List.getD_cons_zero] at hl ⊢
      simp only [List.take_zero, sumB, List.foldl_nil]
      have h1 : (x.lvl == 0) = true := by simpa using hl
      have h2 : ((n : Int) == 0) = false := by simp; omega
      rw [h1, h2] at hc
      simpa using hc
    | true =>
      obtain ⟨c, e1, e2, e3, e4, e5⟩ := runG_spec m r (n + 1) (addI .i64 t x.plc.len)
      have hl : x.lvl = 0 := by
        cases h : x.lvl == 0 with
        | true => simpa using h
        | false => rw [h] at hc; cases hc
      refine ⟨c + 1, by simp only [cond_true]; omega, by simp; omega, fun y hy => ?_, fun _ h => ?_, fun _ h1 h2 => ?_⟩
      · simp only [List.take_succ_cons, List.mem_cons] at hy
        rcases hy with rfl | hy
        · exact hl
        · exact e3 y hy
      · simp only [List.take_succ_cons, sumB, List.foldl_cons]
        rcases Nat.eq_zero_or_pos c with h0 | h0
        · subst h0
          have hn : n ≠ 0 := by omega
          have h2 : ((n : Int) == 0) = false := by simp; omega
          have h3 : (x.lvl == 0) = true := by simpa using hl
          rw [h2, h3] at hc
          simpa using hc
        · exact e4 h0 (.inl (by omega))
      · simp only [List.take_succ_cons, sumB, List.foldl_cons, List.getD_cons_succ] at h2 ⊢
        exact e5 (by omega) (by simpa using h1) h2

/-- Groups of blocks, from block at on. -/
def GOk (b : List Ent) (m : Int) : Nat → List Rg → Prop
  | _, [] => True
  | at_, g :: r => ∃ f c : Nat, g = ⟨f, c⟩ ∧ at_ ≤ f ∧ 2 ≤ c ∧ f + c ≤ b.length ∧ (∀ x ∈ (b.drop f).take c, x.lvl = 0) ∧ sumB 0 ((b.drop f).take c) ≤ m ∧
      (f + c < b.length → (b.getD (f + c) default).lvl = 0 → ¬ addI .i64 (sumB 0 ((b.drop f).take c)) (b.getD (f + c) default).plc.len ≤ m) ∧ GOk b m (f + c) r
theorem GOk.mono {b : List Ent} {m : Int} {l : List Rg} {i j : Nat} (h : GOk b m j l) (hij : i ≤ j) : GOk b m i l := by
  cases l with
  | nil => trivial
  | cons g r =>
    obtain ⟨f, c, e1, e2, e3⟩ := h
    exact ⟨f, c, e1, by omega, e3⟩
theorem grps_ok (b : List Ent) (m : Int) : ∀ (k i : Nat) (l : List Ent), l = b.drop i → i ≤ b.length → GOk b m i (grps m k i l)
  | 0, _, _, _, _ => by simp only [grps]; trivial
  | _ + 1, _, [], _, _ => by simp only [grps]; trivial
  | k + 1, i, x :: r, hl, hi => by
    obtain ⟨c, e1, e2, e3, e4, e5⟩ := runG_spec m (x :: r) 0 0
    rw [Nat.zero_add] at e1 e5
    have hlen : (x :: r).length = b.length - i := by rw [hl]; simp
    have hpos : 0 < (x :: r).length := by simp
    unfold grps
    rw [e1]
    have hmx : i + max c 1 ≤ b.length := by omega
    have ih := grps_ok b m k (i + max c 1) ((x :: r).drop (max c 1)) (by rw [hl, List.drop_drop]) hmx
    by_cases h2 : 2 ≤ c
    · rw [if_pos h2]
      have hm : max c 1 = c := by omega
      rw [hm] at ih ⊢
      refine ⟨i, c, rfl, Nat.le_refl _, h2, by omega, by rw [← hl]; exact e3, by rw [← hl]; exact e4 (by omega) (.inr h2), fun h3 h4 => ?_, ih⟩
      rw [← hl]
      have hg : b.getD (i + c) default = (x :: r).getD c default := by
        rw [hl]; simp [List.getD, List.getElem?_drop]
      rw [hg] at h4 ⊢
      exact e5 (by omega) (by omega) h4
    · rw [if_neg h2, List.nil_append]
      exact ih.mono (by omega)
theorem cplan_ok (d : Dir) (m : Int) : GOk d.blk m 0 (cplan d m) := by
  unfold cplan
  cases (bif bif !dirOk d then true else decide (m < 1) then true else decide (m > 16384)) with
  | true => trivial
  | false => exact grps_ok d.blk m _ 0 d.blk rfl (Nat.zero_le _)
theorem F7 : OkF 7 Try.f7 := ⟨by kernel_rfl, by kernel_rfl, by kernel_rfl⟩
def lv7 : List (List Nat × List Nat) := [([1, 1, 1, 1, 0, 1, 0], [1, 2, 5, 19, 20, 21]), ([1, 1, 1, 1, 0, 1, 0, 0, 1, 1, 0, 0, 1, 1, 1, 0, 1, 0], [1, 2, 7, 8, 19, 20, 21, 54, 55, 56])]
noncomputable def n7s (d : Dir) (m : Int) : List Nat → Nat → Option Ans := scrAt [([1, 0, 0], 0, Ans.pure [] (B true)), ([1, 1, 1, 1, 0, 0], 2, Ans.pure [d.d, I m] (L (cplan d m) 2 Rg.d))]
theorem n7 (d : Dir) (m : Int) (K : D → Prop) : runS (En Try.f7) (fi Try.f7 K) (n7s d m) lv7 200 [.code []] ⟨argSlots 0 [d.d, I m], .empty⟩ =
  (PureW PP 18 [] [] (B true) ∧ (d.blk.length ≤ lenM → bif decide ((↑d.blk.length : Int) > 40) then K (B true) else PureW PP 24 [d.d, I m] [d.d, I m] (L (cplan d m) 2 Rg.d) ∧ ((cplan d m).length ≤ lenM → At (En Try.f7) (fi Try.f7 K) [It.code [1, 1, 1, 1, 0, 1, 0], It.blk 0, It.code [1, 1, 1, 1, 1]] { sl := [(1, I m), (2, .own [I d.hdr.sec, I d.hdr.len, I d.hdr.sum, L d.blk 7 Ent.d]), (5, I 0), (19, L (cplan d m) 2 Rg.d), (20, I (↑(cplan d m).length : Int)), (21, I 0)], h := Heap.empty : St }))) := by kernel_rfl
abbrev dirC (d : Dir) : List D := [I d.hdr.sec, I d.hdr.len, I d.hdr.sum, L d.blk 7 Ent.d]
def S7 (d : Dir) (m : Int) (at_ : Int) (q : List Rg) (i : Int) : St := ⟨[(1, I m), (2, .own (dirC d)), (5, I at_), (19, L q 2 Rg.d), (20, I q.length), (21, I i)], .empty⟩
noncomputable def n7as  : List Nat → Nat → Option Ans := scrAt []
theorem n7a (d : Dir) (m : Int) (at_ : Int) (q : List Rg) (i : Int) (J : St → Prop) (K : D → Prop) : runS (En Try.f7) (fi Try.f7 K) (n7as ) lv7 200 [.code [1, 1, 1, 1, 0, 1, 0, 0], stp [1, 2, 5, 19, 20, 21] J, .blk 0, .code [1, 1, 1, 1, 1]] (S7 d m at_ q i) =
  (bif decide (i < (↑q.length : Int)) then
  (0 ≤ i ∧ i < (↑q.length : Int)) ∧ True ∧ (((!bif decide ((q.getD i.toNat default).frm < at_) then true else decide ((q.getD i.toNat default).cnt < 2)) = true → d.blk.length ≤ lenM) → bif bif bif decide ((q.getD i.toNat default).frm < at_) then true else decide ((q.getD i.toNat default).cnt < 2) then true else decide ((q.getD i.toNat default).cnt > subI .i64 (↑d.blk.length : Int) (q.getD i.toNat default).frm) then K (B false) else (0 ≤ (q.getD i.toNat default).frm ∧ (q.getD i.toNat default).frm ≤ addI .i64 (q.getD i.toNat default).frm (q.getD i.toNat default).cnt ∧ addI .i64 (q.getD i.toNat default).frm (q.getD i.toNat default).cnt ≤ (↑d.blk.length : Int)) ∧ ((addI .i64 (q.getD i.toNat default).frm (q.getD i.toNat default).cnt).toNat - (q.getD i.toNat default).frm.toNat ≤ lenM → At (En Try.f7) (fi Try.f7 K) [It.code [1, 1, 1, 1, 0, 1, 0, 0, 1, 1, 0, 0, 1, 1, 1, 0, 1, 0], It.blk 2, It.code [1, 1, 1, 1, 0, 1, 0, 0, 1, 1, 0, 0, 1, 1, 1, 1], It.blk 1, It.code [1, 1, 1, 1, 0, 1, 0, 0, 1, 1, 1], stp [1, 2, 5, 19, 20, 21] J, It.blk 0, It.code [1, 1, 1, 1, 1]] { sl := [(1, I m), (2, .own [I d.hdr.sec, I d.hdr.len, I d.hdr.sum, L d.blk 7 Ent.d]), (7, .own [I (q.getD i.toNat default).frm, I (q.getD i.toNat default).cnt]), (8, I 0), (19, L q 2 Rg.d), (20, I (↑q.length : Int)), (21, I i), (54, .list ((addI .i64 (q.getD i.toNat default).frm (q.getD i.toNat default).cnt).toNat - (q.getD i.toNat default).frm.toNat) 7 (dropG (fun i => (d.blk.getD i default).d) (q.getD i.toNat default).frm.toNat) .none), (55, I (↑((addI .i64 (q.getD i.toNat default).frm (q.getD i.toNat default).cnt).toNat - (q.getD i.toNat default).frm.toNat) : Int)), (56, I 0)], h := Heap.empty : St }))
 else K (B true)) := by kernel_rfl
def T7 (d : Dir) (m : Int) (f c : Int) (bytes : Int) (q : List Rg) (i : Int) (es : List Ent) (k : Int) : St := ⟨[(1, I m), (2, .own (dirC d)), (7, .own [I f, I c]), (8, I bytes), (19, L q 2 Rg.d), (20, I q.length), (21, I i), (54, L es 7 Ent.d), (55, I es.length), (56, I k)], .empty⟩
noncomputable def n7bs  : List Nat → Nat → Option Ans := scrAt []
theorem n7b (d : Dir) (m : Int) (f c : Int) (bytes : Int) (q : List Rg) (i : Int) (es : List Ent) (k : Int) (J J2 : St → Prop) (K : D → Prop) : runS (En Try.f7) (fi Try.f7 K) (n7bs ) lv7 200 [.code [1, 1, 1, 1, 0, 1, 0, 0, 1, 1, 0, 0, 1, 1, 1, 0, 1, 0, 0], stp [1, 2, 7, 8, 19, 20, 21, 54, 55, 56] J, .blk 2, .code [1, 1, 1, 1, 0, 1, 0, 0, 1, 1, 0, 0, 1, 1, 1, 1], .blk 1, .code [1, 1, 1, 1, 0, 1, 0, 0, 1, 1, 1], stp [1, 2, 5, 19, 20, 21] J2, .blk 0, .code [1, 1, 1, 1, 1]] (T7 d m f c bytes q i es k) =
  (bif decide (k < (↑es.length : Int)) then (0 ≤ k ∧ k < (↑es.length : Int)) ∧ True ∧ bif (es.getD k.toNat default).lvl != 0 then K (B false) else J { sl := [(1, I m), (2, .own [I d.hdr.sec, I d.hdr.len, I d.hdr.sum, L d.blk 7 Ent.d]), (7, .own [I f, I c]), (8, I (addI .i64 bytes (es.getD k.toNat default).plc.len)), (19, L q 2 Rg.d), (20, I (↑q.length : Int)), (21, I i), (54, L es 7 Ent.d), (55, I (↑es.length : Int)), (56, I (addI .i64 k 1))], h := Heap.empty : St } else ((!decide (bytes > m)) = true → d.blk.length ≤ lenM) → ((!decide (bytes > m) && decide (addI .i64 f c < (↑d.blk.length : Int))) = true → 0 ≤ addI .i64 f c ∧ addI .i64 f c < (↑d.blk.length : Int)) ∧ ((!decide (bytes > m) && bif decide (addI .i64 f c < (↑d.blk.length : Int)) then (d.blk.getD (addI .i64 f c).toNat default).lvl == 0 else false) = true → 0 ≤ addI .i64 f c ∧ addI .i64 f c < (↑d.blk.length : Int)) ∧ bif bif decide (bytes > m) then true else bif bif decide (addI .i64 f c < (↑d.blk.length : Int)) then (d.blk.getD (addI .i64 f c).toNat default).lvl == 0 else false then decide (addI .i64 bytes (d.blk.getD (addI .i64 f c).toNat default).plc.len ≤ m) else false then K (B false) else J2 { sl := [(1, I m), (2, .own [I d.hdr.sec, I d.hdr.len, I d.hdr.sum, L d.blk 7 Ent.d]), (5, I (addI .i64 f c)), (19, L q 2 Rg.d), (20, I (↑q.length : Int)), (21, I (addI .i64 i 1))], h := Heap.empty : St }) := by kernel_rfl
theorem c7 (d : Dir) (m : Int) : Pure PP 7 [d.d, I m] (B true) := by
  refine pu F7 (by kernel_rfl) (of_eq (n7 d m _) ⟨PureW.mk c18, fun _ => cond_intro (fun _ => Wk.refl _) fun h40 => ⟨PureW.mk (c24 d m), fun hq => ?_⟩⟩)
  have hbl : d.blk.length ≤ 40 := by simp at h40; omega
  have hok := cplan_ok d m
  generalize cplan d m = q at hq hok ⊢
  refine lp (fn := Try.f7) (fun x : Nat × Nat => x.1 ≤ q.length ∧ GOk d.blk m x.2 (q.drop x.1)) (fun x => S7 d m x.2 q x.1) (fun x => q.length - x.1) [1, 2, 5, 19, 20, 21] (by kernel_rfl) (fun x hx => of_eq (n7a d m x.2 q x.1 _ _) ?_) (0, 0) ⟨Nat.zero_le _, hok⟩
  obtain ⟨i, at_⟩ := x
  obtain ⟨hi, hg⟩ := hx
  simp only at hi hg ⊢
  refine cond_intro (fun hlt => ?_) fun hge => Wk.refl _
  have hlt := ltI hlt
  rw [Int.toNat_natCast]
  rw [drop_cons _ _ hlt] at hg
  obtain ⟨f, c, e1, e2, e3, e4, e5, e6, e7, e8⟩ := hg
  rw [e1]
  simp only
  have hfc : addI .i64 (f : Int) (c : Int) = ((f + c : Nat) : Int) := by rw [add64 (by omega) (by omega)]; rfl
  have hsub : subI .i64 (d.blk.length : Int) (f : Int) = (d.blk.length : Int) - f := sub64 (by omega) (by omega)
  rw [hfc, hsub, Int.toNat_natCast, Int.toNat_natCast]
  have hfalse : (bif bif decide ((f : Int) < (at_ : Int)) then true else decide ((c : Int) < 2) then true else decide ((c : Int) > (d.blk.length : Int) - f)) = false := by simp; omega
  refine ⟨⟨by omega, by omega⟩, trivial, fun _ => ?_⟩
  rw [hfalse, cond_false]
  refine ⟨⟨by omega, by omega, by omega⟩, fun _ => ?_⟩
  have hsl : ((d.blk.drop f).take c).length = c := by simp; omega
  generalize hes : (d.blk.drop f).take c = es at hsl e5 e6 e7
  rw [show f + c - f = c by omega]
  refine at_le (st' := T7 d m f c (sumB 0 (es.take 0)) q i es (0 : Nat)) ?_ (((StLe.set (d' := L es 7 Ent.d) 54 rfl (Wk.toL hsl.symm (.inl rfl) fun k hk => ?_) rfl rfl)).cast ?_)
  · refine lp (fn := Try.f7) (fun k : Nat => k ≤ es.length) (fun k => T7 d m f c (sumB 0 (es.take k)) q i es k) (fun k => es.length - k) [1, 2, 7, 8, 19, 20, 21, 54, 55, 56] (by kernel_rfl) (fun k hk => of_eq (n7b d m f c _ q i es k _ _ _) (cond_intro (fun hlt2 => ?_) fun hge2 => ?_)) 0 (Nat.zero_le _)
    · have hlt2 := ltI hlt2
      have hl0 := e5 _ (getD_mem hlt2)
      have hsum : sumB 0 (es.take (k + 1)) = addI .i64 (sumB 0 (es.take k)) (es.getD k default).plc.len := by rw [take_snoc _ _ hlt2]; simp [sumB]
      rw [add1 hlt2 (by unfold lenM; omega), Int.toNat_natCast]
      refine ⟨⟨by omega, by omega⟩, trivial, cond_intro (fun h => ?_) fun h => Nx.of (k + 1) (by omega) (by omega) ?_⟩
      · rw [hl0] at h; cases h
      · unfold T7; rw [hsum]; exact StLe.refl _ _
    · have := geI hge2
      rw [List.take_of_length_le this, hfc, Int.toNat_natCast]
      refine fun _ => ⟨fun h => ⟨by omega, ?_⟩, fun h => ⟨by omega, ?_⟩, cond_intro (fun h => ?_) fun h => ?_⟩
      · simp at h; omega
      · cases hd : decide (((f + c : Nat) : Int) < (d.blk.length : Int)) with
        | true => simpa using hd
        | false => rw [hd] at h; simp at h
      · exfalso
        have h1 : decide (sumB 0 es > m) = false := by simp; omega
        rw [h1, cond_false] at h
        cases hd : decide (((f + c : Nat) : Int) < (d.blk.length : Int)) with
        | false => rw [hd] at h; cases h
        | true =>
          rw [hd, cond_true] at h
          cases hl : (d.blk.getD (f + c) default).lvl == 0 with
          | false => rw [hl] at h; cases h
          | true =>
            rw [hl, cond_true] at h
            exact e7 (by simp at hd; omega) (by simpa using hl) (by simpa using h)
      · rw [add1 hlt hq]
        exact Nx.mk (i + 1, f + c) ⟨hlt, e8⟩ (by simp only; omega)
  · have : es[k]'hk = d.blk.getD (f + k) default := by
      subst hes
      rw [getD_list (by simp at hk; omega)]
      simp
    rw [this]
    rfl
  · unfold T7
    rw [hsl]
    rfl
end Go.Proofs.Ytmlhaikblfjghaa.S1
