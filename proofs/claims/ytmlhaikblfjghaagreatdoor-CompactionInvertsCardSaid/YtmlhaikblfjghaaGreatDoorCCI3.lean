/- Seat 1: joining; the examples. -/
import Derived.Test.YtmlhaikblfjghaaGreatDoorCCI2
namespace Go.Proofs.YtmlhaikblfjghaaGreatDoor.S1
open Go Go.Ab Go.Proofs
theorem F23 : OkF 23 Tryz.f23 := ⟨by kernel_rfl, by kernel_rfl, by kernel_rfl⟩
def lv23 : List (List Nat × List Nat) := [([1, 1, 0, 1, 0], [0, 1, 12, 13])]
noncomputable def n49s  : List Nat → Nat → Option Ans := scrAt []
theorem n49 [Lay] (a b : List Str) (K : D → Prop) : runS (En Tryz.f23) (fi Tryz.f23 K) (n49s ) lv23 200 [.code []] ⟨argSlots 0 [L a 1 .str, L b 1 .str], .empty⟩ =
  (a.length ≤ lenM → b.length ≤ lenM → bif (↑a.length : Int) != (↑b.length : Int) then K (B false) else a.length ≤ lenM → At (En Tryz.f23) (fi Tryz.f23 K) [It.code [1, 1, 0, 1, 0], It.blk 0, It.code [1, 1, 1]] { sl := [(0, L a 1 .str), (1, L b 1 .str), (12, I (↑a.length : Int)), (13, I 0)], h := Heap.empty : St }) := by kernel_rfl
def S49 (a b : List Str) (i : Int) : St := ⟨[(0, L a 1 .str), (1, L b 1 .str), (12, I a.length), (13, I i)], .empty⟩
noncomputable def n49as  : List Nat → Nat → Option Ans := scrAt []
theorem n49a [Lay] (a b : List Str) (i : Int) (J : St → Prop) (K : D → Prop) : runS (En Tryz.f23) (fi Tryz.f23 K) (n49as ) lv23 200 [.code [1, 1, 0, 1, 0, 0], stp [0, 1, 12, 13] J, .blk 0, .code [1, 1, 1]] (S49 a b i) =
  (bif decide (i < (↑a.length : Int)) then (0 ≤ i ∧ i < (↑a.length : Int)) ∧ (0 ≤ i ∧ i < (↑b.length : Int)) ∧ bif !a.getD i.toNat default == b.getD i.toNat default then K (B false) else J { sl := [(0, L a 1 .str), (1, L b 1 .str), (12, I (↑a.length : Int)), (13, I (addI .i64 i 1))], h := Heap.empty : St } else K (B true)) := by kernel_rfl
def eqS (a b : List Str) : Bool := decide (a = b)
theorem c23 [Lay] (a b : List Str) : Pure PP 23 [L a 1 .str, L b 1 .str] (B (eqS a b)) := by
  refine pu F23 (by kernel_rfl) (of_eq (n49 a b _) fun ha hb => cond_intro (fun h => ?_) fun h _ => ?_)
  · have : eqS a b = false := by
      simp at h
      exact decide_eq_false fun e => h (by rw [e])
    rw [this]; exact Wk.refl _
  have hab : a.length = b.length := by simp at h; omega
  refine lp (fn := Tryz.f23) (fun i : Nat => i ≤ a.length ∧ a.take i = b.take i) (fun i => S49 a b i) (fun i => a.length - i) [0, 1, 12, 13] (by kernel_rfl) (fun i hi => of_eq (n49a a b i _ _) (cond_intro (fun hlt => ?_) fun hge => ?_)) 0 ⟨Nat.zero_le _, by simp⟩
  · have hlt := ltI hlt
    obtain ⟨hi, he⟩ := hi
    rw [add1 hlt ha, Int.toNat_natCast]
    refine ⟨⟨by omega, by omega⟩, ⟨by omega, by omega⟩, cond_intro (fun h => ?_) fun h => Nx.mk (i + 1) ⟨by omega, ?_⟩ (by omega)⟩
    · have : eqS a b = false := decide_eq_false fun e => by subst e; simp at h
      rw [this]; exact Wk.refl _
    · rw [take_snoc _ _ hlt, take_snoc _ _ (by omega), he]
      congr 2
      simpa using h
  · have := geI hge
    obtain ⟨hi, he⟩ := hi
    have : eqS a b = true := decide_eq_true (by rw [List.take_of_length_le this, List.take_of_length_le (by omega)] at he; exact he)
    rw [this]; exact Wk.refl _

theorem e27 [Lay] (a b : List Gp) (ha : a.length ≤ 1000000) (hb : b.length ≤ 1000000) : Does PP 27 [.vec 0 a.length 2, L b 2 Gp.d] (hVec a Gp.d) (L (a ++ b) 2 Gp.d) ⟨fun _ => none, 0, upd (fun _ => none) 0 (some a.length), 1, upd (upd (fun _ => none) 0 (some (cv a Gp.d))) 0 none⟩ :=
  Pure.lay (t := 0) (n := a.length) (q := cv a Gp.d) (h := hVec a Gp.d) (c27 a b ha hb) rfl rfl (by simp [frzOks, frzOk, L]) (Wks.cons Wk.tokL (Wks.refl _))

theorem F8 : OkF 8 Tryz.f8 := ⟨by kernel_rfl, by kernel_rfl, by kernel_rfl⟩
def lv8 : List (List Nat × List Nat) := [([1, 1, 1, 1, 0, 1, 0], [2, 3, 4, 7, 61, 62]), ([1, 1, 1, 1, 1, 1, 1, 1, 0], [4, 7, 9])]
theorem c22' [Lay] (c : Chk) (t : Int) (hc : c.chg.length = c.vals.length) (hm : c.vals.length ≤ 1000000) : Pure PP 22 [c.d, I t] (L (valsAt c t) 1 .str) := c22 c t hc hm
noncomputable def n32s (a : Chk) (b : Chk) : List Nat → Nat → Option Ans := scrAt [([1, 1, 0, 0], 32, Ans.pure [a.d, I a.to] (L (valsAt a a.to) 1 .str)), ([1, 1, 0, 0], 33, Ans.pure [L b.vals 1 .str, L (valsAt a a.to) 1 .str] (B (eqS b.vals (valsAt a a.to)))), ([1, 1, 1, 0], 6, Ans.pure [L a.vals 1 .str] (L a.vals 1 .str))]
theorem n32 [Lay] (a b : Chk) (K : D → Prop) : runS (En Tryz.f8) (fi Tryz.f8 K) (n32s a b) lv8 200 [.code []] ⟨argSlots 0 [a.d, b.d], .empty⟩ =
  (a.vals.length ≤ lenM →
  ((!b.frm != a.to) = true → a.chg.length ≤ lenM) →
    ((!bif b.frm != a.to then true else (↑a.chg.length : Int) != (↑a.vals.length : Int)) = true → b.vals.length ≤ lenM) →
      ((!bif bif b.frm != a.to then true else (↑a.chg.length : Int) != (↑a.vals.length : Int) then true else (↑b.vals.length : Int) != (↑a.vals.length : Int)) = true → b.chg.length ≤ lenM) →
        ((!bif bif bif b.frm != a.to then true else (↑a.chg.length : Int) != (↑a.vals.length : Int) then true else (↑b.vals.length : Int) != (↑a.vals.length : Int) then true else (↑b.chg.length : Int) != (↑a.vals.length : Int)) = true → PureW PP 22 [a.d, I a.to] [a.d, I a.to] (L (valsAt a a.to) 1 .str)) ∧
          ((!bif bif bif b.frm != a.to then true else (↑a.chg.length : Int) != (↑a.vals.length : Int) then true else (↑b.vals.length : Int) != (↑a.vals.length : Int) then true else (↑b.chg.length : Int) != (↑a.vals.length : Int)) = true → PureW PP 23 [L b.vals 1 .str, L (valsAt a a.to) 1 .str] [L b.vals 1 .str, L (valsAt a a.to) 1 .str] (B (eqS b.vals (valsAt a a.to)))) ∧ bif bif bif bif bif b.frm != a.to then true else (↑a.chg.length : Int) != (↑a.vals.length : Int) then true else (↑b.vals.length : Int) != (↑a.vals.length : Int) then true else (↑b.chg.length : Int) != (↑a.vals.length : Int) then true else !eqS b.vals (valsAt a a.to) then True ∧ K (.tup [.agg [I 0, I 0, .list 0 0 (fun _ => D.junk) .full, .list 0 0 (fun _ => D.junk) .full, .list 0 0 (fun _ => D.junk) .full], I 1]) else PureW PP 21 [L a.vals 1 .str] [L a.vals 1 .str] (L a.vals 1 .str) ∧ True ∧ (a.chg.length ≤ lenM → At (En Tryz.f8) (fi Tryz.f8 K) [It.code [1, 1, 1, 1, 0, 1, 0], It.blk 0, It.code [1, 1, 1, 1, 1]] { sl := [(2, .own [I a.frm, I a.to, L a.vals 1 .str, L a.chg 1 fun l => L l 2 Cg.d, L a.gaps 2 Gp.d]), (3, .own [I b.frm, I b.to, L b.vals 1 .str, L b.chg 1 fun l => L l 2 Cg.d, L b.gaps 2 Gp.d]), (4, .own [I 0, I 0, .list 0 0 (fun _ => D.junk) .full, .list 0 0 (fun _ => D.junk) .full, .list 0 0 (fun _ => D.junk) .full]), (7, .own [I a.frm, I b.to, L a.vals 1 .str, .list 0 0 (fun _ => D.junk) .full, .list 0 0 (fun _ => D.junk) .full]), (61, I (↑a.chg.length : Int)), (62, I 0)], h := Heap.empty : St })) := by kernel_rfl
def S32 (a b : Chk) (out : List (List Cg)) (i : Int) : St := ⟨[(2, .own (cell4 a.frm a.to a.vals a.chg (L a.gaps 2 Gp.d))), (3, .own (cell4 b.frm b.to b.vals b.chg (L b.gaps 2 Gp.d))), (4, .own z5), (7, .own [I a.frm, I b.to, L a.vals 1 .str, LT out 1 (fun l => L l 2 Cg.d) 0, .list 0 0 (fun _ => .junk) .full]), (61, I a.chg.length), (62, I i)], hN out.length 1⟩
noncomputable def n32as (a : Chk) (b : Chk) (out : List (List Cg)) (i : Int) : List Nat → Nat → Option Ans := scrAt [([1, 1, 1, 1, 0, 1, 0, 0, 1, 1, 0, 0, 1], 7, Ans.pure [L (a.chg.getD i.toNat default) 2 Cg.d] (L (a.chg.getD i.toNat default) 2 Cg.d)), ([1, 1, 1, 1, 0, 1, 0, 0, 1, 1, 0, 0, 1], 13, Ans.pure [L (a.chg.getD i.toNat default) 2 Cg.d, L (b.chg.getD i.toNat default) 2 Cg.d] (L (a.chg.getD i.toNat default ++ b.chg.getD i.toNat default) 2 Cg.d)), ([1, 1, 1, 1, 1, 0], 2, Ans.eff (ren (rnm [] 0) (rnm [] 1) (D.vec 0 a.gaps.length 2)) (frameH [] [] { box := fun _ => none, nl := 0, hw := upd (fun _ => none) 0 (some out.length), nt := 1, vw := fun _ => none : Heap } (hVec a.gaps Gp.d)))]
theorem n32a [Lay] (a b : Chk) (out : List (List Cg)) (i : Int) (J : St → Prop) (K : D → Prop) : runS (En Tryz.f8) (fi Tryz.f8 K) (n32as a b out i) lv8 200 [.code [1, 1, 1, 1, 0, 1, 0, 0], stp [2, 3, 4, 7, 61, 62] J, .blk 0, .code [1, 1, 1, 1, 1]] (S32 a b out i) =
  (bif decide (i < (↑a.chg.length : Int)) then (0 ≤ i ∧ i < (↑a.chg.length : Int)) ∧ PureW PP 25 [L (a.chg.getD i.toNat default) 2 Cg.d] [L (a.chg.getD i.toNat default) 2 Cg.d] (L (a.chg.getD i.toNat default) 2 Cg.d) ∧ (0 ≤ i ∧ i < (↑b.chg.length : Int)) ∧ PureW PP 24 [L (a.chg.getD i.toNat default) 2 Cg.d, L (b.chg.getD i.toNat default) 2 Cg.d] [L (a.chg.getD i.toNat default) 2 Cg.d, L (b.chg.getD i.toNat default) 2 Cg.d] (L (a.chg.getD i.toNat default ++ b.chg.getD i.toNat default) 2 Cg.d) ∧ (upd (fun _ => none) 0 (some out.length) 0 = some out.length ∧ (out.length + 1) * 24 ≤ roomM) ∧ True ∧ J { sl := [(2, .own [I a.frm, I a.to, L a.vals 1 .str, L a.chg 1 fun l => L l 2 Cg.d, L a.gaps 2 Gp.d]), (3, .own [I b.frm, I b.to, L b.vals 1 .str, L b.chg 1 fun l => L l 2 Cg.d, L b.gaps 2 Gp.d]), (4, .own [I 0, I 0, .list 0 0 (fun _ => D.junk) .full, .list 0 0 (fun _ => D.junk) .full, .list 0 0 (fun _ => D.junk) .full]), (7, .own [I a.frm, I b.to, L a.vals 1 .str, .list (out.length + 1) 1 (catG out.length (fun i => L (out.getD i default) 2 Cg.d) (litG [L (a.chg.getD i.toNat default ++ b.chg.getD i.toNat default) 2 Cg.d])) (.tok 0 1), .list 0 0 (fun _ => D.junk) .full]), (61, I (↑a.chg.length : Int)), (62, I (addI .i64 i 1))], h := { box := fun _ => none, nl := 0, hw := upd (upd (fun _ => none) 0 (some out.length)) 0 (some (out.length + 1)), nt := 1, vw := fun _ => none : Heap } : St }
 else
  Does PP 26 [L a.gaps 2 Gp.d] { box := fun _ => none, nl := 0, hw := upd (fun _ => none) 0 (some out.length), nt := 1, vw := fun _ => none : Heap } (ren (rnm [] 0) (rnm [] 1) (D.vec 0 a.gaps.length 2)) (frameH [] [] { box := fun _ => none, nl := 0, hw := upd (fun _ => none) 0 (some out.length), nt := 1, vw := fun _ => none : Heap } (hVec a.gaps Gp.d)) ∧
    True ∧
      (a.gaps.length ≤ lenM →
        (decide ((↑a.gaps.length : Int) > 0) = true → b.gaps.length ≤ lenM) →
          ((bif decide ((↑a.gaps.length : Int) > 0) then decide ((↑b.gaps.length : Int) > 0) else false) = true → updN (upd (fun _ => none) 0 (some out.length)) (rnm [] 1) (upd (fun _ => none) 0 (some a.gaps.length)) 1 1 = some a.gaps.length ∧ 0 ≤ subI .i64 (↑a.gaps.length : Int) 1 ∧ subI .i64 (↑a.gaps.length : Int) 1 < (↑a.gaps.length : Int)) ∧
            ((bif decide ((↑a.gaps.length : Int) > 0) then decide ((↑b.gaps.length : Int) > 0) else false) = true → updN (upd (fun _ => none) 0 (some out.length)) (rnm [] 1) (upd (fun _ => none) 0 (some a.gaps.length)) 1 1 = some a.gaps.length) ∧
              ((bif decide ((↑a.gaps.length : Int) > 0) then decide ((↑b.gaps.length : Int) > 0) else false) = true → (0 : Int) ≤ 0 ∧ 0 < (↑b.gaps.length : Int)) ∧
                bif bif bif decide ((↑a.gaps.length : Int) > 0) then decide ((↑b.gaps.length : Int) > 0) else false then (a.gaps.getD (subI .i64 (↑a.gaps.length : Int) 1).toNat default).to == (b.gaps.getD 0 default).frm else false then ((0 : Int) ≤ 0 ∧ 0 < (↑b.gaps.length : Int)) ∧ (updN (upd (fun _ => none) 0 (some out.length)) (rnm [] 1) (upd (fun _ => none) 0 (some a.gaps.length)) 1 1 = some a.gaps.length ∧ 0 ≤ subI .i64 (↑a.gaps.length : Int) 1 ∧ subI .i64 (↑a.gaps.length : Int) 1 < (↑a.gaps.length : Int)) ∧ updN (upd (fun _ => none) 0 (some out.length)) (rnm [] 1) (upd (fun _ => none) 0 (some a.gaps.length)) 1 1 = some a.gaps.length ∧ ((0 : Int) ≤ 1 ∧ 1 ≤ (↑b.gaps.length : Int)) ∧ At (En Tryz.f8) (fi Tryz.f8 K) [It.code [1, 1, 1, 1, 1, 1, 1, 1, 0], It.code [1, 1, 1, 1, 1, 1, 1, 1, 1]] { sl := [(4, .own [I 0, I 0, .list 0 0 (fun _ => D.junk) .full, .list 0 0 (fun _ => D.junk) .full, .list 0 0 (fun _ => D.junk) .full]), (7, .own [I a.frm, I b.to, L a.vals 1 .str, .list out.length 1 (fun i => L (out.getD i default) 2 Cg.d) (.tok 0 1), D.vec 1 a.gaps.length 2]), (9, .list (b.gaps.length - 1) 2 (dropG (fun i => (b.gaps.getD i default).d) 1) .none)], h := { box := fun _ => none, nl := 0, hw := upd (upd (fun _ => none) 0 (some out.length)) 1 (some a.gaps.length), nt := 2, vw := upd (upd (fun _ => none) 1 (some (cv a.gaps Gp.d))) 1 (some (setG (cv a.gaps Gp.d) (subI .i64 (↑a.gaps.length : Int) 1).toNat (.agg [I (a.gaps.getD (subI .i64 (↑a.gaps.length : Int) 1).toNat default).frm, I (b.gaps.getD 0 default).to]))) : Heap } : St }
                else At (En Tryz.f8) (fi Tryz.f8 K) [It.code [1, 1, 1, 1, 1, 1, 1, 1, 0], It.code [1, 1, 1, 1, 1, 1, 1, 1, 1]] { sl := [(4, .own [I 0, I 0, .list 0 0 (fun _ => D.junk) .full, .list 0 0 (fun _ => D.junk) .full, .list 0 0 (fun _ => D.junk) .full]), (7, .own [I a.frm, I b.to, L a.vals 1 .str, .list out.length 1 (fun i => L (out.getD i default) 2 Cg.d) (.tok 0 1), D.vec 1 a.gaps.length 2]), (9, L b.gaps 2 Gp.d)], h := { box := fun _ => none, nl := 0, hw := upd (upd (fun _ => none) 0 (some out.length)) 1 (some a.gaps.length), nt := 2, vw := upd (fun _ => none) 1 (some (cv a.gaps Gp.d)) : Heap } : St })) := by kernel_rfl
def P32 (f t : Int) (vs : List Str) (out : List (List Cg)) (gs ms : List Gp) : St := ⟨[(4, .own z5), (7, .own [I f, I t, L vs 1 .str, LT out 1 (fun l => L l 2 Cg.d) 0, .vec 1 gs.length 2]), (9, L ms 2 Gp.d)], ⟨fun _ => none, 0, upd (upd (fun _ => none) 0 (some out.length)) 1 (some gs.length), 2, upd (fun _ => none) 1 (some (cv gs Gp.d))⟩⟩
noncomputable def n32ps (out : List (List Cg)) (gs : List Gp) (ms : List Gp) : List Nat → Nat → Option Ans := scrAt [([1, 1, 1, 1, 1, 1, 1, 1, 0], 3, Ans.eff (ren (rnm [] 0) (rnm [1] 2) (L (gs ++ ms) 2 Gp.d)) (frameH [] [1] { box := fun _ => none, nl := 0, hw := upd (upd (fun _ => none) 0 (some out.length)) 1 (some gs.length), nt := 2, vw := upd (fun _ => none) 1 (some (cv gs Gp.d)) : Heap } { box := fun _ => none, nl := 0, hw := upd (fun _ => none) 0 (some gs.length), nt := 1, vw := upd (upd (fun _ => none) 0 (some (cv gs Gp.d))) 0 none : Heap }))]
theorem n32p [Lay] (f t : Int) (vs : List Str) (out : List (List Cg)) (gs ms : List Gp) (K : D → Prop) : runS (En Tryz.f8) (fi Tryz.f8 K) (n32ps out gs ms) nolv 200 [.code [1, 1, 1, 1, 1, 1, 1, 1, 0], .code [1, 1, 1, 1, 1, 1, 1, 1, 1]] (P32 f t vs out gs ms) =
  (Does PP 27 [D.vec 1 gs.length 2, L ms 2 Gp.d] { box := fun _ => none, nl := 0, hw := upd (upd (fun _ => none) 0 (some out.length)) 1 (some gs.length), nt := 2, vw := upd (fun _ => none) 1 (some (cv gs Gp.d)) : Heap } (ren (rnm [] 0) (rnm [1] 2) (L (gs ++ ms) 2 Gp.d)) (frameH [] [1] { box := fun _ => none, nl := 0, hw := upd (upd (fun _ => none) 0 (some out.length)) 1 (some gs.length), nt := 2, vw := upd (fun _ => none) 1 (some (cv gs Gp.d)) : Heap } { box := fun _ => none, nl := 0, hw := upd (fun _ => none) 0 (some gs.length), nt := 1, vw := upd (upd (fun _ => none) 0 (some (cv gs Gp.d))) 0 none : Heap }) ∧ True ∧ True ∧ K (.tup [.agg [I f, I t, L vs 1 .str, .list out.length 1 (fun i => L (out.getD i default) 2 Cg.d) (.tok 0 1), L (gs ++ ms) 2 Gp.d], I 0])) := by kernel_rfl
def zipC (a b : List (List Cg)) : List (List Cg) := (List.range a.length).map fun i => a.getD i default ++ b.getD i default
def gMeet (a b : List Gp) : Bool := bif bif decide ((↑a.length : Int) > 0) then decide ((↑b.length : Int) > 0) else false then (a.getD (subI .i64 (↑a.length : Int) 1).toNat default).to == (b.getD 0 default).frm else false
def joinG (a b : List Gp) : List Gp := bif gMeet a b then a.set (a.length - 1) ⟨(a.getD (a.length - 1) default).frm, (b.getD 0 default).to⟩ ++ b.drop 1 else a ++ b
def joinBad (a b : Chk) : Bool := bif bif bif bif b.frm != a.to then true else (↑a.chg.length : Int) != (↑a.vals.length : Int) then true else (↑b.vals.length : Int) != (↑a.vals.length : Int) then true else (↑b.chg.length : Int) != (↑a.vals.length : Int) then true else !eqS b.vals (valsAt a a.to)
def join (a b : Chk) : Chk × Int := bif joinBad a b then (default, 1) else (⟨a.frm, b.to, a.vals, zipC a.chg b.chg, joinG a.gaps b.gaps⟩, 0)
def joinD (x : Chk × Int) : D := .tup [x.1.d, I x.2]
instance {x : Chk × Int} : DD (joinD x) := inferInstanceAs (DD (.tup _))
theorem zipC_take (a b : List (List Cg)) (i : Nat) (h : i < a.length) : (zipC a b).take (i + 1) = (zipC a b).take i ++ [a.getD i default ++ b.getD i default] := by
  have hl : (zipC a b).length = a.length := by simp [zipC]
  rw [take_snoc _ _ (by omega)]
  congr 2
  simp [zipC, List.getD, h]
theorem lastN {n : Nat} (h : n ≤ lenM) (h0 : 0 < n) : (subI .i64 (n : Int) 1).toNat = n - 1 := by
  unfold lenM at h
  rw [sub64 (by omega) (by omega)]; omega
theorem joinP [Lay] (a b : Chk) (hs : SmallC a) (hb : SmallC b) (gs ms : List Gp) (hg : gs.length ≤ 1000000) (hm : ms.length ≤ 1000000) {fin : D → Prop} (hf : fin (.tup [.agg [I a.frm, I b.to, L a.vals 1 .str, .list (zipC a.chg b.chg).length 1 (fun i => L ((zipC a.chg b.chg).getD i default) 2 Cg.d) (.tok 0 1), L (gs ++ ms) 2 Gp.d], I 0])) :
    At (En Tryz.f8) (fi Tryz.f8 fin) [It.code [1, 1, 1, 1, 1, 1, 1, 1, 0], It.code [1, 1, 1, 1, 1, 1, 1, 1, 1]] (P32 a.frm b.to a.vals (zipC a.chg b.chg) gs ms) :=
  runS_sound hmix 200 _ _ (of_eq (n32p _ _ _ _ gs ms _) ⟨fr (e27 gs ms hg hm) [] [1], trivial, trivial, hf⟩)
theorem c8 [Lay] (a b : Chk) (hs : SmallC a) (hb : SmallC b) : Pure PP 8 [a.d, b.d] (joinD (join a b)) := by
  have hsa := hs
  have hsb := hb
  obtain ⟨hs1, hs2, hs3, hs4⟩ := hs
  obtain ⟨hb1, hb2, hb3, hb4⟩ := hb
  refine pu F8 (by kernel_rfl) (of_eq (n32 a b _) fun hv h1 h2 h3 => ⟨fun h => PureW.mk (c22' a _ (by simp at h; omega) (by omega)), fun h => PureW.mk (c23 _ _), cond_intro (fun h => ⟨trivial, ?_⟩) fun h => ?_⟩)
  · have h : joinBad a b = true := h
    simp only [join, h, cond_true]; exact Wk.tup (Wks.cons wkZ5 (Wks.refl _))
  have h : joinBad a b = false := h
  simp only [join, h, cond_false]
  have hj := h
  unfold joinBad at hj
  have hla : a.chg.length = a.vals.length ∧ b.chg.length = a.vals.length := by simp at hj; omega
  refine ⟨PureW.mk (c21 _ (by omega)), trivial, fun hl => ?_⟩
  have hzl : (zipC a.chg b.chg).length = a.chg.length := by simp [zipC]
  refine at_le (st' := S32 a b ((zipC a.chg b.chg).take 0) (0 : Nat)) ?_ ((StLe.idleOwn _ none 7 3 1 (fun i => L (([] : List (List Cg)).getD i default) 2 Cg.d) rfl rfl).cast (by kernel_rfl))
  refine lp (fn := Tryz.f8) (fun i : Nat => i ≤ a.chg.length) (fun i => S32 a b ((zipC a.chg b.chg).take i) i) (fun i => a.chg.length - i) [2, 3, 4, 7, 61, 62] (by kernel_rfl) (fun i hi => of_eq (n32a a b _ i _ _) (cond_intro (fun hlt => ?_) fun hge => ?_)) 0 (Nat.zero_le _)
  · have hlt := ltI hlt
    have hz := zipC_take a.chg b.chg i hlt
    have hm1 := hs4 _ (getD_mem hlt)
    have hm2 := hb4 _ (getD_mem (l := b.chg) (i := i) (by omega))
    have htl : ((zipC a.chg b.chg).take i).length = i := by simp; omega
    rw [add1 hlt hl, Int.toNat_natCast]
    refine ⟨⟨by omega, by omega⟩, PureW.mk (c25 _ (by omega)), ⟨by omega, by omega⟩, PureW.mk (c24 _ _ (by omega) (by omega)), ⟨upd_same _ _ _, by unfold roomM; omega⟩, trivial, Nx.of (i + 1) (by omega) (by omega) ?_⟩
    unfold S32
    rw [hz]
    exact (StLe.setOwn (of_decide_eq_true (by kernel_rfl)) 7 rfl (Wks.cons (Wk.refl _) (Wks.cons (Wk.refl _) (Wks.cons (Wk.refl _) (Wks.cons (Wk.snoc (enc := fun l => L l 2 Cg.d) (x := a.chg.getD i default ++ b.chg.getD i default)) (Wks.refl _)))))).trans (StLe.heap (by simp [hN, upd_upd]))
  · have hge := geI hge
    rw [List.take_of_length_le (by omega)]
    have hga : a.gaps.length ≤ lenM := by unfold lenM; omega
    have hgb : b.gaps.length ≤ lenM := by unfold lenM; omega
    refine ⟨fr (e26 a.gaps (by omega)) [] [], trivial, fun _ _ => ?_⟩
    have pos : ∀ {p : Prop}, (bif decide ((↑a.gaps.length : Int) > 0) then decide ((↑b.gaps.length : Int) > 0) else false) = true → (0 < a.gaps.length → 0 < b.gaps.length → p) → p := fun h k => by
      simp at h; exact k (by omega) (by omega)
    have hfin : ∀ gs ms, joinG a.gaps b.gaps = gs ++ ms → Wk (.tup [.agg [I a.frm, I b.to, L a.vals 1 .str, .list (zipC a.chg b.chg).length 1 (fun i => L ((zipC a.chg b.chg).getD i default) 2 Cg.d) (.tok 0 1), L (gs ++ ms) 2 Gp.d], I 0]) (joinD (⟨a.frm, b.to, a.vals, zipC a.chg b.chg, joinG a.gaps b.gaps⟩, 0)) := fun gs ms h => by
      rw [← h]
      exact Wk.tup (Wks.cons (Wk.agg (Wks.cons (Wk.refl _) (Wks.cons (Wk.refl _) (Wks.cons (Wk.refl _) (Wks.cons (Wk.tokL (enc := fun l => L l 2 Cg.d)) (Wks.refl _)))))) (Wks.refl _))
    refine ⟨fun h => pos h fun h1 h2 => ⟨rfl, by rw [sub64 (by unfold lenM at hga; omega) (by unfold lenM at hga; omega)]; omega, by rw [sub64 (by unfold lenM at hga; omega) (by unfold lenM at hga; omega)]; omega⟩, fun _ => rfl, fun h => pos h fun h1 h2 => ⟨by decide, by omega⟩, cond_intro (fun hM => ?_) fun hM => ?_⟩
    · have hM' : gMeet a.gaps b.gaps = true := hM
      obtain ⟨p1, p2⟩ : 0 < a.gaps.length ∧ 0 < b.gaps.length := by
        cases h : (bif decide ((↑a.gaps.length : Int) > 0) then decide ((↑b.gaps.length : Int) > 0) else false) with
        | true => exact pos h fun a b => ⟨a, b⟩
        | false => rw [h] at hM; cases hM
      refine ⟨⟨by decide, by omega⟩, ⟨rfl, by rw [sub64 (by unfold lenM at hga; omega) (by unfold lenM at hga; omega)]; omega, by rw [sub64 (by unfold lenM at hga; omega) (by unfold lenM at hga; omega)]; omega⟩, rfl, ⟨by decide, by omega⟩, ?_⟩
      rw [lastN hga p1]
      refine at_le (joinP a b hsa hsb (a.gaps.set (a.gaps.length - 1) ⟨(a.gaps.getD (a.gaps.length - 1) default).frm, (b.gaps.getD 0 default).to⟩) (b.gaps.drop 1) (by simp; omega) (by simp; omega) (hfin _ _ (by unfold joinG; rw [hM']; rfl))) ?_
      unfold P32
      rw [List.length_set]
      refine (StLe.set (d' := L (b.gaps.drop 1) 2 Gp.d) 9 rfl (Wk.toL (es := b.gaps.drop 1) (enc := Gp.d) (by simp) (.inl rfl) (fun i hi => ?_)) rfl rfl).trans ?_
      · simp only [dropG, List.getElem_drop, getD_list (show 1 + i < b.gaps.length by simp at hi; omega)]
      · rw [upd_upd]
        exact StLe.vec (t := 1) (upd_same _ _ _) fun i _ => cv_set (x := (⟨(a.gaps.getD (a.gaps.length - 1) default).frm, (b.gaps.getD 0 default).to⟩ : Gp)) (by omega) i
    · have hM' : gMeet a.gaps b.gaps = false := hM
      exact at_le (joinP a b hsa hsb a.gaps b.gaps (by omega) (by omega) (hfin _ _ (by unfold joinG; rw [hM']; rfl))) (StLe.refl _ _)
theorem F4 : OkF 4 Tryz.f4 := ⟨by kernel_rfl, by kernel_rfl, by kernel_rfl⟩
def lv4 : List (List Nat × List Nat) := [([1, 1, 0, 1, 0], [1, 14, 15, 16]), ([1, 1, 1, 0], [1])]
noncomputable def n18s  : List Nat → Nat → Option Ans := scrAt []
theorem n18 [Lay]  (K : D → Prop) : runS (En Tryz.f4) (fi Tryz.f4 K) (n18s ) lv4 200 [.code []] ⟨argSlots 0 [], .empty⟩ =
  (True ∧ (6 ≤ lenM → At (En Tryz.f4) (fi Tryz.f4 K) [It.code [1, 1, 0, 1, 0], It.blk 0, It.code [1, 1, 1]] { sl := [(1, .own [I 4, I 1, I 0, .list 0 0 (fun _ => D.junk) .full]), (14, .list 6 1 (litG [I 40, I 50, I 200, I 30, I 20, I 30]) .full), (15, I (↑6 : Int)), (16, I 0)], h := Heap.empty : St })) := by kernel_rfl
def exN : List Int := [40, 50, 200, 30, 20, 30]
def exB : List Ent := [⟨-1, 0, 0, 0, ⟨10, 40, 0⟩⟩, ⟨0, 1, 0, 0, ⟨15, 50, 0⟩⟩, ⟨1, 2, 0, 0, ⟨20, 200, 0⟩⟩, ⟨2, 3, 0, 0, ⟨25, 30, 0⟩⟩, ⟨3, 4, 0, 0, ⟨30, 20, 0⟩⟩, ⟨4, 5, 0, 0, ⟨35, 30, 0⟩⟩]
def exD : Dir := ⟨⟨4, 1, 0⟩, exB⟩
def S18 (bl : List Ent) (i : Int) : St := ⟨[(1, .own [I 4, I 1, I 0, LT bl 7 Ent.d 0]), (14, L exN 1 (fun n => I n)), (15, I 6), (16, I i)], hN bl.length 1⟩
noncomputable def n18as  : List Nat → Nat → Option Ans := scrAt []
theorem n18a [Lay] (bl : List Ent) (i : Int) (J : St → Prop) (K : D → Prop) : runS (En Tryz.f4) (fi Tryz.f4 K) (n18as ) lv4 200 [.code [1, 1, 0, 1, 0, 0], stp [1, 14, 15, 16] J, .blk 0, .code [1, 1, 1]] (S18 bl i) =
  (bif decide (i < 6) then (0 ≤ i ∧ i < (↑6 : Int)) ∧ (upd (fun _ => none) 0 (some bl.length) 0 = some bl.length ∧ (bl.length + 1) * 56 ≤ roomM) ∧ True ∧ J { sl := [(1, .own [I 4, I 1, I 0, .list (bl.length + 1) 7 (catG bl.length (fun i => (bl.getD i default).d) (litG [.agg [I (subI .i64 i 1), I i, I 0, I 0, I (addI .i64 10 (mulI .i64 5 i)), I (exN.getD i.toNat default), I 0]])) (.tok 0 7)]), (14, L exN 1 fun n => I n), (15, I 6), (16, I (addI .i64 i 1))], h := { box := fun _ => none, nl := 0, hw := upd (upd (fun _ => none) 0 (some bl.length)) 0 (some (bl.length + 1)), nt := 1, vw := fun _ => none : Heap } : St } else At (En Tryz.f4) (fi Tryz.f4 K) [It.code [1, 1, 1, 0], It.code [1, 1, 1, 1]] { sl := [(1, .own [I 4, I 1, I 0, .list bl.length 7 (fun i => (bl.getD i default).d) (.tok 0 7)])], h := { box := fun _ => none, nl := 0, hw := upd (fun _ => none) 0 (some bl.length), nt := 1, vw := fun _ => none : Heap } : St }) := by kernel_rfl
theorem exP : cplan exD 100 = [⟨0, 2⟩, ⟨3, 3⟩] := by decide +kernel
def exA : Chk := ⟨-1, 3, [[120]], [[⟨2, [49]⟩]], []⟩
def exE : Chk := ⟨3, 5, [[49]], [[]], []⟩
def exC : Chk := ⟨-1, 5, [[120]], [[⟨2, [49]⟩]], []⟩
theorem smA : SmallC exA := ⟨by decide, by decide, by decide, by decide⟩
theorem smE : SmallC exE := ⟨by decide, by decide, by decide, by decide⟩
theorem smC : SmallC exC := ⟨by decide, by decide, by decide, by decide⟩
theorem exJ : join exA exE = (exC, 0) := by decide +kernel
theorem exS [Lay] : split exC 3 = (exA, exE, 0) := by decide +kernel
theorem x24 [Lay] : Pure PP 10 [exD.d, I 100] (L [(⟨0, 2⟩ : Rg), ⟨3, 3⟩] 2 Rg.d) := exP ▸ c10 exD 100
theorem x32 [Lay] : Pure PP 8 [exA.d, exE.d] (.tup [exC.d, I 0]) := by have := c8 exA exE smA smE; rw [exJ] at this; exact this
theorem x20 [Lay] : Pure PP 7 [exC.d, I 3] (.tup [exA.d, exE.d, I 0]) := by have := c7 exC 3 smC; rw [exS] at this; exact this
def X18 : St := ⟨[(1, .own [I 4, I 1, I 0, L exB 7 Ent.d])], hN 6 1⟩
noncomputable def n18bs  : List Nat → Nat → Option Ans := scrAt [([1, 1, 1, 0], 1, Ans.pure [exD.d, I 100] (L [{ frm := 0, cnt := 2 : Rg }, { frm := 3, cnt := 3 : Rg }] 2 Rg.d)), ([1, 1, 1, 1, 1, 1, 0], 2, Ans.pure [exA.d, exE.d] (.tup [exC.d, I 0])), ([1, 1, 1, 1, 1, 1, 1, 0], 1, Ans.pure [exC.d, I 3] (.tup [exA.d, exE.d, I 0])), ([1, 1, 1, 1, 1, 1, 1, 1, 0], 33, Ans.pure [{ frm := -1, to := 3, vals := [{ data := #[120] : ByteArray }.data.toList], chg := [[{ time := 2, val := { data := #[49] : ByteArray }.data.toList : Cg }]], gaps := [] : Chk }.d, { frm := -1, to := 3, vals := [{ data := #[120] : ByteArray }.data.toList], chg := [[{ time := 2, val := { data := #[49] : ByteArray }.data.toList : Cg }]], gaps := [] : Chk }.d] (B true)), ([1, 1, 1, 1, 1, 1, 1, 1, 0], 38, Ans.pure [{ frm := 3, to := 5, vals := [{ data := #[49] : ByteArray }.data.toList], chg := [[]], gaps := [] : Chk }.d, { frm := 3, to := 5, vals := [{ data := #[49] : ByteArray }.data.toList], chg := [[]], gaps := [] : Chk }.d] (B true))]
theorem n18b [Lay]  (K : D → Prop) : runS (En Tryz.f4) (fi Tryz.f4 K) (n18bs ) nolv 200 [.code [1, 1, 1, 0], .code [1, 1, 1, 1]] X18 =
  (PureW PP 10 [exD.d, I 100] [exD.d, I 100] (L [{ frm := 0, cnt := 2 : Rg }, { frm := 3, cnt := 3 : Rg }] 2 Rg.d) ∧
  True ∧
    True ∧
      PureW PP 8 [.agg [I (-1), I 3, .list 1 1 (strL [.str { data := #[120] : ByteArray }.data.toList]) .full, .list 1 1 (litG [.list 1 2 (litG [.agg [I 2, .str { data := #[49] : ByteArray }.data.toList]]) .full]) .full, .list 0 0 (fun _ => D.junk) .full], .agg [I 3, I 5, .list 1 1 (strL [.str { data := #[49] : ByteArray }.data.toList]) .full, .list 1 1 (litG [.list 0 0 (fun _ => D.junk) .full]) .full, .list 0 0 (fun _ => D.junk) .full]] [exA.d, exE.d] (.tup [exC.d, I 0]) ∧
        True ∧ PureW PP 7 [exC.d, I 3] [exC.d, I 3] (.tup [exA.d, exE.d, I 0]) ∧ True ∧ True ∧ (2 ≤ lenM → (true = true → (0 : Int) ≤ 0 ∧ 0 < (↑2 : Int)) ∧ (true = true → (0 : Int) ≤ 1 ∧ 1 < (↑2 : Int)) ∧ (true = true → PureW PP 9 [.agg [I exA.frm, I exA.to, L exA.vals 1 .str, L exA.chg 1 fun l => L l 2 Cg.d, L exA.gaps 2 Gp.d], .agg [I (-1), I 3, .list 1 1 (strL [.str { data := #[120] : ByteArray }.data.toList]) .full, .list 1 1 (litG [.list 1 2 (litG [.agg [I 2, .str { data := #[49] : ByteArray }.data.toList]]) .full]) .full, .list 0 0 (fun _ => D.junk) .full]] [{ frm := -1, to := 3, vals := [{ data := #[120] : ByteArray }.data.toList], chg := [[{ time := 2, val := { data := #[49] : ByteArray }.data.toList : Cg }]], gaps := [] : Chk }.d, { frm := -1, to := 3, vals := [{ data := #[120] : ByteArray }.data.toList], chg := [[{ time := 2, val := { data := #[49] : ByteArray }.data.toList : Cg }]], gaps := [] : Chk }.d] (B true)) ∧ (true = true → PureW PP 9 [.agg [I exE.frm, I exE.to, L exE.vals 1 .str, L exE.chg 1 fun l => L l 2 Cg.d, L exE.gaps 2 Gp.d], .agg [I 3, I 5, .list 1 1 (strL [.str { data := #[49] : ByteArray }.data.toList]) .full, .list 1 1 (litG [.list 0 0 (fun _ => D.junk) .full]) .full, .list 0 0 (fun _ => D.junk) .full]] [{ frm := 3, to := 5, vals := [{ data := #[49] : ByteArray }.data.toList], chg := [[]], gaps := [] : Chk }.d, { frm := 3, to := 5, vals := [{ data := #[49] : ByteArray }.data.toList], chg := [[]], gaps := [] : Chk }.d] (B true)) ∧ K (B true))) := by kernel_rfl
theorem wkExA : Wk (.agg [I (-1), I 3, .list 1 1 (strL [.str [120]]) .full, .list 1 1 (litG [.list 1 2 (litG [.agg [I 2, .str [49]]]) .full]) .full, .list 0 0 (fun _ => .junk) .full]) exA.d :=
  Wk.agg (Wks.cons (Wk.refl _) (Wks.cons (Wk.refl _) (Wks.cons (Wk.strL rfl rfl) (Wks.cons (Wk.listW rfl (.inl rfl) (fun i hi => by
    have : i = 0 := by omega
    subst this
    exact ⟨Wk.litL (enc := Cg.d) (l := [⟨2, [49]⟩]) rfl rfl, fun _ => rfl⟩) (.inl rfl)) (Wks.cons Wk.nilL Wks.nil)))))
theorem wkExE : Wk (.agg [I 3, I 5, .list 1 1 (strL [.str [49]]) .full, .list 1 1 (litG [.list 0 0 (fun _ => .junk) .full]) .full, .list 0 0 (fun _ => .junk) .full]) exE.d :=
  Wk.agg (Wks.cons (Wk.refl _) (Wks.cons (Wk.refl _) (Wks.cons (Wk.strL rfl rfl) (Wks.cons (Wk.listW rfl (.inl rfl) (fun i hi => by
    have : i = 0 := by omega
    subst this
    exact ⟨Wk.nilL (α := Cg), fun _ => rfl⟩) (.inl rfl)) (Wks.cons Wk.nilL Wks.nil)))))
theorem exB_take (i : Nat) (h : i < 6) : exB.take (i + 1) = exB.take i ++ [exB.getD i default] := take_snoc exB i (by simpa [exB] using h)
theorem exB_el : ∀ i : Nat, i < 6 → (.agg [I (subI .i64 (i : Int) 1), I i, I 0, I 0, I (addI .i64 10 (mulI .i64 5 (i : Int))), I (exN.getD (i : Int).toNat default), I 0] : D) = Ent.d (exB.getD i default)
  | 0, _ => by kernel_rfl
  | 1, _ => by kernel_rfl
  | 2, _ => by kernel_rfl
  | 3, _ => by kernel_rfl
  | 4, _ => by kernel_rfl
  | 5, _ => by kernel_rfl
  | n + 6, h => by omega
theorem c4 [Lay] : Pure PP 4 [] (B true) := by
  refine pu F4 (by kernel_rfl) (of_eq (n18 _) ⟨trivial, fun _ => ?_⟩)
  refine at_le (st' := S18 (exB.take 0) (0 : Nat)) ?_ (((StLe.idleOwn _ none 1 3 7 (fun i => Ent.d (([] : List Ent).getD i default)) rfl rfl).trans (StLe.set (d' := L exN 1 fun n => I n) 14 rfl (Wk.litL rfl rfl) rfl rfl)).cast (by kernel_rfl))
  refine lp (fn := Tryz.f4) (fun i : Nat => i ≤ 6) (fun i => S18 (exB.take i) i) (fun i => 6 - i) [1, 14, 15, 16] (by kernel_rfl) (fun i hi => of_eq (n18a _ i _ _) (cond_intro (fun hlt => ?_) fun hge => ?_)) 0 (Nat.zero_le _)
  · have hlt : i < 6 := by simp at hlt; omega
    have ht := exB_take i hlt
    have hl : (exB.take i).length = i := by simp [exB]; omega
    refine ⟨⟨by omega, by omega⟩, ⟨upd_same _ _ _, by unfold roomM; omega⟩, trivial, Nx.of (i + 1) hlt (by omega) ?_⟩
    unfold S18
    rw [ht, exB_el i hlt, add1 (show i < 6 from hlt) (by decide)]
    exact (StLe.setOwn (of_decide_eq_true (by kernel_rfl)) 1 rfl (Wks.cons (Wk.refl _) (Wks.cons (Wk.refl _) (Wks.cons (Wk.refl _) (Wks.cons (Wk.snoc (x := exB.getD i default)) Wks.nil))))).trans (StLe.heap (by simp [hN, upd_upd]))
  · have : i = 6 := by simp at hge; omega
    subst this
    refine at_le (st' := X18) ?_ (StLe.setOwn (of_decide_eq_true (by kernel_rfl)) 1 rfl (Wks.cons (Wk.refl _) (Wks.cons (Wk.refl _) (Wks.cons (Wk.refl _) (Wks.cons (Wk.tokL (a := exB) (enc := Ent.d)) Wks.nil)))))
    refine runS_sound hmix 200 _ _ (of_eq (n18b _) ⟨PureW.mk x24, trivial, trivial, pw (Wks.cons wkExA (Wks.cons wkExE Wks.nil)) x32, trivial, PureW.mk x20, trivial, trivial, fun _ => ⟨fun _ => ⟨by decide, by decide⟩, fun _ => ⟨by decide, by decide⟩, fun _ => pw (Wks.cons (Wk.refl exA.d) (Wks.cons wkExA Wks.nil)) (c9 exA), fun _ => pw (Wks.cons (Wk.refl exE.d) (Wks.cons wkExE Wks.nil)) (c9 exE), Wk.refl _⟩⟩)
end Go.Proofs.YtmlhaikblfjghaaGreatDoor.S1
/- CompactionInverts: the plain law. -/
namespace Go.Proofs.YtmlhaikblfjghaaGreatDoor.S1
open Go Go.Ab Go.Proofs
--BEGIN
/-- Changes in order in an interval, each new. -/
def segV (vv : Str → Bool) (ev : Bool) (to : Int) : Int → Str → List Cg → Prop
  | _, _, [] => True
  | a, b, x :: r => a < x.time ∧ x.time ≤ to ∧ vv x.val = true ∧ (ev = true ∨ x.val ≠ b) ∧ segV vv ev to x.time x.val r
def gapV (frm to : Int) : Option Int → List Gp → Prop
  | _, [] => True
  | p, g :: r => frm + 1 ≤ g.frm ∧ g.frm < g.to ∧ g.to ≤ to + 1 ∧ (∀ q, p = some q → q < g.frm) ∧ gapV frm to (some g.to) r
/-- A valid chunk; vv: the values of a stored signal; al: its value all x. -/
structure VC (vv : Sto → Str → Bool) (al : Sto → Str) (tm : Int) (mg mc : Nat) (st : List Sto) (c : Chk) : Prop where
  f0 : -1 ≤ c.frm
  f1 : c.frm < c.to
  f2 : c.to ≤ tm
  vl : c.vals.length = st.length
  cl : c.chg.length = st.length
  vs : ∀ i, i < st.length → vv (st.getD i default) (c.vals.getD i default) = true
  sg : ∀ i, i < st.length → segV (vv (st.getD i default)) (decide ((st.getD i default).kind = 3)) c.to c.frm (c.vals.getD i default) (c.chg.getD i default)
  cn : (c.chg.map List.length).sum ≤ mc
  gl : c.gaps.length ≤ mg
  gf : gapV c.frm c.to none c.gaps
  gp : ∀ g ∈ c.gaps, ∀ i, i < st.length → (st.getD i default).kind = 0 → valAt (c.vals.getD i default) (c.chg.getD i default) g.frm = al (st.getD i default) ∧ ∀ x ∈ c.chg.getD i default, ¬ (g.frm < x.time ∧ x.time < g.to)
theorem segV_gt {vv : Str → Bool} {ev : Bool} {to : Int} : ∀ {l : List Cg} {a : Int} {b : Str}, segV vv ev to a b l → ∀ x ∈ l, a < x.time ∧ x.time ≤ to ∧ vv x.val = true
  | [], _, _, _, x, h => by cases h
  | y :: r, a, b, h, x, hx => by
    obtain ⟨h1, h2, h3, _, h5⟩ := h
    rcases List.mem_cons.1 hx with rfl | hx
    · exact ⟨h1, h2, h3⟩
    · obtain ⟨k1, k2, k3⟩ := segV_gt h5 x hx
      exact ⟨by omega, k2, k3⟩
/-- The changes up to t, those behind it. -/
theorem segV_split {vv : Str → Bool} {ev : Bool} {to t : Int} (ht : t ≤ to) : ∀ {l : List Cg} {a : Int} {b : Str}, segV vv ev to a b l → a ≤ t →
    ∃ p q, l = p ++ q ∧ segV vv ev t a b p ∧ segV vv ev to t (valAt b l t) q ∧ (∀ x ∈ p, x.time ≤ t) ∧ (∀ x ∈ q, t < x.time)
  | [], a, b, _, _ => ⟨[], [], rfl, trivial, trivial, fun _ h => (by cases h), fun _ h => (by cases h)⟩
  | y :: r, a, b, h, ha => by
    obtain ⟨h1, h2, h3, h4, h5⟩ := h
    by_cases hy : y.time ≤ t
    · obtain ⟨p, q, e1, e2, e3, e4, e5⟩ := segV_split ht h5 hy
      refine ⟨y :: p, q, by rw [e1]; rfl, ⟨h1, hy, h3, h4, e2⟩, ?_, fun x hx => ?_, e5⟩
      · have : valAt b (y :: r) t = valAt y.val r t := by
          unfold valAt
          rw [List.foldl_cons, decide_eq_true hy]; rfl
        rw [this]; exact e3
      · rcases List.mem_cons.1 hx with rfl | hx
        · exact hy
        · exact e4 x hx
    · have hgt : ∀ x ∈ y :: r, t < x.time := fun x hx => by
        rcases List.mem_cons.1 hx with rfl | hx
        · omega
        · have := (segV_gt h5 x hx).1; omega
      have hv : ∀ (l : List Cg) (b : Str), (∀ x ∈ l, t < x.time) → valAt b l t = b := fun l => by
        induction l with
        | nil => intro b _; rfl
        | cons z l ih =>
          intro b hz
          have : valAt b (z :: l) t = valAt b l t := by
            unfold valAt
            rw [List.foldl_cons, decide_eq_false (by have := hz z (List.mem_cons_self ..); omega)]; rfl
          rw [this]; exact ih b fun x hx => hz x (List.mem_cons_of_mem _ hx)
      refine ⟨[], y :: r, rfl, trivial, ?_, fun _ h => (by cases h), hgt⟩
      rw [hv _ b hgt]
      exact ⟨by omega, h2, h3, h4, h5⟩
theorem inB_iff (f t : Int) (x : Cg) : inB f t x = true ↔ f < x.time ∧ x.time ≤ t := by
  unfold inB
  by_cases h : x.time > f
  · rw [decide_eq_true h, cond_true]; simp; omega
  · rw [decide_eq_false h, cond_false]; simp; omega
theorem cut_all {f t : Int} {l : List Cg} (h : ∀ x ∈ l, f < x.time ∧ x.time ≤ t) : cut f t l = l := List.filter_eq_self.2 fun x hx => (inB_iff f t x).2 (h x hx)
theorem cut_none {f t : Int} {l : List Cg} (h : ∀ x ∈ l, ¬ (f < x.time ∧ x.time ≤ t)) : cut f t l = [] := List.filter_eq_nil_iff.2 fun x hx hb => h x hx ((inB_iff f t x).1 hb)
theorem valAt_app (b : Str) (p q : List Cg) (t : Int) : valAt b (p ++ q) t = valAt (valAt b p t) q t := by unfold valAt; rw [List.foldl_append]
theorem valAt_none {l : List Cg} {t : Int} : ∀ {b : Str}, (∀ x ∈ l, t < x.time) → valAt b l t = b := by
  induction l with
  | nil => intro b _; rfl
  | cons z l ih =>
    intro b hz
    have : valAt b (z :: l) t = valAt b l t := by
      unfold valAt
      rw [List.foldl_cons, decide_eq_false (by have := hz z (List.mem_cons_self ..); omega)]; rfl
    rw [this]; exact ih fun x hx => hz x (List.mem_cons_of_mem _ hx)
/-- Beyond all changes the value stays. -/
theorem valAt_ge {l : List Cg} {t u : Int} (ht : t ≤ u) (h : ∀ x ∈ l, ¬ (t < x.time ∧ x.time ≤ u)) : ∀ b, valAt b l u = valAt b l t := by
  induction l with
  | nil => intro b; rfl
  | cons z l ih =>
    intro b
    have hz := h z (List.mem_cons_self ..)
    have e : decide (z.time ≤ u) = decide (z.time ≤ t) := decide_eq_decide.2 (by omega)
    show l.foldl _ (bif decide (z.time ≤ u) then z.val else b) = l.foldl _ (bif decide (z.time ≤ t) then z.val else b)
    rw [e]
    exact ih (fun x hx => h x (List.mem_cons_of_mem _ hx)) _
/-- One signal's changes, split at t. -/
theorem seg_cut {vv : Str → Bool} {ev : Bool} {frm to t : Int} {b : Str} {l : List Cg} (h : segV vv ev to frm b l) (h1 : frm < t) (h2 : t < to) :
    cut frm t l ++ cut t to l = l ∧ segV vv ev t frm b (cut frm t l) ∧ segV vv ev to t (valAt b l t) (cut t to l) ∧ valAt b (cut frm t l) t = valAt b l t ∧
    (vv b = true → vv (valAt b l t) = true) ∧ (∀ u, u ≤ t → valAt b (cut frm t l) u = valAt b l u) ∧ (∀ u, t ≤ u → valAt (valAt b l t) (cut t to l) u = valAt b l u) := by
  obtain ⟨p, q, e1, e2, e3, e4, e5⟩ := segV_split (show t ≤ to by omega) h (by omega)
  have hp := segV_gt e2
  have hq := segV_gt e3
  have c1 : cut frm t l = p := by
    rw [e1]
    unfold cut
    rw [List.filter_append]
    have a1 : p.filter (inB frm t) = p := cut_all (f := frm) (t := t) fun x hx => ⟨(hp x hx).1, (hp x hx).2.1⟩
    have a2 : q.filter (inB frm t) = [] := cut_none (f := frm) (t := t) fun x hx hc => by have := e5 x hx; omega
    rw [a1, a2, List.append_nil]
  have c2 : cut t to l = q := by
    rw [e1]
    unfold cut
    rw [List.filter_append]
    have a1 : p.filter (inB t to) = [] := cut_none (f := t) (t := to) fun x hx hc => by have := e4 x hx; omega
    have a2 : q.filter (inB t to) = q := cut_all (f := t) (t := to) fun x hx => ⟨(hq x hx).1, (hq x hx).2.1⟩
    rw [a1, a2, List.nil_append]
  have vP : ∀ u, u ≤ t → valAt b p u = valAt b l u := fun u hu => by
    rw [e1, valAt_app, valAt_none (l := q) fun x hx => by have := e5 x hx; omega]
  have vE : ∀ u, t ≤ u → valAt b p u = valAt b p t := fun u hu => valAt_ge hu (fun x hx hc => by have := e4 x hx; omega) b
  rw [c1, c2]
  refine ⟨e1.symm, e2, e3, vP t (Int.le_refl _), fun hb => ?_, vP, fun u hu => ?_⟩
  · have key : ∀ (l : List Cg) (b : Str), vv b = true → (∀ x ∈ l, vv x.val = true) → vv (valAt b l t) = true := fun l => by
      induction l with
      | nil => intro b hb _; exact hb
      | cons z l ih =>
        intro b hb hz
        show vv (l.foldl _ (bif decide (z.time ≤ t) then z.val else b)) = true
        refine ih _ ?_ fun x hx => hz x (List.mem_cons_of_mem _ hx)
        cases decide (z.time ≤ t)
        · exact hb
        · exact hz z (List.mem_cons_self ..)
    exact key l b hb fun x hx => (segV_gt h x hx).2.2
  · rw [← vP t (Int.le_refl _), ← vE u hu, ← valAt_app, ← e1]
theorem gapV_low {frm to t : Int} : ∀ {l : List Gp} {p : Option Int}, gapV frm to p l → (∀ g ∈ l, t + 1 ≤ g.frm) → gapV t to p l
  | [], _, _, _ => trivial
  | g :: r, _, h, hl => ⟨hl g (List.mem_cons_self ..), h.2.1, h.2.2.1, h.2.2.2.1, gapV_low h.2.2.2.2 fun x hx => hl x (List.mem_cons_of_mem _ hx)⟩
theorem gapV_gt {frm to : Int} : ∀ {l : List Gp} {p : Int}, gapV frm to (some p) l → ∀ g ∈ l, p < g.frm ∧ g.frm < g.to
  | [], _, _, _, h => by cases h
  | x :: r, p, h, g, hg => by
    rcases List.mem_cons.1 hg with rfl | hg
    · exact ⟨h.2.2.2.1 p rfl, h.2.1⟩
    · have h1 := h.2.2.2.1 p rfl
      have h2 := gapV_gt h.2.2.2.2 g hg
      have := h.2.1
      exact ⟨by omega, h2.2⟩
theorem gapV_any {frm to : Int} : ∀ {l : List Gp} {p : Option Int}, gapV frm to p l → ∀ g ∈ l, frm + 1 ≤ g.frm ∧ g.frm < g.to ∧ g.to ≤ to + 1
  | [], _, _, _, h => by cases h
  | x :: r, p, h, g, hg => by
    rcases List.mem_cons.1 hg with rfl | hg
    · exact ⟨h.1, h.2.1, h.2.2.1⟩
    · exact gapV_any h.2.2.2.2 g hg
/-- A gap's parts. -/
theorem gL_eq {t : Int} {g : Gp} (ht : -2 ≤ t ∧ t ≤ 1099511627776) (h : g.frm < g.to) : gL t g = if g.frm ≤ t then [⟨g.frm, min (t + 1) g.to⟩] else [] := by
  have e : addI .i64 t 1 = t + 1 := IntWalk.i64_in _ ⟨by omega, by omega⟩
  have m : mn (t + 1) g.to = min (t + 1) g.to := by unfold mn; omega
  unfold gL
  rw [e, m]
  by_cases h1 : g.frm ≤ t
  · rw [if_pos h1, if_pos (decide_eq_true (by omega))]
  · rw [if_neg h1, if_neg (by rw [decide_eq_false (by omega)]; simp)]
theorem gR_eq {t : Int} {g : Gp} (ht : -2 ≤ t ∧ t ≤ 1099511627776) : gR t g = if t + 1 < g.to ∧ g.frm < g.to then [⟨max (t + 1) g.frm, g.to⟩] else [] := by
  have e : addI .i64 t 1 = t + 1 := IntWalk.i64_in _ ⟨by omega, by omega⟩
  have m : mx (t + 1) g.frm = max (t + 1) g.frm := by unfold mx; omega
  unfold gR
  rw [e, m]
  by_cases h1 : t + 1 < g.to ∧ g.frm < g.to
  · rw [if_pos h1, if_pos (decide_eq_true (by omega))]
  · rw [if_neg h1, if_neg (by rw [decide_eq_false (by omega)]; simp)]
theorem gaps_hi {t : Int} (ht : -2 ≤ t ∧ t ≤ 1099511627776) : ∀ {l : List Gp}, (∀ g ∈ l, t + 1 ≤ g.frm ∧ g.frm < g.to) → gapsL t l = [] ∧ gapsR t l = l
  | [], _ => ⟨rfl, rfl⟩
  | g :: r, h => by
    have h1 := h g (List.mem_cons_self ..)
    obtain ⟨i1, i2⟩ := gaps_hi ht fun x hx => h x (List.mem_cons_of_mem _ hx)
    unfold gapsL gapsR at *
    rw [List.flatMap_cons, List.flatMap_cons, i1, i2, gL_eq ht h1.2, gR_eq ht, if_neg (by omega), if_pos (by omega), show max (t + 1) g.frm = g.frm by omega]
    exact ⟨rfl, rfl⟩
/-- Gaps before t, one across it, gaps behind. -/
theorem gaps_split {frm to t : Int} (ht : -2 ≤ t ∧ t ≤ 1099511627776) : ∀ {l : List Gp} {p : Option Int}, gapV frm to p l →
    gapV frm t p (gapsL t l) ∧ gapV t to none (gapsR t l) ∧
    ((∃ a b, l = a ++ b ∧ gapsL t l = a ∧ gapsR t l = b ∧ ∀ x ∈ a, ∀ y ∈ b, x.to < y.frm) ∨ ∃ a g b, l = a ++ g :: b ∧ gapsL t l = a ++ [⟨g.frm, t + 1⟩] ∧ gapsR t l = ⟨t + 1, g.to⟩ :: b)
  | [], _, _ => ⟨trivial, trivial, .inl ⟨[], [], rfl, rfl, rfl, fun _ h => (by cases h)⟩⟩
  | g :: r, p, h => by
    obtain ⟨h1, h2, h3, h4, h5⟩ := h
    have hr := gapV_gt h5
    have eL : gapsL t (g :: r) = gL t g ++ gapsL t r := by unfold gapsL; rw [List.flatMap_cons]
    have eR : gapsR t (g :: r) = gR t g ++ gapsR t r := by unfold gapsR; rw [List.flatMap_cons]
    rw [eL, eR, gL_eq ht h2, gR_eq ht]
    by_cases k1 : g.to ≤ t + 1
    · rw [if_pos (by omega), if_neg (by omega), show min (t + 1) g.to = g.to by omega]
      obtain ⟨i1, i2, i3⟩ := gaps_split ht h5
      refine ⟨⟨h1, h2, k1, h4, i1⟩, i2, ?_⟩
      rcases i3 with ⟨a, b, j1, j2, j3, j4⟩ | ⟨a, g', b, j1, j2, j3⟩
      · refine .inl ⟨g :: a, b, by rw [j1]; rfl, by rw [j2]; rfl, by rw [j3]; rfl, fun x hx y hy => ?_⟩
        rcases List.mem_cons.1 hx with rfl | hx
        · exact (hr y (by rw [j1]; exact List.mem_append_right _ hy)).1
        · exact j4 x hx y hy
      · exact .inr ⟨g :: a, g', b, by rw [j1]; rfl, by rw [j2]; rfl, by rw [j3]; rfl⟩
    · obtain ⟨z1, z2⟩ := gaps_hi ht (l := r) fun x hx => by have := hr x hx; omega
      rw [z1, z2]
      by_cases k2 : g.frm ≤ t
      · rw [if_pos k2, if_pos (by omega), show min (t + 1) g.to = t + 1 by omega, show max (t + 1) g.frm = t + 1 by omega]
        refine ⟨⟨h1, by show g.frm < t + 1; omega, by show t + 1 ≤ t + 1; omega, h4, trivial⟩, ⟨Int.le_refl _, by show t + 1 < g.to; omega, h3, fun q hq => (by cases hq), ?_⟩, .inr ⟨[], g, r, rfl, rfl, rfl⟩⟩
        exact gapV_low h5 fun x hx => by have := hr x hx; omega
      · rw [if_neg k2, if_pos (by omega), show max (t + 1) g.frm = g.frm by omega]
        refine ⟨trivial, ⟨by show t + 1 ≤ g.frm; omega, h2, h3, fun q hq => (by cases hq), ?_⟩, .inl ⟨[], g :: r, rfl, rfl, rfl, fun _ h => (by cases h)⟩⟩
        exact gapV_low h5 fun x hx => by have := hr x hx; omega
theorem mem_gapsL {t : Int} (ht : -2 ≤ t ∧ t ≤ 1099511627776) {l : List Gp} {x : Gp} (h : x ∈ gapsL t l) (hl : ∀ g ∈ l, g.frm < g.to) : ∃ g ∈ l, x.frm = g.frm ∧ x.to ≤ g.to ∧ g.frm ≤ t := by
  obtain ⟨g, hg, hx⟩ := List.mem_flatMap.1 h
  rw [gL_eq ht (hl g hg)] at hx
  split at hx
  · rename_i k
    rw [List.mem_singleton.1 hx]
    exact ⟨g, hg, rfl, by show min _ _ ≤ _; omega, k⟩
  · cases hx
theorem mem_gapsR {t : Int} (ht : -2 ≤ t ∧ t ≤ 1099511627776) {l : List Gp} {x : Gp} (h : x ∈ gapsR t l) : ∃ g ∈ l, x.to = g.to ∧ x.frm = max (t + 1) g.frm ∧ x.frm < g.to := by
  obtain ⟨g, hg, hx⟩ := List.mem_flatMap.1 h
  rw [gR_eq ht] at hx
  split at hx
  · rw [List.mem_singleton.1 hx]
    exact ⟨g, hg, rfl, rfl, by show max _ _ < _; omega⟩
  · cases hx
theorem getD_map' {α β : Type} [Inhabited α] [Inhabited β] (f : α → β) (l : List α) {i : Nat} (h : i < l.length) : (l.map f).getD i default = f (l.getD i default) := by
  rw [List.getD_eq_getElem?_getD, List.getElem?_map, List.getD_eq_getElem?_getD, List.getElem?_eq_getElem h]; rfl
theorem valsAt_get (c : Chk) (t : Int) {i : Nat} (h : i < c.vals.length) : (valsAt c t).getD i default = valAt (c.vals.getD i default) (c.chg.getD i default) t := by
  unfold valsAt
  rw [List.getD_eq_getElem?_getD, List.getElem?_map, List.getElem?_range h]; rfl
theorem sum_cut (f t : Int) : ∀ l : List (List Cg), ((l.map (cut f t)).map List.length).sum ≤ (l.map List.length).sum
  | [] => Nat.le_refl _
  | x :: r => by
    simp only [List.map_cons, List.sum_cons]
    have := cut_len f t x
    have := sum_cut f t r
    omega
theorem VC.left {vv : Sto → Str → Bool} {al : Sto → Str} {tm : Int} {mg mc : Nat} {st : List Sto} {c : Chk} (h : VC vv al tm mg mc st c) (hm : tm ≤ 1099511627776) {t : Int} (h2 : c.frm < t) (h3 : t < c.to) :
    VC vv al tm mg mc st ⟨c.frm, t, c.vals, c.chg.map (cut c.frm t), gapsL t c.gaps⟩ := by
  have f0 := h.f0
  have f2 := h.f2
  have ht : -2 ≤ t ∧ t ≤ 1099511627776 := ⟨by omega, by omega⟩
  have hg : ∀ i, i < st.length → (c.chg.map (cut c.frm t)).getD i default = cut c.frm t (c.chg.getD i default) := fun i hi => getD_map' _ _ (by rw [h.cl]; exact hi)
  refine ⟨h.f0, h2, by show t ≤ tm; omega, h.vl, by show (c.chg.map _).length = _; rw [List.length_map]; exact h.cl, h.vs, fun i hi => ?_, ?_, ?_, (gaps_split ht h.gf).1, fun x hx i hi hk => ?_⟩
  · show segV _ _ t c.frm _ ((c.chg.map (cut c.frm t)).getD i default)
    rw [hg i hi]
    exact (seg_cut (h.sg i hi) h2 h3).2.1
  · exact Nat.le_trans (sum_cut _ _ _) h.cn
  · exact Nat.le_trans (fm_len (gL t) (gL_len t) c.gaps) h.gl
  · show valAt _ ((c.chg.map (cut c.frm t)).getD i default) _ = _ ∧ ∀ y ∈ (c.chg.map (cut c.frm t)).getD i default, _
    rw [hg i hi]
    obtain ⟨g, hgm, e1, e2, e3⟩ := mem_gapsL ht hx fun g hg => (gapV_any h.gf g hg).2.1
    obtain ⟨k1, k2⟩ := h.gp g hgm i hi hk
    refine ⟨?_, fun y hy hc => ?_⟩
    · rw [e1, (seg_cut (h.sg i hi) h2 h3).2.2.2.2.2.1 _ e3]; exact k1
    · exact k2 y ((List.mem_filter.1 hy).1) ⟨by omega, by omega⟩
theorem VC.right {vv : Sto → Str → Bool} {al : Sto → Str} {tm : Int} {mg mc : Nat} {st : List Sto} {c : Chk} (h : VC vv al tm mg mc st c) (hm : tm ≤ 1099511627776) {t : Int} (h2 : c.frm < t) (h3 : t < c.to) :
    VC vv al tm mg mc st ⟨t, c.to, valsAt c t, c.chg.map (cut t c.to), gapsR t c.gaps⟩ := by
  have f0 := h.f0
  have f2 := h.f2
  have ht : -2 ≤ t ∧ t ≤ 1099511627776 := ⟨by omega, by omega⟩
  have hg : ∀ i, i < st.length → (c.chg.map (cut t c.to)).getD i default = cut t c.to (c.chg.getD i default) := fun i hi => getD_map' _ _ (by rw [h.cl]; exact hi)
  have hv : ∀ i, i < st.length → (valsAt c t).getD i default = valAt (c.vals.getD i default) (c.chg.getD i default) t := fun i hi => valsAt_get c t (by rw [h.vl]; exact hi)
  refine ⟨by show -1 ≤ t; omega, h3, h.f2, ?_, by show (c.chg.map _).length = _; rw [List.length_map]; exact h.cl, fun i hi => ?_, fun i hi => ?_, ?_, ?_, (gaps_split ht h.gf).2.1, fun x hx i hi hk => ?_⟩
  · show (valsAt c t).length = _
    unfold valsAt
    rw [List.length_map, List.length_range]; exact h.vl
  · show vv _ ((valsAt c t).getD i default) = true
    rw [hv i hi]
    exact (seg_cut (h.sg i hi) h2 h3).2.2.2.2.1 (h.vs i hi)
  · show segV _ _ c.to t ((valsAt c t).getD i default) ((c.chg.map (cut t c.to)).getD i default)
    rw [hg i hi, hv i hi]
    exact (seg_cut (h.sg i hi) h2 h3).2.2.1
  · exact Nat.le_trans (sum_cut _ _ _) h.cn
  · exact Nat.le_trans (fm_len (gR t) (gR_len t) c.gaps) h.gl
  · show valAt ((valsAt c t).getD i default) ((c.chg.map (cut t c.to)).getD i default) _ = _ ∧ ∀ y ∈ (c.chg.map (cut t c.to)).getD i default, _
    rw [hg i hi, hv i hi]
    obtain ⟨g, hgm, e1, e2, e3⟩ := mem_gapsR ht hx
    obtain ⟨k1, k2⟩ := h.gp g hgm i hi hk
    refine ⟨?_, fun y hy hc => ?_⟩
    · rw [(seg_cut (h.sg i hi) h2 h3).2.2.2.2.2.2 _ (by omega), ← k1]
      exact valAt_ge (by omega) (fun y hy hc => k2 y hy ⟨hc.1, by omega⟩) _
    · exact k2 y ((List.mem_filter.1 hy).1) ⟨by omega, by omega⟩
theorem eqS_self (a : List Str) : eqS a a = true := decide_eq_true rfl
theorem joinG_split {frm to t : Int} (ht : -2 ≤ t ∧ t ≤ 1099511627776) {l : List Gp} (h : gapV frm to none l) (hl : l.length ≤ 100000) : joinG (gapsL t l) (gapsR t l) = l := by
  have lastI' : ∀ n : Nat, 0 < n → n ≤ 100001 → (subI .i64 (n : Int) 1).toNat = n - 1 := fun n h0 h1 => by
    have : subI .i64 (n : Int) 1 = (n : Int) - 1 := IntWalk.i64_in _ ⟨by omega, by omega⟩
    rw [this]; omega
  rcases (gaps_split ht h).2.2 with ⟨a, b, e1, e2, e3, e4⟩ | ⟨a, g, b, e1, e2, e3⟩
  · rw [e2, e3]
    have hm : gMeet a b = false := by
      unfold gMeet
      by_cases ha : a.length = 0
      · rw [decide_eq_false (by omega)]; rfl
      · by_cases hb : b.length = 0
        · rw [decide_eq_true (by omega), decide_eq_false (by omega)]; rfl
        · have hal : a.length ≤ l.length := by rw [e1, List.length_append]; omega
          rw [decide_eq_true (by omega), decide_eq_true (by omega), lastI' a.length (by omega) (by omega)]
          have ma : a.getD (a.length - 1) default ∈ a := by
            rw [List.getD_eq_getElem?_getD, List.getElem?_eq_getElem (by omega)]; exact List.getElem_mem _
          have mb : b.getD 0 default ∈ b := by
            rw [List.getD_eq_getElem?_getD, List.getElem?_eq_getElem (by omega)]; exact List.getElem_mem _
          have := e4 _ ma _ mb
          show ((a.getD (a.length - 1) default).to == (b.getD 0 default).frm) = false
          rw [beq_eq_false_iff_ne]; omega
    unfold joinG
    rw [hm, e1]; rfl
  · rw [e2, e3]
    have hal : a.length ≤ l.length := by rw [e1, List.length_append]; omega
    have hlen : (a ++ [(⟨g.frm, t + 1⟩ : Gp)]).length = a.length + 1 := by simp
    have hget : (a ++ [(⟨g.frm, t + 1⟩ : Gp)]).getD a.length default = ⟨g.frm, t + 1⟩ := by simp [List.getD]
    have hm : gMeet (a ++ [⟨g.frm, t + 1⟩]) (⟨t + 1, g.to⟩ :: b) = true := by
      unfold gMeet
      rw [hlen, decide_eq_true (by omega), decide_eq_true (by rw [List.length_cons]; omega), lastI' (a.length + 1) (by omega) (by omega), Nat.add_sub_cancel, hget]
      show (t + 1 == t + 1) = true
      simp
    unfold joinG
    rw [hm, hlen, Nat.add_sub_cancel, hget, e1]
    show (a ++ [_]).set a.length ⟨g.frm, g.to⟩ ++ b = a ++ g :: b
    rw [List.set_append_right _ _ (Nat.le_refl _), Nat.sub_self]
    simp
theorem VC.join {vv : Sto → Str → Bool} {al : Sto → Str} {tm : Int} {mg mc : Nat} {st : List Sto} {c : Chk} (h : VC vv al tm mg mc st c) (hm : tm ≤ 1099511627776) (hg : mg ≤ 100000) {t : Int} (h2 : c.frm < t) (h3 : t < c.to) :
    join ⟨c.frm, t, c.vals, c.chg.map (cut c.frm t), gapsL t c.gaps⟩ ⟨t, c.to, valsAt c t, c.chg.map (cut t c.to), gapsR t c.gaps⟩ = (c, 0) ∧
    (join ⟨t, c.to, valsAt c t, c.chg.map (cut t c.to), gapsR t c.gaps⟩ ⟨c.frm, t, c.vals, c.chg.map (cut c.frm t), gapsL t c.gaps⟩).2 = 1 := by
  have f0 := h.f0
  have f1 := h.f1
  have f2 := h.f2
  have ht : -2 ≤ t ∧ t ≤ 1099511627776 := ⟨by omega, by omega⟩
  have hcv : c.chg.length = c.vals.length := by rw [h.cl, h.vl]
  have hvl : (valsAt c t).length = c.vals.length := by unfold valsAt; rw [List.length_map, List.length_range]
  have hva : valsAt ⟨c.frm, t, c.vals, c.chg.map (cut c.frm t), gapsL t c.gaps⟩ t = valsAt c t := by
    unfold valsAt
    refine List.map_congr_left fun i hi => ?_
    have hi := List.mem_range.1 hi
    have hi : i < c.vals.length := hi
    show valAt _ ((c.chg.map (cut c.frm t)).getD i default) t = _
    rw [getD_map' _ _ (by rw [hcv]; exact hi)]
    exact (seg_cut (h.sg i (by rw [← h.vl]; exact hi)) h2 h3).2.2.2.1
  constructor
  · have hb : joinBad ⟨c.frm, t, c.vals, c.chg.map (cut c.frm t), gapsL t c.gaps⟩ ⟨t, c.to, valsAt c t, c.chg.map (cut t c.to), gapsR t c.gaps⟩ = false := by
      unfold joinBad
      simp only [List.length_map, hva, hvl, hcv, eqS_self, bne_self_eq_false]
      rfl
    unfold S1.join
    rw [hb]
    show ((⟨c.frm, c.to, c.vals, zipC (c.chg.map (cut c.frm t)) (c.chg.map (cut t c.to)), joinG (gapsL t c.gaps) (gapsR t c.gaps)⟩ : Chk), (0 : Int)) = (c, 0)
    have hz : zipC (c.chg.map (cut c.frm t)) (c.chg.map (cut t c.to)) = c.chg := by
      unfold zipC
      rw [List.length_map]
      refine List.ext_getElem (by simp) fun i k1 k2 => ?_
      rw [List.getElem_map, List.getElem_range, getD_map' _ _ k2, getD_map' _ _ k2, (seg_cut (h.sg i (by rw [← h.cl]; exact k2)) h2 h3).1, List.getD_eq_getElem?_getD, List.getElem?_eq_getElem k2]; rfl
    have hgg := joinG_split ht h.gf (by have := h.gl; omega)
    rw [hz, hgg]
  · have hb : joinBad ⟨t, c.to, valsAt c t, c.chg.map (cut t c.to), gapsR t c.gaps⟩ ⟨c.frm, t, c.vals, c.chg.map (cut c.frm t), gapsL t c.gaps⟩ = true := by
      unfold joinBad
      have : (c.frm != c.to) = true := by simp; omega
      simp only [this]
      rfl
    unfold S1.join
    rw [hb]; rfl
--END
end Go.Proofs.YtmlhaikblfjghaaGreatDoor.S1
