/- Seat 2: validity, equality, constants. -/
import Derived.Test.YtpcbjkjgjoemaaaCM1
import Derived.Test.YtpcbjkjgjoemaaaRows
namespace Go.Proofs.Ytpcbjkjgjoemaaa.S1
open Go Go.Ab Go.Proofs
/-- May x stand behind p? -/
def okN (p : Option Sp) (x : Sp) : Bool := !(bif decide (x.frm > x.to) then true else match p with | none => false | some y => bif x.frm != addI .i64 y.to 1 then true else x.val == y.val)
def chk : Option Sp → List Sp → Bool
  | _, [] => true
  | p, x :: r => okN p x && chk (some x) r
def lastSp (l : List Sp) : Sp := l.getD (l.length - 1) default
def validL (l : List Sp) : Bool := !(bif bif (l.length : Int) == 0 then true else decide ((l.getD 0 default).frm < 0) then true else decide ((lastSp l).to > 1099511627776)) && chk none l
def prevAt (l : List Sp) : Nat → Option Sp
  | 0 => none
  | i + 1 => some (l.getD i default)
theorem F15 : OkF 15 Try.f15 := ⟨by kernel_rfl, by kernel_rfl, by kernel_rfl⟩
def lv15 : List (List Nat × List Nat) := [([1, 1, 0, 1, 0], [0, 25, 26, 27])]
noncomputable def nValids  : List Nat → Nat → Option Ans := scrAt []
theorem nValid (l : List Sp) (K : D → Prop) : runS (En Try.f15) (fi Try.f15 K) (nValids ) lv15 200 [.code []] ⟨argSlots 0 [L l 3 Sp.d], .empty⟩ =
  (l.length ≤ lenM → ((!(↑l.length : Int) == 0) = true → (0 : Int) ≤ 0 ∧ 0 < (↑l.length : Int)) ∧ (((!bif (↑l.length : Int) == 0 then true else decide ((l.getD (Int.toNat 0) default).frm < 0)) = true → l.length ≤ lenM) → ((!bif (↑l.length : Int) == 0 then true else decide ((l.getD (Int.toNat 0) default).frm < 0)) = true → 0 ≤ subI .i64 (↑l.length : Int) 1 ∧ subI .i64 (↑l.length : Int) 1 < (↑l.length : Int)) ∧ bif bif bif (↑l.length : Int) == 0 then true else decide ((l.getD (Int.toNat 0) default).frm < 0) then true else decide ((l.getD (subI .i64 (↑l.length : Int) 1).toNat default).to > 1099511627776) then K (B false) else l.length ≤ lenM → At (En Try.f15) (fi Try.f15 K) [It.code [1, 1, 0, 1, 0], It.blk 0, It.code [1, 1, 1]] { sl := [(0, L l 3 Sp.d), (25, L l 3 Sp.d), (26, I (↑l.length : Int)), (27, I 0)], h := Heap.empty : St })) := by kernel_rfl
def SValid (l : List Sp) (i : Int) : St := ⟨[(0, L l 3 Sp.d), (25, L l 3 Sp.d), (26, I l.length), (27, I i)], .empty⟩
noncomputable def nValidas  : List Nat → Nat → Option Ans := scrAt []
theorem nValida (l : List Sp) (i : Int) (J : St → Prop) (K : D → Prop) : runS (En Try.f15) (fi Try.f15 K) (nValidas ) lv15 200 [.code [1, 1, 0, 1, 0, 0], stp [0, 25, 26, 27] J, .blk 0, .code [1, 1, 1]] (SValid l i) =
  (bif decide (i < (↑l.length : Int)) then (0 ≤ i ∧ i < (↑l.length : Int)) ∧ True ∧ ((!decide ((l.getD i.toNat default).frm > (l.getD i.toNat default).to) && decide (i > 0)) = true → 0 ≤ subI .i64 i 1 ∧ subI .i64 i 1 < (↑l.length : Int)) ∧ ((!decide ((l.getD i.toNat default).frm > (l.getD i.toNat default).to) && decide (i > 0) && !(l.getD i.toNat default).frm != addI .i64 (l.getD (subI .i64 i 1).toNat default).to 1) = true → 0 ≤ subI .i64 i 1 ∧ subI .i64 i 1 < (↑l.length : Int)) ∧ bif bif decide ((l.getD i.toNat default).frm > (l.getD i.toNat default).to) then true else bif decide (i > 0) then bif (l.getD i.toNat default).frm != addI .i64 (l.getD (subI .i64 i 1).toNat default).to 1 then true else (l.getD i.toNat default).val == (l.getD (subI .i64 i 1).toNat default).val else false then K (B false) else J { sl := [(0, L l 3 Sp.d), (25, L l 3 Sp.d), (26, I (↑l.length : Int)), (27, I (addI .i64 i 1))], h := Heap.empty : St } else K (B true)) := by kernel_rfl
theorem c15 (l : List Sp) : Pure PP 15 [L l 3 Sp.d] (B (validL l)) := by
  refine pu F15 (by kernel_rfl) (of_eq (nValid l _) fun hl => ?_)
  have hlast : ((!bif (l.length : Int) == 0 then true else decide ((l.getD (Int.toNat 0) default).frm < 0)) = true) → subI .i64 (l.length : Int) 1 = ((l.length - 1 : Nat) : Int) ∧ 0 < l.length := fun h => by
    have h0 : 0 < l.length := by
      rcases Nat.eq_zero_or_pos l.length with h1 | h1
      · rw [h1] at h; simp at h
      · exact h1
    exact ⟨lastI h0 hl, h0⟩
  refine ⟨fun h => ⟨Int.le_refl _, ?_⟩, fun _ => ⟨fun h => ?_, ?_⟩⟩
  · have : (l.length : Int) ≠ 0 := by simpa using h
    omega
  · obtain ⟨e, h0⟩ := hlast h
    rw [e]; omega
  have hv : validL l = (!(bif bif (l.length : Int) == 0 then true else decide ((l.getD (Int.toNat 0) default).frm < 0) then true else decide ((l.getD (subI .i64 (l.length : Int) 1).toNat default).to > 1099511627776)) && chk none l) := by
    cases hb : (bif (l.length : Int) == 0 then true else decide ((l.getD (Int.toNat 0) default).frm < 0)) with
    | true => unfold validL; rw [show (bif (l.length : Int) == 0 then true else decide ((l.getD 0 default).frm < 0)) = true from hb]; rfl
    | false =>
      obtain ⟨e, _⟩ := hlast (by rw [hb]; rfl)
      rw [e, Int.toNat_natCast]
      unfold validL lastSp
      rw [show (bif (l.length : Int) == 0 then true else decide ((l.getD 0 default).frm < 0)) = false from hb]
  rw [hv]
  refine cond_intro (fun h => ?_) fun h _ => ?_
  · rw [h]; exact Wk.refl _
  rw [h]
  simp only [Bool.not_false, Bool.true_and]
  refine lp (fn := Try.f15) (fun i : Nat => i ≤ l.length ∧ chk none l = chk (prevAt l i) (l.drop i)) (fun i => SValid l i) (fun i => l.length - i) [0, 25, 26, 27] (by kernel_rfl) (fun i hi => of_eq (nValida l i _ _) (cond_intro (fun hlt => ?_) fun hge => ?_)) 0 ⟨Nat.zero_le _, rfl⟩
  · have hlt := ltI hlt
    obtain ⟨_, he⟩ := hi
    rw [add1 hlt hl, Int.toNat_natCast, he, drop_cons _ _ hlt]
    have hp : 0 < i → subI .i64 (i : Int) 1 = ((i - 1 : Nat) : Int) := fun h0 => lastI h0 (by omega)
    have hok : (bif decide ((l.getD i default).frm > (l.getD i default).to) then true else bif decide ((i : Int) > 0) then bif (l.getD i default).frm != addI .i64 (l.getD (subI .i64 (i : Int) 1).toNat default).to 1 then true else (l.getD i default).val == (l.getD (subI .i64 (i : Int) 1).toNat default).val else false) = !okN (prevAt l i) (l.getD i default) := by
      cases i with
      | zero => simp [okN, prevAt]
      | succ i =>
        rw [hp (by omega), Int.toNat_natCast]
        have : decide (((i + 1 : Nat) : Int) > 0) = true := decide_eq_true (by omega)
        rw [this]
        simp [okN, prevAt]
    refine ⟨⟨by omega, by omega⟩, trivial, fun h => ?_, fun h => ?_, ?_⟩
    · have h0 : 0 < i := by simp at h; omega
      rw [hp h0]; omega
    · have h0 : 0 < i := by simp at h; omega
      rw [hp h0]; omega
    · rw [hok]
      simp only [chk]
      refine cond_intro (fun h => ?_) fun h => ?_
      · have : okN (prevAt l i) (l.getD i default) = false := by simpa using h
        rw [this]; exact Wk.refl _
      · have : okN (prevAt l i) (l.getD i default) = true := by simpa using h
        rw [this, Bool.true_and]
        exact Nx.mk (i + 1) ⟨hlt, rfl⟩ (by omega)
  · have := geI hge
    rw [hi.2, List.drop_of_length_le this]
    exact Wk.refl _
theorem F10 : OkF 10 Try.f10 := ⟨by kernel_rfl, by kernel_rfl, by kernel_rfl⟩
def lv10 : List (List Nat × List Nat) := [([1, 1, 0, 1, 0], [0, 1, 5])]
noncomputable def nSames  : List Nat → Nat → Option Ans := scrAt []
theorem nSame (a : List Sp) (K : D → Prop) : runS (En Try.f10) (fi Try.f10 K) (nSames ) lv10 200 [.code []] ⟨argSlots 0 [L a 3 Sp.d, L a 3 Sp.d], .empty⟩ =
  (a.length ≤ lenM → a.length ≤ lenM → bif (↑a.length : Int) != (↑a.length : Int) then K (B false) else At (En Try.f10) (fi Try.f10 K) [It.code [1, 1, 0, 1, 0], It.blk 0, It.code [1, 1, 1]] { sl := [(0, L a 3 Sp.d), (1, L a 3 Sp.d), (5, I 0)], h := Heap.empty : St }) := by kernel_rfl
def SSame (a : List Sp) (i : Int) : St := ⟨[(0, L a 3 Sp.d), (1, L a 3 Sp.d), (5, I i)], .empty⟩
noncomputable def nSameas  : List Nat → Nat → Option Ans := scrAt []
theorem nSamea (a : List Sp) (i : Int) (J : St → Prop) (K : D → Prop) : runS (En Try.f10) (fi Try.f10 K) (nSameas ) lv10 200 [.code [1, 1, 0, 1, 0, 0], stp [0, 1, 5] J, .blk 0, .code [1, 1, 1]] (SSame a i) =
  (a.length ≤ lenM → bif decide (i < (↑a.length : Int)) then (0 ≤ i ∧ i < (↑a.length : Int)) ∧ (0 ≤ i ∧ i < (↑a.length : Int)) ∧ bif !((a.getD i.toNat default).frm == (a.getD i.toNat default).frm && ((a.getD i.toNat default).to == (a.getD i.toNat default).to && (a.getD i.toNat default).val == (a.getD i.toNat default).val)) then K (B false) else J { sl := [(0, L a 3 Sp.d), (1, L a 3 Sp.d), (5, I (addI .i64 i 1))], h := Heap.empty : St } else K (B true)) := by kernel_rfl
theorem c10 (a : List Sp) : Pure PP 10 [L a 3 Sp.d, L a 3 Sp.d] (B true) := by
  refine pu F10 (by kernel_rfl) (of_eq (nSame a _) fun _ _ => cond_intro (fun h => by simp at h) fun h => ?_)
  refine lp (fn := Try.f10) (fun i : Nat => i ≤ a.length) (fun i => SSame a i) (fun i => a.length - i) [0, 1, 5] (by kernel_rfl) (fun i hi => of_eq (nSamea a i _ _) fun hl => cond_intro (fun hlt => ?_) fun hge => ?_) 0 (Nat.zero_le _)
  · have hlt := ltI hlt
    rw [add1 hlt hl]
    refine ⟨⟨by omega, by omega⟩, ⟨by omega, by omega⟩, cond_intro (fun h => by simp at h) fun h => Nx.mk (i + 1) (by omega) (by omega)⟩
  · exact Wk.refl _
theorem F14 : OkF 14 Try.f14 := ⟨by kernel_rfl, by kernel_rfl, by kernel_rfl⟩
def lv14 : List (List Nat × List Nat) := [([1, 1, 0, 1, 0], [0, 1, 5]), ([1, 1, 0, 1, 0, 0, 1, 0, 0, 1, 1, 0], [0, 1, 5, 6])]
noncomputable def nRowss  : List Nat → Nat → Option Ans := scrAt []
theorem nRows (a : List Rw) (K : D → Prop) : runS (En Try.f14) (fi Try.f14 K) (nRowss ) lv14 200 [.code []] ⟨argSlots 0 [L a 3 Rw.d, L a 3 Rw.d], .empty⟩ =
  (a.length ≤ lenM → a.length ≤ lenM → bif (↑a.length : Int) != (↑a.length : Int) then K (B false) else At (En Try.f14) (fi Try.f14 K) [It.code [1, 1, 0, 1, 0], It.blk 0, It.code [1, 1, 1]] { sl := [(0, L a 3 Rw.d), (1, L a 3 Rw.d), (5, I 0)], h := Heap.empty : St }) := by kernel_rfl
def SRows (a : List Rw) (i : Int) : St := ⟨[(0, L a 3 Rw.d), (1, L a 3 Rw.d), (5, I i)], .empty⟩
noncomputable def nRowsas  : List Nat → Nat → Option Ans := scrAt []
theorem nRowsa (a : List Rw) (i : Int) (J : St → Prop) (K : D → Prop) : runS (En Try.f14) (fi Try.f14 K) (nRowsas ) lv14 200 [.code [1, 1, 0, 1, 0, 0], stp [0, 1, 5] J, .blk 0, .code [1, 1, 1]] (SRows a i) =
  (a.length ≤ lenM → bif decide (i < (↑a.length : Int)) then (0 ≤ i ∧ i < (↑a.length : Int)) ∧ (0 ≤ i ∧ i < (↑a.length : Int)) ∧ ((!(a.getD i.toNat default).frm != (a.getD i.toNat default).frm) = true → 0 ≤ i ∧ i < (↑a.length : Int)) ∧ ((!(a.getD i.toNat default).frm != (a.getD i.toNat default).frm) = true → 0 ≤ i ∧ i < (↑a.length : Int)) ∧ ((!bif (a.getD i.toNat default).frm != (a.getD i.toNat default).frm then true else (a.getD i.toNat default).to != (a.getD i.toNat default).to) = true → 0 ≤ i ∧ i < (↑a.length : Int)) ∧ (((!bif (a.getD i.toNat default).frm != (a.getD i.toNat default).frm then true else (a.getD i.toNat default).to != (a.getD i.toNat default).to) = true → (a.getD i.toNat default).vals.length ≤ lenM) → ((!bif (a.getD i.toNat default).frm != (a.getD i.toNat default).frm then true else (a.getD i.toNat default).to != (a.getD i.toNat default).to) = true → 0 ≤ i ∧ i < (↑a.length : Int)) ∧ (((!bif (a.getD i.toNat default).frm != (a.getD i.toNat default).frm then true else (a.getD i.toNat default).to != (a.getD i.toNat default).to) = true → (a.getD i.toNat default).vals.length ≤ lenM) → bif bif bif (a.getD i.toNat default).frm != (a.getD i.toNat default).frm then true else (a.getD i.toNat default).to != (a.getD i.toNat default).to then true else (↑(a.getD i.toNat default).vals.length : Int) != (↑(a.getD i.toNat default).vals.length : Int) then K (B false) else At (En Try.f14) (fi Try.f14 K) [It.code [1, 1, 0, 1, 0, 0, 1, 0, 0, 1, 1, 0], It.blk 2, It.blk 1, It.code [1, 1, 0, 1, 0, 0, 1, 1], stp [0, 1, 5] J, It.blk 0, It.code [1, 1, 1]] { sl := [(0, L a 3 Rw.d), (1, L a 3 Rw.d), (5, I i), (6, I 0)], h := Heap.empty : St })) else K (B true)) := by kernel_rfl
def SRows2 (a : List Rw) (i k : Int) : St := ⟨[(0, L a 3 Rw.d), (1, L a 3 Rw.d), (5, I i), (6, I k)], .empty⟩
noncomputable def nRowsbs  : List Nat → Nat → Option Ans := scrAt []
theorem nRowsb (a : List Rw) (i k : Int) (J J2 : St → Prop) (K : D → Prop) : runS (En Try.f14) (fi Try.f14 K) (nRowsbs ) lv14 200 [.code [1, 1, 0, 1, 0, 0, 1, 0, 0, 1, 1, 0, 0], stp [0, 1, 5, 6] J, .blk 2, .blk 1, .code [1, 1, 0, 1, 0, 0, 1, 1], stp [0, 1, 5] J2, .blk 0, .code [1, 1, 1]] (SRows2 a i k) =
  ((0 ≤ i ∧ i < (↑a.length : Int)) ∧ ((a.getD i.toNat default).vals.length ≤ lenM → bif decide (k < (↑(a.getD i.toNat default).vals.length : Int)) then (0 ≤ i ∧ i < (↑a.length : Int)) ∧ (0 ≤ k ∧ k < (↑(a.getD i.toNat default).vals.length : Int)) ∧ (0 ≤ i ∧ i < (↑a.length : Int)) ∧ (0 ≤ k ∧ k < (↑(a.getD i.toNat default).vals.length : Int)) ∧ bif !(a.getD i.toNat default).vals.getD k.toNat default == (a.getD i.toNat default).vals.getD k.toNat default then K (B false) else J { sl := [(0, L a 3 Rw.d), (1, L a 3 Rw.d), (5, I i), (6, I (addI .i64 k 1))], h := Heap.empty : St } else J2 { sl := [(0, L a 3 Rw.d), (1, L a 3 Rw.d), (5, I (addI .i64 i 1))], h := Heap.empty : St })) := by kernel_rfl
theorem c14 (a : List Rw) : Pure PP 14 [L a 3 Rw.d, L a 3 Rw.d] (B true) := by
  refine pu F14 (by kernel_rfl) (of_eq (nRows a _) fun _ _ => cond_intro (fun h => by simp at h) fun h => ?_)
  refine lp (fn := Try.f14) (fun i : Nat => i ≤ a.length) (fun i => SRows a i) (fun i => a.length - i) [0, 1, 5] (by kernel_rfl) (fun i hi => of_eq (nRowsa a i _ _) fun hl => cond_intro (fun hlt => ?_) fun hge => ?_) 0 (Nat.zero_le _)
  · have hlt := ltI hlt
    refine ⟨⟨by omega, by omega⟩, ⟨by omega, by omega⟩, fun _ => ⟨by omega, by omega⟩, fun _ => ⟨by omega, by omega⟩, fun _ => ⟨by omega, by omega⟩, fun _ => ⟨fun _ => ⟨by omega, by omega⟩, fun _ => cond_intro (fun h => by simp at h) fun _ => ?_⟩⟩
    refine lp (fn := Try.f14) (fun k : Nat => k ≤ (a.getD i default).vals.length) (fun k => SRows2 a i k) (fun k => (a.getD i default).vals.length - k) [0, 1, 5, 6] (by kernel_rfl) (fun k hk => of_eq (nRowsb a i k _ _ _) ⟨⟨by omega, by omega⟩, fun hl2 => ?_⟩) 0 (Nat.zero_le _)
    rw [Int.toNat_natCast] at hl2 ⊢
    refine cond_intro (fun hlt2 => ?_) fun hge => ?_
    · have hlt2 := ltI hlt2
      rw [add1 hlt2 hl2]
      refine ⟨⟨by omega, by omega⟩, ⟨by omega, by omega⟩, ⟨by omega, by omega⟩, ⟨by omega, by omega⟩, cond_intro (fun h => by simp at h) fun h => Nx.mk (k + 1) (by omega) (by omega)⟩
    · rw [add1 hlt hl]
      exact Nx.mk (i + 1) (by omega) (by omega)
  · exact Wk.refl _
/-! The spans of one value. -/
theorem F7 : OkF 7 Try.f7 := ⟨by kernel_rfl, by kernel_rfl, by kernel_rfl⟩
def lv7 : List (List Nat × List Nat) := [([1, 1, 0, 1, 0], [0, 1, 2, 3, 19, 20, 21]), ([1, 1, 1, 1, 1, 0, 0], [1, 2, 3, 12, 13]), ([1, 1, 1, 1, 1, 1, 1, 0, 0], [1, 3, 13, 14])]
noncomputable def nFcs (frm : Int) (to : Int) : List Nat → Nat → Option Ans := scrAt [([1, 0, 0], 2, Ans.pure [I frm, I to] (B (decide (frm ≥ 0 ∧ frm ≤ to ∧ to ≤ 1099511627776))))]
theorem nFc (v : Str) (ls : List Chg) (frm to : Int) (K : D → Heap → Prop) : runS (EnV [] [] Try.f7) (fh Try.f7 K) (nFcs frm to) lv7 200 [.code []] ⟨argSlots 0 [.str v, L ls 2 Chg.d, I frm, I to], .empty⟩ =
  (PureW PP 18 [I frm, I to] [I frm, I to] (B (decide (frm ≥ 0 ∧ frm ≤ to ∧ to ≤ 1099511627776))) ∧ bif !decide (frm ≥ 0 ∧ frm ≤ to ∧ to ≤ 1099511627776) then K (.tup [.list 0 0 (fun _ => D.junk) .full, I 2]) Heap.empty else ls.length ≤ lenM → At (EnV [] [] Try.f7) (fh Try.f7 K) [It.code [1, 1, 0, 1, 0], It.blk 0, It.code [1, 1, 1]] { sl := [(0, .str v), (1, L ls 2 Chg.d), (2, I frm), (3, I to), (19, L ls 2 Chg.d), (20, I (↑ls.length : Int)), (21, I 0)], h := Heap.empty : St }) := by kernel_rfl
def SFc1 (v : Str) (ls : List Chg) (frm to i : Int) : St := ⟨[(0, .str v), (1, L ls 2 Chg.d), (2, I frm), (3, I to), (19, L ls 2 Chg.d), (20, I ls.length), (21, I i)], .empty⟩
noncomputable def nFcas  : List Nat → Nat → Option Ans := scrAt []
theorem nFca (v : Str) (ls : List Chg) (frm to i : Int) (J : St → Prop) (K : D → Heap → Prop) : runS (EnV [] [] Try.f7) (fh Try.f7 K) (nFcas ) lv7 200 [.code [1, 1, 0, 1, 0, 0], stp [0, 1, 2, 3, 19, 20, 21] J, .blk 0, .code [1, 1, 1]] (SFc1 v ls frm to i) =
  (bif decide (i < (↑ls.length : Int)) then (0 ≤ i ∧ i < (↑ls.length : Int)) ∧ True ∧ (decide (i > 0) = true → 0 ≤ subI .i64 i 1 ∧ subI .i64 i 1 < (↑ls.length : Int)) ∧ bif bif decide (i > 0) then decide ((ls.getD i.toNat default).time < (ls.getD (subI .i64 i 1).toNat default).time) else false then K (.tup [.list 0 0 (fun _ => D.junk) .full, I 1]) Heap.empty else J { sl := [(0, .str v), (1, L ls 2 Chg.d), (2, I frm), (3, I to), (19, L ls 2 Chg.d), (20, I (↑ls.length : Int)), (21, I (addI .i64 i 1))], h := Heap.empty : St } else At (EnV [] [] Try.f7) (fh Try.f7 K) [It.code [1, 1, 1, 1, 1, 0, 0], It.blk 2, It.code [1, 1, 1, 1, 1, 1]] { sl := [(1, L ls 2 Chg.d), (2, I frm), (3, I to), (12, .str v), (13, I 0)], h := Heap.empty : St }) := by kernel_rfl
def SFc2 (v : Str) (ls : List Chg) (frm to i : Int) : St := ⟨[(1, L ls 2 Chg.d), (2, I frm), (3, I to), (12, .str v), (13, I i)], .empty⟩
noncomputable def nFcbs (v : Str) (frm : Int) : List Nat → Nat → Option Ans := scrAt [([1, 1, 1, 1, 1, 1, 0], 2, Ans.eff (D.vec 0 1 3) (hVec [{ frm := frm, to := 0, val := v : Sp }] Sp.d))]
theorem nFcb (v : Str) (ls : List Chg) (frm to i : Int) (J : St → Prop) (K : D → Heap → Prop) : runS (EnV [] [] Try.f7) (fh Try.f7 K) (nFcbs v frm) lv7 200 [.code [1, 1, 1, 1, 1, 0, 0, 0], stp [1, 2, 3, 12, 13] J, .blk 2, .code [1, 1, 1, 1, 1, 1]] (SFc2 v ls frm to i) =
  (ls.length ≤ lenM → (decide (i < (↑ls.length : Int)) = true → 0 ≤ i ∧ i < (↑ls.length : Int)) ∧ bif bif decide (i < (↑ls.length : Int)) then decide ((ls.getD i.toNat default).time ≤ frm) else false then (0 ≤ i ∧ i < (↑ls.length : Int)) ∧ J { sl := [(1, L ls 2 Chg.d), (2, I frm), (3, I to), (12, .str (ls.getD i.toNat default).val), (13, I (addI .i64 i 1))], h := Heap.empty : St } else Does PP 19 [.list 0 0 (fun _ => D.junk) .full, I frm, .str v] Heap.empty (D.vec 0 1 3) (hVec [{ frm := frm, to := 0, val := v : Sp }] Sp.d) ∧ At (EnV [] [] Try.f7) (fh Try.f7 K) [It.code [1, 1, 1, 1, 1, 1, 1, 0, 0], It.blk 4, It.code [1, 1, 1, 1, 1, 1, 1, 1]] { sl := [(1, L ls 2 Chg.d), (3, I to), (13, I i), (14, D.vec 0 1 3)], h := { box := fun _ => none, nl := 0, hw := upd (fun _ => none) 0 (some [{ frm := frm, to := 0, val := v : Sp }].length), nt := 1, vw := upd (fun _ => none) 0 (some (cv [{ frm := frm, to := 0, val := v : Sp }] Sp.d)) : Heap } : St }) := by kernel_rfl
def SFc3 (out : List Sp) (ls : List Chg) (to i : Int) : St := ⟨[(1, L ls 2 Chg.d), (3, I to), (13, I i), (14, .vec 0 out.length 3)], hVec out Sp.d⟩
noncomputable def nFccs (out : List Sp) (ls : List Chg) (to : Int) (i : Int) : List Nat → Nat → Option Ans := scrAt [([1, 1, 1, 1, 1, 1, 1, 0, 0, 0, 1, 0, 0, 1], 11, Ans.eff (D.vec 0 (addS out (ls.getD i.toNat default).time (ls.getD i.toNat default).val).length 3) (hVec (addS out (ls.getD i.toNat default).time (ls.getD i.toNat default).val) Sp.d)), ([1, 1, 1, 1, 1, 1, 1, 1, 0], 2, Ans.eff (D.vec 0 out.length 3) (hVec (lastTo out to) Sp.d))]
theorem nFcc (out : List Sp) (ls : List Chg) (to i : Int) (J : St → Prop) (K : D → Heap → Prop) : runS (EnV [] [] Try.f7) (fh Try.f7 K) (nFccs out ls to i) lv7 200 [.code [1, 1, 1, 1, 1, 1, 1, 0, 0, 0], stp [1, 3, 13, 14] J, .blk 4, .code [1, 1, 1, 1, 1, 1, 1, 1]] (SFc3 out ls to i) =
  (ls.length ≤ lenM →
  (decide (i < (↑ls.length : Int)) = true → 0 ≤ i ∧ i < (↑ls.length : Int)) ∧
    bif bif decide (i < (↑ls.length : Int)) then decide ((ls.getD i.toNat default).time ≤ to) else false then ls.length ≤ lenM → (decide (addI .i64 i 1 < (↑ls.length : Int)) = true → 0 ≤ addI .i64 i 1 ∧ addI .i64 i 1 < (↑ls.length : Int)) ∧ (decide (addI .i64 i 1 < (↑ls.length : Int)) = true → 0 ≤ i ∧ i < (↑ls.length : Int)) ∧ bif bif decide (addI .i64 i 1 < (↑ls.length : Int)) then (ls.getD (addI .i64 i 1).toNat default).time == (ls.getD i.toNat default).time else false then J { sl := [(1, L ls 2 Chg.d), (3, I to), (13, I (addI .i64 i 1)), (14, D.vec 0 out.length 3)], h := { box := fun _ => none, nl := 0, hw := upd (fun _ => none) 0 (some out.length), nt := 1, vw := upd (fun _ => none) 0 (some (cv out Sp.d)) : Heap } : St } else (0 ≤ i ∧ i < (↑ls.length : Int)) ∧ (0 ≤ i ∧ i < (↑ls.length : Int)) ∧ Does PP 19 [D.vec 0 out.length 3, I (ls.getD i.toNat default).time, .str (ls.getD i.toNat default).val] { box := fun _ => none, nl := 0, hw := upd (fun _ => none) 0 (some out.length), nt := 1, vw := upd (fun _ => none) 0 (some (cv out Sp.d)) : Heap } (D.vec 0 (addS out (ls.getD i.toNat default).time (ls.getD i.toNat default).val).length 3) (hVec (addS out (ls.getD i.toNat default).time (ls.getD i.toNat default).val) Sp.d) ∧ J { sl := [(1, L ls 2 Chg.d), (3, I to), (13, I (addI .i64 i 1)), (14, D.vec 0 (addS out (ls.getD i.toNat default).time (ls.getD i.toNat default).val).length 3)], h := { box := fun _ => none, nl := 0, hw := upd (fun _ => none) 0 (some (addS out (ls.getD i.toNat default).time (ls.getD i.toNat default).val).length), nt := 1, vw := upd (fun _ => none) 0 (some (cv (addS out (ls.getD i.toNat default).time (ls.getD i.toNat default).val) Sp.d)) : Heap } : St }
    else Does PP 20 [D.vec 0 out.length 3, I to] { box := fun _ => none, nl := 0, hw := upd (fun _ => none) 0 (some out.length), nt := 1, vw := upd (fun _ => none) 0 (some (cv out Sp.d)) : Heap } (D.vec 0 out.length 3) (hVec (lastTo out to) Sp.d) ∧ K (.tup [D.vec 0 out.length 3, I 0]) { box := fun _ => none, nl := 0, hw := upd (fun _ => none) 0 (some (lastTo out to).length), nt := 1, vw := upd (fun _ => none) 0 (some (cv (lastTo out to) Sp.d)) : Heap }) := by kernel_rfl
/-- In order (equal times may stand behind each other). -/
def srt : Option Chg → List Chg → Bool
  | _, [] => true
  | p, x :: r => (match p with | none => true | some y => !decide (x.time < y.time)) && srt (some x) r
def prevC (l : List Chg) : Nat → Option Chg
  | 0 => none
  | i + 1 => some (l.getD i default)
/-- The value at the begin, and the changes behind it. -/
def preV (frm : Int) : Str → List Chg → Str × List Chg
  | v, [] => (v, [])
  | v, x :: r => if x.time ≤ frm then preV frm x.val r else (v, x :: r)
/-- The changes up to the end, of those at one time the last. -/
def runL (to : Int) : List Chg → List Sp → List Sp
  | [], out => out
  | x :: r, out => if x.time ≤ to then runL to r (if r ≠ [] ∧ (r.getD 0 default).time = x.time then out else addS out x.time x.val) else out
def fcR (v : Str) (ls : List Chg) (frm to : Int) : List Sp × Int :=
  if frm ≥ 0 ∧ frm ≤ to ∧ to ≤ 1099511627776 then (if srt none ls = true then (lastTo (runL to (preV frm v ls).2 [⟨frm, 0, (preV frm v ls).1⟩]) to, 0) else ([], 1)) else ([], 2)
theorem runL_ne (to : Int) : ∀ (l : List Chg) (out : List Sp), out ≠ [] → runL to l out ≠ []
  | [], _, h => h
  | x :: r, out, h => by
    simp only [runL]
    split
    · refine runL_ne to r _ ?_
      split
      · exact h
      · exact addS_ne _ _ _
    · exact h
theorem ret_nilP {e : Int} {h : Heap} {sz : Nat} {get : Nat → D} {own : Own} : ∃ h', RetLe (.tup [.list 0 sz get own, I e]) h (.tup [L ([] : List Sp) 3 Sp.d, I e]) h' := ⟨_, RetLe.wk (Wk.tup (Wks.cons Wk.nilL (Wks.refl _))) rfl⟩
theorem ret_vecP {n : Nat} {out : List Sp} (hn : n = out.length) : ∃ h', RetLe (.tup [.vec 0 n 3, I 0]) (hVec out Sp.d) (.tup [L out 3 Sp.d, I 0]) h' := by
  subst hn
  exact ⟨_, (RetLe.frz (d := .tup [.vec 0 out.length 3, I 0]) (t := 0) (n := out.length) (f := cv out Sp.d) rfl rfl (by simp [frzOk, frzOks])).trans (RetLe.wk (Wk.tup (Wks.cons Wk.tokL (Wks.refl _))) rfl)⟩
theorem c7 (v : Str) (ls : List Chg) (frm to : Int) (hb : ls.length ≤ 50000) : Pure PP 7 [.str v, L ls 2 Chg.d, I frm, I to] (.tup [L (fcR v ls frm to).1 3 Sp.d, I (fcR v ls frm to).2]) := by
  refine pr F7 (by kernel_rfl) (of_eq (nFc v ls frm to _) ⟨PureW.mk (c18 _ _), cond_intro (fun h => ?_) fun h hl => ?_⟩)
  · have : ¬ (frm ≥ 0 ∧ frm ≤ to ∧ to ≤ 1099511627776) := fun hc => by rw [decide_eq_true hc] at h; cases h
    rw [fcR, if_neg this]; exact ret_nilP
  have hr : frm ≥ 0 ∧ frm ≤ to ∧ to ≤ 1099511627776 := by simpa using h
  rw [fcR, if_pos hr]
  refine lp (fn := Try.f7) (fun i : Nat => i ≤ ls.length ∧ srt none ls = srt (prevC ls i) (ls.drop i)) (fun i => SFc1 v ls frm to i) (fun i => ls.length - i) [0, 1, 2, 3, 19, 20, 21] (by kernel_rfl) (fun i hi => of_eq (nFca v ls frm to i _ _) (cond_intro (fun hlt => ?_) fun hge => ?_)) 0 ⟨Nat.zero_le _, rfl⟩
  · have hlt := ltI hlt
    obtain ⟨_, he⟩ := hi
    have hp : 0 < i → subI .i64 (i : Int) 1 = ((i - 1 : Nat) : Int) := fun h0 => lastI h0 (by omega)
    rw [add1 hlt hl, Int.toNat_natCast]
    refine ⟨⟨by omega, by omega⟩, trivial, fun h => ?_, ?_⟩
    · have h0 : 0 < i := by simpa using h
      rw [hp h0]; omega
    · have hx : (bif decide ((i : Int) > 0) then decide ((ls.getD i default).time < (ls.getD (subI .i64 (i : Int) 1).toNat default).time) else false) = !(match prevC ls i with | none => true | some y => !decide ((ls.getD i default).time < y.time)) := by
        cases i with
        | zero => rfl
        | succ i =>
          rw [hp (by omega), Int.toNat_natCast, decide_eq_true (show ((i + 1 : Nat) : Int) > 0 by omega)]
          simp [prevC]
      have hsr : srt none ls = ((match prevC ls i with | none => true | some y => !decide ((ls.getD i default).time < y.time)) && srt (some (ls.getD i default)) (ls.drop (i + 1))) := by rw [he, drop_cons _ _ hlt]; rfl
      rw [hx]
      refine cond_intro (fun h => ?_) fun h => ?_
      · have : (match prevC ls i with | none => true | some y => !decide ((ls.getD i default).time < y.time)) = false := by simpa using h
        rw [if_neg (by rw [hsr, this]; simp)]
        exact ret_nilP
      · have : (match prevC ls i with | none => true | some y => !decide ((ls.getD i default).time < y.time)) = true := by simpa using h
        exact Nx.mk (i + 1) ⟨hlt, by rw [hsr, this, Bool.true_and]; rfl⟩ (by omega)
  have hs : srt none ls = true := by
    rw [hi.2, List.drop_of_length_le (geI hge)]; rfl
  rw [if_pos hs]
  refine lp (fn := Try.f7) (fun z : Nat × Str => z.1 ≤ ls.length ∧ preV frm v ls = preV frm z.2 (ls.drop z.1)) (fun z => SFc2 z.2 ls frm to z.1) (fun z => ls.length - z.1) [1, 2, 3, 12, 13] (by kernel_rfl) (fun z hz => of_eq (nFcb z.2 ls frm to z.1 _ _) fun _ => ?_) (0, v) ⟨Nat.zero_le _, rfl⟩
  obtain ⟨i, u⟩ := z
  obtain ⟨hi, he⟩ := hz
  simp only at hi he ⊢
  refine ⟨fun h => ⟨by omega, by simpa using h⟩, cond_intro (fun h => ?_) fun h => ?_⟩
  · have hlt : i < ls.length := by
      cases hd : decide ((i : Int) < (ls.length : Int)) with
      | true => exact ltI hd
      | false => rw [hd] at h; cases h
    rw [decide_eq_true (show (i : Int) < (ls.length : Int) by omega)] at h
    have hx : (ls.getD i default).time ≤ frm := by simpa using h
    rw [add1 hlt hl, Int.toNat_natCast]
    refine ⟨⟨by omega, by omega⟩, Nx.mk (i + 1, (ls.getD i default).val) ⟨hlt, ?_⟩ (by simp only; omega)⟩
    rw [he, drop_cons _ _ hlt]
    simp only [preV]
    rw [if_pos hx]
  have hp : preV frm v ls = (u, ls.drop i) := by
    rw [he]
    rcases Nat.lt_or_ge i ls.length with hlt | hge
    · rw [decide_eq_true (show (i : Int) < (ls.length : Int) by omega)] at h
      have hx : ¬ (ls.getD i default).time ≤ frm := by simpa using h
      rw [drop_cons _ _ hlt]
      simp only [preV]
      rw [if_neg hx]
    · rw [List.drop_of_length_le hge]; rfl
  rw [hp]
  refine ⟨eadd0 frm u, ?_⟩
  simp only
  refine lp (fn := Try.f7) (fun z : Nat × List Sp => z.1 ≤ ls.length ∧ z.2 ≠ [] ∧ z.2.length ≤ z.1 + 1 ∧ runL to (ls.drop i) [⟨frm, 0, u⟩] = runL to (ls.drop z.1) z.2) (fun z => SFc3 z.2 ls to z.1) (fun z => ls.length - z.1) [1, 3, 13, 14] (by kernel_rfl) (fun z hz => of_eq (nFcc z.2 ls to z.1 _ _) fun _ => ?_) (i, [⟨frm, 0, u⟩]) ⟨hi, by simp, by simp, rfl⟩
  obtain ⟨k, out⟩ := z
  obtain ⟨hk, hne, hol, he2⟩ := hz
  simp only at hk hne hol he2 ⊢
  refine ⟨fun h => ⟨by omega, by simpa using h⟩, cond_intro (fun h => fun _ => ?_) fun h => ?_⟩
  · have hlt : k < ls.length := by
      cases hd : decide ((k : Int) < (ls.length : Int)) with
      | true => exact ltI hd
      | false => rw [hd] at h; cases h
    rw [decide_eq_true (show (k : Int) < (ls.length : Int) by omega)] at h
    have hx : (ls.getD k default).time ≤ to := by simpa using h
    rw [add1 hlt hl, Int.toNat_natCast, Int.toNat_natCast]
    have hst : runL to (ls.drop k) out = runL to (ls.drop (k + 1)) (if ls.drop (k + 1) ≠ [] ∧ ((ls.drop (k + 1)).getD 0 default).time = (ls.getD k default).time then out else addS out (ls.getD k default).time (ls.getD k default).val) := by
      rw [drop_cons _ _ hlt]
      simp only [runL]
      rw [if_pos hx]
    have hdup : (bif decide (((k + 1 : Nat) : Int) < (ls.length : Int)) then (ls.getD (k + 1) default).time == (ls.getD k default).time else false) = decide (ls.drop (k + 1) ≠ [] ∧ ((ls.drop (k + 1)).getD 0 default).time = (ls.getD k default).time) := by
      rcases Nat.lt_or_ge (k + 1) ls.length with h1 | h1
      · rw [decide_eq_true (show ((k + 1 : Nat) : Int) < (ls.length : Int) by omega), drop_cons _ _ h1]
        simp only [cond_true, List.getD_cons_zero]
        rw [Bool.eq_iff_iff]; simp
      · rw [decide_eq_false (show ¬ ((k + 1 : Nat) : Int) < (ls.length : Int) by omega), List.drop_of_length_le h1]
        simp
    rw [hdup]
    refine ⟨fun h => ⟨by omega, by simpa using h⟩, fun h => ⟨by omega, by omega⟩, cond_intro (fun h2 => ?_) fun h2 => ?_⟩
    · have h2 : ls.drop (k + 1) ≠ [] ∧ ((ls.drop (k + 1)).getD 0 default).time = (ls.getD k default).time := by simpa using h2
      rw [if_pos h2] at hst
      exact Nx.mk (k + 1, out) ⟨hlt, hne, by simp only; omega, he2.trans hst⟩ (by simp only; omega)
    · have h2 : ¬ (ls.drop (k + 1) ≠ [] ∧ ((ls.drop (k + 1)).getD 0 default).time = (ls.getD k default).time) := by
        intro h3; rw [decide_eq_true h3] at h2; cases h2
      rw [if_neg h2] at hst
      have := addS_len out (ls.getD k default).time (ls.getD k default).val
      refine ⟨⟨by omega, by omega⟩, ⟨by omega, by omega⟩, e19 _ _ _ (by omega), Nx.mk (k + 1, addS out (ls.getD k default).time (ls.getD k default).val) ⟨hlt, addS_ne _ _ _, by simp only; omega, he2.trans hst⟩ (by simp only; omega)⟩
  · have hend : runL to (ls.drop k) out = out := by
      rcases Nat.lt_or_ge k ls.length with hlt | hge
      · rw [decide_eq_true (show (k : Int) < (ls.length : Int) by omega)] at h
        have hx : ¬ (ls.getD k default).time ≤ to := by simpa using h
        rw [drop_cons _ _ hlt]
        simp only [runL]
        rw [if_neg hx]
      · rw [List.drop_of_length_le hge]; rfl
    rw [he2, hend]
    exact ⟨e20 out to hne, ret_vecP (lastTo_len _ _).symm⟩
theorem F5 : OkF 5 Try.f5 := ⟨by kernel_rfl, by kernel_rfl, by kernel_rfl⟩
def lv5 : List (List Nat × List Nat) := []
noncomputable def nConsts (v : Str) (frm : Int) (to : Int) : List Nat → Nat → Option Ans := scrAt [([1, 0], 3, Ans.pure [.str v, L [] 2 Chg.d, I frm, I to] (.tup [L (fcR v [] frm to).fst 3 Sp.d, I (fcR v [] frm to).snd]))]
theorem nConst (v : Str) (frm to : Int) (K : D → Prop) : runS (En Try.f5) (fi Try.f5 K) (nConsts v frm to) lv5 200 [.code []] ⟨argSlots 0 [.str v, I frm, I to], .empty⟩ =
  (PureW PP 7 [.str v, .list 0 0 (fun _ => D.junk) .full, I frm, I to] [.str v, L [] 2 Chg.d, I frm, I to] (.tup [L (fcR v [] frm to).fst 3 Sp.d, I (fcR v [] frm to).snd]) ∧ K (.tup [L (fcR v [] frm to).fst 3 Sp.d, I (fcR v [] frm to).snd])) := by kernel_rfl
theorem c5 (v : Str) (frm to : Int) : Pure PP 5 [.str v, I frm, I to] (.tup [L (fcR v [] frm to).1 3 Sp.d, I (fcR v [] frm to).2]) :=
  pu F5 (by kernel_rfl) (of_eq (nConst v frm to _) ⟨⟨Wks.cons (Wk.refl _) (Wks.cons Wk.nilL (Wks.refl _)), c7 v [] frm to (by simp)⟩, Wk.refl _⟩)
end Go.Proofs.Ytpcbjkjgjoemaaa.S1
/- Seat 2: rows. -/
namespace Go.Proofs.Ytpcbjkjgjoemaaa.S1
open Go Go.Ab Go.Proofs
abbrev LLd (l : List Sp) : D := L l 3 Sp.d
abbrev I' : Int → D := D.int .i64
def hZ (pq : List Int) (n N : Nat) : Heap := ⟨fun _ => none, 0, upd (upd (fun _ => none) 0 (some 2)) 1 (some n), N + 2, upd (fun _ => none) 0 (some (cv pq I'))⟩
def hZ2 (pq : List Int) (n N m : Nat) : Heap := ⟨fun _ => none, 0, upd (upd (upd (fun _ => none) 0 (some 2)) 1 (some n)) (N + 2) (some m), N + 3, upd (fun _ => none) 0 (some (cv pq I'))⟩
theorem F13 : OkF 13 Try.f13 := ⟨by kernel_rfl, by kernel_rfl, by kernel_rfl⟩
def lv13 : List (List Nat × List Nat) := [([1, 1, 0, 1, 0], [0, 21, 22, 23]), ([1, 1, 1], [0]), ([1, 1, 1, 1, 1, 1, 0, 0], [0, 6, 7, 8, 9]), ([1, 1, 1, 1, 1, 1, 0, 0, 0, 1, 0, 1, 0, 1, 0], [0, 6, 7, 8, 9, 10, 91, 92, 93]), ([1, 1, 1, 1, 1, 1, 0, 0, 0, 1, 0, 1, 0, 1, 0, 0, 1, 1, 0, 0, 1, 0, 0], [0, 6, 7, 8, 9, 10, 11, 12, 91, 92, 93])]
noncomputable def nZips  : List Nat → Nat → Option Ans := scrAt []
theorem nZip (a b : List Sp) (K : D → Heap → Prop) : runS (EnV [] [84] Try.f13) (fh Try.f13 K) (nZips ) lv13 200 [.code []] ⟨argSlots 0 [L [a, b] 1 LLd], .empty⟩ =
  ([a, b].length ≤ lenM → ((!(↑[a, b].length : Int) == 0) = true → [a, b].length ≤ lenM) → [a, b].length ≤ lenM → At (EnV [] [84] Try.f13) (fh Try.f13 K) [It.code [1, 1, 0, 1, 0], It.blk 0, It.code [1, 1, 1]] { sl := [(0, L [a, b] 1 LLd), (21, L [a, b] 1 LLd), (22, I (↑[a, b].length : Int)), (23, I 0)], h := Heap.empty : St }) := by kernel_rfl
def SZ1 (a b : List Sp) (i : Int) : St := ⟨[(0, L [a, b] 1 LLd), (21, L [a, b] 1 LLd), (22, I 2), (23, I i)], .empty⟩
noncomputable def nZipas (a : List Sp) (b : List Sp) (i : Int) : List Nat → Nat → Option Ans := scrAt [([1, 1, 0, 1, 0, 0, 1, 1, 0, 0, 1, 0], 1, Ans.pure [L ([a, b].getD i.toNat default) 3 Sp.d] (B (validL ([a, b].getD i.toNat default))))]
theorem nZipa (a b : List Sp) (i : Int) (J : St → Prop) (K : D → Heap → Prop) : runS (EnV [] [84] Try.f13) (fh Try.f13 K) (nZipas a b i) lv13 200 [.code [1, 1, 0, 1, 0, 0], stp [0, 21, 22, 23] J, .blk 0, .code [1, 1, 1]] (SZ1 a b i) =
  (bif decide (i < 2) then
  (0 ≤ i ∧ i < (↑[a, b].length : Int)) ∧
    PureW PP 15 [L ([a, b].getD i.toNat default) 3 Sp.d] [L ([a, b].getD i.toNat default) 3 Sp.d] (B (validL ([a, b].getD i.toNat default))) ∧
      ((!!validL ([a, b].getD i.toNat default)) = true → (0 : Int) ≤ 0 ∧ 0 < (↑([a, b].getD i.toNat default).length : Int)) ∧
        ((!!validL ([a, b].getD i.toNat default)) = true → (0 : Int) ≤ 0 ∧ 0 < (↑[a, b].length : Int)) ∧
          ((!!validL ([a, b].getD i.toNat default)) = true → (0 : Int) ≤ 0 ∧ 0 < (↑([a, b].getD 0 default).length : Int)) ∧
            (((!bif !validL ([a, b].getD i.toNat default) then true else (([a, b].getD i.toNat default).getD 0 default).frm != (([a, b].getD 0 default).getD 0 default).frm) = true → ([a, b].getD i.toNat default).length ≤ lenM) →
              ((!bif !validL ([a, b].getD i.toNat default) then true else (([a, b].getD i.toNat default).getD 0 default).frm != (([a, b].getD 0 default).getD 0 default).frm) = true → 0 ≤ subI .i64 (↑([a, b].getD i.toNat default).length : Int) 1 ∧ subI .i64 (↑([a, b].getD i.toNat default).length : Int) 1 < (↑([a, b].getD i.toNat default).length : Int)) ∧
                ((!bif !validL ([a, b].getD i.toNat default) then true else (([a, b].getD i.toNat default).getD 0 default).frm != (([a, b].getD 0 default).getD 0 default).frm) = true → (0 : Int) ≤ 0 ∧ 0 < (↑[a, b].length : Int)) ∧ ((!bif !validL ([a, b].getD i.toNat default) then true else (([a, b].getD i.toNat default).getD 0 default).frm != (([a, b].getD 0 default).getD 0 default).frm) = true → (0 : Int) ≤ 0 ∧ 0 < (↑[a, b].length : Int)) ∧ (((!bif !validL ([a, b].getD i.toNat default) then true else (([a, b].getD i.toNat default).getD 0 default).frm != (([a, b].getD 0 default).getD 0 default).frm) = true → ([a, b].getD 0 default).length ≤ lenM) → ((!bif !validL ([a, b].getD i.toNat default) then true else (([a, b].getD i.toNat default).getD 0 default).frm != (([a, b].getD 0 default).getD 0 default).frm) = true → 0 ≤ subI .i64 (↑([a, b].getD 0 default).length : Int) 1 ∧ subI .i64 (↑([a, b].getD 0 default).length : Int) 1 < (↑([a, b].getD 0 default).length : Int)) ∧ bif bif bif !validL ([a, b].getD i.toNat default) then true else (([a, b].getD i.toNat default).getD 0 default).frm != (([a, b].getD 0 default).getD 0 default).frm then true else (([a, b].getD i.toNat default).getD (subI .i64 (↑([a, b].getD i.toNat default).length : Int) 1).toNat default).to != (([a, b].getD 0 default).getD (subI .i64 (↑([a, b].getD 0 default).length : Int) 1).toNat default).to then K (.tup [.list 0 0 (fun _ => D.junk) .full, I 1]) Heap.empty else J { sl := [(0, L [a, b] 1 LLd), (21, L [a, b] 1 LLd), (22, I 2), (23, I (addI .i64 i 1))], h := Heap.empty : St }))
 else At (EnV [] [84] Try.f13) (fh Try.f13 K) [It.code [1, 1, 1]] { sl := [(0, L [a, b] 1 LLd)], h := Heap.empty : St }) := by kernel_rfl
def lvZ : List (List Nat × List Nat) := [([1, 1, 1, 1, 1, 1, 0, 0], [0, 6, 7, 8, 9])]
noncomputable def nZipbs  : List Nat → Nat → Option Ans := scrAt []
theorem nZipb (a b : List Sp) (K : D → Heap → Prop) : runS (EnV [] [84] Try.f13) (fh Try.f13 K) (nZipbs ) lvZ 200 [.code [1, 1, 1]] ⟨[(0, L [a, b] 1 LLd)], .empty⟩ =
  (((0 : Int) ≤ 0 ∧ 0 < (↑[a, b].length : Int)) ∧ ((0 : Int) ≤ 0 ∧ 0 < (↑([a, b].getD 0 default).length : Int)) ∧ ((0 : Int) ≤ 0 ∧ 0 < (↑[a, b].length : Int)) ∧ ((0 : Int) ≤ 0 ∧ 0 < (↑[a, b].length : Int)) ∧ (([a, b].getD 0 default).length ≤ lenM → (0 ≤ subI .i64 (↑([a, b].getD 0 default).length : Int) 1 ∧ subI .i64 (↑([a, b].getD 0 default).length : Int) 1 < (↑([a, b].getD 0 default).length : Int)) ∧ ([a, b].length ≤ lenM → (0 ≤ (↑[a, b].length : Int) ∧ (↑[a, b].length : Int) ≤ (↑[a, b].length : Int) ∧ (↑[a, b].length : Int) * ((↑7 : Int) + 1) ≤ (↑roomM : Int)) ∧ At (EnV [] [84] Try.f13) (fh Try.f13 K) [It.code [1, 1, 1, 1, 1, 1, 0, 0], It.blk 2, It.code [1, 1, 1, 1, 1, 1, 1]] { sl := [(0, L [a, b] 1 LLd), (6, I (([a, b].getD 0 default).getD 0 default).frm), (7, I (([a, b].getD 0 default).getD (subI .i64 (↑([a, b].getD 0 default).length : Int) 1).toNat default).to), (8, D.vec 0 (↑[a, b].length : Int).toNat 1), (9, .list 0 0 (fun _ => D.junk) .full)], h := { box := fun _ => none, nl := 0, hw := upd (fun _ => none) 0 (some (↑[a, b].length : Int).toNat), nt := 1, vw := upd (fun _ => none) 0 (some fun x => ofVal (Value.int .i64 0)) : Heap } : St }))) := by kernel_rfl
def SZ2 (a b : List Sp) (frm to : Int) (pq : List Int) (out : List Rw) (N : Nat) : St := ⟨[(0, L [a, b] 1 LLd), (6, I frm), (7, I to), (8, .vec 0 2 1), (9, LT out 3 Rw.d 1)], hZ pq out.length N⟩
noncomputable def nZipcs  : List Nat → Nat → Option Ans := scrAt []
theorem nZipc (a b : List Sp) (frm to : Int) (pq : List Int) (out : List Rw) (N : Nat) (J : St → Prop) (K : D → Heap → Prop) : runS (EnV [] [84] Try.f13) (fh Try.f13 K) (nZipcs ) lv13 200 [.code [1, 1, 1, 1, 1, 1, 0, 0, 0], stp [0, 6, 7, 8, 9] J, .blk 2, .code [1, 1, 1, 1, 1, 1, 1]] (SZ2 a b frm to pq out N) =
  (bif decide (frm ≤ to) then True ∧ ([a, b].length ≤ lenM → At (EnV [] [84] Try.f13) (fh Try.f13 K) [It.code [1, 1, 1, 1, 1, 1, 0, 0, 0, 1, 0, 1, 0, 1, 0], It.blk 4, It.code [1, 1, 1, 1, 1, 1, 0, 0, 0, 1, 0, 1, 1], It.blk 3, stp [0, 6, 7, 8, 9] J, It.blk 2, It.code [1, 1, 1, 1, 1, 1, 1]] { sl := [(0, L [a, b] 1 LLd), (6, I frm), (7, I to), (8, D.vec 0 2 1), (9, .list out.length 3 (fun i => (out.getD i default).d) (.tok 1 3)), (10, .own [I frm, I to, .list 0 0 (fun _ => D.junk) .full]), (91, L [a, b] 1 LLd), (92, I (↑[a, b].length : Int)), (93, I 0)], h := { box := fun _ => none, nl := 0, hw := upd (upd (fun _ => none) 0 (some 2)) 1 (some out.length), nt := N + 2, vw := upd (fun _ => none) 0 (some (cv pq I')) : Heap } : St }) else K (.tup [.list out.length 3 (fun i => (out.getD i default).d) (.tok 1 3), I 0]) { box := fun _ => none, nl := 0, hw := upd (upd (fun _ => none) 0 (some 2)) 1 (some out.length), nt := N + 2, vw := upd (fun _ => none) 0 (some (cv pq I')) : Heap }) := by kernel_rfl
def SZ3 (a b : List Sp) (frm to : Int) (pq : List Int) (out : List Rw) (N : Nat) (m : Int) (vals : List Str) (i : Int) : St := ⟨[(0, L [a, b] 1 LLd), (6, I frm), (7, I to), (8, .vec 0 2 1), (9, LT out 3 Rw.d 1), (10, .own [I frm, I m, LT vals 1 .str (N + 2)]), (91, L [a, b] 1 LLd), (92, I 2), (93, I i)], hZ2 pq out.length N vals.length⟩
noncomputable def nZipds  : List Nat → Nat → Option Ans := scrAt []
theorem nZipd (a b : List Sp) (frm to : Int) (pq : List Int) (out : List Rw) (N : Nat) (m : Int) (vals : List Str) (i : Int) (J J2 : St → Prop) (K : D → Heap → Prop) : runS (EnV [] [84] Try.f13) (fh Try.f13 K) (nZipds ) lv13 200 [.code [1, 1, 1, 1, 1, 1, 0, 0, 0, 1, 0, 1, 0, 1, 0, 0], stp [0, 6, 7, 8, 9, 10, 91, 92, 93] J, .blk 4, .code [1, 1, 1, 1, 1, 1, 0, 0, 0, 1, 0, 1, 1], .blk 3, stp [0, 6, 7, 8, 9] J2, .blk 2, .code [1, 1, 1, 1, 1, 1, 1]] (SZ3 a b frm to pq out N m vals i) =
  (bif decide (i < 2) then (0 ≤ i ∧ i < (↑[a, b].length : Int)) ∧ At (EnV [] [84] Try.f13) (fh Try.f13 K) [It.code [1, 1, 1, 1, 1, 1, 0, 0, 0, 1, 0, 1, 0, 1, 0, 0, 1, 1, 0, 0, 1, 0, 0], It.blk 6, It.code [1, 1, 1, 1, 1, 1, 0, 0, 0, 1, 0, 1, 0, 1, 0, 0, 1, 1, 0, 0, 1, 1], It.blk 5, It.code [1, 1, 1, 1, 1, 1, 0, 0, 0, 1, 0, 1, 0, 1, 0, 0, 1, 1, 1], stp [0, 6, 7, 8, 9, 10, 91, 92, 93] J, It.blk 4, It.code [1, 1, 1, 1, 1, 1, 0, 0, 0, 1, 0, 1, 1], It.blk 3, stp [0, 6, 7, 8, 9] J2, It.blk 2, It.code [1, 1, 1, 1, 1, 1, 1]] { sl := [(0, L [a, b] 1 LLd), (6, I frm), (7, I to), (8, D.vec 0 2 1), (9, .list out.length 3 (fun i => (out.getD i default).d) (.tok 1 3)), (10, .own [I frm, I m, .list vals.length 1 (fun i => .str (vals.getD i default)) (.tok (N + 2) 1)]), (11, I i), (12, L ([a, b].getD i.toNat default) 3 Sp.d), (91, L [a, b] 1 LLd), (92, I 2), (93, I i)], h := { box := fun _ => none, nl := 0, hw := upd (upd (upd (fun _ => none) 0 (some 2)) 1 (some out.length)) (N + 2) (some vals.length), nt := N + 3, vw := upd (fun _ => none) 0 (some (cv pq I')) : Heap } : St } else (upd (upd (upd (fun _ => none) 0 (some 2)) 1 (some out.length)) (N + 2) (some vals.length) 1 = some out.length ∧ (out.length + 1) * 40 ≤ roomM) ∧ J2 { sl := [(0, L [a, b] 1 LLd), (6, I (addI .i64 m 1)), (7, I to), (8, D.vec 0 2 1), (9, .list (out.length + 1) 3 (catG out.length (fun i => (out.getD i default).d) (litG [.agg [I frm, I m, .list vals.length 1 (fun i => .str (vals.getD i default)) (.tok (N + 2) 1)]])) (.tok 1 3))], h := { box := fun _ => none, nl := 0, hw := upd (upd (upd (upd (fun _ => none) 0 (some 2)) 1 (some out.length)) (N + 2) (some vals.length)) 1 (some (out.length + 1)), nt := N + 3, vw := upd (fun _ => none) 0 (some (cv pq I')) : Heap } : St }) := by kernel_rfl
def SZ4 (a b : List Sp) (frm to : Int) (pq : List Int) (out : List Rw) (N : Nat) (m : Int) (vals : List Str) (i : Int) (l : List Sp) : St := ⟨[(0, L [a, b] 1 LLd), (6, I frm), (7, I to), (8, .vec 0 2 1), (9, LT out 3 Rw.d 1), (10, .own [I frm, I m, LT vals 1 .str (N + 2)]), (11, I i), (12, L l 3 Sp.d), (91, L [a, b] 1 LLd), (92, I 2), (93, I i)], hZ2 pq out.length N vals.length⟩
noncomputable def nZipes  : List Nat → Nat → Option Ans := scrAt []
theorem nZipe (a b : List Sp) (frm to : Int) (pq : List Int) (out : List Rw) (N : Nat) (m : Int) (vals : List Str) (i : Int) (l : List Sp) (J J2 J3 : St → Prop) (K : D → Heap → Prop) : runS (EnV [] [84] Try.f13) (fh Try.f13 K) (nZipes ) lv13 200 [.code [1, 1, 1, 1, 1, 1, 0, 0, 0, 1, 0, 1, 0, 1, 0, 0, 1, 1, 0, 0, 1, 0, 0, 0], stp [0, 6, 7, 8, 9, 10, 11, 12, 91, 92, 93] J, .blk 6, .code [1, 1, 1, 1, 1, 1, 0, 0, 0, 1, 0, 1, 0, 1, 0, 0, 1, 1, 0, 0, 1, 1], .blk 5, .code [1, 1, 1, 1, 1, 1, 0, 0, 0, 1, 0, 1, 0, 1, 0, 0, 1, 1, 1], stp [0, 6, 7, 8, 9, 10, 91, 92, 93] J2, .blk 4, .code [1, 1, 1, 1, 1, 1, 0, 0, 0, 1, 0, 1, 1], .blk 3, stp [0, 6, 7, 8, 9] J3, .blk 2, .code [1, 1, 1, 1, 1, 1, 1]] (SZ4 a b frm to pq out N m vals i l) =
  ((upd (upd (upd (fun _ => none) 0 (some 2)) 1 (some out.length)) (N + 2) (some vals.length) 0 = some 2 ∧ 0 ≤ i ∧ i < (↑2 : Int)) ∧
  upd (upd (upd (fun _ => none) 0 (some 2)) 1 (some out.length)) (N + 2) (some vals.length) 0 = some 2 ∧
    (0 ≤ pq.getD i.toNat default ∧ pq.getD i.toNat default < (↑l.length : Int)) ∧
      bif decide ((l.getD (pq.getD i.toNat default).toNat default).to < frm) then (upd (upd (upd (fun _ => none) 0 (some 2)) 1 (some out.length)) (N + 2) (some vals.length) 0 = some 2 ∧ 0 ≤ i ∧ i < (↑2 : Int)) ∧ upd (upd (upd (fun _ => none) 0 (some 2)) 1 (some out.length)) (N + 2) (some vals.length) 0 = some 2 ∧ (upd (upd (upd (fun _ => none) 0 (some 2)) 1 (some out.length)) (N + 2) (some vals.length) 0 = some 2 ∧ 0 ≤ i ∧ i < (↑2 : Int)) ∧ upd (upd (upd (fun _ => none) 0 (some 2)) 1 (some out.length)) (N + 2) (some vals.length) 0 = some 2 ∧ J { sl := [(0, L [a, b] 1 LLd), (6, I frm), (7, I to), (8, D.vec 0 2 1), (9, .list out.length 3 (fun i => (out.getD i default).d) (.tok 1 3)), (10, .own [I frm, I m, .list vals.length 1 (fun i => .str (vals.getD i default)) (.tok (N + 2) 1)]), (11, I i), (12, L l 3 Sp.d), (91, L [a, b] 1 LLd), (92, I 2), (93, I i)], h := { box := fun _ => none, nl := 0, hw := upd (upd (upd (fun _ => none) 0 (some 2)) 1 (some out.length)) (N + 2) (some vals.length), nt := N + 3, vw := upd (upd (fun _ => none) 0 (some (cv pq I'))) 0 (some (setG (cv pq I') i.toNat (I (addI .i64 (pq.getD i.toNat default) 1)))) : Heap } : St }
      else (upd (upd (upd (fun _ => none) 0 (some 2)) 1 (some out.length)) (N + 2) (some vals.length) 0 = some 2 ∧ 0 ≤ i ∧ i < (↑2 : Int)) ∧ upd (upd (upd (fun _ => none) 0 (some 2)) 1 (some out.length)) (N + 2) (some vals.length) 0 = some 2 ∧ (0 ≤ pq.getD i.toNat default ∧ pq.getD i.toNat default < (↑l.length : Int)) ∧ True ∧ (upd (upd (upd (fun _ => none) 0 (some 2)) 1 (some out.length)) (N + 2) (some vals.length) 0 = some 2 ∧ 0 ≤ i ∧ i < (↑2 : Int)) ∧ upd (upd (upd (fun _ => none) 0 (some 2)) 1 (some out.length)) (N + 2) (some vals.length) 0 = some 2 ∧ (0 ≤ pq.getD i.toNat default ∧ pq.getD i.toNat default < (↑l.length : Int)) ∧ (upd (upd (upd (fun _ => none) 0 (some 2)) 1 (some out.length)) (N + 2) (some vals.length) (N + 2) = some vals.length ∧ (vals.length + 1) * 16 ≤ roomM) ∧ True ∧ J2 { sl := [(0, L [a, b] 1 LLd), (6, I frm), (7, I to), (8, D.vec 0 2 1), (9, .list out.length 3 (fun i => (out.getD i default).d) (.tok 1 3)), (10, .own [I frm, I (if (l.getD (pq.getD i.toNat default).toNat default).to < m then (l.getD (pq.getD i.toNat default).toNat default).to else m), .list (vals.length + 1) 1 (catG vals.length (fun i => .str (vals.getD i default)) (litG [.str (l.getD (pq.getD i.toNat default).toNat default).val])) (.tok (N + 2) 1)]), (91, L [a, b] 1 LLd), (92, I 2), (93, I (addI .i64 i 1))], h := { box := fun _ => none, nl := 0, hw := upd (upd (upd (upd (fun _ => none) 0 (some 2)) 1 (some out.length)) (N + 2) (some vals.length)) (N + 2) (some (vals.length + 1)), nt := N + 3, vw := upd (fun _ => none) 0 (some (cv pq I')) : Heap } : St }) := by kernel_rfl

/-- The first span from number p on that does not end before a time. -/
def adv (l : List Sp) (frm : Int) (p : Nat) : Nat := p + ((l.drop p).takeWhile fun x => decide (x.to < frm)).length
theorem adv_lt {l : List Sp} {frm : Int} {p : Nat} (hp : p < l.length) (h : (l.getD p default).to < frm) : adv l frm p = adv l frm (p + 1) := by
  unfold adv
  rw [drop_cons _ _ hp, List.takeWhile_cons_of_pos (by simpa using h)]
  simp only [List.length_cons]; omega
theorem adv_ge {l : List Sp} {frm : Int} {p : Nat} (hp : p < l.length) (h : ¬ (l.getD p default).to < frm) : adv l frm p = p := by
  unfold adv
  rw [drop_cons _ _ hp, List.takeWhile_cons_of_neg (by simpa using h)]
  rfl
theorem adv_in {l : List Sp} {frm : Int} (hl : frm ≤ (lastSp l).to) : ∀ (n p : Nat), n = l.length - p → p < l.length → p ≤ adv l frm p ∧ adv l frm p < l.length ∧ ¬ (l.getD (adv l frm p) default).to < frm
  | 0, p, hn, hp => by omega
  | n + 1, p, hn, hp => by
    by_cases h : (l.getD p default).to < frm
    · have hne : p + 1 < l.length := by
        rcases Nat.lt_or_ge (p + 1) l.length with h1 | h1
        · exact h1
        · have : p = l.length - 1 := by omega
          subst this
          exact absurd h (by unfold lastSp at hl; omega)
      obtain ⟨h1, h2, h3⟩ := adv_in hl n (p + 1) (by omega) hne
      rw [adv_lt hp h]
      exact ⟨by omega, h2, h3⟩
    · rw [adv_ge hp h]; exact ⟨Nat.le_refl _, hp, h⟩
def mnI (x m : Int) : Int := if x < m then x else m
def zipW (a b : List Sp) (to : Int) : Nat → Int → Nat → Nat → List Rw
  | 0, _, _, _ => []
  | n + 1, frm, p, q => if frm ≤ to then
      ⟨frm, mnI (b.getD (adv b frm q) default).to (mnI (a.getD (adv a frm p) default).to to), [(a.getD (adv a frm p) default).val, (b.getD (adv b frm q) default).val]⟩ ::
        zipW a b to n (addI .i64 (mnI (b.getD (adv b frm q) default).to (mnI (a.getD (adv a frm p) default).to to)) 1) (adv a frm p) (adv b frm q) else []
def zipR (a b : List Sp) : List Rw := zipW a b (lastSp a).to ((lastSp a).to + 1 - (a.getD 0 default).frm).toNat (a.getD 0 default).frm 0 0
structure ZipOk (a b : List Sp) : Prop where
  va : validL a = true
  vb : validL b = true
  frm : (b.getD 0 default).frm = (a.getD 0 default).frm
  to : (lastSp b).to = (lastSp a).to
theorem validL_facts {l : List Sp} (h : validL l = true) : 0 < l.length ∧ 0 ≤ (l.getD 0 default).frm ∧ (lastSp l).to ≤ 1099511627776 ∧ chk none l = true := by
  unfold validL at h
  simp only [Bool.and_eq_true, Bool.not_eq_true'] at h
  obtain ⟨h1, h2⟩ := h
  cases hb : (bif (l.length : Int) == 0 then true else decide ((l.getD 0 default).frm < 0)) with
  | true => rw [hb] at h1; cases h1
  | false =>
    rw [hb] at h1
    cases h0 : ((l.length : Int) == 0) with
    | true => rw [h0] at hb; cases hb
    | false =>
      rw [h0] at hb
      have : (l.length : Int) ≠ 0 := by simpa using h0
      have h3 : ¬ (l.getD 0 default).frm < 0 := by simpa using hb
      have h4 : ¬ (lastSp l).to > 1099511627776 := by simpa using h1
      exact ⟨by omega, by omega, by omega, h2⟩
theorem hZ_drop {pq : List Int} {n N m : Nat} : HeapLe ⟨fun _ => none, 0, upd (upd (upd (upd (fun _ => none) 0 (some 2)) 1 (some n)) (N + 2) (some m)) 1 (some (n + 1)), N + 3, upd (fun _ => none) 0 (some (cv pq I'))⟩ (hZ pq (n + 1) (N + 1)) := by
  refine ⟨fun l row' e => (by cases e), Nat.le_refl _, fun t k e => ?_, Nat.le_refl _, fun _ _ _ => VwLe.refl _ _, fun _ h => h⟩
  have e' : upd (upd (fun _ => none) 0 (some 2)) 1 (some (n + 1)) t = some k := e
  show upd (upd (upd (upd (fun _ => none) 0 (some 2)) 1 (some n)) (N + 2) (some m)) 1 (some (n + 1)) t = some k
  rcases t with _ | _ | t
  · have e1 : (some 2 : Option Nat) = some k := e'
    have : upd (upd (upd (upd (fun _ => (none : Option Nat)) 0 (some 2)) 1 (some n)) (N + 2) (some m)) 1 (some (n + 1)) 0 = some 2 := by
      rw [upd_other _ _ (by omega), upd_other _ _ (by omega)]; rfl
    rw [this]; exact e1
  · exact e'
  · have e1 : (none : Option Nat) = some k := e'
    cases e1
theorem hw0 {n N m : Nat} : upd (upd (upd (fun _ => (none : Option Nat)) 0 (some 2)) 1 (some n)) (N + 2) (some m) 0 = some 2 := by rw [upd_other _ _ (by omega)]; rfl
theorem hw1 {n N m : Nat} : upd (upd (upd (fun _ => (none : Option Nat)) 0 (some 2)) 1 (some n)) (N + 2) (some m) 1 = some n := by rw [upd_other _ _ (by omega)]; rfl
def pqAt (p q p' q' : Nat) : Nat → List Int
  | 0 => [(p : Int), (q : Int)]
  | 1 => [(p' : Int), (q : Int)]
  | _ => [(p' : Int), (q' : Int)]
def mAt (T m1 m2 : Int) : Nat → Int
  | 0 => T
  | 1 => m1
  | _ => m2
def vAt (va vb : Str) : Nat → List Str
  | 0 => []
  | 1 => [va]
  | _ => [va, vb]
theorem zipInner {K : D → Heap → Prop} {a b : List Sp} {frm T : Int} {out : List Rw} {N : Nat} {m : Int} {vals : List Str} {l : List Sp} {pq : List Int} {i k0 : Nat} (J2 J3 : St → Prop) (hi : i < 2) (hk : k0 < l.length) (hll : l.length ≤ 100000) (hlast : frm ≤ (lastSp l).to)
    (hpl : pq.length = 2) (hpq : pq.set i (k0 : Int) = pq) (hvl : vals.length ≤ 10)
    (hJ : ∀ st, StLe (EnV [] [84] Try.f13).nt st (SZ3 a b frm T (pq.set i ((adv l frm k0 : Nat) : Int)) out N (mnI (l.getD (adv l frm k0) default).to m) (vals ++ [(l.getD (adv l frm k0) default).val]) ((i + 1 : Nat) : Int)) → J2 st) :
    At (EnV [] [84] Try.f13) (fh Try.f13 K) [It.code [1, 1, 1, 1, 1, 1, 0, 0, 0, 1, 0, 1, 0, 1, 0, 0, 1, 1, 0, 0, 1, 0, 0], It.blk 6,
        It.code [1, 1, 1, 1, 1, 1, 0, 0, 0, 1, 0, 1, 0, 1, 0, 0, 1, 1, 0, 0, 1, 1], It.blk 5,
        It.code [1, 1, 1, 1, 1, 1, 0, 0, 0, 1, 0, 1, 0, 1, 0, 0, 1, 1, 1], stp [0, 6, 7, 8, 9, 10, 91, 92, 93] J2,
        It.blk 4, It.code [1, 1, 1, 1, 1, 1, 0, 0, 0, 1, 0, 1, 1], It.blk 3, stp [0, 6, 7, 8, 9] J3, It.blk 2,
        It.code [1, 1, 1, 1, 1, 1, 1]] (SZ4 a b frm T pq out N m vals i l) := by
  refine at_le (st' := SZ4 a b frm T (pq.set i (k0 : Int)) out N m vals i l) ?_ (by rw [hpq]; exact StLe.refl _ _)
  refine lp (fn := Try.f13) (fun k : Nat => k < l.length ∧ adv l frm k = adv l frm k0) (fun k => SZ4 a b frm T (pq.set i (k : Int)) out N m vals i l) (fun k => l.length - k) [0, 6, 7, 8, 9, 10, 11, 12, 91, 92, 93] (by kernel_rfl) (fun k hk => of_eq (nZipe a b frm T (pq.set i (k : Int)) out N m vals i l _ _ _ _) ?_) k0 ⟨hk, rfl⟩
  obtain ⟨hk, he⟩ := hk
  have hg : (pq.set i (k : Int)).getD i default = (k : Int) := by simp [List.getD, hpl, hi]
  rw [Int.toNat_natCast, hg, Int.toNat_natCast]
  have hin : (0 : Int) ≤ (i : Int) ∧ (i : Int) < ((2 : Nat) : Int) := ⟨by omega, by omega⟩
  refine ⟨⟨hw0, hin⟩, hw0, ⟨by omega, by omega⟩, cond_intro (fun h => ?_) fun h => ?_⟩
  · have h : (l.getD k default).to < frm := by simpa using h
    have ha := adv_lt hk h
    have hne : k + 1 < l.length := by
      rcases Nat.lt_or_ge (k + 1) l.length with h1 | h1
      · exact h1
      · have : k = l.length - 1 := by omega
        subst this
        unfold lastSp at hlast
        omega
    refine ⟨⟨hw0, hin⟩, hw0, ⟨hw0, hin⟩, hw0, Nx.of (k + 1) ⟨hne, by rw [← he, ha]⟩ (by omega) ?_⟩
    have h1 : addI .i64 (k : Int) 1 = ((k + 1 : Nat) : Int) := by rw [add64 (by omega) (by omega)]; rfl
    rw [h1, upd_upd]
    refine (StLe.vec (t := 0) (f' := cv (pq.set i ((k + 1 : Nat) : Int)) I') hw0 fun j _ => ?_)
    have := cv_set (es := pq.set i (k : Int)) (enc := I') (k := i) (x := ((k + 1 : Nat) : Int)) (by simp [hpl, hi]) j
    rw [List.set_set] at this
    exact this
  · have h : ¬ (l.getD k default).to < frm := by simpa using h
    have ha := adv_ge hk h
    have hk' : adv l frm k0 = k := by rw [← he, ha]
    refine ⟨⟨hw0, hin⟩, hw0, ⟨by omega, by omega⟩, trivial, ⟨hw0, hin⟩, hw0, ⟨by omega, by omega⟩, ⟨upd_same _ _ _, by unfold roomM; omega⟩, trivial, hJ _ ?_⟩
    rw [hk']
    have h1 : addI .i64 (i : Int) 1 = ((i + 1 : Nat) : Int) := by rw [add64 (by omega) (by omega)]; rfl
    rw [h1, upd_upd]
    refine (StLe.setOwn (by simp) 10 rfl (Wks.cons (Wk.refl _) (Wks.cons (Wk.refl _) (Wks.cons (Wk.snoc (x := (l.getD k default).val)) (Wks.refl _))))).trans (StLe.heap ?_)
    simp [hZ2]
theorem c13 (a b : List Sp) (h : ZipOk a b) (hla : a.length ≤ 100000) (hlb : b.length ≤ 100000) : Pure PP 13 [L [a, b] 1 LLd] (.tup [L (zipR a b) 3 Rw.d, I 0]) := by
  obtain ⟨va, vb, hf, ht⟩ := h
  obtain ⟨a0, a1, a2, _⟩ := validL_facts va
  obtain ⟨b0, _, _, _⟩ := validL_facts vb
  have la : subI .i64 (a.length : Int) 1 = ((a.length - 1 : Nat) : Int) := lastI a0 (by unfold lenM; omega)
  have lb : subI .i64 (b.length : Int) 1 = ((b.length - 1 : Nat) : Int) := lastI b0 (by unfold lenM; omega)
  refine pr F13 (by kernel_rfl) (of_eq (nZip a b _) fun _ _ _ => ?_)
  refine lp (fn := Try.f13) (fun i : Nat => i ≤ 2) (fun i => SZ1 a b i) (fun i => 2 - i) [0, 21, 22, 23] (by kernel_rfl) (fun i hi => of_eq (nZipa a b i _ _) (cond_intro (fun hlt => ?_) fun hge => ?_)) 0 (by omega)
  · have hlt : i < 2 := by have : (i : Int) < 2 := of_decide_eq_true hlt; omega
    have ha1 : addI .i64 (i : Int) 1 = ((i + 1 : Nat) : Int) := by rw [add64 (by omega) (by omega)]; rfl
    rw [ha1, Int.toNat_natCast]
    have hx : ∀ l, l = [a, b].getD i default → (validL l = true ∧ 0 < l.length ∧ subI .i64 (l.length : Int) 1 = ((l.length - 1 : Nat) : Int) ∧ (l.getD 0 default).frm = (a.getD 0 default).frm ∧ (l.getD (l.length - 1) default).to = (lastSp a).to) := fun l e => by
      rcases i with _ | _ | i
      · have : l = a := e
        subst this; exact ⟨va, a0, la, rfl, rfl⟩
      · have : l = b := e
        subst this; exact ⟨vb, b0, lb, hf, ht⟩
      · omega
    have hll : (([a, b].length : Nat) : Int) = 2 := rfl
    have hg0 : [a, b].getD 0 default = a := rfl
    rw [hg0, hll]
    generalize hl : [a, b].getD i default = l
    obtain ⟨x1, x2, x3, x4, x5⟩ := hx l hl.symm
    rw [x3, la, Int.toNat_natCast, Int.toNat_natCast]
    refine ⟨⟨by omega, by omega⟩, PureW.mk (c15 _), fun _ => ⟨by omega, by omega⟩, fun _ => ⟨by omega, by omega⟩, fun _ => ⟨by omega, by omega⟩, fun _ => ⟨fun _ => ⟨by omega, by omega⟩, fun _ => ⟨by omega, by omega⟩, fun _ => ⟨by omega, by omega⟩, fun _ => ⟨fun _ => ⟨by omega, by omega⟩, cond_intro (fun h => ?_) fun h => Nx.mk (i + 1) (by omega) (by omega)⟩⟩⟩
    rw [x1, x4, x5] at h
    simp [lastSp] at h
  refine at_le (runS_sound hmix _ _ _ (of_eq (nZipb a b _) ?_)) (StLe.refl _ _)
  have hll : (([a, b].length : Nat) : Int) = 2 := rfl
  have hg0 : [a, b].getD 0 default = a := rfl
  rw [hg0, hll, la, Int.toNat_natCast]
  refine ⟨⟨by omega, by omega⟩, ⟨by omega, by omega⟩, ⟨by omega, by omega⟩, ⟨by omega, by omega⟩, fun _ => ⟨⟨by omega, by omega⟩, fun _ => ⟨⟨by omega, by omega, by unfold roomM; decide⟩, ?_⟩⟩⟩
  refine at_le (st' := SZ2 a b (a.getD 0 default).frm (lastSp a).to [0, 0] [] 0) ?_ (((StLe.tok0 _ (α := Rw) (enc := Rw.d) 9 3 rfl).trans (StLe.vec (t := 0) (n := 2) (f' := cv [0, 0] I') rfl fun j hj => ?_)).cast rfl)
  rotate_left
  · rcases j with _ | _ | j
    · rfl
    · rfl
    · omega
  generalize hT : (lastSp a).to = T at ht a2 ⊢
  have hzr : zipR a b = zipW a b T (T + 1 - (a.getD 0 default).frm).toNat (a.getD 0 default).frm 0 0 := by unfold zipR; rw [hT]
  generalize hF : (T + 1 - (a.getD 0 default).frm).toNat = F at hzr
  have hFb : F ≤ 1099511627777 := by omega
  generalize hf0 : (a.getD 0 default).frm = frm0 at a1 hzr hF hf ⊢
  refine lp (fn := Try.f13) (fun z : Int × Nat × Nat × List Rw × Nat × Nat => 0 ≤ z.1 ∧ z.2.1 < a.length ∧ z.2.2.1 < b.length ∧ z.2.2.2.1.length + z.2.2.2.2.2 ≤ F ∧ (T + 1 - z.1).toNat ≤ z.2.2.2.2.2 ∧ zipR a b = z.2.2.2.1 ++ zipW a b T z.2.2.2.2.2 z.1 z.2.1 z.2.2.1)
    (fun z => SZ2 a b z.1 T [(z.2.1 : Int), (z.2.2.1 : Int)] z.2.2.2.1 z.2.2.2.2.1) (fun z => z.2.2.2.2.2) [0, 6, 7, 8, 9] (by kernel_rfl) (fun z hz => of_eq (nZipc a b z.1 T [(z.2.1 : Int), (z.2.2.1 : Int)] z.2.2.2.1 z.2.2.2.2.1 _ _) ?_) (frm0, 0, 0, [], 0, F) ⟨a1, a0, b0, by simp, by simp only; omega, by simpa using hzr⟩
  obtain ⟨frm, p, q, out, N, n⟩ := z
  obtain ⟨h0, hp, hq, hol, hn, hz⟩ := hz
  simp only at h0 hp hq hol hn hz ⊢
  refine cond_intro (fun hle0 => ⟨trivial, fun _ => ?_⟩) fun hgt0 => ?_
  · have hle : frm ≤ T := of_decide_eq_true hle0
    obtain ⟨n, rfl⟩ : ∃ k, n = k + 1 := ⟨n - 1, by omega⟩
    obtain ⟨p1, p2, p3⟩ := adv_in (l := a) (frm := frm) (by rw [hT]; exact hle) _ p rfl hp
    obtain ⟨q1, q2, q3⟩ := adv_in (l := b) (frm := frm) (by rw [ht]; exact hle) _ q rfl hq
    have hz' : zipR a b = (out ++ [⟨frm, mnI (b.getD (adv b frm q) default).to (mnI (a.getD (adv a frm p) default).to T), [(a.getD (adv a frm p) default).val, (b.getD (adv b frm q) default).val]⟩]) ++ zipW a b T n (addI .i64 (mnI (b.getD (adv b frm q) default).to (mnI (a.getD (adv a frm p) default).to T)) 1) (adv a frm p) (adv b frm q) := by
      rw [hz]
      simp only [zipW]
      rw [if_pos hle]
      simp
    have hm : frm ≤ mnI (b.getD (adv b frm q) default).to (mnI (a.getD (adv a frm p) default).to T) ∧ mnI (b.getD (adv b frm q) default).to (mnI (a.getD (adv a frm p) default).to T) ≤ T := by
      unfold mnI
      constructor <;> (repeat' split) <;> omega
    have ia := fun (J2 J3 : St → Prop) => zipInner (K := fun d h => ∃ h', RetLe d h (.tup [L (zipR a b) 3 Rw.d, I 0]) h') (a := a) (b := b) (frm := frm) (T := T) (out := out) (N := N) (m := T) (vals := []) (l := a) (pq := [(p : Int), (q : Int)]) (i := 0) (k0 := p) J2 J3 (by omega) hp hla (by rw [hT]; exact hle) rfl rfl (by simp)
    have ib := fun (J2 J3 : St → Prop) => zipInner (K := fun d h => ∃ h', RetLe d h (.tup [L (zipR a b) 3 Rw.d, I 0]) h') (a := a) (b := b) (frm := frm) (T := T) (out := out) (N := N) (m := mnI (a.getD (adv a frm p) default).to T) (vals := [(a.getD (adv a frm p) default).val]) (l := b) (pq := [((adv a frm p : Nat) : Int), (q : Int)]) (i := 1) (k0 := q) J2 J3 (by omega) hq hlb (by rw [ht]; exact hle) rfl rfl (by simp)
    generalize adv a frm p = p' at p1 p2 p3 hz' hm ia ib
    generalize adv b frm q = q' at q1 q2 q3 hz' hm ia ib
    generalize hm2 : mnI (b.getD q' default).to (mnI (a.getD p' default).to T) = m2 at hz' hm ib
    generalize hm1 : mnI (a.getD p' default).to T = m1 at hz' hm ia ib hm2
    refine at_le (st' := SZ3 a b frm T (pqAt p q p' q' 0) out N (mAt T m1 m2 0) (vAt (a.getD p' default).val (b.getD q' default).val 0) (0 : Nat)) ?_ ((StLe.idleOwn _ none 10 2 1 (fun i => .str (([] : List Str).getD i default)) rfl rfl).cast rfl)
    refine lp (fn := Try.f13) (fun i : Nat => i ≤ 2) (fun i => SZ3 a b frm T (pqAt p q p' q' i) out N (mAt T m1 m2 i) (vAt (a.getD p' default).val (b.getD q' default).val i) i) (fun i => 2 - i) [0, 6, 7, 8, 9, 10, 91, 92, 93] (by kernel_rfl) (fun i hi => of_eq (nZipd a b frm T (pqAt p q p' q' i) out N (mAt T m1 m2 i) (vAt (a.getD p' default).val (b.getD q' default).val i) i _ _ _) (cond_intro (fun hlt => ?_) fun hge => ?_)) 0 (by omega)
    · have hlt : i < 2 := by have : (i : Int) < 2 := of_decide_eq_true hlt; omega
      have hll : (([a, b].length : Nat) : Int) = 2 := rfl
      refine ⟨⟨by omega, by omega⟩, ?_⟩
      rcases i with _ | _ | i
      · exact ia _ _ fun st hst => Nx.of 1 (by omega) (by omega) hst
      · exact ib _ _ fun st hst => Nx.of 2 (by omega) (by omega) hst
      · omega
    · have hi2 : i = 2 := by have : ¬ (i : Int) < 2 := of_decide_eq_false hge; omega
      subst hi2
      have hadd : addI .i64 m2 1 = m2 + 1 := add64 (by omega) (by omega)
      refine ⟨⟨hw1, by unfold roomM; omega⟩, Nx.of (addI .i64 m2 1, p', q', out ++ [⟨frm, m2, [(a.getD p' default).val, (b.getD q' default).val]⟩], N + 1, n) ⟨by simp only; omega, p2, q2, by simp only [List.length_append, List.length_singleton]; omega, by simp only; omega, hz'⟩ (by simp only; omega) ?_⟩
      refine (StLe.set (d' := LT (out ++ [⟨frm, m2, [(a.getD p' default).val, (b.getD q' default).val]⟩]) 3 Rw.d 1) 9 rfl (Wk.snocW (x := (⟨frm, m2, [(a.getD p' default).val, (b.getD q' default).val]⟩ : Rw)) (Wk.agg (Wks.cons (Wk.refl _) (Wks.cons (Wk.refl _) (Wks.cons Wk.tokL (Wks.refl _))))) rfl) rfl rfl).trans ?_
      refine (StLe.heapLe hZ_drop).cast ?_
      simp only [SZ2, pqAt, List.length_append, List.length_singleton]
      rfl
  · have hgt : ¬ frm ≤ T := of_decide_eq_false hgt0
    have : zipW a b T n frm p q = [] := by
      cases n with
      | zero => rfl
      | succ n => simp only [zipW]; rw [if_neg hgt]
    rw [hz, this, List.append_nil]
    exact ⟨_, RetLe.wk (Wk.tup (Wks.cons Wk.tokL (Wks.refl _))) rfl⟩
end Go.Proofs.Ytpcbjkjgjoemaaa.S1
/- Seat 2: the examples hold. -/
namespace Go.Proofs.Ytpcbjkjgjoemaaa.S1
open Go Go.Ab Go.Proofs
def w0 : Wv := ⟨[⟨0, 1, [⟨2, [48]⟩, ⟨5, [49]⟩]⟩], [], 9⟩
def l0 : List Sp := [⟨2, 4, [48]⟩, ⟨5, 6, [49]⟩]
def c0 : List Sp := [⟨2, 6, [99]⟩]
def z0 : List Rw := [⟨2, 4, [[48], [99]]⟩, ⟨5, 6, [[49], [99]]⟩]
def lvW1 : List (List Nat × List Nat) := [([1, 1, 0], [1])]
def lvW2 : List (List Nat × List Nat) := [([1, 1, 1], [2, 3])]
theorem F4 : OkF 4 Try.f4 := ⟨by kernel_rfl, by kernel_rfl, by kernel_rfl⟩
def lv4 : List (List Nat × List Nat) := []
noncomputable def nAw1s  : List Nat → Nat → Option Ans := scrAt []
theorem nAw1  (K : D → Prop) : runS (En Try.f4) (fi Try.f4 K) (nAw1s ) lvW1 200 [.code []] ⟨argSlots 0 [], .empty⟩ =
  (True ∧ At (En Try.f4) (fi Try.f4 K) [It.code [1, 1, 0], It.code [1, 1, 1]] { sl := [(1, .own [.list 1 3 (litG [.agg [I 0, I 1, .list 2 2 (litG [.agg [I 2, .str { data := #[48] : ByteArray }.data.toList], .agg [I 5, .str { data := #[49] : ByteArray }.data.toList]]) .full]]) .full, .list 0 0 (fun _ => D.junk) .full, I 9])], h := Heap.empty : St }) := by kernel_rfl
noncomputable def nAw2s (w : Wv) : List Nat → Nat → Option Ans := scrAt [([1, 1, 0], 1, Ans.eff (D.bp 0 0) (hM w (-1) 0)), ([1, 1, 0], 3, Ans.eff (.tup [L (ofR w (-1) 0 0 2 6).fst 3 Sp.d, I (ofR w (-1) 0 0 2 6).snd.fst]) (hMn w (-1) (ofR w (-1) 0 0 2 6).snd.snd))]
theorem nAw2 (w : Wv) (K : D → Prop) : runS (En Try.f4) (fi Try.f4 K) (nAw2s w) lvW2 200 [.code [1, 1, 0], .code [1, 1, 1]] ⟨[(1, .own [L w.sig 3 Sig.d, L w.gap 2 Iv.d, I w.fin])], .empty⟩ =
  (Does PP 12 [.agg [L w.sig 3 Sig.d, L w.gap 2 Iv.d, I w.fin]] Heap.empty (D.bp 0 0) (hM w (-1) 0) ∧ Does PP 11 [D.iface 42 (D.bp 0 0), I 0, I 2, I 6] { box := upd (fun _ => none) 0 (some (Row.lit [L w.sig 3 Sig.d, L w.gap 2 Iv.d, I w.fin, I (-1), I 0])), nl := 1, hw := fun _ => none, nt := 0, vw := fun _ => none : Heap } (.tup [L (ofR w (-1) 0 0 2 6).fst 3 Sp.d, I (ofR w (-1) 0 0 2 6).snd.fst]) (hMn w (-1) (ofR w (-1) 0 0 2 6).snd.snd) ∧ At (En Try.f4) (fi Try.f4 K) [It.code [1, 1, 1]] { sl := [(2, L (ofR w (-1) 0 0 2 6).fst 3 Sp.d), (3, I (ofR w (-1) 0 0 2 6).snd.fst)], h := { box := upd (fun _ => none) 0 (some (Row.lit [L w.sig 3 Sig.d, L w.gap 2 Iv.d, I w.fin, I (-1), I (ofR w (-1) 0 0 2 6).snd.snd])), nl := 4, hw := fun _ => none, nt := 1, vw := fun _ => none : Heap } : St }) := by kernel_rfl
noncomputable def nAw3s  : List Nat → Nat → Option Ans := scrAt [([1, 1, 1, 0], 0, Ans.pure [.str { data := #[99] : ByteArray }.data.toList, I 2, I 6] (.tup [L (fcR { data := #[99] : ByteArray }.data.toList [] 2 6).fst 3 Sp.d, I (fcR { data := #[99] : ByteArray }.data.toList [] 2 6).snd])), ([1, 1, 1, 1, 0], 3, Ans.pure [L [[{ frm := 2, to := 4, val := [48] : Sp }, { frm := 5, to := 6, val := [49] : Sp }], (fcR { data := #[99] : ByteArray }.data.toList [] 2 6).fst] 1 LLd] (.tup [L (zipR [{ frm := 2, to := 4, val := [48] : Sp }, { frm := 5, to := 6, val := [49] : Sp }] (fcR { data := #[99] : ByteArray }.data.toList [] 2 6).fst) 3 Rw.d, I 0])), ([1, 1, 1, 1, 1, 0], 15, Ans.pure [L [{ frm := 2, to := 4, val := { data := #[48] : ByteArray }.data.toList : Sp }, { frm := 5, to := 6, val := { data := #[49] : ByteArray }.data.toList : Sp }] 3 Sp.d, L [{ frm := 2, to := 4, val := { data := #[48] : ByteArray }.data.toList : Sp }, { frm := 5, to := 6, val := { data := #[49] : ByteArray }.data.toList : Sp }] 3 Sp.d] (B true)), ([1, 1, 1, 1, 1, 0], 24, Ans.pure [L [{ frm := 2, to := 4, vals := [{ data := #[48] : ByteArray }.data.toList, { data := #[99] : ByteArray }.data.toList] : Rw }, { frm := 5, to := 6, vals := [{ data := #[49] : ByteArray }.data.toList, { data := #[99] : ByteArray }.data.toList] : Rw }] 3 Rw.d, L [{ frm := 2, to := 4, vals := [{ data := #[48] : ByteArray }.data.toList, { data := #[99] : ByteArray }.data.toList] : Rw }, { frm := 5, to := 6, vals := [{ data := #[49] : ByteArray }.data.toList, { data := #[99] : ByteArray }.data.toList] : Rw }] 3 Rw.d] (B true)), ([1, 1, 1, 1, 1, 0], 28, Ans.pure [L [{ frm := 2, to := 4, val := [48] : Sp }, { frm := 5, to := 6, val := [49] : Sp }] 3 Sp.d] (B (validL [{ frm := 2, to := 4, val := [48] : Sp }, { frm := 5, to := 6, val := [49] : Sp }]))), ([1, 1, 1, 1, 1, 0], 31, Ans.pure [L [] 3 Sp.d] (B (validL [])))]
theorem nAw3 (h : Heap) (K : D → Prop) : runS (En Try.f4) (fi Try.f4 K) (nAw3s ) nolv 200 [.code [1, 1, 1]] ⟨[(2, L [⟨2, 4, [48]⟩, ⟨5, 6, [49]⟩] 3 Sp.d), (3, I 0)], h⟩ =
  (PureW PP 5 [.str { data := #[99] : ByteArray }.data.toList, I 2, I 6] [.str { data := #[99] : ByteArray }.data.toList, I 2, I 6] (.tup [L (fcR { data := #[99] : ByteArray }.data.toList [] 2 6).fst 3 Sp.d, I (fcR { data := #[99] : ByteArray }.data.toList [] 2 6).snd]) ∧
  PureW PP 13 [.list 2 1 (litG [L [{ frm := 2, to := 4, val := [48] : Sp }, { frm := 5, to := 6, val := [49] : Sp }] 3 Sp.d, L (fcR { data := #[99] : ByteArray }.data.toList [] 2 6).fst 3 Sp.d]) .full] [L [[{ frm := 2, to := 4, val := [48] : Sp }, { frm := 5, to := 6, val := [49] : Sp }], (fcR { data := #[99] : ByteArray }.data.toList [] 2 6).fst] 1 LLd] (.tup [L (zipR [{ frm := 2, to := 4, val := [48] : Sp }, { frm := 5, to := 6, val := [49] : Sp }] (fcR { data := #[99] : ByteArray }.data.toList [] 2 6).fst) 3 Rw.d, I 0]) ∧
    (true = true → PureW PP 10 [L [{ frm := 2, to := 4, val := [48] : Sp }, { frm := 5, to := 6, val := [49] : Sp }] 3 Sp.d, .list 2 3 (litG [.agg [I 2, I 4, .str { data := #[48] : ByteArray }.data.toList], .agg [I 5, I 6, .str { data := #[49] : ByteArray }.data.toList]]) .full] [L [{ frm := 2, to := 4, val := { data := #[48] : ByteArray }.data.toList : Sp }, { frm := 5, to := 6, val := { data := #[49] : ByteArray }.data.toList : Sp }] 3 Sp.d, L [{ frm := 2, to := 4, val := { data := #[48] : ByteArray }.data.toList : Sp }, { frm := 5, to := 6, val := { data := #[49] : ByteArray }.data.toList : Sp }] 3 Sp.d] (B true)) ∧
      (true = true → PureW PP 14 [L (zipR [{ frm := 2, to := 4, val := [48] : Sp }, { frm := 5, to := 6, val := [49] : Sp }] (fcR { data := #[99] : ByteArray }.data.toList [] 2 6).fst) 3 Rw.d, .list 2 3 (litG [.agg [I 2, I 4, .list 2 1 (litG [.str { data := #[48] : ByteArray }.data.toList, .str { data := #[99] : ByteArray }.data.toList]) .full], .agg [I 5, I 6, .list 2 1 (litG [.str { data := #[49] : ByteArray }.data.toList, .str { data := #[99] : ByteArray }.data.toList]) .full]]) .full] [L [{ frm := 2, to := 4, vals := [{ data := #[48] : ByteArray }.data.toList, { data := #[99] : ByteArray }.data.toList] : Rw }, { frm := 5, to := 6, vals := [{ data := #[49] : ByteArray }.data.toList, { data := #[99] : ByteArray }.data.toList] : Rw }] 3 Rw.d, L [{ frm := 2, to := 4, vals := [{ data := #[48] : ByteArray }.data.toList, { data := #[99] : ByteArray }.data.toList] : Rw }, { frm := 5, to := 6, vals := [{ data := #[49] : ByteArray }.data.toList, { data := #[99] : ByteArray }.data.toList] : Rw }] 3 Rw.d] (B true)) ∧ (true = true → PureW PP 15 [L [{ frm := 2, to := 4, val := [48] : Sp }, { frm := 5, to := 6, val := [49] : Sp }] 3 Sp.d] [L [{ frm := 2, to := 4, val := [48] : Sp }, { frm := 5, to := 6, val := [49] : Sp }] 3 Sp.d] (B (validL [{ frm := 2, to := 4, val := [48] : Sp }, { frm := 5, to := 6, val := [49] : Sp }]))) ∧ (true = true → PureW PP 15 [.list 0 0 (fun _ => D.junk) .full] [L [] 3 Sp.d] (B (validL []))) ∧ K (B true)) := by kernel_rfl

theorem ofR0 : (ofR w0 (-1) 0 0 2 6).1 = [⟨2, 4, [48]⟩, ⟨5, 6, [49]⟩] ∧ (ofR w0 (-1) 0 0 2 6).2.1 = 0 := by decide +kernel
theorem fcR0 : fcR [99] [] 2 6 = ([⟨2, 6, [99]⟩], 0) := by decide +kernel
theorem zipR0 : zipR [⟨2, 4, [48]⟩, ⟨5, 6, [49]⟩] [⟨2, 6, [99]⟩] = [⟨2, 4, [[48], [99]]⟩, ⟨5, 6, [[49], [99]]⟩] := by decide +kernel
theorem zipOk0 : ZipOk [⟨2, 4, [48]⟩, ⟨5, 6, [49]⟩] [⟨2, 6, [99]⟩] := ⟨by decide +kernel, by decide +kernel, by decide +kernel, by decide +kernel⟩
theorem Wk.litW {α : Type} [Inhabited α] {sz : Nat} {enc : α → D} {l : List α} {ds : List D} {n : Nat} {own : Own} (hn : n = l.length) (hd : ∀ i, i < l.length → Wk (litG ds i) (enc (l.getD i default)) ∧ (ones (litG ds i) = true → ones (enc (l.getD i default)) = true)) : Wk (.list n sz (litG ds) own) (L l sz enc) :=
  Wk.listW hn (.inl rfl) (fun i hi => hd i (by omega)) (.inl rfl)
theorem c4 : Pure PP 4 [] (B true) := by
  refine pu F4 (by kernel_rfl) (of_eq (nAw1 _) ⟨trivial, ?_⟩)
  refine at_le (st' := ⟨[(1, .own [L w0.sig 3 Sig.d, L w0.gap 2 Iv.d, I w0.fin])], .empty⟩) ?_ ?_
  · refine runS_sound hmix _ _ _ (of_eq (nAw2 w0 _) ⟨e12 w0, e11 (w := w0) (lim := -1) (sig := 0) (frm := 2) (to := 6) (fun q hq => ?_) 0, ?_⟩)
    · have : q = ⟨0, 1, [⟨2, [48]⟩, ⟨5, [49]⟩]⟩ := by simpa [w0] using hq
      subst this
      exact ⟨by decide, by decide, by simp [Inc]⟩
    · rw [ofR0.1, ofR0.2]
      refine runS_sound hmix _ _ _ (of_eq (nAw3 _ _) ⟨PureW.mk (c5 _ _ _), ?_⟩)
      rw [show fcR ({ data := #[99] } : ByteArray).data.toList [] 2 6 = ([⟨2, 6, [99]⟩], 0) from fcR0]
      simp only
      rw [zipR0]
      refine ⟨⟨Wks.cons (Wk.litL rfl rfl) (Wks.refl _), c13 _ _ zipOk0 (by simp) (by simp)⟩, fun _ => ⟨Wks.cons (Wk.refl _) (Wks.cons (Wk.litL rfl rfl) (Wks.refl _)), c10 _⟩, fun _ => ⟨Wks.cons (Wk.refl _) (Wks.cons (Wk.litW rfl fun i hi => ?_) (Wks.refl _)), c14 _⟩, fun _ => PureW.mk (c15 _), fun _ => ⟨Wks.cons Wk.nilL (Wks.refl _), c15 _⟩, Wk.refl _⟩
      rcases i with _ | _ | i
      · exact ⟨Wk.agg (Wks.cons (Wk.refl _) (Wks.cons (Wk.refl _) (Wks.cons (Wk.litL rfl rfl) (Wks.refl _)))), fun _ => rfl⟩
      · exact ⟨Wk.agg (Wks.cons (Wk.refl _) (Wks.cons (Wk.refl _) (Wks.cons (Wk.litL rfl rfl) (Wks.refl _)))), fun _ => rfl⟩
      · exact absurd hi (by simp)
  · refine (StLe.setOwn (by simp) 1 rfl (Wks.cons (Wk.litW (l := w0.sig) (enc := Sig.d) rfl fun i hi => ?_) (Wks.cons (Wk.nilL (α := Iv) (sz' := 2) (enc := Iv.d)) (Wks.refl _)))).cast rfl
    rcases i with _ | i
    · exact ⟨Wk.agg (Wks.cons (Wk.refl _) (Wks.cons (Wk.refl _) (Wks.cons (Wk.litL rfl rfl) (Wks.refl _)))), fun _ => rfl⟩
    · exact absurd hi (by simp [w0])
end Go.Proofs.Ytpcbjkjgjoemaaa.S1
/- Seat 2: small waves. -/
namespace Go.Proofs.Ytpcbjkjgjoemaaa.S1
open Go Go.Ab Go.Proofs
def prevX {α : Type} [Inhabited α] (l : List α) : Nat → Option α
  | 0 => none
  | i + 1 => some (l.getD i default)
theorem all_drop {α : Type} [Inhabited α] {f : α → Bool} {l : List α} {i : Nat} (h : i < l.length) : (l.drop i).all f = (f (l.getD i default) && (l.drop (i + 1)).all f) := by
  rw [drop_cons _ _ h, List.all_cons]
def byteBad (c : UInt8) : Bool := bif bif bif (c.toNat : Int) != 48 then (c.toNat : Int) != 49 else false then (c.toNat : Int) != 120 else false then (c.toNat : Int) != 122 else false
def vlOk (q : Sig) (v : Str) : Bool := bif q.kind == 3 then v == [] else bif q.kind == 0 then v.all (fun c => !byteBad c) && ((v.length : Int) == q.width) else decide ((v.length : Int) ≤ 64)
end Go.Proofs.Ytpcbjkjgjoemaaa.S1
/- Seat 2: the reference's spans of a signal. -/
namespace Go.Proofs.Ytpcbjkjgjoemaaa.S1
open Go Go.Ab Go.Proofs
theorem retVec {α : Type} [Inhabited α] {es : List α} {sz n : Nat} {enc : α → D} (hn : n = es.length) : RetLe (.vec 0 n sz) (hVec es enc) (L es sz enc) (hFrz (hVec es enc) 0) := by
  subst hn
  exact (RetLe.frz (d := .vec 0 es.length sz) (t := 0) (n := es.length) (f := cv es enc) rfl rfl (show frzOk 0 es.length (.vec 0 es.length sz) by simp [frzOk])).trans (RetLe.wk Wk.tokL rfl)
theorem F17 : OkF 17 Try.f17 := ⟨by kernel_rfl, by kernel_rfl, by kernel_rfl⟩
def lv17 : List (List Nat × List Nat) := []
noncomputable def nras  : List Nat → Nat → Option Ans := scrAt []
theorem nra (l : List Sp) (x : Sp) (K : D → Heap → Prop) : runS (EnV [] [24] Try.f17) (fh Try.f17 K) (nras ) lv17 200 [.code []] ⟨argSlots 0 [L l 3 Sp.d, x.d], .empty⟩ =
  (l.length ≤ lenM → (decide ((↑l.length : Int) > 0) = true → 0 ≤ subI .i64 (↑l.length : Int) 1 ∧ subI .i64 (↑l.length : Int) 1 < (↑l.length : Int)) ∧ bif bif decide ((↑l.length : Int) > 0) then (l.getD (subI .i64 (↑l.length : Int) 1).toNat default).val == x.val else false then ((0 < l.length ∨ 0 = 0) ∧ (0 + l.length) * 32 ≤ roomM) ∧ (upd (fun _ => none) 0 (some (0 + l.length)) 0 = some (0 + l.length) ∧ 0 ≤ subI .i64 (↑l.length : Int) 1 ∧ subI .i64 (↑l.length : Int) 1 < (↑(0 + l.length) : Int)) ∧ upd (fun _ => none) 0 (some (0 + l.length)) 0 = some (0 + l.length) ∧ K (D.vec 0 (0 + l.length) 3) { box := fun _ => none, nl := 0, hw := upd (fun _ => none) 0 (some (0 + l.length)), nt := 1, vw := upd (upd (fun _ => none) 0 (some (catG 0 (litG []) fun i => (l.getD i default).d))) 0 (some (setG (catG 0 (litG []) fun i => (l.getD i default).d) (subI .i64 (↑l.length : Int) 1).toNat (.agg [I (l.getD ((subI .i64 (↑l.length : Int) 1).toNat - 0) default).frm, I x.to, .str (l.getD ((subI .i64 (↑l.length : Int) 1).toNat - 0) default).val]))) : Heap } else (0 + l.length) * 32 ≤ roomM ∧ (upd (fun _ => none) 0 (some (0 + l.length)) 0 = some (0 + l.length) ∧ (0 + l.length + 1) * 32 ≤ roomM) ∧ K (.list (0 + l.length + 1) 3 (catG (0 + l.length) (catG 0 (litG []) fun i => (l.getD i default).d) (litG [.agg [I x.frm, I x.to, .str x.val]])) (.tok 0 3)) { box := fun _ => none, nl := 0, hw := upd (upd (fun _ => none) 0 (some (0 + l.length))) 0 (some (0 + l.length + 1)), nt := 1, vw := fun _ => none : Heap }) := by kernel_rfl
theorem c17 (l : List Sp) (x : Sp) (hb : l.length ≤ 100000) : Pure PP 17 [L l 3 Sp.d, x.d] (L (addR' l x) 3 Sp.d) := by
  refine pr F17 (by kernel_rfl) (of_eq (nra l x _) fun hl => ?_)
  have hlast : 0 < l.length → subI .i64 (l.length : Int) 1 = ((l.length - 1 : Nat) : Int) := fun h0 => lastI h0 hl
  have hc : (bif decide ((l.length : Int) > 0) then (l.getD (subI .i64 (l.length : Int) 1).toNat default).val == x.val else false) = decide (l ≠ [] ∧ (l.getD (l.length - 1) default).val = x.val) := by
    rcases Nat.eq_zero_or_pos l.length with h0 | h0
    · have : l = [] := List.length_eq_zero_iff.1 h0
      subst this; rfl
    · rw [hlast h0, Int.toNat_natCast, decide_eq_true (show (l.length : Int) > 0 by omega)]
      have : l ≠ [] := List.length_pos_iff.1 h0
      rw [Bool.eq_iff_iff]; simp [this]
  rw [hc, catG_nil, Nat.zero_add]
  refine ⟨fun h => ?_, cond_intro (fun h => ?_) fun h => ?_⟩
  · have h0 : 0 < l.length := by simpa using h
    rw [hlast h0]; omega
  · have h := of_decide_eq_true h
    have h0 : 0 < l.length := List.length_pos_iff.2 h.1
    rw [hlast h0, Int.toNat_natCast, addR', if_pos h]
    refine ⟨⟨.inr rfl, by unfold roomM; omega⟩, ⟨upd_same _ _ _, by omega⟩, upd_same _ _ _, ⟨_, (ret_hVec (v := .vec 0 l.length 3) (es' := lastTo l x.to) (lastTo_len _ _).symm (fun i _ => ?_) (Wk.refl _) rfl (upd_upd _ _ _ _)).trans (retVec (lastTo_len _ _).symm)⟩⟩
    exact cv_set (enc := Sp.d) (x := (⟨(l.getD (l.length - 1) default).frm, x.to, (l.getD (l.length - 1) default).val⟩ : Sp)) (by omega) i
  · have h := of_decide_eq_false h
    rw [addR', if_neg h]
    exact ⟨by unfold roomM; omega, ⟨upd_same _ _ _, by unfold roomM; omega⟩, _, RetLe.wk Wk.snocL rfl⟩
theorem F6 : OkF 6 Try.f6 := ⟨by kernel_rfl, by kernel_rfl, by kernel_rfl⟩
def lv6 : List (List Nat × List Nat) := [([1, 1, 0, 1, 0], [0, 1, 2, 3, 10]), ([1, 1, 1, 1, 1, 0, 1, 0], [1, 3, 11, 12, 13, 14])]
noncomputable def nrfs (frm : Int) (to : Int) : List Nat → Nat → Option Ans := scrAt [([1, 0, 0], 2, Ans.pure [I frm, I to, I 1099511627776] (B (decide (frm ≥ 0 ∧ frm ≤ to ∧ to ≤ 1099511627776))))]
theorem nrf (v : Str) (l : List Chg) (frm to : Int) (K : D → Heap → Prop) : runS (En Try.f6) (fh Try.f6 K) (nrfs frm to) lv6 200 [.code []] ⟨argSlots 0 [.str v, L l 2 Chg.d, I frm, I to], .empty⟩ =
  (PureW PP 16 [I frm, I to, I 1099511627776] [I frm, I to, I 1099511627776] (B (decide (frm ≥ 0 ∧ frm ≤ to ∧ to ≤ 1099511627776))) ∧ bif !decide (frm ≥ 0 ∧ frm ≤ to ∧ to ≤ 1099511627776) then K (.tup [.list 0 0 (fun _ => D.junk) .full, I 2]) Heap.empty else At (En Try.f6) (fh Try.f6 K) [It.code [1, 1, 0, 1, 0], It.blk 0, It.code [1, 1, 1]] { sl := [(0, .str v), (1, L l 2 Chg.d), (2, I frm), (3, I to), (10, I 1)], h := Heap.empty : St }) := by kernel_rfl
def Srf (v : Str) (l : List Chg) (frm to i : Int) : St := ⟨[(0, .str v), (1, L l 2 Chg.d), (2, I frm), (3, I to), (10, I i)], .empty⟩
noncomputable def nrfas  : List Nat → Nat → Option Ans := scrAt []
theorem nrfa (v : Str) (l : List Chg) (frm to i : Int) (J : St → Prop) (K : D → Heap → Prop) : runS (En Try.f6) (fh Try.f6 K) (nrfas ) lv6 200 [.code [1, 1, 0, 1, 0, 0], stp [0, 1, 2, 3, 10] J, .blk 0, .code [1, 1, 1]] (Srf v l frm to i) =
  (l.length ≤ lenM → bif decide (i < (↑l.length : Int)) then (0 ≤ i ∧ i < (↑l.length : Int)) ∧ (0 ≤ subI .i64 i 1 ∧ subI .i64 i 1 < (↑l.length : Int)) ∧ bif decide ((l.getD i.toNat default).time < (l.getD (subI .i64 i 1).toNat default).time) then K (.tup [.list 0 0 (fun _ => D.junk) .full, I 1]) Heap.empty else J { sl := [(0, .str v), (1, L l 2 Chg.d), (2, I frm), (3, I to), (10, I (addI .i64 i 1))], h := Heap.empty : St } else At (En Try.f6) (fh Try.f6 K) [It.code [1, 1, 1, 1, 1, 0, 1, 0], It.blk 2, It.code [1, 1, 1, 1, 1, 1]] { sl := [(1, L l 2 Chg.d), (3, I to), (11, .list 0 3 (litG []) .full), (12, I frm), (13, .str v), (14, I 0)], h := Heap.empty : St }) := by kernel_rfl
def Srf2 (l : List Chg) (to : Int) (out : List Sp) (at_ : Int) (v : Str) (i : Int) : St := ⟨[(1, L l 2 Chg.d), (3, I to), (11, L out 3 Sp.d), (12, I at_), (13, .str v), (14, I i)], .empty⟩
noncomputable def nrfbs (l : List Chg) (to : Int) (out : List Sp) (at_ : Int) (v : Str) (i : Int) : List Nat → Nat → Option Ans := scrAt [([1, 1, 1, 1, 1, 0, 1, 0, 0, 1, 0, 0, 0, 1, 0], 10, Ans.pure [L out 3 Sp.d, { frm := at_, to := subI .i64 (l.getD i.toNat default).time 1, val := v : Sp }.d] (L (addR' out { frm := at_, to := subI .i64 (l.getD i.toNat default).time 1, val := v : Sp }) 3 Sp.d)), ([1, 1, 1, 1, 1, 1, 0], 5, Ans.pure [L out 3 Sp.d, { frm := at_, to := to, val := v : Sp }.d] (L (addR' out { frm := at_, to := to, val := v : Sp }) 3 Sp.d))]
theorem nrfb (l : List Chg) (to : Int) (out : List Sp) (at_ : Int) (v : Str) (i : Int) (J : St → Prop) (K : D → Heap → Prop) : runS (En Try.f6) (fh Try.f6 K) (nrfbs l to out at_ v i) lv6 200 [.code [1, 1, 1, 1, 1, 0, 1, 0, 0], stp [1, 3, 11, 12, 13, 14] J, .blk 2, .code [1, 1, 1, 1, 1, 1]] (Srf2 l to out at_ v i) =
  (l.length ≤ lenM →
  bif decide (i < (↑l.length : Int)) then
    (0 ≤ i ∧ i < (↑l.length : Int)) ∧
      (decide ((l.getD i.toNat default).time > at_) = true → 0 ≤ i ∧ i < (↑l.length : Int)) ∧
        bif bif decide ((l.getD i.toNat default).time > at_) then decide ((l.getD i.toNat default).time ≤ to) else false then (0 ≤ i ∧ i < (↑l.length : Int)) ∧ PureW PP 17 [L out 3 Sp.d, { frm := at_, to := subI .i64 (l.getD i.toNat default).time 1, val := v : Sp }.d] [L out 3 Sp.d, { frm := at_, to := subI .i64 (l.getD i.toNat default).time 1, val := v : Sp }.d] (L (addR' out { frm := at_, to := subI .i64 (l.getD i.toNat default).time 1, val := v : Sp }) 3 Sp.d) ∧ (0 ≤ i ∧ i < (↑l.length : Int)) ∧ (0 ≤ i ∧ i < (↑l.length : Int)) ∧ bif decide ((l.getD i.toNat default).time ≤ to) then (0 ≤ i ∧ i < (↑l.length : Int)) ∧ J { sl := [(1, L l 2 Chg.d), (3, I to), (11, L (addR' out { frm := at_, to := subI .i64 (l.getD i.toNat default).time 1, val := v : Sp }) 3 Sp.d), (12, I (l.getD i.toNat default).time), (13, .str (l.getD i.toNat default).val), (14, I (addI .i64 i 1))], h := Heap.empty : St } else J { sl := [(1, L l 2 Chg.d), (3, I to), (11, L (addR' out { frm := at_, to := subI .i64 (l.getD i.toNat default).time 1, val := v : Sp }) 3 Sp.d), (12, I (l.getD i.toNat default).time), (13, .str v), (14, I (addI .i64 i 1))], h := Heap.empty : St }
        else (0 ≤ i ∧ i < (↑l.length : Int)) ∧ bif decide ((l.getD i.toNat default).time ≤ to) then (0 ≤ i ∧ i < (↑l.length : Int)) ∧ J { sl := [(1, L l 2 Chg.d), (3, I to), (11, L out 3 Sp.d), (12, I at_), (13, .str (l.getD i.toNat default).val), (14, I (addI .i64 i 1))], h := Heap.empty : St } else J { sl := [(1, L l 2 Chg.d), (3, I to), (11, L out 3 Sp.d), (12, I at_), (13, .str v), (14, I (addI .i64 i 1))], h := Heap.empty : St }
  else PureW PP 17 [L out 3 Sp.d, { frm := at_, to := to, val := v : Sp }.d] [L out 3 Sp.d, { frm := at_, to := to, val := v : Sp }.d] (L (addR' out { frm := at_, to := to, val := v : Sp }) 3 Sp.d) ∧ K (.tup [L (addR' out { frm := at_, to := to, val := v : Sp }) 3 Sp.d, I 0]) Heap.empty) := by kernel_rfl
def rfcR (v : Str) (l : List Chg) (frm to : Int) : List Sp × Int :=
  if frm ≥ 0 ∧ frm ≤ to ∧ to ≤ 1099511627776 then (if srt none l = true then (refL v l frm to, 0) else ([], 1)) else ([], 2)
theorem addR_len (l : List Sp) (x : Sp) : (addR' l x).length ≤ l.length + 1 := by
  unfold addR'
  split
  · rw [lastTo_len]; omega
  · simp
theorem c6 (v : Str) (l : List Chg) (frm to : Int) (hb : l.length ≤ 50000) : Pure PP 6 [.str v, L l 2 Chg.d, I frm, I to] (.tup [L (rfcR v l frm to).1 3 Sp.d, I (rfcR v l frm to).2]) := by
  refine pr F6 (by kernel_rfl) (of_eq (nrf v l frm to _) ⟨PureW.mk (c16 _ _ _), cond_intro (fun h => ?_) fun h => ?_⟩)
  · have : ¬ (frm ≥ 0 ∧ frm ≤ to ∧ to ≤ 1099511627776) := fun hc => by rw [decide_eq_true hc] at h; cases h
    rw [rfcR, if_neg this]; exact ret_nilP
  have hr : frm ≥ 0 ∧ frm ≤ to ∧ to ≤ 1099511627776 := by simpa using h
  rw [rfcR, if_pos hr]
  refine lp (fn := Try.f6) (fun i : Nat => 1 ≤ i ∧ (i ≤ l.length ∨ i = 1) ∧ srt none l = srt (prevC l i) (l.drop i)) (fun i => Srf v l frm to i) (fun i => l.length - i) [0, 1, 2, 3, 10] (by kernel_rfl) (fun i hi => of_eq (nrfa v l frm to i _ _) fun hl => cond_intro (fun hlt => ?_) fun hge => ?_) 1 ⟨Nat.le_refl _, .inr rfl, ?_⟩
  · have hlt := ltI hlt
    obtain ⟨h1, _, he⟩ := hi
    have hp : subI .i64 (i : Int) 1 = ((i - 1 : Nat) : Int) := lastI (by omega) (by omega)
    have hpc : prevC l i = some (l.getD (i - 1) default) := by
      cases i with
      | zero => omega
      | succ i => rfl
    have hsr : srt none l = (!decide ((l.getD i default).time < (l.getD (i - 1) default).time) && srt (some (l.getD i default)) (l.drop (i + 1))) := by rw [he, drop_cons _ _ hlt, hpc]; rfl
    rw [add1 hlt hl, hp, Int.toNat_natCast, Int.toNat_natCast]
    refine ⟨⟨by omega, by omega⟩, ⟨by omega, by omega⟩, cond_intro (fun h => ?_) fun h => ?_⟩
    · rw [if_neg (by rw [hsr, h]; simp)]; exact ret_nilP
    · exact Nx.mk (i + 1) ⟨by omega, .inl hlt, by rw [hsr, h]; rfl⟩ (by omega)
  · have hs : srt none l = true := by rw [hi.2.2, List.drop_of_length_le (geI hge)]; rfl
    rw [if_pos hs]
    refine at_le (st' := Srf2 l to [] frm v (0 : Nat)) ?_ ((StLe.set 11 rfl (Wk.nilL (α := Sp) (sz' := 3) (enc := Sp.d)) rfl rfl).cast rfl)
    refine lp (fn := Try.f6) (fun z : Nat × List Sp × Int × Str => z.1 ≤ l.length ∧ z.2.1.length ≤ z.1 ∧ refW v l frm to = (l.drop z.1).foldl (refStep to) z.2) (fun z => Srf2 l to z.2.1 z.2.2.1 z.2.2.2 z.1) (fun z => l.length - z.1) [1, 3, 11, 12, 13, 14] (by kernel_rfl) (fun z hz => of_eq (nrfb l to z.2.1 z.2.2.1 z.2.2.2 z.1 _ _) fun _ => ?_) (0, [], frm, v) ⟨Nat.zero_le _, by simp, rfl⟩
    obtain ⟨k, out, at_, u⟩ := z
    obtain ⟨hk, hol, he⟩ := hz
    simp only at hk hol he ⊢
    refine cond_intro (fun hlt => ?_) fun hge2 => ?_
    · have hlt := ltI hlt
      rw [add1 hlt hl, Int.toNat_natCast]
      rw [drop_cons _ _ hlt, List.foldl_cons] at he
      generalize l.getD k default = x at he ⊢
      have hin : (0 : Int) ≤ (k : Int) ∧ (k : Int) < (l.length : Int) := ⟨by omega, by omega⟩
      have hal := addR_len out ⟨at_, subI .i64 x.time 1, u⟩
      by_cases h1 : x.time > at_ ∧ x.time ≤ to
      · rw [decide_eq_true h1.1, decide_eq_true h1.2]
        simp only [refStep, if_pos h1, if_pos h1.2] at he
        exact ⟨hin, fun _ => hin, hin, PureW.mk (c17 _ _ (by omega)), hin, hin, hin, Nx.mk (k + 1, addR' out ⟨at_, subI .i64 x.time 1, u⟩, x.time, x.val) ⟨hlt, by simp only; omega, he⟩ (by simp only; omega)⟩
      · have hcf : (bif decide (x.time > at_) then decide (x.time ≤ to) else false) = false := by
          cases h2 : decide (x.time > at_) with
          | false => rfl
          | true => exact decide_eq_false fun h3 => h1 ⟨of_decide_eq_true h2, h3⟩
        rw [hcf]
        simp only [refStep, if_neg h1] at he
        refine ⟨hin, fun _ => hin, hin, cond_intro (fun h2 => ⟨hin, ?_⟩) fun h2 => ?_⟩
        · rw [if_pos (of_decide_eq_true h2)] at he
          exact Nx.mk (k + 1, out, at_, x.val) ⟨hlt, by simp only; omega, he⟩ (by simp only; omega)
        · rw [if_neg (of_decide_eq_false h2)] at he
          exact Nx.mk (k + 1, out, at_, u) ⟨hlt, by simp only; omega, he⟩ (by simp only; omega)
    · rw [List.drop_of_length_le (geI hge2)] at he
      unfold refL
      rw [he]
      exact ⟨PureW.mk (c17 _ _ (by omega)), _, RetLe.refl _ _⟩
  · cases l with
    | nil => rfl
    | cons x r => simp [srt, prevC]
end Go.Proofs.Ytpcbjkjgjoemaaa.S1
/- Seat 2: what Of answers, by the reference; the law on Of. -/
namespace Go.Proofs.Ytpcbjkjgjoemaaa.S1
open Go Go.Ab Go.Proofs
instance {ds : List D} [h : DS ds] : DD (.ep ds) := ⟨h.p⟩
def hR : Heap := ⟨fun _ => none, 4, fun _ => none, 1, fun _ => none⟩
theorem heap_hR {h : Heap} (hn : h.nl ≤ 4) (ht : h.nt ≤ 1) : HeapLe h hR := ⟨fun l row' e => (by cases e), hn, fun t n e => (by cases e), ht, fun t n e => (by cases e), fun _ _ => rfl⟩
theorem over_eq {lim c : Int} (h0 : 0 ≤ c) (h : c ≤ 1000000) : over lim c = decide (lim ≥ 0 ∧ c + 1 > lim) := by
  unfold over
  rw [add64 (by omega) (by omega)]
  by_cases h1 : lim ≥ 0
  · rw [decide_eq_true h1]; simp [h1]
  · rw [decide_eq_false h1]; simp [h1]
theorem cut_cons {at_ to : Int} {x : Chg} {l : List Chg} (h : Inc at_ (x :: l)) (ht : x.time ≤ to) : cut (x :: l) at_ to = x :: cut l x.time to := by
  obtain ⟨h1, h2⟩ := h
  have hgt := Inc.gt h2
  simp only [cut, List.filter_cons, decide_eq_true (show x.time > at_ by omega), decide_eq_true ht, Bool.and_self, if_true]
  congr 1
  refine List.filter_congr fun y hy => ?_
  have := hgt y hy
  rw [decide_eq_true (show y.time > at_ by omega), decide_eq_true (show y.time > x.time by omega)]
theorem cut_stop {at_ to : Int} {x : Chg} {l : List Chg} (h : Inc at_ (x :: l)) (ht : x.time > to) : cut (x :: l) at_ to = [] := by
  unfold cut
  rw [List.filter_eq_nil_iff]
  intro y hy
  have : to < y.time := by
    rcases List.mem_cons.1 hy with rfl | hy
    · exact ht
    · have := Inc.gt h.2 y hy; omega
  simp; omega
/-- The rounds: all of them, or the source's error. -/
theorem itR_plain (to lim : Int) : ∀ (b : List Chg) (at_ c : Int) (out : List Sp), Inc at_ b → 0 ≤ c → c + b.length ≤ 999999 →
    ((lim < 0 ∨ c + (cut b at_ to).length + 1 ≤ lim) → itR lim to b c out = ((cut b at_ to).foldl (fun o x => addS o x.time x.val) out, c + (cut b at_ to).length + 1, 0)) ∧
    (¬ (lim < 0 ∨ c + (cut b at_ to).length + 1 ≤ lim) → (itR lim to b c out).2.2 = 14)
  | [], at_, c, out, _, h0, hl => by
    simp only [List.length_nil] at hl
    have ho := over_eq (lim := lim) h0 (by omega)
    have ha : addI .i64 c 1 = c + 1 := add64 (by omega) (by omega)
    simp only [itR, ha, ho, cut, List.filter_nil, List.length_nil, List.foldl_nil]
    refine ⟨fun h => ?_, fun h => ?_⟩
    · rw [decide_eq_false (by omega)]; simp
    · rw [decide_eq_true (by omega)]; rfl
  | x :: l, at_, c, out, hi, h0, hl => by
    simp only [List.length_cons] at hl
    have ho := over_eq (lim := lim) h0 (by omega)
    have ha : addI .i64 c 1 = c + 1 := add64 (by omega) (by omega)
    have hi2 := hi
    obtain ⟨h1, h2⟩ := hi2
    simp only [itR, ha, ho]
    by_cases ht : x.time > to
    · rw [cut_stop hi ht, decide_eq_true ht]
      simp only [List.length_nil, List.foldl_nil, cond_true]
      refine ⟨fun h => ?_, fun h => ?_⟩
      · rw [decide_eq_false (by omega)]; simp
      · rw [decide_eq_true (by omega)]; rfl
    · rw [cut_cons hi (by omega), decide_eq_false ht]
      simp only [List.length_cons, List.foldl_cons, cond_false]
      have ih := itR_plain to lim l x.time (c + 1) (addS out x.time x.val) h2 (by omega) (by omega)
      refine ⟨fun h => ?_, fun h => ?_⟩
      · rw [decide_eq_false (by omega)]
        simp only [cond_false]
        rw [ih.1 (by omega)]
        congr 2
        push_cast; omega
      · by_cases hc : lim ≥ 0 ∧ c + 1 > lim
        · rw [decide_eq_true hc]; rfl
        · rw [decide_eq_false hc]
          simp only [cond_false]
          exact ih.2 (by omega)
theorem cut_aft (l : List Chg) (frm to : Int) : cut (aft l frm) frm to = cut l frm to := by
  unfold cut aft
  rw [List.filter_filter]
  refine List.filter_congr fun x _ => ?_
  cases decide (x.time > frm) <;> simp
theorem aft_len (l : List Chg) (frm : Int) : (aft l frm).length ≤ l.length := List.length_filter_le _ _
theorem srt_inc : ∀ {l : List Chg} {t : Int} {p : Option Chg}, Inc t l → (match p with | none => True | some y => y.time ≤ t) → srt p l = true
  | [], _, _, _, _ => rfl
  | x :: r, t, p, ⟨h1, h2⟩, hp => by
    simp only [srt, Bool.and_eq_true]
    refine ⟨?_, srt_inc (p := some x) h2 (Int.le_refl _)⟩
    cases p with
    | none => rfl
    | some y => simp only at hp; simp; omega
end Go.Proofs.Ytpcbjkjgjoemaaa.S1
/- Seat 2: the arguments read. -/
namespace Go.Proofs.Ytpcbjkjgjoemaaa.S1
open Go Go.Ab Go.Proofs
open Go.ChangeShapes Go.WideShapes Go.ChangeAt Go.RowKit Go.Joins

abbrev any {α : Type} : α → Prop := fun _ => True
theorem rc {P : Program} {total : Nat} {f : Field} {fs : List Field} {off off' t : Nat} {α β : Type} {enc : α → D} {encF : β → List D} (h : Reads P t enc any) (k : ReadsF P total fs off' encF any) (ht : f.type = t) (ho : f.offset = off) (hs : off + P.cellsOf t = off') :
    ReadsF P total (f :: fs) off (fun x : α × β => cellsD (enc x.1) ++ encF x.2) any := by
  subst ht; subst hs
  have hc := ReadsF.cons h k ho
  exact ⟨hc.size, hc.ones, hc.data, fun a b => by obtain ⟨x, _, hr⟩ := hc.it a b; exact ⟨x, trivial, hr⟩⟩
theorem rn {P : Program} {total : Nat} : ReadsF P total [] total (fun _ : Unit => []) any := ReadsF.nil
theorem cI : Try.prog.cellsOf 3 = 1 := by kernel_rfl
theorem cStr : Try.prog.cellsOf 9 = 1 := by kernel_rfl
theorem cChg : Try.prog.cellsOf 26 = 2 := by kernel_rfl
theorem cChgs : Try.prog.cellsOf 22 = 1 := by kernel_rfl
theorem cSig : Try.prog.cellsOf 36 = 3 := by kernel_rfl
theorem cSigs : Try.prog.cellsOf 37 = 1 := by kernel_rfl
theorem cGap : Try.prog.cellsOf 143 = 2 := by kernel_rfl
theorem cGaps : Try.prog.cellsOf 38 = 1 := by kernel_rfl
theorem cWv : Try.prog.cellsOf 40 = 3 := by kernel_rfl
theorem cIv : Try.prog.cellsOf 62 = 2 := by kernel_rfl
theorem cIvs : Try.prog.cellsOf 23 = 1 := by kernel_rfl
theorem cSp : Try.prog.cellsOf 48 = 3 := by kernel_rfl
theorem cSps : Try.prog.cellsOf 27 = 1 := by kernel_rfl
theorem rI : Reads Try.prog 3 (fun n : Int => I n) any := (Reads.int Try.underlying3 cI).map (fun n => n) (fun _ => rfl) (fun n => ⟨n, rfl⟩) fun _ _ => trivial
theorem rStr : Reads Try.prog 9 (fun s : Str => .str s) any := (Reads.str Try.underlying9 cStr).map (fun n => n) (fun _ => rfl) (fun n => ⟨n, rfl⟩) fun _ _ => trivial
theorem rsl {e t sz : Nat} {α : Type} [Inhabited α] {enc : α → D} (h : Reads Try.prog e enc any) (ht : Try.prog.underlying t = some (.slice e)) (hc : Try.prog.cellsOf t = 1) (hp : Try.prog.cellsOf e = sz) (h0 : 0 < sz) : Reads Try.prog t (fun es : List α => L es sz enc) any := by
  have h := Reads.slice h ht hc (by rw [hp]; exact h0)
  rw [hp] at h
  exact h.map (fun n => n) (fun _ => rfl) (fun n => ⟨n, rfl⟩) fun _ _ => trivial
theorem rChg : Reads Try.prog 26 Chg.d any := by
  refine (Reads.struct (ok := any) Try.underlying26 ?_).map (fun x : Int × Str × Unit => (⟨x.1, x.2.1⟩ : Chg)) (fun _ => rfl) (fun b => ⟨(b.time, b.val, ()), rfl⟩) fun _ _ => trivial
  rw [cChg]
  exact rc rI (rc rStr rn rfl rfl (by rw [cStr])) rfl rfl (by rw [cI])
theorem rSp : Reads Try.prog 48 Sp.d any := by
  refine (Reads.struct (ok := any) Try.underlying48 ?_).map (fun x : Int × Int × Str × Unit => (⟨x.1, x.2.1, x.2.2.1⟩ : Sp)) (fun _ => rfl) (fun b => ⟨(b.frm, b.to, b.val, ()), rfl⟩) fun _ _ => trivial
  rw [cSp]
  exact rc rI (rc rI (rc rStr rn rfl rfl (by rw [cStr])) rfl rfl (by rw [cI])) rfl rfl (by rw [cI])
theorem rGap : Reads Try.prog 143 Iv.d any := by
  refine (Reads.struct (ok := any) Try.underlying143 ?_).map (fun x : Int × Int × Unit => (⟨x.1, x.2.1⟩ : Iv)) (fun _ => rfl) (fun b => ⟨(b.frm, b.to, ()), rfl⟩) fun _ _ => trivial
  rw [cGap]
  exact rc rI (rc rI rn rfl rfl (by rw [cI])) rfl rfl (by rw [cI])
theorem rChgs : Reads Try.prog 22 (fun es : List Chg => L es 2 Chg.d) any := rsl rChg Try.underlying22 cChgs cChg (by decide)
theorem rSps : Reads Try.prog 27 (fun es : List Sp => L es 3 Sp.d) any := rsl rSp Try.underlying27 cSps cSp (by decide)
theorem rIv : Reads Try.prog 62 Iv.d any := by
  refine (Reads.struct (ok := any) Try.underlying62 ?_).map (fun x : Int × Int × Unit => (⟨x.1, x.2.1⟩ : Iv)) (fun _ => rfl) (fun b => ⟨(b.frm, b.to, ()), rfl⟩) fun _ _ => trivial
  rw [cIv]
  exact rc rI (rc rI rn rfl rfl (by rw [cI])) rfl rfl (by rw [cI])
theorem rIvs : Reads Try.prog 23 (fun es : List Iv => L es 2 Iv.d) any := rsl rIv Try.underlying23 cIvs cIv (by decide)
theorem rGaps : Reads Try.prog 38 (fun es : List Iv => L es 2 Iv.d) any := rsl rGap Try.underlying38 cGaps cGap (by decide)
theorem rSig : Reads Try.prog 36 Sig.d any := by
  refine (Reads.struct (ok := any) Try.underlying36 ?_).map (fun x : Int × Int × List Chg × Unit => (⟨x.1, x.2.1, x.2.2.1⟩ : Sig)) (fun _ => rfl) (fun b => ⟨(b.kind, b.width, b.chg, ()), rfl⟩) fun _ _ => trivial
  rw [cSig]
  exact rc rI (rc rI (rc rChgs rn rfl rfl (by rw [cChgs])) rfl rfl (by rw [cI])) rfl rfl (by rw [cI])
theorem rSigs : Reads Try.prog 37 (fun es : List Sig => L es 3 Sig.d) any := rsl rSig Try.underlying37 cSigs cSig (by decide)
theorem rWv : Reads Try.prog 40 Wv.d any := by
  refine (Reads.struct (ok := any) Try.underlying40 ?_).map (fun x : List Sig × List Iv × Int × Unit => (⟨x.1, x.2.1, x.2.2.1⟩ : Wv)) (fun _ => rfl) (fun b => ⟨(b.sig, b.gap, b.fin, ()), rfl⟩) fun _ _ => trivial
  rw [cWv]
  exact rc rSigs (rc rGaps (rc rI rn rfl rfl (by rw [cI])) rfl rfl (by rw [cGaps])) rfl rfl (by rw [cSigs])
theorem own : ownKnob Try.prog.godebug = none := by kernel_rfl
theorem laid : laidOutB Try.prog = true := by kernel_rfl
theorem trod_cons {P : Program} {H : Type} {en : TypeId × Value → H} {W : World} {b : Nat} {sp : Nat → Bool} {hd : Bool} {t : TypeId} {ts : List TypeId} {vs : List Value} {ds : List (DataW H)} {ps : List MemPlace} (h : DataW.TrodAll en P W b sp hd (t :: ts) vs ds ps) :
    ∃ v r d e p q, vs = v :: r ∧ ds = d :: e ∧ DataW.Trod en P W b sp hd t v d p ∧ DataW.TrodAll en P W b sp hd ts r e q := by
  cases vs with
  | nil => simp [DataW.TrodAll] at h
  | cons v r => cases ds with
    | nil => simp [DataW.TrodAll] at h
    | cons d e =>
      obtain ⟨p, q, h1, h2, _⟩ := h
      exact ⟨v, r, d, e, p, q, rfl, rfl, h1, h2⟩
theorem trod_nil {P : Program} {H : Type} {en : TypeId × Value → H} {W : World} {b : Nat} {sp : Nat → Bool} {hd : Bool} {vs : List Value} {ds : List (DataW H)} {ps : List MemPlace} (h : DataW.TrodAll en P W b sp hd [] vs ds ps) : vs = [] ∧ ds = [] := by
  cases vs with
  | nil => cases ds with
    | nil => exact ⟨rfl, rfl⟩
    | cons d e => simp [DataW.TrodAll] at h
  | cons v r => simp [DataW.TrodAll] at h
end Go.Proofs.Ytpcbjkjgjoemaaa.S1
