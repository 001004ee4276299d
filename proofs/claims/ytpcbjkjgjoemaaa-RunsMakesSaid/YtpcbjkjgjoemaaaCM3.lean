/- Seat 2: membership. -/
import Derived.Test.YtpcbjkjgjoemaaaCM2
import Derived.Ground.GgsProg
import Derived.Shelf.GgSortFunc.Tiny
import Derived.Shelf.SlSortFuncK.WholeK
import Derived.Deep.QuietTactic
namespace Go.Proofs.Ytpcbjkjgjoemaaa.S1
open Go Go.Ab Go.Proofs
def inP (t : Int) (x : Iv) : Bool := bif decide (x.frm ≤ t) then decide (t ≤ x.to) else false
def ixF {α : Type} (p : α → Bool) : List α → Nat → Int
  | [], _ => -1
  | x :: r, k => if p x then (k : Int) else ixF p r (k + 1)
def inI (l : List Iv) (t : Int) : Bool := decide (0 ≤ t) && (decide (t ≤ 1099511627776) && l.any (inP t))
theorem F26 : OkF 26 Try.f26 := ⟨by kernel_rfl, by kernel_rfl, by kernel_rfl⟩
def lv26 : List (List Nat × List Nat) := []
noncomputable def nIn1s  : List Nat → Nat → Option Ans := scrAt []
theorem nIn1 (x : Iv) (t : Int) (K : D → Prop) : runS (En Try.f26) (fi Try.f26 K) (nIn1s ) lv26 200 [.code []] ⟨argSlots 0 [x.d, .ep [I t]], .empty⟩ =
  (K (B (bif decide (x.frm ≤ t) then decide (t ≤ x.to) else false))) := by kernel_rfl
theorem c26 (x : Iv) (t : Int) : Pure PP 26 [x.d, .ep [I t]] (B (inP t x)) :=
  pu F26 (by kernel_rfl) (of_eq (nIn1 x t _) (Wk.refl _))
theorem F32 : OkF 32 Try.f32 := ⟨by kernel_rfl, by kernel_rfl, by kernel_rfl⟩
def lv32 : List (List Nat × List Nat) := [([1, 0, 1, 0], [0, 1, 7, 8])]
noncomputable def nIx2s  : List Nat → Nat → Option Ans := scrAt []
theorem nIx2 (l : List Iv) (t : Int) (K : D → Prop) : runS (En Try.f32) (fi Try.f32 K) (nIx2s ) lv32 200 [.code []] ⟨argSlots 0 [L l 2 Iv.d, .clo 26 [.ep [I t]]], .empty⟩ =
  (l.length ≤ lenM → At (En Try.f32) (fi Try.f32 K) [It.code [1, 0, 1, 0], It.blk 0, It.code [1, 1]] { sl := [(0, L l 2 Iv.d), (1, D.clo 26 [D.ep [I t]]), (7, I (↑l.length : Int)), (8, I 0)], h := Heap.empty : St }) := by kernel_rfl
def SIx2 (l : List Iv) (t i : Int) : St := ⟨[(0, L l 2 Iv.d), (1, .clo 26 [.ep [I t]]), (7, I l.length), (8, I i)], .empty⟩
noncomputable def nIx2as (l : List Iv) (t : Int) (i : Int) : List Nat → Nat → Option Ans := scrAt [([1, 0, 1, 0, 0, 1, 1, 0, 0, 1, 0], 5, Ans.pure [(l.getD i.toNat default).d, D.ep [I t]] (B (inP t (l.getD i.toNat default))))]
theorem nIx2a (l : List Iv) (t i : Int) (J : St → Prop) (K : D → Prop) : runS (En Try.f32) (fi Try.f32 K) (nIx2as l t i) lv32 200 [.code [1, 0, 1, 0, 0], stp [0, 1, 7, 8] J, .blk 0, .code [1, 1]] (SIx2 l t i) =
  (bif decide (i < (↑l.length : Int)) then (0 ≤ i ∧ i < (↑l.length : Int)) ∧ PureW PP 26 [(l.getD i.toNat default).d, D.ep [I t]] [(l.getD i.toNat default).d, D.ep [I t]] (B (inP t (l.getD i.toNat default))) ∧ bif inP t (l.getD i.toNat default) then K (I i) else J { sl := [(0, L l 2 Iv.d), (1, D.clo 26 [D.ep [I t]]), (7, I (↑l.length : Int)), (8, I (addI .i64 i 1))], h := Heap.empty : St } else K (I (-1))) := by kernel_rfl
theorem c32 (l : List Iv) (t : Int) : Pure PP 32 [L l 2 Iv.d, .clo 26 [.ep [I t]]] (I (ixF (inP t) l 0)) := by
  refine pu F32 (by kernel_rfl) (of_eq (nIx2 l t _) fun hl => ?_)
  refine lp (fn := Try.f32) (fun i : Nat => i ≤ l.length ∧ ixF (inP t) l 0 = ixF (inP t) (l.drop i) i) (fun i => SIx2 l t i) (fun i => l.length - i) [0, 1, 7, 8] (by kernel_rfl) (fun i hi => of_eq (nIx2a l t i _ _) ?_) 0 ⟨Nat.zero_le _, rfl⟩
  obtain ⟨_, he⟩ := hi
  refine cond_intro (fun hlt => ?_) fun hge => ?_
  · have hlt := ltI hlt
    rw [add1 hlt hl, Int.toNat_natCast]
    rw [drop_cons _ _ hlt] at he
    simp only [ixF] at he
    refine ⟨⟨by omega, by omega⟩, PureW.mk (c26 _ _), cond_intro (fun h => ?_) fun h => ?_⟩
    · rw [if_pos h] at he
      rw [he]; exact Wk.refl _
    · rw [if_neg (by rw [h]; simp)] at he
      exact Nx.mk (i + 1) ⟨hlt, he⟩ (by omega)
  · rw [he, List.drop_of_length_le (geI hge)]
    exact Wk.refl _
theorem ixF_nn {α : Type} (p : α → Bool) : ∀ (l : List α) (k : Nat), 0 ≤ ixF p l k ↔ l.any p = true
  | [], _ => by simp [ixF]
  | x :: r, k => by
    simp only [ixF, List.any_cons]
    by_cases h : p x = true
    · rw [if_pos h, h]; simp
    · rw [if_neg h, show p x = false by simpa using h, Bool.false_or]; exact ixF_nn p r (k + 1)
theorem ixF_any {α : Type} (p : α → Bool) (l : List α) (k : Nat) : decide (ixF p l k ≥ 0) = l.any p := by
  rw [Bool.eq_iff_iff, decide_eq_true_eq]
  exact ixF_nn p l k
theorem F25 : OkF 25 Try.f25 := ⟨by kernel_rfl, by kernel_rfl, by kernel_rfl⟩
def lv25 : List (List Nat × List Nat) := []
noncomputable def nCfs (l : List Iv) (t : Int) : List Nat → Nat → Option Ans := scrAt [([1, 0], 2, Ans.pure [L l 2 Iv.d, D.clo 26 [D.ep [I t]]] (I (ixF (inP t) l 0)))]
theorem nCf (l : List Iv) (t : Int) (K : D → Prop) : runS (En Try.f25) (fi Try.f25 K) (nCfs l t) lv25 200 [.code []] ⟨argSlots 0 [L l 2 Iv.d, .clo 26 [.ep [I t]]], .empty⟩ =
  (PureW PP 32 [L l 2 Iv.d, D.clo 26 [D.ep [I t]]] [L l 2 Iv.d, D.clo 26 [D.ep [I t]]] (I (ixF (inP t) l 0)) ∧ K (B (decide (ixF (inP t) l 0 ≥ 0)))) := by kernel_rfl
theorem c25 (l : List Iv) (t : Int) : Pure PP 25 [L l 2 Iv.d, .clo 26 [.ep [I t]]] (B (l.any (inP t))) := by
  refine pu F25 (by kernel_rfl) (of_eq (nCf l t _) ⟨PureW.mk (c32 l t), ?_⟩)
  rw [ixF_any]; exact Wk.refl _
def lvIn : List (List Nat × List Nat) := [([1, 0], [0, 3])]
theorem F21 : OkF 21 Try.f21 := ⟨by kernel_rfl, by kernel_rfl, by kernel_rfl⟩
def lv21 : List (List Nat × List Nat) := []
noncomputable def nIns  : List Nat → Nat → Option Ans := scrAt []
theorem nIn (l : List Iv) (t : Int) (K : D → Prop) : runS (En Try.f21) (fi Try.f21 K) (nIns ) lvIn 200 [.code []] ⟨argSlots 0 [L l 2 Iv.d, I t], .empty⟩ =
  (At (En Try.f21) (fi Try.f21 K) [It.code [1, 0], It.code [1, 1]] { sl := [(0, L l 2 Iv.d), (3, .own [I t])], h := Heap.empty : St }) := by kernel_rfl
noncomputable def nInbs (l : List Iv) (t : Int) : List Nat → Nat → Option Ans := scrAt [([1, 0], 9, Ans.pure [L l 2 Iv.d, D.clo 26 [D.ep [I t]]] (B (l.any (inP t))))]
theorem nInb (l : List Iv) (t : Int) (K : D → Prop) : runS (En Try.f21) (fi Try.f21 K) (nInbs l t) nolv 200 [.code [1, 0], .code [1, 1]] ⟨[(0, L l 2 Iv.d), (3, .ep [I t])], .empty⟩ =
  (((bif decide (t ≥ 0) then decide (t ≤ 1099511627776) else false) = true → PureW PP 25 [L l 2 Iv.d, D.clo 26 [D.ep [I t]]] [L l 2 Iv.d, D.clo 26 [D.ep [I t]]] (B (l.any (inP t)))) ∧ K (B (bif bif decide (t ≥ 0) then decide (t ≤ 1099511627776) else false then l.any (inP t) else false))) := by kernel_rfl
theorem inI_eq (l : List Iv) (t : Int) : (bif bif decide (t ≥ 0) then decide (t ≤ 1099511627776) else false then l.any (inP t) else false) = inI l t := by
  unfold inI
  by_cases h1 : t ≥ 0
  · rw [decide_eq_true h1]
    cases decide (t ≤ 1099511627776) <;> rfl
  · rw [decide_eq_false h1]
    rfl
theorem c21 (l : List Iv) (t : Int) : Pure PP 21 [L l 2 Iv.d, I t] (B (inI l t)) := by
  refine pu F21 (by kernel_rfl) (of_eq (nIn l t _) ?_)
  refine at_le (st' := ⟨[(0, L l 2 Iv.d), (3, .ep [I t])], .empty⟩) ?_ ((StLe.layOwn 3 rfl (by kernel_rfl)).cast (by kernel_rfl))
  refine runS_sound hmix _ _ _ (of_eq (nInb l t _) ⟨fun _ => PureW.mk (c25 l t), ?_⟩)
  rw [inI_eq]; exact Wk.refl _
theorem F39 : OkF 39 Try.f39 := ⟨by kernel_rfl, by kernel_rfl, by kernel_rfl⟩
def lv39 : List (List Nat × List Nat) := [([1, 1, 0, 1, 0], [0, 1, 5])]
noncomputable def nrIs  : List Nat → Nat → Option Ans := scrAt []
theorem nrI (l : List Iv) (t : Int) (K : D → Prop) : runS (En Try.f39) (fi Try.f39 K) (nrIs ) nolv 200 [.code []] ⟨argSlots 0 [L l 2 Iv.d, I t], .empty⟩ =
  (bif bif decide (t < 0) then true else decide (t > 1099511627776) then K (B false) else At (En Try.f39) (fi Try.f39 K) [It.code [1, 1, 0, 1, 0], It.blk 0, It.code [1, 1, 1]] { sl := [(5, I 0), (11, B (bif decide (t < 0) then true else decide (t > 1099511627776))), (8, B (decide (t < 0))), (7, B (decide (t < 0))), (6, I t), (4, B false), (0, L l 2 Iv.d), (1, I t)], h := Heap.empty : St }) := by kernel_rfl
def SrI (l : List Iv) (t i : Int) : St := ⟨[(0, L l 2 Iv.d), (1, I t), (5, I i)], .empty⟩
noncomputable def nrIas  : List Nat → Nat → Option Ans := scrAt []
theorem nrIa (l : List Iv) (t i : Int) (J : St → Prop) (K : D → Prop) : runS (En Try.f39) (fi Try.f39 K) (nrIas ) nolv 200 [.code [1, 1, 0, 1, 0, 0], stp [0, 1, 5] J, .blk 0, .code [1, 1, 1]] (SrI l t i) =
  (l.length ≤ lenM → bif decide (i < (↑l.length : Int)) then (0 ≤ i ∧ i < (↑l.length : Int)) ∧ (decide ((l.getD i.toNat default).frm ≤ t) = true → 0 ≤ i ∧ i < (↑l.length : Int)) ∧ bif bif decide ((l.getD i.toNat default).frm ≤ t) then decide (t ≤ (l.getD i.toNat default).to) else false then K (B true) else J { sl := [(0, L l 2 Iv.d), (1, I t), (5, I (addI .i64 i 1))], h := Heap.empty : St } else K (B false)) := by kernel_rfl
theorem c39 (l : List Iv) (t : Int) : Pure PP 39 [L l 2 Iv.d, I t] (B (inI l t)) := by
  refine pu F39 (by kernel_rfl) (of_eq (nrI l t _) (cond_intro (fun h => ?_) fun h => ?_))
  · have : inI l t = false := by
      unfold inI
      by_cases h1 : t < 0
      · rw [decide_eq_false (show ¬ 0 ≤ t by omega)]; rfl
      · rw [decide_eq_false h1] at h
        have h : t > 1099511627776 := of_decide_eq_true h
        rw [decide_eq_false (show ¬ t ≤ 1099511627776 by omega)]; simp
    rw [this]; exact Wk.refl _
  have hr : 0 ≤ t ∧ t ≤ 1099511627776 := by
    by_cases h1 : t < 0
    · rw [decide_eq_true h1] at h; cases h
    · rw [decide_eq_false h1] at h
      have h : ¬ t > 1099511627776 := of_decide_eq_false h
      omega
  have hi : inI l t = l.any (inP t) := by
    unfold inI
    rw [decide_eq_true hr.1, decide_eq_true hr.2]; simp
  rw [hi]
  refine at_le (st' := SrI l t (0 : Nat)) ?_ (keepSt_le _ [0, 1, 5] _)
  refine lp (fn := Try.f39) (fun i : Nat => i ≤ l.length ∧ l.any (inP t) = (l.drop i).any (inP t)) (fun i => SrI l t i) (fun i => l.length - i) [0, 1, 5] (by kernel_rfl) (fun i hi => of_eq (nrIa l t i _ _) fun hl => ?_) 0 ⟨Nat.zero_le _, rfl⟩
  obtain ⟨_, he⟩ := hi
  refine cond_intro (fun hlt => ?_) fun hge => ?_
  · have hlt := ltI hlt
    rw [add1 hlt hl, Int.toNat_natCast]
    rw [drop_cons _ _ hlt, List.any_cons] at he
    have hin : (0 : Int) ≤ (i : Int) ∧ (i : Int) < (l.length : Int) := ⟨by omega, by omega⟩
    refine ⟨hin, fun _ => hin, cond_intro (fun h => ?_) fun h => ?_⟩
    · have h : inP t (l.getD i default) = true := h
      rw [he, h]; exact Wk.refl _
    · have h : inP t (l.getD i default) = false := h
      rw [h, Bool.false_or] at he
      exact Nx.mk (i + 1) ⟨hlt, he⟩ (by omega)
  · rw [he, List.drop_of_length_le (geI hge)]
    exact Wk.refl _
theorem F60 : OkF 60 Try.f60 := ⟨by kernel_rfl, by kernel_rfl, by kernel_rfl⟩
def lv60 : List (List Nat × List Nat) := []
noncomputable def nbds  : List Nat → Nat → Option Ans := scrAt []
theorem nbd (x : Iv) (K : D → Prop) : runS (En Try.f60) (fi Try.f60 K) (nbds ) nolv 200 [.code []] ⟨argSlots 0 [x.d], .empty⟩ =
  (K (.tup [I (if 0 > x.frm then 0 else x.frm), I (if 1099511627776 < x.to then 1099511627776 else x.to), B (decide ((if 0 > x.frm then 0 else x.frm) ≤ if 1099511627776 < x.to then 1099511627776 else x.to))])) := by kernel_rfl
def bdL (x : Iv) : Int := if 0 > x.frm then 0 else x.frm
def bdR (x : Iv) : Int := if 1099511627776 < x.to then 1099511627776 else x.to
theorem c60 (x : Iv) : Pure PP 60 [x.d] (.tup [I (bdL x), I (bdR x), B (decide (bdL x ≤ bdR x))]) :=
  pu F60 (by kernel_rfl) (of_eq (nbd x _) (Wk.refl _))
/-- A sorted list with another number. -/
def insC : List Int → Int → List Int
  | [], n => [n]
  | x :: r, n => if x < n then x :: insC r n else if x = n then x :: r else n :: x :: r
theorem F61 : OkF 61 Try.f61 := ⟨by kernel_rfl, by kernel_rfl, by kernel_rfl⟩
def lv61 : List (List Nat × List Nat) := [([1, 1, 0, 0], [0, 1, 5])]
noncomputable def nrads  : List Nat → Nat → Option Ans := scrAt []
theorem nrad (l : List Int) (n : Int) (K : D → Prop) : runS (En Try.f61) (fi Try.f61 K) (nrads ) nolv 200 [.code []] ⟨argSlots 0 [L l 1 I', I n], .empty⟩ =
  (At (En Try.f61) (fi Try.f61 K) [It.code [1, 1, 0, 0], It.blk 0, It.code [1, 1, 1]] { sl := [(5, I 0), (4, .list 0 0 (fun _ => D.junk) .full), (0, L l 1 I'), (1, I n)], h := Heap.empty : St }) := by kernel_rfl
def Srad (l : List Int) (n i : Int) : St := ⟨[(0, L l 1 I'), (1, I n), (5, I i)], .empty⟩
noncomputable def nradas  : List Nat → Nat → Option Ans := scrAt []
theorem nrada (l : List Int) (n i : Int) (J : St → Prop) (K : D → Prop) : runS (En Try.f61) (fi Try.f61 K) (nradas ) nolv 200 [.code [1, 1, 0, 0, 0], stp [0, 1, 5] J, .blk 0, .code [1, 1, 1]] (Srad l n i) =
  (l.length ≤ lenM → (decide (i < (↑l.length : Int)) = true → 0 ≤ i ∧ i < (↑l.length : Int)) ∧ bif bif decide (i < (↑l.length : Int)) then decide (l.getD i.toNat default < n) else false then J { sl := [(0, L l 1 I'), (1, I n), (5, I (addI .i64 i 1))], h := Heap.empty : St } else l.length ≤ lenM → (decide (i < (↑l.length : Int)) = true → 0 ≤ i ∧ i < (↑l.length : Int)) ∧ bif bif decide (i < (↑l.length : Int)) then l.getD i.toNat default == n else false then K (L l 1 I') else (0 ≤ i ∧ i ≤ (↑l.length : Int)) ∧ (0 + (l.length - i.toNat)) * 8 ≤ roomM ∧ ((0 : Int) ≤ 0 ∧ 0 ≤ i ∧ i ≤ (↑l.length : Int)) ∧ (0 + (i.toNat - 0)) * 8 ≤ roomM ∧ (upd (upd (fun _ => none) 0 (some (0 + (l.length - i.toNat)))) 1 (some (0 + (i.toNat - 0))) 1 = some (0 + (i.toNat - 0)) ∧ (0 + (i.toNat - 0) + 1) * 8 ≤ roomM) ∧ (upd (upd (upd (fun _ => none) 0 (some (0 + (l.length - i.toNat)))) 1 (some (0 + (i.toNat - 0)))) 1 (some (0 + (i.toNat - 0) + 1)) 1 = some (0 + (i.toNat - 0) + 1) ∧ (0 + (i.toNat - 0) + 1 + (0 + (l.length - i.toNat))) * 8 ≤ roomM) ∧ K (.list (0 + (i.toNat - 0) + 1 + (0 + (l.length - i.toNat))) 1 (catG (0 + (i.toNat - 0) + 1) (catG (0 + (i.toNat - 0)) (catG 0 (litG []) (dropG (fun i => I' (l.getD i default)) 0)) (litG [I n])) (catG 0 (litG []) (dropG (fun i => I' (l.getD i default)) i.toNat))) (.tok 1 1))) := by kernel_rfl
theorem insC_take : ∀ (l : List Int) (n : Int) (i : Nat), i ≤ l.length → (∀ k, k < i → l.getD k default < n) → (i < l.length → ¬ l.getD i default < n) → insC l n = if i < l.length ∧ l.getD i default = n then l else l.take i ++ [n] ++ l.drop i
  | [], n, i, hi, _, _ => by
    have : i = 0 := by simpa using hi
    subst this
    rfl
  | x :: r, n, 0, _, _, h => by
    have hx : ¬ x < n := h (by simp)
    simp only [insC]
    rw [if_neg hx]
    have e : (x :: r).getD 0 default = x := rfl
    rw [e]
    by_cases hn : x = n
    · rw [if_pos hn, if_pos ⟨by simp, hn⟩]
    · rw [if_neg hn, if_neg (fun h => hn h.2)]; rfl
  | x :: r, n, i + 1, hi, hk, h => by
    have hx : x < n := hk 0 (by omega)
    simp only [insC]
    rw [if_pos hx]
    have e : ∀ k, (x :: r).getD (k + 1) default = r.getD k default := fun k => by simp [List.getD]
    have ih := insC_take r n i (by simpa using hi) (fun k hk' => by have := hk (k + 1) (by omega); rw [e] at this; exact this) (fun hi' => by have := h (by simpa using hi'); rw [e] at this; exact this)
    rw [ih, e]
    by_cases hc : i < r.length ∧ r.getD i default = n
    · rw [if_pos hc, if_pos ⟨by simpa using hc.1, hc.2⟩]
    · rw [if_neg hc, if_neg (fun h => hc ⟨by simpa using h.1, h.2⟩)]; simp
theorem wkIns {l : List Int} {n : Int} {i t : Nat} (hi : i ≤ l.length) : Wk (.list (0 + (i - 0) + 1 + (0 + (l.length - i))) 1 (catG (0 + (i - 0) + 1) (catG (0 + (i - 0)) (catG 0 (litG []) (dropG (fun i => I' (l.getD i default)) 0)) (litG [I n])) (catG 0 (litG []) (dropG (fun i => I' (l.getD i default)) i))) (.tok t 1)) (L (l.take i ++ [n] ++ l.drop i) 1 I') := by
  have hz : (fun i => D.int .i64 (l.getD i default)) = fun i => I' (l.getD i default) := rfl
  refine Wk.listW (by simp; omega) (.inl rfl) (fun k hk => ?_) (.inl rfl)
  rw [dropG_nil, catG_nil, catG_nil, Nat.sub_zero, Nat.zero_add]
  have hv : ∀ a b, a = b → Wk (I' a) (I' b) ∧ (ones (I' a) = true → ones (I' b) = true) := fun a b e => by subst e; exact ⟨Wk.refl _, fun h => h⟩
  unfold catG
  have hm : min i l.length = i := Nat.min_eq_left hi
  by_cases h1 : k < i + 1
  · rw [blt_tt.2 h1]
    simp only [cond_true]
    by_cases h2 : k < i
    · rw [blt_tt.2 h2]
      refine hv _ _ ?_
      rw [List.getD_eq_getElem?_getD, List.getD_eq_getElem?_getD, List.append_assoc, List.getElem?_append_left (by rw [List.length_take, hm]; exact h2), List.getElem?_take_of_lt h2]
    · rw [blt_ff.2 (by omega)]
      have : k = i := by omega
      subst this
      rw [Nat.sub_self]
      refine hv n _ ?_
      rw [List.getD_eq_getElem?_getD, List.append_assoc, List.getElem?_append_right (by rw [List.length_take, hm]; exact Nat.le_refl _), List.length_take, hm, Nat.sub_self]
      rfl
  · rw [blt_ff.2 (by omega)]
    simp only [cond_false, dropG]
    refine hv _ _ ?_
    rw [List.getD_eq_getElem?_getD, List.getD_eq_getElem?_getD, List.getElem?_append_right (by rw [List.length_append, List.length_take, hm]; simp; omega), List.getElem?_drop, List.length_append, List.length_take, hm]
    rfl
theorem c61 (l : List Int) (n : Int) (hb : l.length ≤ 1000) : Pure PP 61 [L l 1 I', I n] (L (insC l n) 1 I') := by
  refine pu F61 (by kernel_rfl) (of_eq (nrad l n _) ?_)
  refine at_le (st' := Srad l n (0 : Nat)) ?_ (keepSt_le _ [0, 1, 5] _)
  refine lp (fn := Try.f61) (fun i : Nat => i ≤ l.length ∧ ∀ k, k < i → l.getD k default < n) (fun i => Srad l n i) (fun i => l.length - i) [0, 1, 5] (by kernel_rfl) (fun i hi => of_eq (nrada l n i _ _) fun hl => ?_) 0 ⟨Nat.zero_le _, fun k h => absurd h (Nat.not_lt_zero k)⟩
  obtain ⟨hi, hk⟩ := hi
  refine ⟨fun h => ⟨by omega, by simpa using h⟩, ?_⟩
  rw [Int.toNat_natCast]
  refine cond_intro (fun h => ?_) fun h => ?_
  · have hlt : i < l.length := by
      cases hd : decide ((i : Int) < (l.length : Int)) with
      | true => exact ltI hd
      | false => rw [hd] at h; cases h
    rw [decide_eq_true (show (i : Int) < (l.length : Int) by omega)] at h
    have h : l.getD i default < n := of_decide_eq_true h
    rw [add1 hlt hl]
    refine Nx.mk (i + 1) ⟨hlt, fun k hk' => ?_⟩ (by omega)
    rcases Nat.lt_or_ge k i with h1 | h1
    · exact hk k h1
    · rw [show k = i by omega]; exact h
  · have hnl : i < l.length → ¬ l.getD i default < n := fun hlt => by
      rw [decide_eq_true (show (i : Int) < (l.length : Int) by omega)] at h
      exact of_decide_eq_false h
    have hins := insC_take l n i hi hk hnl
    refine fun _ => ⟨fun h => ⟨by omega, by simpa using h⟩, cond_intro (fun h2 => ?_) fun h2 => ?_⟩
    · have hlt : i < l.length := by
        cases hd : decide ((i : Int) < (l.length : Int)) with
        | true => exact ltI hd
        | false => rw [hd] at h2; cases h2
      rw [decide_eq_true (show (i : Int) < (l.length : Int) by omega)] at h2
      have h2 : l.getD i default = n := by simpa using h2
      rw [hins, if_pos ⟨hlt, h2⟩]; exact Wk.refl _
    · have h2 : ¬ (i < l.length ∧ l.getD i default = n) := fun hc => by
        rw [decide_eq_true (show (i : Int) < (l.length : Int) by omega), hc.2] at h2
        simp at h2
      rw [hins, if_neg h2]
      refine ⟨⟨by omega, by omega⟩, by unfold roomM; omega, ⟨by omega, by omega, by omega⟩, by unfold roomM; omega, ⟨upd_same _ _ _, by unfold roomM; omega⟩, ⟨upd_same _ _ _, by unfold roomM; omega⟩, wkIns hi⟩
end Go.Proofs.Ytpcbjkjgjoemaaa.S1
/- Seat 2: the library's sort, at sets of times. -/
namespace Go.Proofs
open Go.Shelf
def Try.sv6_ren : Go.Shelf.Ren := ⟨fun | 6 => 27 | 10 => 33 | 11 => 34 | 12 => 35 | 13 => 36 | 14 => 37 | 24 => 50 | 25 => 51 | 26 => 52 | 27 => 53 | 28 => 54 | 29 => 55 | 30 => 56 | 31 => 57 | 32 => 58 | 33 => 59 | 34 => 62 | 35 => 63 | 36 => 64 | 37 => 65 | 38 => 66 | 39 => 67 | n => n, fun | 20 => 20 | 26 => 56 | 35 => 90 | 0 => 0 | 37 => 92 | 3 => 3 | 41 => 95 | 44 => 98 | 49 => 105 | 51 => 107 | 4 => 4 | 54 => 110 | 53 => 109 | 58 => 114 | 5 => 5 | 9 => 9 | 60 => 119 | 64 => 123 | 66 => 125 | 67 => 126 | 17 => 17 | 32 => 87 | 33 => 88 | 82 => 142 | 12 => 12 | 75 => 135 | 76 => 136 | 77 => 137 | 78 => 138 | 79 => 139 | 80 => 140 | n => n, fun | n => n⟩
theorem Try.sv6 : Go.Proofs.LaysGg.n6 Try.prog Try.sv6_ren := {
  mixed := by kernel_rfl
  f6 := Try.func27.trans (congrArg some (by kernel_rfl))
  f10 := Try.func33.trans (congrArg some (by kernel_rfl))
  f11 := Try.func34.trans (congrArg some (by kernel_rfl))
  f12 := Try.func35.trans (congrArg some (by kernel_rfl))
  f13 := Try.func36.trans (congrArg some (by kernel_rfl))
  f14 := Try.func37.trans (congrArg some (by kernel_rfl))
  f24 := Try.func50.trans (congrArg some (by kernel_rfl))
  f25 := Try.func51.trans (congrArg some (by kernel_rfl))
  f26 := Try.func52.trans (congrArg some (by kernel_rfl))
  f27 := Try.func53.trans (congrArg some (by kernel_rfl))
  f28 := Try.func54.trans (congrArg some (by kernel_rfl))
  f29 := Try.func55.trans (congrArg some (by kernel_rfl))
  f30 := Try.func56.trans (congrArg some (by kernel_rfl))
  f31 := Try.func57.trans (congrArg some (by kernel_rfl))
  f32 := Try.func58.trans (congrArg some (by kernel_rfl))
  f33 := Try.func59.trans (congrArg some (by kernel_rfl))
  f34 := Try.func62.trans (congrArg some (by kernel_rfl))
  f35 := Try.func63.trans (congrArg some (by kernel_rfl))
  f36 := Try.func64.trans (congrArg some (by kernel_rfl))
  f37 := Try.func65.trans (congrArg some (by kernel_rfl))
  f38 := Try.func66.trans (congrArg some (by kernel_rfl))
  f39 := Try.func67.trans (congrArg some (by kernel_rfl))
  t0 := Try.underlying0
  a0 := Try.isAgg0
  z0 := Try.sizeOf0
  v0 := Try.zeroValue0
  i0 := by kernel_rfl
  t3 := Try.underlying3
  a3 := Try.isAgg3
  z3 := Try.sizeOf3
  v3 := Try.zeroValue3
  i3 := by kernel_rfl
  t4 := Try.underlying4
  a4 := Try.isAgg4
  z4 := Try.sizeOf4
  v4 := Try.zeroValue4
  i4 := by kernel_rfl
  t5 := Try.underlying5
  a5 := Try.isAgg5
  z5 := Try.sizeOf5
  v5 := Try.zeroValue5
  i5 := by kernel_rfl
  t9 := Try.underlying9
  a9 := Try.isAgg9
  z9 := Try.sizeOf9
  v9 := Try.zeroValue9
  i9 := by kernel_rfl
  t12 := Try.underlying12
  a12 := Try.isAgg12
  z12 := Try.sizeOf12
  v12 := Try.zeroValue12
  i12 := by kernel_rfl
  t17 := Try.underlying17
  a17 := Try.isAgg17
  z17 := Try.sizeOf17
  v17 := Try.zeroValue17
  i17 := by kernel_rfl
  t20 := Try.underlying20
  a20 := Try.isAgg20
  z20 := Try.sizeOf20
  v20 := Try.zeroValue20
  i20 := by kernel_rfl
  t26 := Try.underlying56
  a26 := Try.isAgg56
  z26 := Try.sizeOf56
  v26 := Try.zeroValue56
  i26 := by kernel_rfl
  t32 := Try.underlying87
  a32 := Try.isAgg87
  z32 := Try.sizeOf87
  v32 := Try.zeroValue87
  i32 := by kernel_rfl
  t33 := Try.underlying88
  a33 := Try.isAgg88
  z33 := Try.sizeOf88
  v33 := Try.zeroValue88
  i33 := by kernel_rfl
  t35 := Try.underlying90
  a35 := Try.isAgg90
  z35 := Try.sizeOf90
  v35 := Try.zeroValue90
  i35 := by kernel_rfl
  t37 := Try.underlying92
  a37 := Try.isAgg92
  z37 := Try.sizeOf92
  v37 := Try.zeroValue92
  i37 := by kernel_rfl
  t41 := Try.underlying95
  a41 := Try.isAgg95
  z41 := Try.sizeOf95
  v41 := Try.zeroValue95
  i41 := by kernel_rfl
  t44 := Try.underlying98
  a44 := Try.isAgg98
  z44 := Try.sizeOf98
  v44 := Try.zeroValue98
  i44 := by kernel_rfl
  t49 := Try.underlying105
  a49 := Try.isAgg105
  z49 := Try.sizeOf105
  v49 := Try.zeroValue105
  i49 := by kernel_rfl
  t51 := Try.underlying107
  a51 := Try.isAgg107
  z51 := Try.sizeOf107
  v51 := Try.zeroValue107
  i51 := by kernel_rfl
  t53 := Try.underlying109
  a53 := Try.isAgg109
  z53 := Try.sizeOf109
  v53 := Try.zeroValue109
  i53 := by kernel_rfl
  t54 := Try.underlying110
  a54 := Try.isAgg110
  z54 := Try.sizeOf110
  v54 := Try.zeroValue110
  i54 := by kernel_rfl
  t58 := Try.underlying114
  a58 := Try.isAgg114
  z58 := Try.sizeOf114
  v58 := Try.zeroValue114
  i58 := by kernel_rfl
  t60 := Try.underlying119
  a60 := Try.isAgg119
  z60 := Try.sizeOf119
  v60 := Try.zeroValue119
  i60 := by kernel_rfl
  t64 := Try.underlying123
  a64 := Try.isAgg123
  z64 := Try.sizeOf123
  v64 := Try.zeroValue123
  i64 := by kernel_rfl
  t66 := Try.underlying125
  a66 := Try.isAgg125
  z66 := Try.sizeOf125
  v66 := Try.zeroValue125
  i66 := by kernel_rfl
  t67 := Try.underlying126
  a67 := Try.isAgg126
  z67 := Try.sizeOf126
  v67 := Try.zeroValue126
  i67 := by kernel_rfl
  t75 := Try.underlying135
  a75 := Try.isAgg135
  z75 := Try.sizeOf135
  v75 := Try.zeroValue135
  i75 := by kernel_rfl
  t76 := Try.underlying136
  a76 := Try.isAgg136
  z76 := Try.sizeOf136
  v76 := Try.zeroValue136
  i76 := by kernel_rfl
  t77 := Try.underlying137
  a77 := Try.isAgg137
  z77 := Try.sizeOf137
  v77 := Try.zeroValue137
  i77 := by kernel_rfl
  t78 := Try.underlying138
  a78 := Try.isAgg138
  z78 := Try.sizeOf138
  v78 := Try.zeroValue138
  i78 := by kernel_rfl
  t79 := Try.underlying139
  a79 := Try.isAgg139
  z79 := Try.sizeOf139
  v79 := Try.zeroValue139
  i79 := by kernel_rfl
  t80 := Try.underlying140
  a80 := Try.isAgg140
  z80 := Try.sizeOf140
  v80 := Try.zeroValue140
  i80 := by kernel_rfl
  t82 := Try.underlying142
  a82 := Try.isAgg142
  z82 := Try.sizeOf142
  v82 := Try.zeroValue142
  i82 := by kernel_rfl }
noncomputable def Try.svT : TypeInfo := (Try.prog.info? 23).get (by kernel_rfl)
noncomputable def Try.svE : TypeInfo := (Try.prog.info? 62).get (by kernel_rfl)
theorem Try.svK (n : Nat) (h2 : 2 ≤ n) : Lib.swapperK n Try.svE 25 = 9 := by
  have a : Try.svE.hasPointers = false := by kernel_rfl
  have b : Try.svE.bytes = 16 := by kernel_rfl
  have c : (n == 0) = false := by simp; omega
  have d : (n == 1) = false := by simp; omega
  simp [Lib.swapperK, a, b, c, d]
end Go.Proofs
namespace Go.Proofs.Ytpcbjkjgjoemaaa.S1
open Go Go.Ab Go.Proofs

def encI (x : Iv) : List Value := [.int .i64 x.frm, .int .i64 x.to]
def lessI (x y : Iv) : Bool := decide (x.frm < y.frm)
theorem swoI : Go.Sort.SWO lessI where
  irrefl x := by unfold lessI; simp
  trans x y z h1 h2 := by unfold lessI at *; simp at *; omega
  ntrans x y z h1 h2 := by unfold lessI at *; simp at *; omega
def srtI (es : List Iv) : List Iv := if es.length ≤ 1 then es else (Go.Sort.pdq lessI es.toArray 0 es.length (Go.Lib.bitLen es.length) true true).toList
theorem srtI_spec (es : List Iv) : (srtI es).Perm es ∧ (srtI es).Pairwise fun x y => x.frm ≤ y.frm := by
  unfold srtI
  split
  · rename_i h
    refine ⟨List.Perm.refl _, ?_⟩
    rcases es with _ | ⟨x, _ | ⟨y, r⟩⟩
    · exact List.Pairwise.nil
    · simp
    · simp at h
  have h := Go.Sort.pdq_sorts lessI swoI es.toArray 0 es.length (Go.Lib.bitLen es.length) true true (Nat.zero_le _) (by simp) (Or.inl rfl)
  obtain ⟨⟨h1, _, h2⟩, h3⟩ := h
  have hsz : (Go.Sort.pdq lessI es.toArray 0 es.length (Go.Lib.bitLen es.length) true true).size = es.length := by rw [h1]; simp
  generalize Go.Sort.pdq lessI es.toArray 0 es.length (Go.Lib.bitLen es.length) true true = A at *
  refine ⟨?_, ?_⟩
  · have e1 : A.extract 0 es.length = A := by rw [← hsz]; simp
    have e2 : es.toArray.extract 0 es.length = es.toArray := by simp
    rw [e1, e2] at h2
    exact h2
  · rw [List.pairwise_iff_getElem]
    intro i j hi hj hij
    have hi' : i < A.size := by simpa using hi
    have hj' : j < A.size := by simpa using hj
    have := h3 i j (Nat.zero_le _) hij (by omega)
    rw [getElem!_pos _ i hi', getElem!_pos _ j hj'] at this
    unfold lessI at this
    simp at this ⊢
    omega
theorem srtI_len (es : List Iv) : (srtI es).length = es.length := (srtI_spec es).1.length_eq

/-- The frame's own array, whose content the library wrote. -/
theorem Inv.vrow {g : G} {U : Nat → Prop} {bx : Nat → Option Row} {nl nt t n : Nat} {hw : Nat → Option Nat} {vw : Nat → Option (Nat → D)} {f f' : Nat → D} {w w' : World} {k : Tok} {b T : Nat} {vals' : Array Value}
    (i : Inv g U ⟨bx, nl, hw, nt, upd vw t (some f)⟩ w) (hn : hw t = some n) (hk : g.τ t = some k) (hcap : 0 < k.cap) (ha : k.a = some ⟨b, 0, none⟩)
    (hb' : w'.heap[b]? = some (.cells vals' T (0, 0))) (hsz : k.cap * k.sz ≤ vals'.size) (hf : ∀ i, i < k.n → ∃ u, R g (f' i) u ∧ (u.cells.size = k.sz ∧ ones (f' i) = true) ∧ ∀ j, j < k.sz → vals'[i * k.sz + j]? = u.cells[j]?)
    (hs : w.heap.size ≤ w'.heap.size) (ho : ∀ k, k ≠ b → k < w.heap.size → w'.heap[k]? = w.heap[k]?) : Inv g U ⟨bx, nl, hw, nt, upd vw t (some f')⟩ w' := by
  have hA : ∀ (t' : Nat) (k' : Tok), Actv k' (upd vw t (some f') t') ↔ Actv k' (upd vw t (some f) t') := fun t' k' => by
    by_cases h : t' = t
    · subst h; rw [upd_same, upd_same]; rfl
    · rw [upd_other _ _ h, upd_other _ _ h]
  obtain ⟨k0, e1, e2, e3⟩ := i.tok t n hn
  rw [hk] at e1; cases e1
  have hvt : (upd vw t (some f)) t = some f := upd_same _ _ _
  have hact : Actv k (upd vw t (some f) t) := by rw [hvt]; exact hcap
  have hTk := e3 hact
  obtain ⟨b0, f1, f2, T0, vals, f3, f4, f5, f6⟩ := id hTk
  rw [ha] at f1; cases f1
  have hsg : ∀ a v, g.σ a = some v → a.block ≠ b := fun a v e hb => by
    obtain ⟨_, h2⟩ := i.sub a v e
    obtain ⟨bl, off, sp⟩ := a
    simp only at h2 hb
    subst h2; subst hb
    have hl : lowOf k (upd vw t (some f) t) = 0 := by rw [hvt]; rfl
    have := f5 off (by show lowOf k (upd vw t (some f) t) * k.sz ≤ off; rw [hl]; omega)
    rw [this] at e; cases e
  have cellEq : ∀ {a : Addr}, a.block ≠ b → a.block < w.heap.size → w'.cell? a = w.cell? a := fun h1 h2 => by simp only [World.cell?, ho _ h1 h2]
  refine ⟨fun a v e => ?_, fun k hk => Nat.lt_of_lt_of_le (i.ub k hk) hs, fun l' k e => Nat.lt_of_lt_of_le (i.muLt l' k e) hs, fun l' r e => ?_, i.boxInj, fun t' m e => ?_, fun t' m k' bb l' e f1 f2 f3 f4 => i.tokBox t' m k' bb l' e f1 ((hA t' k').1 f2) f3 f4, fun t1 t2 n1 n2 k1 k2 bb a1 a2 a3 a4 a5 a6 a7 a8 => i.tokInj t1 t2 n1 n2 k1 k2 bb a1 a2 a3 a4 ((hA t1 k1).1 a5) ((hA t2 k2).1 a6) a7 a8, i.frL, i.frT, fun t' ht' => ?_⟩
  · obtain ⟨h1, h2⟩ := i.sub a v e
    exact ⟨(cellEq (hsg a v e) (i.cellLt e)).trans h1, h2⟩
  · obtain ⟨b1, g1, g2, g4, g5⟩ := i.box l' r e
    have hne : b1 ≠ b := fun h => by subst h; exact i.tokBox t n k _ l' hn hk hact ha (by show bx l' ≠ none; have e : bx l' = some r := e; rw [e]; simp) g1
    exact ⟨b1, g1, g2.mono (G.le.refl g) (ho _ hne (i.muLt l' b1 g1)), g4, g5⟩
  · obtain ⟨k', g1, g2, g3⟩ := i.tok t' m e
    refine ⟨k', g1, g2, fun hk' => ?_⟩
    have hk'' := (hA t' k').1 hk'
    by_cases h : t' = t
    · subst h
      rw [hk] at g1; cases g1
      show TokAt g w' U k (upd vw t' (some f') t')
      rw [upd_same]
      refine ⟨b, ha, f2, T, vals', hb', hsz, fun j hj => f5 j (by show lowOf k (upd vw t' (some f) t') * k.sz ≤ j; rw [hvt]; exact hj), fun get hget => ?_⟩
      cases hget
      exact ⟨(f6 f hvt).1, hf⟩
    · have h5 := g3 hk''
      have h6 : (⟨bx, nl, hw, nt, upd vw t (some f')⟩ : Heap).vw t' = (⟨bx, nl, hw, nt, upd vw t (some f)⟩ : Heap).vw t' := by
        show upd vw t (some f') t' = upd vw t (some f) t'
        rw [upd_other _ _ h, upd_other _ _ h]
      rw [h6]
      refine h5.mono (G.le.refl g) fun bt c1 hlt => ⟨ho _ (fun hb => ?_) hlt, fun _ h => h⟩
      subst hb
      exact h (i.tokInj t' t m n k' k _ e hn g1 hk hk'' hact c1 ha)
  · have := i.frV t' ht'
    have hne : t' ≠ t := fun h => by
      subst h
      have : (upd vw t' (some f)) t' = none := this
      rw [upd_same] at this; cases this
    show upd vw t (some f') t' = none
    rw [upd_other _ _ hne]
    have h7 : upd vw t (some f) t' = none := this
    rw [upd_other _ _ hne] at h7
    exact h7
end Go.Proofs.Ytpcbjkjgjoemaaa.S1
/- Seat 2: the contract of the library's sort. -/
namespace Go.Proofs.Ytpcbjkjgjoemaaa.S1
open Go Go.Ab Go.Proofs

open Go.Shelf Go.RowKit Go.Lib Go.Sort in
set_option maxHeartbeats 2000000 in
/-- The closure. -/
theorem lessC (blk c Bs o size : Nat) (W : World) (G : Nat → Int) (hs : W.cell? ⟨Bs, o, none⟩ = some (.slice (some ⟨blk, 0, none⟩) size c))
    (hc : ∀ t, t < size → W.cell? ⟨blk, t * 2, none⟩ = some (.int .i64 (G t))) (i j : Nat) (hi : i < size) (hj : j < size) (_hsz : size < 4611686018427387904) :
    Calls Try.prog 28 #[.int .i64 i, .int .i64 j, .pointer (some ⟨Bs, o, none⟩)] W fun e w' => e = .returned (.bool (decide (G i < G j))) ∧ ∃ q, w' = W.drewN q := by
  have ci := hc i hi
  have cj := hc j hj
  go_enter Try.func28, Try.ntmps28
  go_wp2
  go_quiet (fail)
  go_wp2
  go_ret
  exact ⟨rfl, nq, rfl⟩
open Go.Shelf Go.RowKit Go.Lib Go.Sort in
theorem sortC (blk c Bs o : Nat) (d : Array Iv) (h2 : 2 ≤ d.size) (hsz : d.size < 4611686018427387904) (w : World) (hH : HoldsK encI 2 w blk 0 d) (hblk : blk < w.heap.size)
    (hBs : w.cell? ⟨Bs, o, none⟩ = some (.slice (some ⟨blk, 0, none⟩) d.size c)) (hB1 : Bs < w.heap.size) (hB2 : Bs ≠ blk) :
    Calls Try.prog 27 #[.iface 23 (.slice (some ⟨blk, 0, none⟩) d.size c), .func (.func 28) #[] #[.pointer (some ⟨Bs, o, none⟩)]] w fun e w' =>
      e = .returned (.tuple #[]) ∧ ∃ n os, w' = grow (putRowK encI 2 (Sort.ahead w n) blk 0 (pdq lessI d 0 d.size (Lib.bitLen d.size) true true)) os := by
  have hless : LessReadsK Try.prog 28 #[.pointer (some ⟨Bs, o, none⟩)] encI 2 lessI blk 0 d.size w := by
    intro m os dk hs i j hi hj
    have e : sortWorldK encI 2 w blk 0 m dk os = putRowK encI 2 (grow (Sort.ahead w m) os) blk 0 dk := by
      unfold sortWorldK; rw [putRowK_grow _ _ (Sort.ahead w m) _ blk 0 _ hblk]
    have hHg : HoldsK encI 2 (grow (Sort.ahead w m) os) blk 0 d := holdsK_grow _ _ _ _ blk 0 d hblk (holdsK_ahead _ _ _ _ _ _ _ hH)
    refine lessC blk c Bs o d.size _ (fun t => dk[t]!.frm) ?_ (fun t ht => ?_) i j hi hj (by omega)
    · rw [e, cell?_putRowK_other _ _ _ blk 0 dk _ (by exact hB2), cell?_grow _ _ _ (by exact hB1)]; exact hBs
    · rw [e]
      have := ((holdsK_putRowK _ _ _ blk 0 d dk hHg hs).cell (i := t) (c := 0) (by omega) (by omega)).1
      rw [show 0 + t * 2 + 0 = t * 2 by omega] at this
      exact this
  exact Any.sort_Slice_cells_eq Try.sv6 23 62 Try.svT Try.svE (by kernel_rfl) (by kernel_rfl) (by kernel_rfl) (by kernel_rfl) 25 (fun _ => by kernel_rfl) encI 2 (fun _ => rfl) (by kernel_rfl) (fun _ => by kernel_rfl)
    (fun x v hv => by simp [encI] at hv; rcases hv with rfl | rfl <;> rfl) lessI swoI 28 _
    (enters_of Try.func28 (by kernel_rfl) rfl) blk 0 c d h2 hsz 49 (by rw [Try.svK _ h2]; kernel_rfl) false
    (fun args W => run_callFunc_extern Try.func49 (by kernel_rfl) (by kernel_rfl) (by kernel_rfl) (e := Extern.ReflectliteSwapper.swap false) (by kernel_rfl) args W) w hless hH hblk
open Go.Shelf Go.RowKit Go.Lib Go.Sort in
theorem sortT (p : Option Addr) (n c : Nat) (h1 : n ≤ 1) (la lb : Array Value) (lf : Fn) (w : World) :
    Calls Try.prog 27 #[.iface 23 (.slice p n c), .func lf la lb] w fun e w' => e = .returned (.tuple #[]) ∧ ∃ os, w' = grow w os := by
  rcases (by omega : n = 0 ∨ n = 1) with rfl | rfl
  · exact Any.sort_Slice_tiny Try.sv6 23 62 Try.svT Try.svE (by kernel_rfl) (by kernel_rfl) (by kernel_rfl) (by kernel_rfl) 25 (fun _ => by kernel_rfl) p 0 c (by omega) 41 (by kernel_rfl) lf la lb w
  · exact Any.sort_Slice_tiny Try.sv6 23 62 Try.svT Try.svE (by kernel_rfl) (by kernel_rfl) (by kernel_rfl) (by kernel_rfl) 25 (fun _ => by kernel_rfl) p 1 c (by omega) 42 (by kernel_rfl) lf la lb w

open Go.Shelf Go.RowKit Go.Lib Go.Sort in
theorem sortWI {w : World} {b n : Nat} {d : Array Iv} {os : Array Obj} {vals : Array Value} {T : Nat} (hb : w.heap[b]? = some (.cells vals T (0, 0))) :
    (sortWorldK encI 2 w b 0 n d os).heap[b]? = some (.cells (putCells id 0 (flatK encI 2 d) vals) T (0, 0)) ∧ (∀ k, k ≠ b → k < w.heap.size → (sortWorldK encI 2 w b 0 n d os).heap[k]? = w.heap[k]?) ∧ w.heap.size ≤ (sortWorldK encI 2 w b 0 n d os).heap.size ∧
      (sortWorldK encI 2 w b 0 n d os).os = w.os ∧ (sortWorldK encI 2 w b 0 n d os).tape = w.tape ∧ (sortWorldK encI 2 w b 0 n d os).output = w.output := by
  have hlt : b < w.heap.size := lt_of_heap hb
  refine ⟨?_, fun k hk hkl => ?_, ?_, rfl, rfl, rfl⟩
  · simp only [sortWorldK, grow, putRowK, putRow, mapBlock, Sort.ahead]
    rw [Array.getElem?_append_left (by simpa using hlt), Array.getElem?_modify, if_pos rfl, hb]
    rfl
  · simp only [sortWorldK, grow, putRowK, putRow, mapBlock, Sort.ahead]
    rw [Array.getElem?_append_left (by simpa using hkl), Array.getElem?_modify, if_neg (fun h => hk h.symm)]
  · simp [sortWorldK, grow, putRowK, putRow, mapBlock, Sort.ahead]
def cellI (es : List Iv) (j : Nat) : Int := if j % 2 = 0 then (es.getD (j / 2) default).frm else (es.getD (j / 2) default).to
theorem getD_list' {es : List Iv} {i : Nat} (h : i < es.length) : es.getD i default = es[i] := by simp [List.getD, h]
theorem cellI_v (es : List Iv) (j : Nat) (h : j < es.length * 2) : (Go.Sort.flatK encI 2 es.toArray)[j]! = .int .i64 (cellI es j) := by
  rw [Go.Sort.get_flatK _ _ _ _ (by simpa using h)]
  have hj : j / 2 < es.length := by omega
  have e : es.toArray[j / 2]! = es.getD (j / 2) default := by
    rw [getElem!_pos _ _ (by simpa using hj), getD_list' hj]; simp
  rw [e]
  unfold cellI
  rcases (by omega : j % 2 = 0 ∨ j % 2 = 1) with h | h <;> rw [h] <;> rfl
/-- What an interval's value is. -/
theorem R_iv {g : G} {x : Iv} {u : Value} (h : R g (Iv.d x) u) : u = .agg #[.int .i64 x.frm, .int .i64 x.to] := by
  simp only [Iv.d, R, Rs] at h
  obtain ⟨vs, rfl, _, _, rfl, rfl, _, _, rfl, rfl, rfl⟩ := h
  rfl
theorem iv_R (g : G) (x : Iv) : R g (Iv.d x) (.agg #[.int .i64 x.frm, .int .i64 x.to]) := by
  simp only [Iv.d, R, Rs]
  exact ⟨[.int .i64 x.frm, .int .i64 x.to], rfl, _, _, rfl, rfl, _, _, rfl, rfl, rfl⟩
theorem below_grow' (w : World) (os : Array Obj) : RowKit.Below w.heap.size w (Go.Sort.grow w os) :=
  ⟨rfl, rfl, rfl, by simp [Go.Sort.grow], fun k hk => Go.Sort.heap_grow_old w os hk⟩

open Go.Shelf Go.RowKit Go.Lib Go.Sort in
theorem e27 (es : List Iv) (hl : es.length ≤ 1000000) : Does PP 27 [.iface 23 (.vec 0 es.length 2), .clo 28 [.ep [.vec 0 es.length 2]]] (hVec es Iv.d) (.tup []) (hVec (srtI es) Iv.d) := by
  refine Does.of_calls ⟨Try.f27, by kernel_rfl, by kernel_rfl, by kernel_rfl⟩ fun g U w vs i hs => ?_
  simp only [Rs, R] at hs
  obtain ⟨_, _, rfl, ⟨u, rfl, _, a, cap, rfl, hcap, k, hk, hks, hkn, hka⟩, _, _, rfl, ⟨cvs, rfl, _, _, rfl, ⟨p, pvs, rfl, hp, ⟨_, _, rfl, ⟨_, a2, cap2, rfl, hcap2, k2, hk2, hks2, hkn2, hka2⟩, rfl⟩, hσ⟩, rfl⟩, rfl⟩ := hs
  have hhw : (hVec es Iv.d).hw 0 = some es.length := rfl
  obtain ⟨k3, e1, e2, e3⟩ := i.tok 0 es.length hhw
  rw [hk] at e1 hk2
  cases e1; cases hk2
  obtain ⟨rfl, rfl⟩ := hka e2.symm
  obtain ⟨rfl, rfl⟩ := hka2 e2.symm
  by_cases h1 : es.length ≤ 1
  · refine (sortT k.a es.length k.cap h1 #[] _ _ w).mono fun e w' ⟨he, os, hw'⟩ => ?_
    subst hw'
    have x : Ext g w g (grow w os) := ⟨G.le.refl g, rfl, rfl, fun _ _ e => .inl e, fun a v e => ⟨(cell?_grow w os a (i.cellLt e)).trans (i.sub a v e).1, (i.sub a v e).2⟩, below_grow' w os⟩
    have hse : srtI es = es := if_pos h1
    rw [hse]
    exact ⟨.tuple #[], g, he, by simp [R, Rs], i.ext x, Grow.refl U g, x.kept i.ub⟩
  have h2 : 2 ≤ es.length := by omega
  have hc0 : 0 < k.cap := by omega
  have hvw : (hVec es Iv.d).vw 0 = some (cv es Iv.d) := rfl
  have hTk := e3 (by rw [hvw]; exact hc0)
  rw [hvw] at hTk
  obtain ⟨b, f1, f2, T, vals, f3, f4, f5, f6⟩ := hTk
  obtain ⟨f7, f8⟩ := f6 _ rfl
  rw [f1]
  rw [hks] at f4 f8
  rw [e2] at f7 f8
  have hlt : b < w.heap.size := lt_of_heap f3
  obtain ⟨Bs, o, sp⟩ := p
  simp only at hp hσ
  subst hp
  have hσ0 := hσ 0 (by simp)
  simp only [Nat.add_zero, List.getElem?_cons_zero] at hσ0
  have hB := (i.sub _ _ hσ0).1
  have hB1 : Bs < w.heap.size := i.cellLt hσ0
  have hB2 : Bs ≠ b := fun h => by
    subst h
    have := f5 o (Nat.le_trans (by show 0 * k.sz ≤ 0; omega) (Nat.zero_le _))
    rw [this] at hσ0; cases hσ0
  have hH : HoldsK encI 2 w b 0 es.toArray := by
    intro j hj
    have hj' : j < es.length * 2 := by simpa using hj
    obtain ⟨u, h3, h4, h5⟩ := f8 (j / 2) (by omega)
    have hu := R_iv h3
    subst hu
    have h6 := h5 (j % 2) (by omega)
    rw [show j / 2 * 2 + j % 2 = j by omega] at h6
    have hv : vals[j]? = some (.int .i64 (cellI es j)) := by
      rw [h6]
      unfold cellI
      rcases (by omega : j % 2 = 0 ∨ j % 2 = 1) with h | h <;> rw [h] <;> rfl
    rw [cellI_v es j hj']
    simp only [World.cell?, World.frozen?, f3, Nat.zero_add]
    exact ⟨hv, by simp⟩
  rw [f1] at hB
  refine (sortC b k.cap Bs o es.toArray (by simpa using h2) (by simp; omega) w hH hlt (by simpa using hB) hB1 hB2).mono fun e w' ⟨he, n, os, hw'⟩ => ?_
  subst hw'
  have hsz : es.toArray.size = es.length := by simp
  rw [hsz]
  obtain ⟨g1, g2, g3, g4, g5, g6⟩ := sortWI (n := n) (d := pdq lessI es.toArray 0 es.length (Lib.bitLen es.length) true true) (os := os) f3
  have hd : pdq lessI es.toArray 0 es.length (Lib.bitLen es.length) true true = (srtI es).toArray := by simp [srtI, h1]
  rw [hd] at g1 g2 g3 g4 g5 g6 ⊢
  have hlen := srtI_len es
  refine ⟨.tuple #[], g, he, by simp [R, Rs], ?_, Grow.refl U g, ⟨g4, g5, g6, g3, fun k hk => g2 k (fun h => f2 (h ▸ hk)) (i.ub k hk), fun k hk => ?_⟩⟩
  · have hH2 : hVec (srtI es) Iv.d = ⟨fun _ => none, 0, upd (fun _ => none) 0 (some es.length), 1, upd (fun _ => none) 0 (some (cv (srtI es) Iv.d))⟩ := by
      unfold hVec; rw [hlen]
    rw [hH2]
    refine Inv.vrow (k := k) (b := b) i hhw hk hc0 f1 g1 (by rw [hks]; simp [putCells]; exact f4) (fun q hq => ?_) g3 g2
    rw [e2] at hq
    refine ⟨_, iv_R g _, ⟨by rw [hks]; rfl, rfl⟩, fun j hj => ?_⟩
    rw [hks] at hj ⊢
    have hq2 : q * 2 + j < (srtI es).length * 2 := by omega
    have hcell := cellI_v (srtI es) (q * 2 + j) hq2
    have hvs : q * 2 + j < vals.size := by omega
    have hget : (putCells id 0 (flatK encI 2 (srtI es).toArray) vals)[q * 2 + j]? = some (.int .i64 (cellI (srtI es) (q * 2 + j))) := by
      rw [← hcell]
      simp [putCells, Array.getElem?_eq_getElem hvs, hq2]
    rw [hget]
    unfold cellI
    rw [show (q * 2 + j) / 2 = q by omega, show (q * 2 + j) % 2 = j by omega]
    rcases (by omega : j = 0 ∨ j = 1) with rfl | rfl <;> rfl
  · by_cases hkb : k = b
    · subst hkb
      rw [f3] at hk; cases hk
    · exact (g2 k hkb (lt_of_heap hk)).trans hk
end Go.Proofs.Ytpcbjkjgjoemaaa.S1
/- Seat 2: clips of sets. -/
namespace Go.Proofs.Ytpcbjkjgjoemaaa.S1
open Go Go.Ab Go.Proofs
def clip1I (f t : Int) (x : Iv) : Option Iv :=
  if (if f > x.frm then f else x.frm) ≤ (if t < x.to then t else x.to) then some ⟨if f > x.frm then f else x.frm, if t < x.to then t else x.to⟩ else none
def lastI' (out : List Iv) : Iv := out.getD (out.length - 1) default
def mrg (out : List Iv) (x : Iv) : List Iv :=
  if out ≠ [] ∧ x.frm ≤ addI .i64 (lastI' out).to 1 then out.set (out.length - 1) ⟨(lastI' out).frm, if x.to > (lastI' out).to then x.to else (lastI' out).to⟩ else out ++ [x]
def loT (f : Int) : Int := if 0 > f then 0 else f
def hiT (t : Int) : Int := if 1099511627776 < t then 1099511627776 else t
def iclip (l : List Iv) (f t : Int) : List Iv := (srtI (l.filterMap (clip1I (loT f) (hiT t)))).foldl mrg []
theorem mrg_ne (out : List Iv) (x : Iv) : mrg out x ≠ [] := by
  unfold mrg
  split
  · rename_i h
    intro e
    have := congrArg List.length e
    simp at this
    exact h.1 this
  · simp
theorem mrg_len (out : List Iv) (x : Iv) : (mrg out x).length ≤ out.length + 1 := by
  unfold mrg
  split <;> simp
theorem F22 : OkF 22 Try.f22 := ⟨by kernel_rfl, by kernel_rfl, by kernel_rfl⟩
def lv22 : List (List Nat × List Nat) := [([1, 1, 1, 0, 1, 0], [1, 2, 7, 18, 19, 20]), ([1, 1, 1, 1, 1, 1, 0, 1, 0], [10, 48, 49, 50])]
noncomputable def nics  : List Nat → Nat → Option Ans := scrAt []
theorem nic (l : List Iv) (f t : Int) (K : D → Heap → Prop) : runS (EnV [] [42, 87] Try.f22) (fh Try.f22 K) (nics ) lv22 200 [.code []] ⟨argSlots 0 [L l 2 Iv.d, I f, I t], .empty⟩ =
  (l.length ≤ lenM → At (EnV [] [42, 87] Try.f22) (fh Try.f22 K) [It.code [1, 1, 1, 0, 1, 0], It.blk 0, It.code [1, 1, 1, 1]] { sl := [(1, I (if 0 > f then 0 else f)), (2, I (if 1099511627776 < t then 1099511627776 else t)), (7, .own [.list 0 0 (fun _ => D.junk) .full]), (18, L l 2 Iv.d), (19, I (↑l.length : Int)), (20, I 0)], h := Heap.empty : St }) := by kernel_rfl
def Sic (l out : List Iv) (f t i : Int) : St := ⟨[(1, I f), (2, I t), (7, .own [.vec 0 out.length 2]), (18, L l 2 Iv.d), (19, I l.length), (20, I i)], hVec out Iv.d⟩
def lvIc : List (List Nat × List Nat) := [([1, 1, 1, 1], [7])]
noncomputable def nicas  : List Nat → Nat → Option Ans := scrAt []
theorem nica (l out : List Iv) (f t i : Int) (J : St → Prop) (K : D → Heap → Prop) : runS (EnV [] [42, 87] Try.f22) (fh Try.f22 K) (nicas ) lvIc 200 [.code [1, 1, 1, 0, 1, 0, 0], stp [1, 2, 7, 18, 19, 20] J, .blk 0, .code [1, 1, 1, 1]] (Sic l out f t i) =
  (bif decide (i < (↑l.length : Int)) then (0 ≤ i ∧ i < (↑l.length : Int)) ∧ True ∧ True ∧ True ∧ bif decide ((if f > (l.getD i.toNat default).frm then f else (l.getD i.toNat default).frm) ≤ if t < (l.getD i.toNat default).to then t else (l.getD i.toNat default).to) then (upd (fun _ => none) 0 (some out.length) 0 = some out.length ∧ (out.length + 1) * 16 ≤ roomM) ∧ True ∧ J { sl := [(1, I f), (2, I t), (7, .own [D.vec 0 (out.length + 1) 2]), (18, L l 2 Iv.d), (19, I (↑l.length : Int)), (20, I (addI .i64 i 1))], h := { box := fun _ => none, nl := 0, hw := upd (upd (fun _ => none) 0 (some out.length)) 0 (some (out.length + 1)), nt := 1, vw := upd (upd (fun _ => none) 0 (some (cv out Iv.d))) 0 (some (catG out.length (cv out Iv.d) (litG [.agg [I (if f > (l.getD i.toNat default).frm then f else (l.getD i.toNat default).frm), I (if t < (l.getD i.toNat default).to then t else (l.getD i.toNat default).to)]]))) : Heap } : St } else J { sl := [(1, I f), (2, I t), (7, .own [D.vec 0 out.length 2]), (18, L l 2 Iv.d), (19, I (↑l.length : Int)), (20, I (addI .i64 i 1))], h := { box := fun _ => none, nl := 0, hw := upd (fun _ => none) 0 (some out.length), nt := 1, vw := upd (fun _ => none) 0 (some (cv out Iv.d)) : Heap } : St } else At (EnV [] [42, 87] Try.f22) (fh Try.f22 K) [It.code [1, 1, 1, 1]] { sl := [(7, .own [D.vec 0 out.length 2])], h := { box := fun _ => none, nl := 0, hw := upd (fun _ => none) 0 (some out.length), nt := 1, vw := upd (fun _ => none) 0 (some (cv out Iv.d)) : Heap } : St }) := by kernel_rfl
def lvId : List (List Nat × List Nat) := [([1, 1, 1, 1, 1, 1, 0, 1, 0], [10, 48, 49, 50])]
noncomputable def nicbs (out : List Iv) : List Nat → Nat → Option Ans := scrAt [([1, 1, 1, 1, 0], 3, Ans.eff (.tup []) (hVec (srtI out) Iv.d))]
theorem nicb (out : List Iv) (K : D → Heap → Prop) : runS (EnV [] [42, 87] Try.f22) (fh Try.f22 K) (nicbs out) lvId 200 [.code [1, 1, 1, 1]] ⟨[(7, .ep [.vec 0 out.length 2])], hVec out Iv.d⟩ =
  (Does PP 27 [D.iface 23 (D.vec 0 out.length 2), D.clo 28 [D.ep [D.vec 0 out.length 2]]] { box := fun _ => none, nl := 0, hw := upd (fun _ => none) 0 (some out.length), nt := 1, vw := upd (fun _ => none) 0 (some (cv out Iv.d)) : Heap } (.tup []) (hVec (srtI out) Iv.d) ∧ (out.length ≤ lenM → At (EnV [] [42, 87] Try.f22) (fh Try.f22 K) [It.code [1, 1, 1, 1, 1, 1, 0, 1, 0], It.blk 2, It.code [1, 1, 1, 1, 1, 1, 1]] { sl := [(10, .list 0 0 (fun _ => D.junk) .full), (48, D.vec 0 out.length 2), (49, I (↑out.length : Int)), (50, I 0)], h := { box := fun _ => none, nl := 0, hw := upd (fun _ => none) 0 (some (srtI out).length), nt := 1, vw := upd (fun _ => none) 0 (some (cv (srtI out) Iv.d)) : Heap } : St })) := by kernel_rfl
def Sie (q out : List Iv) (i : Int) : St := ⟨[(10, .vec 1 out.length 2), (48, L q 2 Iv.d), (49, I q.length), (50, I i)], ⟨fun _ => none, 0, upd (fun _ => none) 1 (some out.length), 2, upd (fun _ => none) 1 (some (cv out Iv.d))⟩⟩
noncomputable def niccs  : List Nat → Nat → Option Ans := scrAt []
theorem nicc (q out : List Iv) (i : Int) (J : St → Prop) (K : D → Heap → Prop) : runS (EnV [] [42, 87] Try.f22) (fh Try.f22 K) (niccs ) nolv 200 [.code [1, 1, 1, 1, 1, 1, 0, 1, 0, 0], stp [10, 48, 49, 50] J, .blk 2, .code [1, 1, 1, 1, 1, 1, 1]] (Sie q out i) =
  (bif decide (i < (↑q.length : Int)) then
  (0 ≤ i ∧ i < (↑q.length : Int)) ∧
    True ∧
      (out.length ≤ lenM →
        (decide ((↑out.length : Int) > 0) = true → upd (fun _ => none) 1 (some out.length) 1 = some out.length ∧ 0 ≤ subI .i64 (↑out.length : Int) 1 ∧ subI .i64 (↑out.length : Int) 1 < (↑out.length : Int)) ∧
          (decide ((↑out.length : Int) > 0) = true → upd (fun _ => none) 1 (some out.length) 1 = some out.length) ∧
            bif bif decide ((↑out.length : Int) > 0) then decide ((q.getD i.toNat default).frm ≤ addI .i64 (out.getD (subI .i64 (↑out.length : Int) 1).toNat default).to 1) else false then (upd (fun _ => none) 1 (some out.length) 1 = some out.length ∧ 0 ≤ subI .i64 (↑out.length : Int) 1 ∧ subI .i64 (↑out.length : Int) 1 < (↑out.length : Int)) ∧ upd (fun _ => none) 1 (some out.length) 1 = some out.length ∧ (upd (fun _ => none) 1 (some out.length) 1 = some out.length ∧ 0 ≤ subI .i64 (↑out.length : Int) 1 ∧ subI .i64 (↑out.length : Int) 1 < (↑out.length : Int)) ∧ upd (fun _ => none) 1 (some out.length) 1 = some out.length ∧ J { sl := [(10, D.vec 1 out.length 2), (48, L q 2 Iv.d), (49, I (↑q.length : Int)), (50, I (addI .i64 i 1))], h := { box := fun _ => none, nl := 0, hw := upd (fun _ => none) 1 (some out.length), nt := 2, vw := upd (upd (fun _ => none) 1 (some (cv out Iv.d))) 1 (some (setG (cv out Iv.d) (subI .i64 (↑out.length : Int) 1).toNat (.agg [I (out.getD (subI .i64 (↑out.length : Int) 1).toNat default).frm, I (if (q.getD i.toNat default).to > (out.getD (subI .i64 (↑out.length : Int) 1).toNat default).to then (q.getD i.toNat default).to else (out.getD (subI .i64 (↑out.length : Int) 1).toNat default).to)]))) : Heap } : St } else (upd (fun _ => none) 1 (some out.length) 1 = some out.length ∧ (out.length + 1) * 16 ≤ roomM) ∧ J { sl := [(10, D.vec 1 (out.length + 1) 2), (48, L q 2 Iv.d), (49, I (↑q.length : Int)), (50, I (addI .i64 i 1))], h := { box := fun _ => none, nl := 0, hw := upd (upd (fun _ => none) 1 (some out.length)) 1 (some (out.length + 1)), nt := 2, vw := upd (upd (fun _ => none) 1 (some (cv out Iv.d))) 1 (some (catG out.length (cv out Iv.d) (litG [.agg [I (q.getD i.toNat default).frm, I (q.getD i.toNat default).to]]))) : Heap } : St })
 else K (D.vec 1 out.length 2) { box := fun _ => none, nl := 0, hw := upd (fun _ => none) 1 (some out.length), nt := 2, vw := upd (fun _ => none) 1 (some (cv out Iv.d)) : Heap }) := by kernel_rfl
theorem heap_c {hw0 : Nat → Option Nat} {vw0 : Nat → Option (Nat → D)} {n : Nat} {f : Nat → D} : HeapLe ⟨fun _ => none, 0, upd hw0 1 (some n), 2, upd vw0 1 (some f)⟩ ⟨fun _ => none, 0, upd (fun _ => none) 1 (some n), 2, upd (fun _ => none) 1 (some f)⟩ := by
  have h1 : ∀ (t k : Nat), upd (fun _ => (none : Option Nat)) 1 (some n) t = some k → t = 1 := fun t k e => by
    by_cases h : t = 1
    · exact h
    · rw [upd_other _ _ h] at e; cases e
  refine ⟨fun l row' e => (by cases e), Nat.le_refl _, fun t k e => ?_, Nat.le_refl _, fun t k e => ?_, fun t e => ?_⟩
  · have := h1 t k e
    subst this
    exact e
  · have := h1 t k e
    subst this
    exact VwLe.refl _ _
  · show upd (fun _ => none) 1 (some f) t = none
    by_cases h : t = 1
    · subst h
      have e : upd vw0 1 (some f) 1 = none := e
      rw [upd_same] at e; cases e
    · rw [upd_other _ _ h]
theorem c22 (l : List Iv) (f t : Int) (hb : l.length ≤ 100000) : Pure PP 22 [L l 2 Iv.d, I f, I t] (L (iclip l f t) 2 Iv.d) := by
  refine pr F22 (by kernel_rfl) (of_eq (nic l f t _) fun hl => ?_)
  refine at_le (st' := Sic l ((l.take 0).filterMap (clip1I (loT f) (hiT t))) (loT f) (hiT t) (0 : Nat)) ?_ ((StLe.idleOwn _ (some (cv ([] : List Iv) Iv.d)) 7 0 2 (cv ([] : List Iv) Iv.d) rfl rfl).cast (by kernel_rfl))
  have hi : iclip l f t = (srtI ((l.take l.length).filterMap (clip1I (loT f) (hiT t)))).foldl mrg [] := by rw [List.take_length]; rfl
  rw [hi]
  generalize loT f = f
  generalize hiT t = t
  refine lp (fn := Try.f22) (fun i : Nat => i ≤ l.length) (fun i => Sic l ((l.take i).filterMap (clip1I f t)) f t i) (fun i => l.length - i) [1, 2, 7, 18, 19, 20] (by kernel_rfl) (fun i hi => of_eq (nica l _ f t i _ _) ?_) 0 (Nat.zero_le _)
  refine cond_intro (fun hlt => ?_) fun hge => ?_
  · have hlt := ltI hlt
    have hol : ((l.take i).filterMap (clip1I f t)).length ≤ i := by
      have h1 : ((l.take i).filterMap (clip1I f t)).length ≤ (l.take i).length := List.length_filterMap_le _ _
      have h2 : (l.take i).length ≤ i := by simp; omega
      omega
    rw [add1 hlt hl, Int.toNat_natCast]
    have hst : (l.take (i + 1)).filterMap (clip1I f t) = (l.take i).filterMap (clip1I f t) ++ (clip1I f t (l.getD i default)).toList := by
      rw [take_snoc _ _ hlt, List.filterMap_append]
      generalize l.getD i default = x
      cases hc1 : clip1I f t x <;> simp [hc1]
    generalize (l.take i).filterMap (clip1I f t) = out at hol hst ⊢
    refine ⟨⟨by omega, by omega⟩, trivial, trivial, trivial, cond_intro (fun h => ?_) fun h => ?_⟩
    · have h := of_decide_eq_true h
      rw [clip1I, if_pos h] at hst
      refine ⟨⟨upd_same _ _ _, by unfold roomM; omega⟩, trivial, Nx.of (i + 1) (by omega) (by omega) ?_⟩
      rw [hst]
      simp only [Sic, hVec, Option.toList_some, List.length_append, List.length_singleton]
      rw [upd_upd, upd_upd]
      exact StLe.vec (t := 0) (n := out.length + 1) (upd_same _ _ _) fun j hj => cat_cv (enc := Iv.d) (x := (⟨_, _⟩ : Iv)) rfl hj
    · have h := of_decide_eq_false h
      rw [clip1I, if_neg h, Option.toList_none, List.append_nil] at hst
      refine Nx.of (i + 1) (by omega) (by omega) ?_
      rw [hst]; exact StLe.refl _ _
  · rw [List.take_of_length_le (geI hge), List.take_length]
    have hpl : (l.filterMap (clip1I f t)).length ≤ l.length := List.length_filterMap_le _ _
    generalize l.filterMap (clip1I f t) = out at hpl
    refine at_le (st' := ⟨[(7, .ep [.vec 0 out.length 2])], hVec out Iv.d⟩) ?_ ((StLe.layOwn 7 rfl (by kernel_rfl)).cast (by kernel_rfl))
    refine runS_sound hmix _ _ _ (of_eq (nicb out _) ⟨e27 out (by omega), fun _ => ?_⟩)
    have hsl := srtI_len out
    rw [← hsl]
    generalize srtI out = q at hsl
    refine at_le (st' := ⟨[(10, .vec 1 0 2), (48, L q 2 Iv.d), (49, I q.length), (50, I 0)], ⟨fun _ => none, 0, upd (upd (fun _ => none) 0 (some q.length)) 1 (some 0), 2, upd (upd (upd (fun _ => none) 0 (some (cv q Iv.d))) 0 none) 1 (some (cv ([] : List Iv) Iv.d))⟩⟩) ?_ (((StLe.frz 0 (n := q.length) (f := cv q Iv.d) rfl rfl (by simp [frzSlOk, frzOk])).trans ((StLe.set 48 (d' := L q 2 Iv.d) rfl Wk.tokL rfl rfl).trans (StLe.idle _ (some (cv ([] : List Iv) Iv.d)) 10 2 (cv ([] : List Iv) Iv.d) rfl))).cast rfl)
    refine at_le (st' := Sie q [] (0 : Nat)) ?_ (StLe.heapLe heap_c)
    refine lp (fn := Try.f22) (fun z : Nat × List Iv => z.1 ≤ q.length ∧ z.2.length ≤ z.1 ∧ q.foldl mrg [] = (q.drop z.1).foldl mrg z.2) (fun z => Sie q z.2 z.1) (fun z => q.length - z.1) [10, 48, 49, 50] (by kernel_rfl) (fun z hz => of_eq (nicc q z.2 z.1 _ _) ?_) (0, []) ⟨Nat.zero_le _, Nat.le_refl _, rfl⟩
    obtain ⟨i, out2⟩ := z
    obtain ⟨_, hol, he⟩ := hz
    simp only at hol he ⊢
    have hql : q.length ≤ lenM := by unfold lenM; omega
    refine cond_intro (fun hlt => ?_) fun hge => ?_
    · have hlt := ltI hlt
      rw [add1 hlt hql, Int.toNat_natCast]
      rw [drop_cons _ _ hlt, List.foldl_cons] at he
      generalize q.getD i default = x at he ⊢
      have hpos : decide ((out2.length : Int) > 0) = true → 0 < out2.length := fun h => by simpa using h
      refine ⟨⟨by omega, by omega⟩, trivial, fun hlo => ⟨fun h => ⟨upd_same _ _ _, by rw [lastI (hpos h) hlo]; have := hpos h; omega⟩, fun _ => upd_same _ _ _, ?_⟩⟩
      have hc : (bif decide ((out2.length : Int) > 0) then decide (x.frm ≤ addI .i64 (out2.getD (subI .i64 (out2.length : Int) 1).toNat default).to 1) else false) = decide (out2 ≠ [] ∧ x.frm ≤ addI .i64 (lastI' out2).to 1) := by
        cases hd : decide ((out2.length : Int) > 0) with
        | false =>
          have : ¬ (out2.length : Int) > 0 := of_decide_eq_false hd
          have : out2 = [] := List.length_eq_zero_iff.1 (by omega)
          subst this; rfl
        | true =>
          have h0 := hpos hd
          rw [lastI h0 hlo, Int.toNat_natCast]
          have : out2 ≠ [] := List.length_pos_iff.1 h0
          rw [Bool.eq_iff_iff]; simp [this, lastI']
      rw [hc]
      refine cond_intro (fun h2 => ?_) fun h2 => ?_
      · have h2 := of_decide_eq_true h2
        have h0 : 0 < out2.length := List.length_pos_iff.2 h2.1
        rw [lastI h0 hlo, Int.toNat_natCast]
        rw [mrg, if_pos h2] at he
        have hin : (0 : Int) ≤ ((out2.length - 1 : Nat) : Int) ∧ ((out2.length - 1 : Nat) : Int) < (out2.length : Int) := ⟨by omega, by omega⟩
        refine ⟨⟨upd_same _ _ _, hin⟩, upd_same _ _ _, ⟨upd_same _ _ _, hin⟩, upd_same _ _ _, Nx.of (i + 1, out2.set (out2.length - 1) ⟨(lastI' out2).frm, if x.to > (lastI' out2).to then x.to else (lastI' out2).to⟩) ⟨hlt, by simp only [List.length_set]; omega, he⟩ (by simp only; omega) ?_⟩
        simp only [Sie, List.length_set]
        rw [upd_upd]
        exact StLe.vec (t := 1) (n := out2.length) (upd_same _ _ _) fun j _ => cv_set (enc := Iv.d) (k := out2.length - 1) (x := (⟨(lastI' out2).frm, if x.to > (lastI' out2).to then x.to else (lastI' out2).to⟩ : Iv)) (by omega) j
      · have h2 := of_decide_eq_false h2
        rw [mrg, if_neg h2] at he
        refine ⟨⟨upd_same _ _ _, by unfold roomM; omega⟩, Nx.of (i + 1, out2 ++ [x]) ⟨hlt, by simp only [List.length_append, List.length_singleton]; omega, he⟩ (by simp only; omega) ?_⟩
        simp only [Sie, List.length_append, List.length_singleton]
        rw [upd_upd, upd_upd]
        exact StLe.vec (t := 1) (n := out2.length + 1) (upd_same _ _ _) fun j hj => cat_cv (enc := Iv.d) (x := x) rfl hj
    · rw [he, List.drop_of_length_le (geI hge)]
      exact ⟨_, (RetLe.frz (d := .vec 1 out2.length 2) (t := 1) (n := out2.length) (f := cv out2 Iv.d) rfl rfl (by simp [frzOk])).trans (RetLe.wk Wk.tokL rfl)⟩
end Go.Proofs.Ytpcbjkjgjoemaaa.S1
/- Seat 2: the reference's combinations. -/
namespace Go.Proofs.Ytpcbjkjgjoemaaa.S1
open Go Go.Ab Go.Proofs
def cutS (out : List Int) (x : Iv) : List Int := bif decide (bdL x ≤ bdR x) then insC (insC out (bdL x)) (addI .i64 (bdR x) 1) else out
def cutsR (a b : List Iv) : List Int := (a ++ b).foldl cutS [0, 1099511627777]
theorem insC_len : ∀ (l : List Int) (n : Int), l.length ≤ (insC l n).length ∧ (insC l n).length ≤ l.length + 1
  | [], _ => by simp [insC]
  | x :: r, n => by
    simp only [insC]
    split
    · have := insC_len r n
      simp only [List.length_cons]; omega
    · split <;> simp
theorem F38 : OkF 38 Try.f38 := ⟨by kernel_rfl, by kernel_rfl, by kernel_rfl⟩
def lv38 : List (List Nat × List Nat) := [([1, 1, 1, 0, 1, 0], [5, 6, 7])]
noncomputable def ncus  : List Nat → Nat → Option Ans := scrAt []
theorem ncu (a b : List Iv) (K : D → Prop) : runS (En Try.f38) (fi Try.f38 K) (ncus ) lv38 200 [.code []] ⟨argSlots 0 [L a 2 Iv.d, L b 2 Iv.d], .empty⟩ =
  ((0 + a.length) * 16 ≤ roomM ∧ (upd (fun _ => none) 0 (some (0 + a.length)) 0 = some (0 + a.length) ∧ (0 + a.length + b.length) * 16 ≤ roomM) ∧ At (En Try.f38) (fi Try.f38 K) [It.code [1, 1, 1, 0, 1, 0], It.blk 0, It.code [1, 1, 1, 1]] { sl := [(5, .list 2 1 (litG [I 0, I 1099511627777]) .full), (6, .list (0 + a.length + b.length) 2 (catG (0 + a.length) (catG 0 (litG []) fun i => (a.getD i default).d) fun i => (b.getD i default).d) (.tok 0 2)), (7, I 0)], h := { box := fun _ => none, nl := 0, hw := upd (upd (fun _ => none) 0 (some (0 + a.length))) 0 (some (0 + a.length + b.length)), nt := 1, vw := fun _ => none : Heap } : St }) := by kernel_rfl
def Scu (out : List Int) (l : List Iv) (i : Int) : St := ⟨[(5, L out 1 I'), (6, L l 2 Iv.d), (7, I i)], hR⟩
noncomputable def ncuas (out : List Int) (l : List Iv) (i : Int) : List Nat → Nat → Option Ans := scrAt [([1, 1, 1, 0, 1, 0, 0, 1, 0, 0, 0], 4, Ans.pure [(l.getD i.toNat default).d] (.tup [I (bdL (l.getD i.toNat default)), I (bdR (l.getD i.toNat default)), B (decide (bdL (l.getD i.toNat default) ≤ bdR (l.getD i.toNat default)))])), ([1, 1, 1, 0, 1, 0, 0, 1, 0, 0, 1, 1, 0], 2, Ans.pure [L out 1 I', I (bdL (l.getD i.toNat default))] (L (insC out (bdL (l.getD i.toNat default))) 1 I')), ([1, 1, 1, 0, 1, 0, 0, 1, 0, 0, 1, 1, 0], 5, Ans.pure [L (insC out (bdL (l.getD i.toNat default))) 1 I', I (addI .i64 (bdR (l.getD i.toNat default)) 1)] (L (insC (insC out (bdL (l.getD i.toNat default))) (addI .i64 (bdR (l.getD i.toNat default)) 1)) 1 I'))]
theorem ncua (out : List Int) (l : List Iv) (i : Int) (J : St → Prop) (K : D → Prop) : runS (En Try.f38) (fi Try.f38 K) (ncuas out l i) lv38 200 [.code [1, 1, 1, 0, 1, 0, 0], stp [5, 6, 7] J, .blk 0, .code [1, 1, 1, 1]] (Scu out l i) =
  (l.length ≤ lenM → bif decide (i < (↑l.length : Int)) then (0 ≤ i ∧ i < (↑l.length : Int)) ∧ PureW PP 60 [(l.getD i.toNat default).d] [(l.getD i.toNat default).d] (.tup [I (bdL (l.getD i.toNat default)), I (bdR (l.getD i.toNat default)), B (decide (bdL (l.getD i.toNat default) ≤ bdR (l.getD i.toNat default)))]) ∧ bif decide (bdL (l.getD i.toNat default) ≤ bdR (l.getD i.toNat default)) then PureW PP 61 [L out 1 I', I (bdL (l.getD i.toNat default))] [L out 1 I', I (bdL (l.getD i.toNat default))] (L (insC out (bdL (l.getD i.toNat default))) 1 I') ∧ PureW PP 61 [L (insC out (bdL (l.getD i.toNat default))) 1 I', I (addI .i64 (bdR (l.getD i.toNat default)) 1)] [L (insC out (bdL (l.getD i.toNat default))) 1 I', I (addI .i64 (bdR (l.getD i.toNat default)) 1)] (L (insC (insC out (bdL (l.getD i.toNat default))) (addI .i64 (bdR (l.getD i.toNat default)) 1)) 1 I') ∧ J { sl := [(5, L (insC (insC out (bdL (l.getD i.toNat default))) (addI .i64 (bdR (l.getD i.toNat default)) 1)) 1 I'), (6, L l 2 Iv.d), (7, I (addI .i64 i 1))], h := { box := fun _ => none, nl := 4, hw := fun _ => none, nt := 1, vw := fun _ => none : Heap } : St } else J { sl := [(5, L out 1 I'), (6, L l 2 Iv.d), (7, I (addI .i64 i 1))], h := { box := fun _ => none, nl := 4, hw := fun _ => none, nt := 1, vw := fun _ => none : Heap } : St } else K (L out 1 I')) := by kernel_rfl
theorem c38 (a b : List Iv) (hb : a.length + b.length ≤ 100) : Pure PP 38 [L a 2 Iv.d, L b 2 Iv.d] (L (cutsR a b) 1 I') := by
  refine pu F38 (by kernel_rfl) (of_eq (ncu a b _) ⟨by unfold roomM; omega, ⟨upd_same _ _ _, by unfold roomM; omega⟩, ?_⟩)
  rw [catG_nil, Nat.zero_add]
  refine at_le (st' := Scu [0, 1099511627777] (a ++ b) (0 : Nat)) ?_ (((StLe.set 5 (d' := L [0, 1099511627777] 1 I') rfl (Wk.litL rfl rfl) rfl rfl).trans ((StLe.set 6 (d' := L (a ++ b) 2 Iv.d) rfl Wk.appsL rfl rfl).trans (StLe.heapLe (heap_hR (Nat.zero_le _) (Nat.le_refl _))))).cast rfl)
  refine lp (fn := Try.f38) (fun z : Nat × List Int => z.1 ≤ (a ++ b).length ∧ z.2.length ≤ 2 + 2 * z.1 ∧ cutsR a b = ((a ++ b).drop z.1).foldl cutS z.2) (fun z => Scu z.2 (a ++ b) z.1) (fun z => (a ++ b).length - z.1) [5, 6, 7] (by kernel_rfl) (fun z hz => of_eq (ncua z.2 (a ++ b) z.1 _ _) fun hl => ?_) (0, [0, 1099511627777]) ⟨Nat.zero_le _, by decide, rfl⟩
  obtain ⟨i, out⟩ := z
  obtain ⟨_, hol, he⟩ := hz
  simp only at hol he ⊢
  have hlen : (a ++ b).length ≤ 100 := by rw [List.length_append]; exact hb
  generalize a ++ b = q at hl hlen he ⊢
  refine cond_intro (fun hlt => ?_) fun hge => ?_
  · have hlt := ltI hlt
    rw [add1 hlt hl, Int.toNat_natCast]
    rw [drop_cons _ _ hlt, List.foldl_cons] at he
    generalize q.getD i default = x at he ⊢
    have h1 := insC_len out (bdL x)
    have h2 := insC_len (insC out (bdL x)) (addI .i64 (bdR x) 1)
    refine ⟨⟨by omega, by omega⟩, PureW.mk (c60 x), cond_intro (fun h => ⟨PureW.mk (c61 _ _ (by omega)), PureW.mk (c61 _ _ (by omega)), Nx.mk (i + 1, insC (insC out (bdL x)) (addI .i64 (bdR x) 1)) ⟨hlt, by simp only; omega, ?_⟩ (by simp only; omega)⟩) fun h => Nx.mk (i + 1, out) ⟨hlt, by simp only; omega, ?_⟩ (by simp only; omega)⟩
    · rw [he]; simp only [cutS, h, cond_true]
    · rw [he]; simp only [cutS, h, cond_false]
  · rw [he, List.drop_of_length_le (geI hge)]
    exact Wk.refl _
theorem cutsR_len (a b : List Iv) : 2 ≤ (cutsR a b).length ∧ (cutsR a b).length ≤ 2 + 2 * (a ++ b).length := by
  unfold cutsR
  suffices h : ∀ (l : List Iv) (out : List Int), out.length ≤ (l.foldl cutS out).length ∧ (l.foldl cutS out).length ≤ out.length + 2 * l.length from h (a ++ b) [0, 1099511627777]
  intro l
  induction l with
  | nil => intro out; simp
  | cons x r ih =>
    intro out
    rw [List.foldl_cons]
    have := ih (cutS out x)
    have h3 : out.length ≤ (cutS out x).length ∧ (cutS out x).length ≤ out.length + 2 := by
      unfold cutS
      have h1 := insC_len out (bdL x)
      have h2 := insC_len (insC out (bdL x)) (addI .i64 (bdR x) 1)
      cases decide (bdL x ≤ bdR x) <;> simp only [cond_true, cond_false] <;> omega
    simp only [List.length_cons]
    omega
def okR (rule : Int) (x y : Bool) : Bool := bif rule == 2 then (bif x then !y else false) else bif rule == 1 then (bif x then y else false) else (bif x then true else y)
def pushI (out : List Iv) (f t : Int) : List Iv := if out ≠ [] ∧ (out.getD (out.length - 1) default).to = subI .i64 f 1 then out.set (out.length - 1) ⟨(out.getD (out.length - 1) default).frm, subI .i64 t 1⟩ else out ++ [⟨f, subI .i64 t 1⟩]
def cmbS (a b : List Iv) (rule : Int) : List Int → List Iv → List Iv
  | f :: t :: r, out => cmbS a b rule (t :: r) (bif okR rule (inI a f) (inI b f) then pushI out f t else out)
  | _, out => out
theorem F29 : OkF 29 Try.f29 := ⟨by kernel_rfl, by kernel_rfl, by kernel_rfl⟩
def lv29 : List (List Nat × List Nat) := [([1, 1, 1, 0, 1, 0], [0, 1, 2, 7, 8, 9])]
noncomputable def ncms (a : List Iv) (b : List Iv) : List Nat → Nat → Option Ans := scrAt [([1, 0], 2, Ans.pure [L a 2 Iv.d, L b 2 Iv.d] (L (cutsR a b) 1 I'))]
theorem ncm (a b : List Iv) (rule : Int) (K : D → Heap → Prop) : runS (EnV [] [97] Try.f29) (fh Try.f29 K) (ncms a b) lv29 200 [.code []] ⟨argSlots 0 [L a 2 Iv.d, L b 2 Iv.d, I rule], .empty⟩ =
  (PureW PP 38 [L a 2 Iv.d, L b 2 Iv.d] [L a 2 Iv.d, L b 2 Iv.d] (L (cutsR a b) 1 I') ∧ At (EnV [] [97] Try.f29) (fh Try.f29 K) [It.code [1, 1, 1, 0, 1, 0], It.blk 0, It.code [1, 1, 1, 1]] { sl := [(0, L a 2 Iv.d), (1, L b 2 Iv.d), (2, I rule), (7, L (cutsR a b) 1 I'), (8, .list 0 0 (fun _ => D.junk) .full), (9, I 0)], h := Heap.empty : St }) := by kernel_rfl
def Scm (a b : List Iv) (rule : Int) (c : List Int) (out : List Iv) (i : Int) : St := ⟨[(0, L a 2 Iv.d), (1, L b 2 Iv.d), (2, I rule), (7, L c 1 I'), (8, .vec 0 out.length 2), (9, I i)], hVec out Iv.d⟩
def lvCm : List (List Nat × List Nat) := [([1, 1, 1, 0, 1, 0, 0, 1, 0, 0, 1, 1, 1, 1], [0, 1, 2, 7, 8, 9, 12])]
noncomputable def ncmas (a : List Iv) (b : List Iv) (c : List Int) (i : Int) : List Nat → Nat → Option Ans := scrAt [([1, 1, 1, 0, 1, 0, 0, 1, 0, 0, 0], 5, Ans.pure [L a 2 Iv.d, I (c.getD i.toNat default)] (B (inI a (c.getD i.toNat default)))), ([1, 1, 1, 0, 1, 0, 0, 1, 0, 0, 0], 11, Ans.pure [L b 2 Iv.d, I (c.getD i.toNat default)] (B (inI b (c.getD i.toNat default))))]
theorem ncma (a b : List Iv) (rule : Int) (c : List Int) (out : List Iv) (i : Int) (J : St → Prop) (K : D → Heap → Prop) : runS (EnV [] [97] Try.f29) (fh Try.f29 K) (ncmas a b c i) lvCm 200 [.code [1, 1, 1, 0, 1, 0, 0], stp [0, 1, 2, 7, 8, 9] J, .blk 0, .code [1, 1, 1, 1]] (Scm a b rule c out i) =
  (c.length ≤ lenM →
  bif decide (addI .i64 i 1 < (↑c.length : Int)) then
    (0 ≤ i ∧ i < (↑c.length : Int)) ∧
      PureW PP 39 [L a 2 Iv.d, I (c.getD i.toNat default)] [L a 2 Iv.d, I (c.getD i.toNat default)] (B (inI a (c.getD i.toNat default))) ∧
        (0 ≤ i ∧ i < (↑c.length : Int)) ∧
          PureW PP 39 [L b 2 Iv.d, I (c.getD i.toNat default)] [L b 2 Iv.d, I (c.getD i.toNat default)] (B (inI b (c.getD i.toNat default))) ∧
            bif rule == 1 then bif rule == 2 then At (EnV [] [97] Try.f29) (fh Try.f29 K) [It.code [1, 1, 1, 0, 1, 0, 0, 1, 0, 0, 1, 1, 1, 1], It.blk 1, It.code [1, 1, 1, 0, 1, 0, 0, 1, 1], stp [0, 1, 2, 7, 8, 9] J, It.blk 0, It.code [1, 1, 1, 1]] { sl := [(0, L a 2 Iv.d), (1, L b 2 Iv.d), (2, I rule), (7, L c 1 I'), (8, D.vec 0 out.length 2), (9, I i), (12, B (bif inI a (c.getD i.toNat default) then !inI b (c.getD i.toNat default) else false))], h := { box := fun _ => none, nl := 0, hw := upd (fun _ => none) 0 (some out.length), nt := 1, vw := upd (fun _ => none) 0 (some (cv out Iv.d)) : Heap } : St } else At (EnV [] [97] Try.f29) (fh Try.f29 K) [It.code [1, 1, 1, 0, 1, 0, 0, 1, 0, 0, 1, 1, 1, 1], It.blk 1, It.code [1, 1, 1, 0, 1, 0, 0, 1, 1], stp [0, 1, 2, 7, 8, 9] J, It.blk 0, It.code [1, 1, 1, 1]] { sl := [(0, L a 2 Iv.d), (1, L b 2 Iv.d), (2, I rule), (7, L c 1 I'), (8, D.vec 0 out.length 2), (9, I i), (12, B (bif inI a (c.getD i.toNat default) then inI b (c.getD i.toNat default) else false))], h := { box := fun _ => none, nl := 0, hw := upd (fun _ => none) 0 (some out.length), nt := 1, vw := upd (fun _ => none) 0 (some (cv out Iv.d)) : Heap } : St }
            else bif rule == 2 then At (EnV [] [97] Try.f29) (fh Try.f29 K) [It.code [1, 1, 1, 0, 1, 0, 0, 1, 0, 0, 1, 1, 1, 1], It.blk 1, It.code [1, 1, 1, 0, 1, 0, 0, 1, 1], stp [0, 1, 2, 7, 8, 9] J, It.blk 0, It.code [1, 1, 1, 1]] { sl := [(0, L a 2 Iv.d), (1, L b 2 Iv.d), (2, I rule), (7, L c 1 I'), (8, D.vec 0 out.length 2), (9, I i), (12, B (bif inI a (c.getD i.toNat default) then !inI b (c.getD i.toNat default) else false))], h := { box := fun _ => none, nl := 0, hw := upd (fun _ => none) 0 (some out.length), nt := 1, vw := upd (fun _ => none) 0 (some (cv out Iv.d)) : Heap } : St } else At (EnV [] [97] Try.f29) (fh Try.f29 K) [It.code [1, 1, 1, 0, 1, 0, 0, 1, 0, 0, 1, 1, 1, 1], It.blk 1, It.code [1, 1, 1, 0, 1, 0, 0, 1, 1], stp [0, 1, 2, 7, 8, 9] J, It.blk 0, It.code [1, 1, 1, 1]] { sl := [(0, L a 2 Iv.d), (1, L b 2 Iv.d), (2, I rule), (7, L c 1 I'), (8, D.vec 0 out.length 2), (9, I i), (12, B (bif inI a (c.getD i.toNat default) then true else inI b (c.getD i.toNat default)))], h := { box := fun _ => none, nl := 0, hw := upd (fun _ => none) 0 (some out.length), nt := 1, vw := upd (fun _ => none) 0 (some (cv out Iv.d)) : Heap } : St }
  else K (D.vec 0 out.length 2) { box := fun _ => none, nl := 0, hw := upd (fun _ => none) 0 (some out.length), nt := 1, vw := upd (fun _ => none) 0 (some (cv out Iv.d)) : Heap }) := by kernel_rfl
noncomputable def ncmbs  : List Nat → Nat → Option Ans := scrAt []
theorem ncmb (a b : List Iv) (rule : Int) (c : List Int) (out : List Iv) (i : Int) (ok : Bool) (J : St → Prop) (K : D → Heap → Prop) : runS (EnV [] [97] Try.f29) (fh Try.f29 K) (ncmbs ) nolv 200 [.code [1, 1, 1, 0, 1, 0, 0, 1, 0, 0, 1, 1, 1, 1], .blk 1, .code [1, 1, 1, 0, 1, 0, 0, 1, 1], stp [0, 1, 2, 7, 8, 9] J, .blk 0, .code [1, 1, 1, 1]] ⟨[(0, L a 2 Iv.d), (1, L b 2 Iv.d), (2, I rule), (7, L c 1 I'), (8, .vec 0 out.length 2), (9, I i), (12, B ok)], hVec out Iv.d⟩ =
  (bif !ok then J { sl := [(0, L a 2 Iv.d), (1, L b 2 Iv.d), (2, I rule), (7, L c 1 I'), (8, D.vec 0 out.length 2), (9, I (addI .i64 i 1))], h := { box := fun _ => none, nl := 0, hw := upd (fun _ => none) 0 (some out.length), nt := 1, vw := upd (fun _ => none) 0 (some (cv out Iv.d)) : Heap } : St }
 else
  out.length ≤ lenM →
    (decide ((↑out.length : Int) > 0) = true → upd (fun _ => none) 0 (some out.length) 0 = some out.length ∧ 0 ≤ subI .i64 (↑out.length : Int) 1 ∧ subI .i64 (↑out.length : Int) 1 < (↑out.length : Int)) ∧
      (decide ((↑out.length : Int) > 0) = true → upd (fun _ => none) 0 (some out.length) 0 = some out.length) ∧
        (decide ((↑out.length : Int) > 0) = true → 0 ≤ i ∧ i < (↑c.length : Int)) ∧ bif bif decide ((↑out.length : Int) > 0) then (out.getD (subI .i64 (↑out.length : Int) 1).toNat default).to == subI .i64 (c.getD i.toNat default) 1 else false then (0 ≤ addI .i64 i 1 ∧ addI .i64 i 1 < (↑c.length : Int)) ∧ (upd (fun _ => none) 0 (some out.length) 0 = some out.length ∧ 0 ≤ subI .i64 (↑out.length : Int) 1 ∧ subI .i64 (↑out.length : Int) 1 < (↑out.length : Int)) ∧ upd (fun _ => none) 0 (some out.length) 0 = some out.length ∧ J { sl := [(0, L a 2 Iv.d), (1, L b 2 Iv.d), (2, I rule), (7, L c 1 I'), (8, D.vec 0 out.length 2), (9, I (addI .i64 i 1))], h := { box := fun _ => none, nl := 0, hw := upd (fun _ => none) 0 (some out.length), nt := 1, vw := upd (upd (fun _ => none) 0 (some (cv out Iv.d))) 0 (some (setG (cv out Iv.d) (subI .i64 (↑out.length : Int) 1).toNat (.agg [I (out.getD (subI .i64 (↑out.length : Int) 1).toNat default).frm, I (subI .i64 (c.getD (addI .i64 i 1).toNat default) 1)]))) : Heap } : St } else (0 ≤ i ∧ i < (↑c.length : Int)) ∧ (0 ≤ addI .i64 i 1 ∧ addI .i64 i 1 < (↑c.length : Int)) ∧ (upd (fun _ => none) 0 (some out.length) 0 = some out.length ∧ (out.length + 1) * 16 ≤ roomM) ∧ J { sl := [(0, L a 2 Iv.d), (1, L b 2 Iv.d), (2, I rule), (7, L c 1 I'), (8, D.vec 0 (out.length + 1) 2), (9, I (addI .i64 i 1))], h := { box := fun _ => none, nl := 0, hw := upd (upd (fun _ => none) 0 (some out.length)) 0 (some (out.length + 1)), nt := 1, vw := upd (upd (fun _ => none) 0 (some (cv out Iv.d))) 0 (some (catG out.length (cv out Iv.d) (litG [.agg [I (c.getD i.toNat default), I (subI .i64 (c.getD (addI .i64 i 1).toNat default) 1)]]))) : Heap } : St }) := by kernel_rfl
theorem c29 (a b : List Iv) (rule : Int) (hb : a.length + b.length ≤ 100) : Pure PP 29 [L a 2 Iv.d, L b 2 Iv.d, I rule] (L (cmbS a b rule (cutsR a b) []) 2 Iv.d) := by
  refine pr F29 (by kernel_rfl) (of_eq (ncm a b rule _) ⟨PureW.mk (c38 a b hb), ?_⟩)
  obtain ⟨c2, cl⟩ := cutsR_len a b
  have hlen : (a ++ b).length ≤ 100 := by rw [List.length_append]; exact hb
  generalize cutsR a b = c at c2 cl ⊢
  refine at_le (st' := Scm a b rule c [] (0 : Nat)) ?_ ((StLe.idle _ (some (cv ([] : List Iv) Iv.d)) 8 2 (cv ([] : List Iv) Iv.d) rfl).cast (by kernel_rfl))
  refine lp (fn := Try.f29) (fun z : Nat × List Iv => z.1 < c.length ∧ z.2.length ≤ z.1 ∧ cmbS a b rule c [] = cmbS a b rule (c.drop z.1) z.2) (fun z => Scm a b rule c z.2 z.1) (fun z => c.length - z.1) [0, 1, 2, 7, 8, 9] (by kernel_rfl) (fun z hz => of_eq (ncma a b rule c z.2 z.1 _ _) fun hl => ?_) (0, []) ⟨by omega, Nat.le_refl _, rfl⟩
  obtain ⟨i, out⟩ := z
  obtain ⟨hi, hol, he⟩ := hz
  simp only at hi hol he ⊢
  rw [add1 hi hl, Int.toNat_natCast]
  refine cond_intro (fun hlt => ?_) fun hge => ?_
  · have hlt := ltI hlt
    rw [drop_cons _ _ hi, drop_cons _ _ hlt] at he
    simp only [cmbS] at he
    rw [← drop_cons _ _ hlt] at he
    refine ⟨⟨by omega, by omega⟩, PureW.mk (c39 _ _), ⟨by omega, by omega⟩, PureW.mk (c39 _ _), ?_⟩
    generalize hf : c.getD i default = f at he ⊢
    generalize hok : okR rule (inI a f) (inI b f) = ok at he
    have hB : ∀ ok', ok' = ok → At (EnV [] [97] Try.f29) (fh Try.f29 fun d h => ∃ h', RetLe d h (L (cmbS a b rule c []) 2 Iv.d) h') [.code [1, 1, 1, 0, 1, 0, 0, 1, 0, 0, 1, 1, 1, 1], .blk 1, .code [1, 1, 1, 0, 1, 0, 0, 1, 1], stp [0, 1, 2, 7, 8, 9] (Nx Try.f29.ntmps (fun z : Nat × List Iv => z.1 < c.length ∧ z.2.length ≤ z.1 ∧ cmbS a b rule c [] = cmbS a b rule (c.drop z.1) z.2) (fun z => Scm a b rule c z.2 z.1) (fun z => c.length - z.1) (c.length - i)), .blk 0, .code [1, 1, 1, 1]]
        ⟨[(0, L a 2 Iv.d), (1, L b 2 Iv.d), (2, I rule), (7, L c 1 I'), (8, .vec 0 out.length 2), (9, I i), (12, B ok')], hVec out Iv.d⟩ := fun ok' e => by
      subst e
      refine runS_sound hmix _ _ _ (of_eq (ncmb a b rule c out i ok' _ _) ?_)
      rw [add1 hi hl, Int.toNat_natCast, Int.toNat_natCast, hf]
      refine cond_intro (fun h => ?_) fun h => fun hlo => ?_
      · have h : ok' = false := by simpa using h
        rw [h, cond_false] at he
        exact Nx.mk (i + 1, out) ⟨hlt, by simp only; omega, he⟩ (by simp only; omega)
      · have h : ok' = true := by simpa using h
        rw [h, cond_true] at he
        generalize c.getD (i + 1) default = t at he ⊢
        have hin : (0 : Int) ≤ (i : Int) ∧ (i : Int) < (c.length : Int) := ⟨by omega, by omega⟩
        have hin1 : (0 : Int) ≤ ((i + 1 : Nat) : Int) ∧ ((i + 1 : Nat) : Int) < (c.length : Int) := ⟨by omega, by omega⟩
        have hpos : decide ((out.length : Int) > 0) = true → 0 < out.length := fun h => by simpa using h
        refine ⟨fun h => ⟨upd_same _ _ _, by rw [lastI (hpos h) hlo]; have := hpos h; omega⟩, fun _ => upd_same _ _ _, fun _ => hin, ?_⟩
        have hc : (bif decide ((out.length : Int) > 0) then (out.getD (subI .i64 (out.length : Int) 1).toNat default).to == subI .i64 f 1 else false) = decide (out ≠ [] ∧ (out.getD (out.length - 1) default).to = subI .i64 f 1) := by
          cases hd : decide ((out.length : Int) > 0) with
          | false =>
            have : ¬ (out.length : Int) > 0 := of_decide_eq_false hd
            have : out = [] := List.length_eq_zero_iff.1 (by omega)
            subst this; rfl
          | true =>
            have h0 := hpos hd
            rw [lastI h0 hlo, Int.toNat_natCast]
            have : out ≠ [] := List.length_pos_iff.1 h0
            rw [Bool.eq_iff_iff]; simp [this]
        rw [hc]
        refine cond_intro (fun h2 => ?_) fun h2 => ?_
        · have h2 := of_decide_eq_true h2
          have h0 : 0 < out.length := List.length_pos_iff.2 h2.1
          rw [lastI h0 hlo, Int.toNat_natCast]
          rw [pushI, if_pos h2] at he
          refine ⟨hin1, ⟨upd_same _ _ _, by omega, by omega⟩, upd_same _ _ _, Nx.of (i + 1, out.set (out.length - 1) ⟨(out.getD (out.length - 1) default).frm, subI .i64 t 1⟩) ⟨hlt, by simp only [List.length_set]; omega, he⟩ (by simp only; omega) ?_⟩
          simp only [Scm, hVec, List.length_set]
          rw [upd_upd]
          exact StLe.vec (t := 0) (n := out.length) (upd_same _ _ _) fun j _ => cv_set (enc := Iv.d) (x := (⟨(out.getD (out.length - 1) default).frm, subI .i64 t 1⟩ : Iv)) (by omega) j
        · have h2 := of_decide_eq_false h2
          rw [pushI, if_neg h2] at he
          refine ⟨hin, hin1, ⟨upd_same _ _ _, by unfold roomM; omega⟩, Nx.of (i + 1, out ++ [⟨f, subI .i64 t 1⟩]) ⟨hlt, by simp only [List.length_append, List.length_singleton]; omega, he⟩ (by simp only; omega) ?_⟩
          simp only [Scm, hVec, List.length_append, List.length_singleton]
          rw [upd_upd, upd_upd]
          exact StLe.vec (t := 0) (n := out.length + 1) (upd_same _ _ _) fun j hj => cat_cv (enc := Iv.d) (x := (⟨f, subI .i64 t 1⟩ : Iv)) rfl hj
    unfold okR at hok
    refine cond_intro (fun h1 => cond_intro (fun h2 => hB _ ?_) fun h2 => hB _ ?_) fun h1 => cond_intro (fun h2 => hB _ ?_) fun h2 => hB _ ?_
    · rw [h2] at hok; exact hok
    · rw [h2, h1] at hok; exact hok
    · rw [h2] at hok; exact hok
    · rw [h2, h1] at hok; exact hok
  · have : c.length ≤ i + 1 := geI hge
    rw [drop_cons _ _ hi, List.drop_of_length_le this] at he
    rw [he]
    exact ⟨_, retVec rfl⟩
theorem F40 : OkF 40 Try.f40 := ⟨by kernel_rfl, by kernel_rfl, by kernel_rfl⟩
def lv40 : List (List Nat × List Nat) := []
noncomputable def nnms (a : List Iv) : List Nat → Nat → Option Ans := scrAt [([1, 0], 1, Ans.pure [L a 2 Iv.d, L [] 2 Iv.d, I 0] (L (cmbS a [] 0 (cutsR a []) []) 2 Iv.d))]
theorem nnm (a : List Iv) (K : D → Prop) : runS (En Try.f40) (fi Try.f40 K) (nnms a) lv40 200 [.code []] ⟨argSlots 0 [L a 2 Iv.d], .empty⟩ =
  (PureW PP 29 [L a 2 Iv.d, .list 0 0 (fun _ => D.junk) .full, I 0] [L a 2 Iv.d, L [] 2 Iv.d, I 0] (L (cmbS a [] 0 (cutsR a []) []) 2 Iv.d) ∧ K (L (cmbS a [] 0 (cutsR a []) []) 2 Iv.d)) := by kernel_rfl
def nrmR (a : List Iv) : List Iv := cmbS a [] 0 (cutsR a []) []
theorem c40 (a : List Iv) (hb : a.length ≤ 100) : Pure PP 40 [L a 2 Iv.d] (L (nrmR a) 2 Iv.d) :=
  pu F40 (by kernel_rfl) (of_eq (nnm a _) ⟨⟨Wks.cons (Wk.refl _) (Wks.cons Wk.nilL (Wks.refl _)), c29 a [] 0 (by simpa using hb)⟩, Wk.refl _⟩)
theorem F30 : OkF 30 Try.f30 := ⟨by kernel_rfl, by kernel_rfl, by kernel_rfl⟩
def lv30 : List (List Nat × List Nat) := []
noncomputable def nrgs (f : Int) (t : Int) : List Nat → Nat → Option Ans := scrAt [([1, 0], 4, Ans.pure [L [{ frm := f, to := t : Iv }] 2 Iv.d] (L (nrmR [{ frm := f, to := t : Iv }]) 2 Iv.d))]
theorem nrg (f t : Int) (K : D → Prop) : runS (En Try.f30) (fi Try.f30 K) (nrgs f t) lv30 200 [.code []] ⟨argSlots 0 [I f, I t], .empty⟩ =
  (PureW PP 40 [.list 1 2 (litG [.agg [I f, I t]]) .full] [L [{ frm := f, to := t : Iv }] 2 Iv.d] (L (nrmR [{ frm := f, to := t : Iv }]) 2 Iv.d) ∧ K (L (nrmR [{ frm := f, to := t : Iv }]) 2 Iv.d)) := by kernel_rfl
theorem c30 (f t : Int) : Pure PP 30 [I f, I t] (L (nrmR [⟨f, t⟩]) 2 Iv.d) :=
  pu F30 (by kernel_rfl) (of_eq (nrg f t _) ⟨⟨Wks.cons (Wk.litL rfl rfl) (Wks.refl _), c40 _ (by simp)⟩, Wk.refl _⟩)
theorem pushI_len (out : List Iv) (f t : Int) : (pushI out f t).length ≤ out.length + 1 := by
  unfold pushI
  split <;> simp
theorem cmbS_len (a b : List Iv) (rule : Int) : ∀ (c : List Int) (out : List Iv), (cmbS a b rule c out).length ≤ out.length + c.length
  | [], _ => by simp [cmbS]
  | [_], _ => by simp [cmbS]
  | f :: t :: r, out => by
    simp only [cmbS]
    have h1 := cmbS_len a b rule (t :: r) (bif okR rule (inI a f) (inI b f) then pushI out f t else out)
    have h2 : (bif okR rule (inI a f) (inI b f) then pushI out f t else out).length ≤ out.length + 1 := by
      cases okR rule (inI a f) (inI b f)
      · simp
      · exact pushI_len out f t
    simp only [List.length_cons] at h1 ⊢
    omega
theorem nrmR_len (a : List Iv) : (nrmR a).length ≤ 2 + 2 * a.length := by
  have h1 := cmbS_len a [] 0 (cutsR a []) []
  have h2 := (cutsR_len a []).2
  simp at h1 h2
  unfold nrmR
  omega
def clipR (a : List Iv) (f t : Int) : List Iv := cmbS a (nrmR [⟨f, t⟩]) 1 (cutsR a (nrmR [⟨f, t⟩])) []
theorem F23 : OkF 23 Try.f23 := ⟨by kernel_rfl, by kernel_rfl, by kernel_rfl⟩
def lv23 : List (List Nat × List Nat) := []
noncomputable def nrcs (a : List Iv) (f : Int) (t : Int) : List Nat → Nat → Option Ans := scrAt [([1, 0], 3, Ans.pure [I f, I t] (L (nrmR [{ frm := f, to := t : Iv }]) 2 Iv.d)), ([1, 0], 4, Ans.pure [L a 2 Iv.d, L (nrmR [{ frm := f, to := t : Iv }]) 2 Iv.d, I 1] (L (cmbS a (nrmR [{ frm := f, to := t : Iv }]) 1 (cutsR a (nrmR [{ frm := f, to := t : Iv }])) []) 2 Iv.d))]
theorem nrc (a : List Iv) (f t : Int) (K : D → Prop) : runS (En Try.f23) (fi Try.f23 K) (nrcs a f t) lv23 200 [.code []] ⟨argSlots 0 [L a 2 Iv.d, I f, I t], .empty⟩ =
  (PureW PP 30 [I f, I t] [I f, I t] (L (nrmR [{ frm := f, to := t : Iv }]) 2 Iv.d) ∧ PureW PP 29 [L a 2 Iv.d, L (nrmR [{ frm := f, to := t : Iv }]) 2 Iv.d, I 1] [L a 2 Iv.d, L (nrmR [{ frm := f, to := t : Iv }]) 2 Iv.d, I 1] (L (cmbS a (nrmR [{ frm := f, to := t : Iv }]) 1 (cutsR a (nrmR [{ frm := f, to := t : Iv }])) []) 2 Iv.d) ∧ K (L (cmbS a (nrmR [{ frm := f, to := t : Iv }]) 1 (cutsR a (nrmR [{ frm := f, to := t : Iv }])) []) 2 Iv.d)) := by kernel_rfl
theorem c23 (a : List Iv) (f t : Int) (hb : a.length ≤ 50) : Pure PP 23 [L a 2 Iv.d, I f, I t] (L (clipR a f t) 2 Iv.d) := by
  have := nrmR_len [⟨f, t⟩]
  simp only [List.length_singleton] at this
  exact pu F23 (by kernel_rfl) (of_eq (nrc a f t _) ⟨PureW.mk (c30 f t), PureW.mk (c29 _ _ _ (by omega)), Wk.refl _⟩)
end Go.Proofs.Ytpcbjkjgjoemaaa.S1
/- Plain law of sets of times: normal lists. -/
namespace Go.Proofs.Ytpcbjkjgjoemaaa.S1
open Go Go.Ab Go.Proofs
/-! Normal lists. -/
theorem inP_iff {t : Int} {x : Iv} : inP t x = true ↔ x.frm ≤ t ∧ t ≤ x.to := by
  unfold inP
  by_cases h : x.frm ≤ t
  · simp [h]
  · simp [h]
theorem inP_ff {t : Int} {x : Iv} : inP t x = false ↔ ¬ (x.frm ≤ t ∧ t ≤ x.to) := by
  rw [← inP_iff]; simp
def Nm : Int → List Iv → Prop
  | _, [] => True
  | lo, x :: r => lo ≤ x.frm ∧ x.frm ≤ x.to ∧ x.to ≤ 1099511627776 ∧ Nm (x.to + 2) r
theorem Nm.mono : ∀ {l : List Iv} {lo lo' : Int}, Nm lo l → lo' ≤ lo → Nm lo' l
  | [], _, _, _, _ => trivial
  | _ :: _, _, _, ⟨h1, h2, h3, h4⟩, h => ⟨by omega, h2, h3, h4⟩
theorem Nm.out : ∀ {l : List Iv} {lo t : Int}, Nm lo l → t < lo → l.any (inP t) = false
  | [], _, _, _, _ => rfl
  | x :: r, lo, t, ⟨h1, h2, h3, h4⟩, h => by
    rw [List.any_cons, inP_ff.2 (by omega), Nm.out h4 (by omega)]; rfl
theorem nm_eq : ∀ {l1 l2 : List Iv} {lo1 lo2 : Int}, Nm lo1 l1 → Nm lo2 l2 → (∀ t, l1.any (inP t) = l2.any (inP t)) → l1 = l2
  | [], [], _, _, _, _, _ => rfl
  | [], y :: s, _, _, _, h2, h => by
    have := h y.frm
    rw [List.any_cons, inP_iff.2 ⟨Int.le_refl _, h2.2.1⟩] at this
    simp at this
  | x :: r, [], _, _, h1, _, h => by
    have := h x.frm
    rw [List.any_cons, inP_iff.2 ⟨Int.le_refl _, h1.2.1⟩] at this
    simp at this
  | x :: r, y :: s, lo1, lo2, ⟨a1, a2, a3, a4⟩, ⟨b1, b2, b3, b4⟩, h => by
    have key : ∀ {x y : Iv} {r s : List Iv}, x.frm ≤ x.to → Nm (x.to + 2) r → y.frm ≤ y.to → Nm (y.to + 2) s → (∀ t, (x :: r).any (inP t) = (y :: s).any (inP t)) → y.frm ≤ x.frm ∧ y.to ≤ x.to := by
      intro x y r s a2 a4 b2 b4 h
      have e1 := h x.frm
      rw [List.any_cons, List.any_cons, inP_iff.2 ⟨Int.le_refl _, a2⟩] at e1
      by_cases hf : y.frm ≤ x.frm
      · refine ⟨hf, ?_⟩
        by_cases ht : y.to ≤ x.to
        · exact ht
        · have e2 := h (x.to + 1)
          rw [List.any_cons, List.any_cons, inP_ff.2 (by omega), a4.out (by omega), inP_iff.2 (by omega)] at e2
          simp at e2
      · rw [inP_ff.2 (by omega), b4.out (by omega)] at e1
        simp at e1
    have k1 := key a2 a4 b2 b4 h
    have k2 := key b2 b4 a2 a4 fun t => (h t).symm
    have e : x = y := by
      have e1 : x.frm = y.frm := by omega
      have e2 : x.to = y.to := by omega
      cases x; cases y
      simp only at e1 e2
      rw [e1, e2]
    subst e
    congr 1
    refine nm_eq a4 b4 fun t => ?_
    by_cases ht : t ≤ x.to
    · rw [a4.out (by omega), b4.out (by omega)]
    · have := h t
      rw [List.any_cons, List.any_cons, inP_ff.2 (by omega)] at this
      simpa using this
theorem any_inI {l : List Iv} {t : Int} (h : 0 ≤ t ∧ t ≤ 1099511627776) : inI l t = l.any (inP t) := by
  unfold inI
  rw [decide_eq_true h.1, decide_eq_true h.2]; rfl
theorem inI_out {l : List Iv} {t : Int} (h : ¬ (0 ≤ t ∧ t ≤ 1099511627776)) : inI l t = false := by
  unfold inI
  by_cases h1 : 0 ≤ t
  · rw [decide_eq_false (show ¬ t ≤ 1099511627776 by omega)]; simp
  · rw [decide_eq_false h1]; rfl
theorem Nm.inI {l : List Iv} {lo : Int} (h : Nm lo l) (h0 : 0 ≤ lo) (t : Int) : inI l t = l.any (inP t) := by
  by_cases ht : 0 ≤ t ∧ t ≤ 1099511627776
  · exact any_inI ht
  · rw [inI_out ht]
    symm
    by_cases h1 : t < 0
    · exact h.out (by omega)
    · have hb : ∀ {l : List Iv} {lo : Int}, Nm lo l → t > 1099511627776 → l.any (inP t) = false := by
        intro l
        induction l with
        | nil => intros; rfl
        | cons x r ih =>
          intro lo h h2
          rw [List.any_cons, inP_ff.2 (by have := h.2.2.1; omega), ih h.2.2.2 h2]; rfl
      exact hb h (by omega)
/-! The code's clip. -/
theorem any_clip (f t s : Int) : ∀ l : List Iv, (l.filterMap (clip1I f t)).any (inP s) = (l.any (inP s) && decide (f ≤ s ∧ s ≤ t))
  | [] => rfl
  | x :: r => by
    rw [List.filterMap_cons, List.any_cons]
    have ih := any_clip f t s r
    unfold clip1I
    have e : (if f > x.frm then f else x.frm) ≤ s ↔ f ≤ s ∧ x.frm ≤ s := by split <;> omega
    have e' : s ≤ (if t < x.to then t else x.to) ↔ s ≤ t ∧ s ≤ x.to := by split <;> omega
    by_cases hc : (if f > x.frm then f else x.frm) ≤ (if t < x.to then t else x.to)
    · rw [if_pos hc]
      simp only [List.any_cons]
      unfold clip1I at ih
      rw [ih]
      have : inP s ⟨if f > x.frm then f else x.frm, if t < x.to then t else x.to⟩ = (inP s x && decide (f ≤ s ∧ s ≤ t)) := by
        rw [Bool.eq_iff_iff, Bool.and_eq_true, inP_iff, inP_iff, decide_eq_true_eq]
        simp only [e, e']; omega
      rw [this, ← Bool.and_or_distrib_right]
    · rw [if_neg hc]
      simp only
      unfold clip1I at ih
      rw [ih]
      have : (inP s x && decide (f ≤ s ∧ s ≤ t)) = false := by
        rw [Bool.eq_false_iff, ne_eq, Bool.and_eq_true, inP_iff, decide_eq_true_eq]
        intro hh
        exact hc (Int.le_trans (e.2 ⟨hh.2.1, hh.1.1⟩) (e'.2 ⟨hh.2.2, hh.1.2⟩))
      rw [Bool.and_or_distrib_right, this, Bool.false_or]
def mrgF (p : Iv) : List Iv → List Iv
  | [] => [p]
  | x :: r => if x.frm ≤ p.to + 1 then mrgF ⟨p.frm, if x.to > p.to then x.to else p.to⟩ r else p :: mrgF x r
theorem mrg_snoc (acc : List Iv) (p x : Iv) (h : 0 ≤ p.to ∧ p.to ≤ 1099511627776) : mrg (acc ++ [p]) x = if x.frm ≤ p.to + 1 then acc ++ [⟨p.frm, if x.to > p.to then x.to else p.to⟩] else acc ++ [p] ++ [x] := by
  unfold mrg lastI'
  have h1 : (acc ++ [p]).length - 1 = acc.length := by simp
  rw [h1, getD_last, add64 (by omega) (by omega)]
  simp
theorem mrg_fold : ∀ (r acc : List Iv) (p : Iv), (0 ≤ p.to ∧ p.to ≤ 1099511627776) → (∀ x ∈ r, 0 ≤ x.to ∧ x.to ≤ 1099511627776) → r.foldl mrg (acc ++ [p]) = acc ++ mrgF p r
  | [], _, _, _, _ => rfl
  | x :: r, acc, p, h, hr => by
    have hx := hr x (List.mem_cons_self ..)
    rw [List.foldl_cons, mrg_snoc acc p x h]
    simp only [mrgF]
    split
    · exact mrg_fold r acc _ (by simp only; split <;> omega) fun y hy => hr y (List.mem_cons_of_mem _ hy)
    · rw [mrg_fold r (acc ++ [p]) x hx fun y hy => hr y (List.mem_cons_of_mem _ hy)]
      simp
theorem mrgF_spec : ∀ (r : List Iv) (p : Iv) (lo : Int), r.Pairwise (fun x y => x.frm ≤ y.frm) → (∀ x ∈ r, p.frm ≤ x.frm ∧ x.frm ≤ x.to ∧ x.to ≤ 1099511627776) → lo ≤ p.frm → p.frm ≤ p.to → p.to ≤ 1099511627776 →
    Nm lo (mrgF p r) ∧ ∀ s, (mrgF p r).any (inP s) = (inP s p || r.any (inP s))
  | [], p, lo, _, _, h1, h2, h3 => ⟨⟨h1, h2, h3, trivial⟩, fun s => by simp [mrgF]⟩
  | x :: r, p, lo, hs, hr, h1, h2, h3 => by
    rw [List.pairwise_cons] at hs
    obtain ⟨hs1, hs2⟩ := hs
    have hx := hr x (List.mem_cons_self ..)
    simp only [mrgF]
    split
    · rename_i hc
      obtain ⟨g1, g2⟩ := mrgF_spec r ⟨p.frm, if x.to > p.to then x.to else p.to⟩ lo hs2 (fun y hy => hr y (List.mem_cons_of_mem _ hy)) h1 (by simp only; split <;> omega) (by simp only; split <;> omega)
      refine ⟨g1, fun s => ?_⟩
      rw [g2 s, List.any_cons, ← Bool.or_assoc]
      congr 1
      rw [Bool.eq_iff_iff, Bool.or_eq_true, inP_iff, inP_iff, inP_iff]
      simp only
      split <;> omega
    · rename_i hc
      obtain ⟨g1, g2⟩ := mrgF_spec r x (p.to + 2) hs2 (fun y hy => ⟨hs1 y hy, (hr y (List.mem_cons_of_mem _ hy)).2⟩) (by omega) hx.2.1 hx.2.2
      refine ⟨⟨h1, h2, h3, g1⟩, fun s => ?_⟩
      rw [List.any_cons, List.any_cons, g2 s]
theorem iclip_spec (l : List Iv) (f t : Int) : Nm 0 (iclip l f t) ∧ ∀ s, (iclip l f t).any (inP s) = (l.any (inP s) && decide (loT f ≤ s ∧ s ≤ hiT t)) := by
  obtain ⟨p1, p2⟩ := srtI_spec (l.filterMap (clip1I (loT f) (hiT t)))
  have hm : ∀ x ∈ srtI (l.filterMap (clip1I (loT f) (hiT t))), 0 ≤ x.frm ∧ x.frm ≤ x.to ∧ x.to ≤ 1099511627776 := fun x hx => by
    obtain ⟨y, hy, he⟩ := List.mem_filterMap.1 (p1.mem_iff.1 hx)
    unfold clip1I at he
    by_cases hc : (if loT f > y.frm then loT f else y.frm) ≤ (if hiT t < y.to then hiT t else y.to)
    · rw [if_pos hc] at he
      have he := Option.some.inj he
      rw [← he]
      refine ⟨?_, hc, ?_⟩
      · simp only; unfold loT; split <;> split <;> omega
      · simp only; unfold hiT; split <;> split <;> omega
    · rw [if_neg hc] at he
      cases he
  have hany : ∀ s, (srtI (l.filterMap (clip1I (loT f) (hiT t)))).any (inP s) = (l.any (inP s) && decide (loT f ≤ s ∧ s ≤ hiT t)) := fun s => by
    rw [← any_clip, p1.any_eq]
  unfold iclip
  generalize srtI (l.filterMap (clip1I (loT f) (hiT t))) = q at p2 hm hany ⊢
  cases q with
  | nil => exact ⟨trivial, fun s => by rw [← hany s]; rfl⟩
  | cons x r =>
    have hx := hm x (List.mem_cons_self ..)
    rw [List.pairwise_cons] at p2
    have e : (x :: r).foldl mrg [] = mrgF x r := by
      rw [List.foldl_cons]
      exact mrg_fold r [] x ⟨by omega, hx.2.2⟩ fun y hy => by have := hm y (List.mem_cons_of_mem _ hy); omega
    obtain ⟨g1, g2⟩ := mrgF_spec r x 0 p2.2 (fun y hy => ⟨p2.1 y hy, (hm y (List.mem_cons_of_mem _ hy)).2⟩) hx.1 hx.2.1 hx.2.2
    rw [e]
    refine ⟨g1, fun s => ?_⟩
    rw [g2, ← hany s, List.any_cons]
/-! The reference's combinations. -/
theorem insC_mem : ∀ (l : List Int) (n x : Int), x ∈ insC l n ↔ x = n ∨ x ∈ l
  | [], n, x => by simp [insC]
  | y :: r, n, x => by
    simp only [insC]
    split
    · rw [List.mem_cons, insC_mem r n x, List.mem_cons]
      constructor
      · rintro (h | h | h) <;> simp [h]
      · rintro (h | h | h) <;> simp [h]
    · split
      · rename_i h
        subst h
        simp
      · simp
theorem insC_srt : ∀ (l : List Int) (n : Int), l.Pairwise (· < ·) → (insC l n).Pairwise (· < ·)
  | [], n, _ => by simp [insC]
  | y :: r, n, h => by
    rw [List.pairwise_cons] at h
    simp only [insC]
    split
    · rename_i hl
      rw [List.pairwise_cons]
      refine ⟨fun x hx => ?_, insC_srt r n h.2⟩
      rcases (insC_mem r n x).1 hx with rfl | hx
      · exact hl
      · exact h.1 x hx
    · split
      · rw [List.pairwise_cons]; exact h
      · rename_i h1 h2
        rw [List.pairwise_cons, List.pairwise_cons]
        refine ⟨fun x hx => ?_, h⟩
        rcases List.mem_cons.1 hx with rfl | hx
        · omega
        · have := h.1 x hx; omega
/-- What the reference's times are. -/
structure Cu (c : List Int) : Prop where
  srt : c.Pairwise (· < ·)
  bd : ∀ x ∈ c, 0 ≤ x ∧ x ≤ 1099511627777
  z : 0 ∈ c
  m : 1099511627777 ∈ c
theorem bd_le (x : Iv) : 0 ≤ bdL x ∧ bdR x ≤ 1099511627776 := by
  unfold bdL bdR
  constructor <;> split <;> omega
theorem cutS_cu {c : List Int} (h : Cu c) (x : Iv) : Cu (cutS c x) ∧ (∀ y ∈ c, y ∈ cutS c x) ∧ (bdL x ≤ bdR x → bdL x ∈ cutS c x ∧ bdR x + 1 ∈ cutS c x) := by
  have hb := bd_le x
  unfold cutS
  by_cases hc : bdL x ≤ bdR x
  · rw [decide_eq_true hc, add64 (by omega) (by omega)]
    simp only [cond_true]
    have hm : ∀ y, y ∈ insC (insC c (bdL x)) (bdR x + 1) ↔ y = bdR x + 1 ∨ y = bdL x ∨ y ∈ c := fun y => by rw [insC_mem, insC_mem]
    refine ⟨⟨insC_srt _ _ (insC_srt _ _ h.srt), fun y hy => ?_, (hm _).2 (.inr (.inr h.z)), (hm _).2 (.inr (.inr h.m))⟩, fun y hy => (hm _).2 (.inr (.inr hy)), fun _ => ⟨(hm _).2 (.inr (.inl rfl)), (hm _).2 (.inl rfl)⟩⟩
    rcases (hm y).1 hy with rfl | rfl | hy
    · omega
    · omega
    · exact h.bd y hy
  · rw [decide_eq_false hc]
    exact ⟨h, fun _ h => h, fun h => absurd h hc⟩
theorem cutsF : ∀ (l : List Iv) (c : List Int), Cu c → Cu (l.foldl cutS c) ∧ (∀ y ∈ c, y ∈ l.foldl cutS c) ∧ ∀ x ∈ l, bdL x ≤ bdR x → bdL x ∈ l.foldl cutS c ∧ bdR x + 1 ∈ l.foldl cutS c
  | [], c, h => ⟨h, fun _ h => h, fun _ h => by cases h⟩
  | x :: r, c, h => by
    obtain ⟨h1, h2, h3⟩ := cutS_cu h x
    obtain ⟨g1, g2, g3⟩ := cutsF r (cutS c x) h1
    refine ⟨g1, fun y hy => g2 y (h2 y hy), fun y hy hb => ?_⟩
    rcases List.mem_cons.1 hy with rfl | hy
    · exact ⟨g2 _ (h3 hb).1, g2 _ (h3 hb).2⟩
    · exact g3 y hy hb
theorem cuts_spec (a b : List Iv) : Cu (cutsR a b) ∧ ∀ x, x ∈ a ∨ x ∈ b → bdL x ≤ bdR x → bdL x ∈ cutsR a b ∧ bdR x + 1 ∈ cutsR a b := by
  obtain ⟨h1, _, h3⟩ := cutsF (a ++ b) [0, 1099511627777] ⟨by simp, by simp, by simp, by simp⟩
  exact ⟨h1, fun x hx => h3 x (List.mem_append.2 hx)⟩
/-- Between two times that follow each other membership stays. -/
theorem inI_const {l : List Iv} {c : List Int} (_hc : Cu c) (hl : ∀ x ∈ l, bdL x ≤ bdR x → bdL x ∈ c ∧ bdR x + 1 ∈ c) {f s : Int} (_hf : f ∈ c) (h0 : 0 ≤ f) (h1 : f ≤ s) (h2 : s ≤ 1099511627776) (hn : ∀ e ∈ c, ¬ (f < e ∧ e ≤ s)) : inI l f = inI l s := by
  rw [any_inI ⟨by omega, by omega⟩, any_inI ⟨by omega, by omega⟩]
  rw [Bool.eq_iff_iff, List.any_eq_true, List.any_eq_true]
  refine exists_congr fun x => and_congr_right fun hx => ?_
  rw [inP_iff, inP_iff]
  have hb := hl x hx
  unfold bdL bdR at hb
  constructor
  · rintro ⟨k1, k2⟩
    have h3 : (if 0 > x.frm then 0 else x.frm) ≤ (if 1099511627776 < x.to then 1099511627776 else x.to) := by split <;> split <;> omega
    obtain ⟨b1, b2⟩ := hb h3
    have := hn _ b2
    refine ⟨by omega, ?_⟩
    split at this <;> omega
  · rintro ⟨k1, k2⟩
    have h3 : (if 0 > x.frm then 0 else x.frm) ≤ (if 1099511627776 < x.to then 1099511627776 else x.to) := by split <;> split <;> omega
    obtain ⟨b1, b2⟩ := hb h3
    have := hn _ b1
    refine ⟨?_, by omega⟩
    split at this <;> omega
def cmbF (ok : Int → Bool) : Option Iv → List Int → List Iv
  | p, f :: t :: r => bif ok f then (match p with | some y => if y.to = f - 1 then cmbF ok (some ⟨y.frm, t - 1⟩) (t :: r) else y :: cmbF ok (some ⟨f, t - 1⟩) (t :: r) | none => cmbF ok (some ⟨f, t - 1⟩) (t :: r)) else cmbF ok p (t :: r)
  | p, [_] => p.toList
  | p, [] => p.toList
theorem push_snoc (acc : List Iv) (p : Iv) (f t : Int) (hf : 0 ≤ f ∧ f ≤ 1099511627777) (ht : 0 ≤ t ∧ t ≤ 1099511627777) : pushI (acc ++ [p]) f t = if p.to = f - 1 then acc ++ [⟨p.frm, t - 1⟩] else acc ++ [p] ++ [⟨f, t - 1⟩] := by
  unfold pushI
  have h1 : (acc ++ [p]).length - 1 = acc.length := by simp
  rw [h1, getD_last, sub64 (by omega) (by omega), sub64 (by omega) (by omega)]
  simp
theorem cmb_fold (a b : List Iv) (rule : Int) : ∀ (c : List Int) (acc : List Iv) (p : Option Iv), (p = none → acc = []) → (∀ x ∈ c, 0 ≤ x ∧ x ≤ 1099511627777) → cmbS a b rule c (acc ++ p.toList) = acc ++ cmbF (fun f => okR rule (inI a f) (inI b f)) p c
  | [], acc, p, _, _ => by simp [cmbS, cmbF]
  | [_], acc, p, _, _ => by simp [cmbS, cmbF]
  | f :: t :: r, acc, p, hp, hb => by
    have hf := hb f (by simp)
    have ht := hb t (by simp)
    have hr : ∀ x ∈ t :: r, 0 ≤ x ∧ x ≤ 1099511627777 := fun x hx => hb x (List.mem_cons_of_mem _ hx)
    simp only [cmbS, cmbF]
    cases hok : okR rule (inI a f) (inI b f) with
    | false => exact cmb_fold a b rule (t :: r) acc p hp hr
    | true =>
      simp only [cond_true]
      cases p with
      | none =>
        have := hp rfl
        subst this
        have e : pushI ([] ++ (none : Option Iv).toList) f t = [] ++ (some (⟨f, t - 1⟩ : Iv)).toList := by
          unfold pushI
          rw [sub64 (by omega) (by omega), sub64 (by omega) (by omega)]
          simp
        rw [e]
        exact cmb_fold a b rule (t :: r) [] _ (by simp) hr
      | some y =>
        have e := push_snoc acc y f t hf ht
        simp only [Option.toList]
        rw [e]
        split
        · exact cmb_fold a b rule (t :: r) acc (some _) (by simp) hr
        · have := cmb_fold a b rule (t :: r) (acc ++ [y]) (some ⟨f, t - 1⟩) (by simp) hr
          simp only [Option.toList] at this
          rw [this]; simp
def okAt (ok : Int → Bool) : List Int → Int → Bool
  | f :: t :: r, s => (decide (f ≤ s ∧ s < t) && ok f) || okAt ok (t :: r) s
  | [_], _ => false
  | [], _ => false
theorem okAt_lo (ok : Int → Bool) : ∀ (c : List Int) (s : Int), (∀ x ∈ c, s < x) → okAt ok c s = false
  | [], _, _ => rfl
  | [_], _, _ => rfl
  | f :: t :: r, s, h => by
    have := h f (by simp)
    simp only [okAt]
    rw [decide_eq_false (by omega), okAt_lo ok (t :: r) s fun x hx => h x (List.mem_cons_of_mem _ hx)]; rfl
theorem okAt_hi (ok : Int → Bool) : ∀ (c : List Int) (s : Int), (∀ x ∈ c, x ≤ s) → okAt ok c s = false
  | [], _, _ => rfl
  | [_], _, _ => rfl
  | f :: t :: r, s, h => by
    have := h t (by simp)
    simp only [okAt]
    rw [decide_eq_false (by omega), okAt_hi ok (t :: r) s fun x hx => h x (List.mem_cons_of_mem _ hx)]; rfl
theorem okAt_eq (ok : Int → Bool) : ∀ (c : List Int) (s : Int) (v : Bool), c.Pairwise (· < ·) → (∃ x ∈ c, x ≤ s) → (∃ x ∈ c, s < x) → (∀ f ∈ c, f ≤ s → (∀ e ∈ c, ¬ (f < e ∧ e ≤ s)) → ok f = v) → okAt ok c s = v
  | [], _, _, _, ⟨x, h, _⟩, _, _ => by cases h
  | [x], s, _, _, ⟨y, h, h1⟩, ⟨z, h', h2⟩, _ => by simp at h h'; omega
  | f :: t :: r, s, v, hs, he1, he2, H => by
    have hs' := hs
    rw [List.pairwise_cons] at hs
    simp only [okAt]
    by_cases ht : s < t
    · have hr : ∀ x ∈ t :: r, s < x := fun x hx => by
        rcases List.mem_cons.1 hx with rfl | hx
        · exact ht
        · have := (List.pairwise_cons.1 hs.2).1 x hx; omega
      rw [okAt_lo ok (t :: r) s hr, Bool.or_false]
      have hf : f ≤ s := by
        obtain ⟨x, hx, h1⟩ := he1
        rcases List.mem_cons.1 hx with rfl | hx
        · exact h1
        · have := hr x hx; omega
      rw [decide_eq_true ⟨hf, ht⟩, Bool.true_and]
      refine H f (by simp) hf fun e he hh => ?_
      rcases List.mem_cons.1 he with rfl | he
      · omega
      · have := hr e he; omega
    · rw [decide_eq_false (by omega), Bool.false_and, Bool.false_or]
      refine okAt_eq ok (t :: r) s v hs.2 ⟨t, by simp, by omega⟩ ?_ fun g hg hgs hn => H g (List.mem_cons_of_mem _ hg) hgs fun e he hh => ?_
      · obtain ⟨x, hx, h1⟩ := he2
        rcases List.mem_cons.1 hx with rfl | hx
        · have := hs.1 t (by simp); omega
        · exact ⟨x, hx, h1⟩
      · rcases List.mem_cons.1 he with rfl | he
        · have := hs.1 g hg; omega
        · exact hn e he hh
theorem cmbF_spec (ok : Int → Bool) : ∀ (c : List Int) (p : Option Iv) (lo : Int), c.Pairwise (· < ·) → (∀ x ∈ c, lo ≤ x ∧ x ≤ 1099511627777) → (∀ y ∈ p, lo ≤ y.frm ∧ y.frm ≤ y.to ∧ y.to ≤ 1099511627776 ∧ ∀ x ∈ c, y.to < x) →
    Nm lo (cmbF ok p c) ∧ ∀ s, (cmbF ok p c).any (inP s) = (p.toList.any (inP s) || okAt ok c s)
  | [], p, lo, _, _, hp => by
    simp only [cmbF, okAt]
    refine ⟨?_, fun s => by simp⟩
    cases p with
    | none => trivial
    | some y => have := hp y rfl; exact ⟨this.1, this.2.1, this.2.2.1, trivial⟩
  | [_], p, lo, _, _, hp => by
    simp only [cmbF, okAt]
    refine ⟨?_, fun s => by simp⟩
    cases p with
    | none => trivial
    | some y => have := hp y rfl; exact ⟨this.1, this.2.1, this.2.2.1, trivial⟩
  | f :: t :: r, p, lo, hs, hb, hp => by
    have hs' := hs
    rw [List.pairwise_cons] at hs
    have hf := hb f (by simp)
    have ht := hb t (by simp)
    have hft := hs.1 t (by simp)
    have hr : ∀ x ∈ t :: r, lo ≤ x ∧ x ≤ 1099511627777 := fun x hx => hb x (List.mem_cons_of_mem _ hx)
    have htr : ∀ x ∈ t :: r, t - 1 < x := fun x hx => by
      rcases List.mem_cons.1 hx with rfl | hx
      · omega
      · have := (List.pairwise_cons.1 hs.2).1 x hx; omega
    simp only [cmbF, okAt]
    cases hok : ok f with
    | false =>
      simp only [cond_false, Bool.and_false, Bool.false_or]
      exact cmbF_spec ok (t :: r) p lo hs.2 hr fun y hy => by
        obtain ⟨h1, h2, h3, h4⟩ := hp y hy
        exact ⟨h1, h2, h3, fun x hx => h4 x (List.mem_cons_of_mem _ hx)⟩
    | true =>
      simp only [cond_true, Bool.and_true]
      cases p with
      | none =>
        obtain ⟨g1, g2⟩ := cmbF_spec ok (t :: r) (some ⟨f, t - 1⟩) lo hs.2 hr fun y hy => by
          cases hy
          exact ⟨hf.1, by simp only; omega, by simp only; omega, htr⟩
        refine ⟨g1, fun s => ?_⟩
        rw [g2 s]
        simp only [Option.toList, List.any_cons, List.any_nil, Bool.or_false, Bool.false_or]
        congr 1
        rw [Bool.eq_iff_iff, inP_iff, decide_eq_true_eq]
        simp only; omega
      | some y =>
        obtain ⟨h1, h2, h3, h4⟩ := hp y rfl
        have h5 := h4 f (by simp)
        simp only
        split
        · rename_i he
          obtain ⟨g1, g2⟩ := cmbF_spec ok (t :: r) (some ⟨y.frm, t - 1⟩) lo hs.2 hr fun z hz => by
            cases hz
            exact ⟨h1, by simp only; omega, by simp only; omega, htr⟩
          refine ⟨g1, fun s => ?_⟩
          rw [g2 s]
          simp only [Option.toList, List.any_cons, List.any_nil, Bool.or_false]
          rw [← Bool.or_assoc]
          congr 1
          rw [Bool.eq_iff_iff, Bool.or_eq_true, inP_iff, inP_iff, decide_eq_true_eq]
          simp only; omega
        · rename_i he
          obtain ⟨g1, g2⟩ := cmbF_spec ok (t :: r) (some ⟨f, t - 1⟩) (y.to + 2) hs.2 (fun x hx => ⟨by have := hs.1 x hx; omega, (hr x hx).2⟩) fun z hz => by
            cases hz
            exact ⟨by simp only; omega, by simp only; omega, by simp only; omega, htr⟩
          refine ⟨⟨h1, h2, h3, g1⟩, fun s => ?_⟩
          rw [List.any_cons, g2 s]
          simp only [Option.toList, List.any_cons, List.any_nil, Bool.or_false]
          congr 2
          rw [Bool.eq_iff_iff, inP_iff, decide_eq_true_eq]
          simp only; omega
/-- A combination: a normal list with the membership that the rule says. -/
theorem cmb_spec (a b : List Iv) (rule : Int) : Nm 0 (cmbS a b rule (cutsR a b) []) ∧ ∀ s, (cmbS a b rule (cutsR a b) []).any (inP s) = (decide (0 ≤ s ∧ s ≤ 1099511627776) && okR rule (inI a s) (inI b s)) := by
  obtain ⟨hc, hm⟩ := cuts_spec a b
  have e := cmb_fold a b rule (cutsR a b) [] none (fun _ => rfl) hc.bd
  simp only [Option.toList, List.append_nil, List.nil_append] at e
  rw [e]
  obtain ⟨g1, g2⟩ := cmbF_spec (fun f => okR rule (inI a f) (inI b f)) (cutsR a b) none 0 hc.srt hc.bd (by simp)
  refine ⟨g1, fun s => ?_⟩
  rw [g2 s]
  simp only [Option.toList, List.any_nil, Bool.false_or]
  by_cases hs : 0 ≤ s ∧ s ≤ 1099511627776
  · rw [decide_eq_true hs, Bool.true_and]
    refine okAt_eq _ _ s _ hc.srt ⟨0, hc.z, hs.1⟩ ⟨_, hc.m, by omega⟩ fun f hf hfs hn => ?_
    have h0 := (hc.bd f hf).1
    have e1 := inI_const hc (fun x hx => hm x (.inl hx)) hf h0 hfs hs.2 hn
    have e2 := inI_const hc (fun x hx => hm x (.inr hx)) hf h0 hfs hs.2 hn
    simp only [e1, e2]
  · rw [decide_eq_false hs, Bool.false_and]
    by_cases h1 : s < 0
    · exact okAt_lo _ _ _ fun x hx => by have := hc.bd x hx; omega
    · exact okAt_hi _ _ _ fun x hx => by have := hc.bd x hx; omega
theorem nrm_spec (a : List Iv) : Nm 0 (nrmR a) ∧ ∀ s, (nrmR a).any (inP s) = inI a s := by
  obtain ⟨h1, h2⟩ := cmb_spec a [] 0
  refine ⟨h1, fun s => ?_⟩
  unfold nrmR
  rw [h2 s]
  by_cases hs : 0 ≤ s ∧ s ≤ 1099511627776
  · rw [decide_eq_true hs, any_inI (l := []) hs]
    cases inI a s <;> rfl
  · rw [decide_eq_false hs, inI_out hs]; rfl
theorem clipR_spec (a : List Iv) (f t : Int) : Nm 0 (clipR a f t) ∧ ∀ s, (clipR a f t).any (inP s) = (inI a s && inI [⟨f, t⟩] s) := by
  obtain ⟨h1, h2⟩ := cmb_spec a (nrmR [⟨f, t⟩]) 1
  refine ⟨h1, fun s => ?_⟩
  unfold clipR
  rw [h2 s]
  obtain ⟨n1, n2⟩ := nrm_spec [⟨f, t⟩]
  rw [n1.inI (Int.le_refl _), n2]
  by_cases hs : 0 ≤ s ∧ s ≤ 1099511627776
  · rw [decide_eq_true hs]
    cases inI a s <;> cases inI [⟨f, t⟩] s <;> rfl
  · rw [decide_eq_false hs, inI_out hs]; rfl
theorem iclip_clipR (l : List Iv) (f t : Int) : iclip l f t = clipR l f t := by
  obtain ⟨h1, h2⟩ := iclip_spec l f t
  obtain ⟨g1, g2⟩ := clipR_spec l f t
  refine nm_eq h1 g1 fun s => ?_
  rw [h2 s, g2 s]
  have hlh : (loT f ≤ s ∧ s ≤ hiT t) ↔ (0 ≤ s ∧ s ≤ 1099511627776) ∧ f ≤ s ∧ s ≤ t := by
    unfold loT hiT
    constructor
    · intro ⟨a, b⟩; split at a <;> split at b <;> omega
    · intro ⟨⟨a, b⟩, c, d⟩; constructor <;> split <;> omega
  by_cases hs : 0 ≤ s ∧ s ≤ 1099511627776
  · rw [any_inI hs, any_inI hs]
    congr 1
    rw [Bool.eq_iff_iff, decide_eq_true_eq, hlh, List.any_cons, List.any_nil, Bool.or_false, inP_iff]
    exact ⟨fun h => h.2, fun h => ⟨hs, h⟩⟩
  · rw [inI_out hs, decide_eq_false (fun h => hs (hlh.1 h).1)]; simp
end Go.Proofs.Ytpcbjkjgjoemaaa.S1
