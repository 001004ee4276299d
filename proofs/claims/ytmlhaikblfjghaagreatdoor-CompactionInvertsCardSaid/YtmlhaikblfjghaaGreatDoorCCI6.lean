/- Decimals: canonical texts. -/
import Derived.Test.YtmlhaikblfjghaaGreatDoorCCI5
import Derived.Test.YtmlhaikblfjghaaGreatDoorRows
namespace Go.Proofs.YtmlhaikblfjghaaGreatDoor.S1
open Go Go.Ab Go.Proofs
-- nolay
attribute [local instance] LT10
abbrev capC : Nat := 1048576
def RdR (r : Option Rd) (v : Nm × Bool) : Prop := match r with
  | some x => v = (trimF (x.nm capC), x.ok)
  | none => v.2 = false
theorem tlG_rd (ng : Bool) (dg : Str) (f : Nat) (q : Str) : RdR (rdE ng dg f q) (tlG ng dg (-(f : Int)) q) := by
  have hz : ∀ ok, RdR (some ⟨ng, dg, f, false, [], ok⟩) (trimF ⟨ng, dg, -(f : Int)⟩, ok) := fun ok => by
    unfold RdR Rd.nm Rd.e
    have : (expV capC ([] : Str) : Int) = 0 := rfl
    simp only [Bool.false_eq_true, if_false, this, Int.zero_sub]
  cases q with
  | nil => exact hz true
  | cons c r =>
    rw [rdE, tlG]
    by_cases hc : c = 101 ∨ c = 69
    · rw [if_pos hc, if_pos hc]
      by_cases h : (spanD (sgnS r).2).1 = []
      · rw [if_pos h, if_pos h]; exact rfl
      · rw [if_neg h, if_neg h]
        unfold RdR Rd.nm Rd.e
        simp only
        congr 3
        generalize (if (sgnS r).1 = true then -(expV capC (spanD (sgnS r).2).1 : Int) else (expV capC (spanD (sgnS r).2).1 : Int)) = e
        omega
    · rw [if_neg hc, if_neg hc]; exact hz false
theorem frG_rd (ng : Bool) (wh q : Str) : RdR (rdF ng wh q) (frG ng wh q) := by
  cases q with
  | nil => exact tlG_rd ng wh 0 []
  | cons c r =>
    rw [rdF, frG]
    by_cases hc : c = 46
    · rw [if_pos hc, if_pos hc]
      by_cases h : (spanD r).1 = []
      · rw [if_pos h, if_pos h]; exact rfl
      · rw [if_neg h, if_neg h]; exact tlG_rd ng _ _ _
    · rw [if_neg hc, if_neg hc]; exact tlG_rd ng wh 0 (c :: r)
theorem scF_rd (q : Str) : RdR (rdP q) (scF q) := by
  unfold rdP scF
  by_cases h1 : q.length > 64
  · rw [if_pos (.inl h1), if_pos h1]; exact rfl
  · rw [if_neg h1]
    by_cases h2 : (spanD (sgnS q).2).1 = []
    · rw [if_pos (.inr h2), if_pos h2]; exact rfl
    · rw [if_neg (not_or.2 ⟨h1, h2⟩), if_neg h2]; exact frG_rd _ _ _
theorem nm_bd {q : Str} {x : Rd} (h : rdP q = some x) (cap : Nat) : (trimF (x.nm cap)).dig.length ≤ 64 ∧ -(cap : Int) - 64 ≤ (trimF (x.nm cap)).ex ∧ (trimF (x.nm cap)).ex ≤ cap + 64 := by
  obtain ⟨r1, r2, r3, r4⟩ := rdP_ok h
  have e1 := expV_le cap x.ed
  have e2 : -(cap : Int) ≤ x.e cap ∧ x.e cap ≤ cap := by unfold Rd.e; split <;> omega
  have t1 := tL_len x.dig
  have t2 := tR_len (tL x.dig)
  rcases nm_trim x cap with ⟨k1, k2⟩ | ⟨k1, k2⟩
  · rw [k2]; exact ⟨by decide, by show _ ≤ (0 : Int); omega, by show (0 : Int) ≤ _; omega⟩
  · rw [k2]; exact ⟨by simp only; omega, by simp only; omega, by simp only; omega⟩
def canG (q : Str) : Nm × Bool := if (scF q).2 = true then ((scF q).1, decide (textF (scF q).1 = some q)) else (nm0, false)
theorem scF_ok {q : Str} (h : (scF q).2 = true) : (scF q).1.dig.length ≤ 64 ∧ -2000000 ≤ (scF q).1.ex ∧ (scF q).1.ex ≤ 2000000 := by
  have h1 := scF_rd q
  cases hr : rdP q with
  | none => rw [hr] at h1; have h1 : (scF q).2 = false := h1; rw [h1] at h; cases h
  | some x =>
    rw [hr] at h1
    have h1 : scF q = (trimF (x.nm capC), x.ok) := h1
    obtain ⟨b1, b2, b3⟩ := nm_bd hr capC
    have hcap : ((capC : Nat) : Int) = 1048576 := rfl
    rw [hcap] at b2 b3
    rw [h1]
    exact ⟨b1, by simp only; omega, by simp only; omega⟩
theorem F89 : OkF 89 Tryz.f89 := ⟨by kernel_rfl, by kernel_rfl, by kernel_rfl⟩
def lv89 : List (List Nat × List Nat) := []
noncomputable def nDCans (q : Str) : List Nat → Nat → Option Ans := scrAt [([1, 0], 1, Ans.pure [.str q] (.tup [(scF q).fst.d, B (scF q).snd])), ([1, 1, 1, 0], 1, Ans.pure [(scF q).fst.d] (.tup [.str (txtV (scF q).fst).fst, I (txtV (scF q).fst).snd]))]
theorem nDCan (q : Str) (K : D → Prop) : runS (En Tryz.f89) (fi Tryz.f89 K) (nDCans q) lv89 200 [.code []] ⟨argSlots 0 [.str q], .empty⟩ =
  (PureW PP 91 [.str q] [.str q] (.tup [(scF q).fst.d, B (scF q).snd]) ∧ True ∧ bif !(scF q).snd then True ∧ K (.tup [.agg [B false, .list 0 0 (fun _ => D.junk) .full, I 0], B false]) else PureW PP 92 [(scF q).fst.d] [(scF q).fst.d] (.tup [.str (txtV (scF q).fst).fst, I (txtV (scF q).fst).snd]) ∧ True ∧ K (.tup [.agg [B (scF q).fst.neg, L (scF q).fst.dig 1 encB, I (scF q).fst.ex], B (bif (txtV (scF q).fst).snd == 0 then (txtV (scF q).fst).fst == q else false)])) := by kernel_rfl
theorem F69 : OkF 69 Tryz.f69 := ⟨by kernel_rfl, by kernel_rfl, by kernel_rfl⟩
def lv69 : List (List Nat × List Nat) := []
noncomputable def nDVals (q : Str) : List Nat → Nat → Option Ans := scrAt [([1, 0], 1, Ans.pure [.str q] (.tup [(canG q).fst.d, B (canG q).snd]))]
theorem nDVal (q : Str) (K : D → Prop) : runS (En Tryz.f69) (fi Tryz.f69 K) (nDVals q) lv69 200 [.code []] ⟨argSlots 0 [.str q], .empty⟩ =
  (PureW PP 89 [.str q] [.str q] (.tup [(canG q).fst.d, B (canG q).snd]) ∧ True ∧ K (B (canG q).snd)) := by kernel_rfl
end Go.Proofs.YtmlhaikblfjghaaGreatDoor.S1
/- Decimals: canonical texts, contracts; a number's size, its order. -/
namespace Go.Proofs.YtmlhaikblfjghaaGreatDoor.S1
open Go Go.Ab Go.Proofs
-- nolay
attribute [local instance] LT10
theorem txt_eq (x : Nm) (q : Str) : (bif (txtV x).2 == 0 then (txtV x).1 == q else false) = decide (textF x = some q) := by
  unfold txtV
  cases textF x with
  | none => rw [decide_eq_false (by simp)]; rfl
  | some t =>
    show (t == q) = _
    rw [Bool.eq_iff_iff]; simp
theorem c89 (q : Str) : Pure PP 89 [.str q] (.tup [(canG q).1.d, B (canG q).2]) := by
  refine pu F89 (by kernel_rfl) (of_eq (nDCan q _) ⟨PureW.mk (c91 q), trivial, cond_intro (fun h => ⟨trivial, ?_⟩) fun h => ?_⟩)
  · have h : (scF q).2 = false := by simpa using h
    unfold canG
    rw [h, if_neg (by simp)]
    exact Wk.tup (Wks.cons (Wk.agg (Wks.cons (Wk.refl _) (Wks.cons Wk.nilL (Wks.refl _)))) (Wks.refl _))
  · have h : (scF q).2 = true := by simpa using h
    obtain ⟨b1, b2, b3⟩ := scF_ok h
    unfold canG
    rw [h, if_pos rfl, txt_eq]
    exact ⟨PureW.mk (c92 (scF q).1 (by omega) (by omega) (by omega)), trivial, Wk.refl _⟩
theorem c69 (q : Str) : Pure PP 69 [.str q] (B (canG q).2) :=
  pu F69 (by kernel_rfl) (of_eq (nDVal q _) ⟨PureW.mk (c89 q), trivial, Wk.refl _⟩)
end Go.Proofs.YtmlhaikblfjghaaGreatDoor.S1
/- Values: a kind by its number; valid values; the value all x. -/
namespace Go.Proofs.YtmlhaikblfjghaaGreatDoor.S1
open Go Go.Ab Go.Proofs
-- nolay
attribute [local instance] LT10
theorem F43 : OkF 43 Tryz.f43 := ⟨by kernel_rfl, by kernel_rfl, by kernel_rfl⟩
def lv43 : List (List Nat × List Nat) := [([1, 1, 0, 1], [0, 1, 4, 6, 15])]
noncomputable def nVofs  : List Nat → Nat → Option Ans := scrAt [([1, 0], 0, Ans.pure [] kdL)]
theorem nVof (k w : Int) (K : D → Prop) : runS (En Tryz.f43) (fi Tryz.f43 K) (nVofs ) lv43 200 [.code []] ⟨argSlots 0 [I k, I w], .empty⟩ =
  (PureW PP 54 [] [] kdL ∧ (((!decide (k < 0)) = true → 4 ≤ lenM) → At (En Tryz.f43) (fi Tryz.f43 K) [It.code [1, 1, 0, 1], It.code [1, 1, 1]] { sl := [(0, I k), (1, I w), (4, .own [I 0, I 0, D.nilf, D.nilf, D.nilf, D.nilf, .str { data := #[] : ByteArray }.data.toList]), (6, .list 4 7 (litG [kd0, kd1, kd2, kd3]) .full), (15, B (bif decide (k < 0) then true else decide (k ≥ (↑4 : Int))))], h := Heap.empty : St })) := by kernel_rfl
noncomputable def nVofEs  : List Nat → Nat → Option Ans := scrAt []
theorem nVofE  (K : D → Prop) : runS (En Tryz.f43) (fi Tryz.f43 K) (nVofEs ) nolv 200 [.code [1, 1, 0, 1], .code [1, 1, 1]] ⟨[(4, .own [I 0, I 0, .nilf, .nilf, .nilf, .nilf, .str []]), (15, B true)], .empty⟩ =
  (True ∧ K (.tup [.agg [I 0, I 0, D.nilf, D.nilf, D.nilf, D.nilf, .str { data := #[] : ByteArray }.data.toList], B false])) := by kernel_rfl
noncomputable def nVof0s  : List Nat → Nat → Option Ans := scrAt [([1, 0], 0, Ans.pure [] kdL)]
theorem nVof0 (w : Int) (K : D → Prop) : runS (En Tryz.f43) (fi Tryz.f43 K) (nVof0s ) nolv 200 [.code []] ⟨argSlots 0 [I 0, I w], .empty⟩ =
  (PureW PP 54 [] [] kdL ∧ ((true = true → 4 ≤ lenM) → ((0 : Int) ≤ 0 ∧ 0 < (↑4 : Int)) ∧ ((0 : Int) ≤ 0 ∧ 0 < (↑4 : Int)) ∧ (decide (w ≥ 1) = true → (0 : Int) ≤ 0 ∧ 0 < (↑4 : Int)) ∧ True ∧ K (.tup [.agg [I 1, I 128, D.clo 64 [], D.clo 65 [], D.clo 66 [], D.clo 67 [], .str { data := #[98] : ByteArray }.data.toList], B (bif decide (w ≥ 1) then decide (w ≤ 128) else false)]))) := by kernel_rfl
noncomputable def nVof1s  : List Nat → Nat → Option Ans := scrAt [([1, 0], 0, Ans.pure [] kdL)]
theorem nVof1 (w : Int) (K : D → Prop) : runS (En Tryz.f43) (fi Tryz.f43 K) (nVof1s ) nolv 200 [.code []] ⟨argSlots 0 [I 1, I w], .empty⟩ =
  (PureW PP 54 [] [] kdL ∧ ((true = true → 4 ≤ lenM) → ((0 : Int) ≤ 1 ∧ 1 < (↑4 : Int)) ∧ ((0 : Int) ≤ 1 ∧ 1 < (↑4 : Int)) ∧ (decide (w ≥ 0) = true → (0 : Int) ≤ 1 ∧ 1 < (↑4 : Int)) ∧ True ∧ K (.tup [.agg [I 0, I 0, D.clo 68 [], D.clo 90 [D.ep [.str { data := #[48] : ByteArray }.data.toList]], D.clo 71 [], D.clo 73 [], .str { data := #[114] : ByteArray }.data.toList], B (bif decide (w ≥ 0) then decide (w ≤ 0) else false)]))) := by kernel_rfl
noncomputable def nVof2s  : List Nat → Nat → Option Ans := scrAt [([1, 0], 0, Ans.pure [] kdL)]
theorem nVof2 (w : Int) (K : D → Prop) : runS (En Tryz.f43) (fi Tryz.f43 K) (nVof2s ) nolv 200 [.code []] ⟨argSlots 0 [I 2, I w], .empty⟩ =
  (PureW PP 54 [] [] kdL ∧ ((true = true → 4 ≤ lenM) → ((0 : Int) ≤ 2 ∧ 2 < (↑4 : Int)) ∧ ((0 : Int) ≤ 2 ∧ 2 < (↑4 : Int)) ∧ (decide (w ≥ 0) = true → (0 : Int) ≤ 2 ∧ 2 < (↑4 : Int)) ∧ True ∧ K (.tup [.agg [I 0, I 0, D.clo 74 [], D.clo 90 [D.ep [.str { data := #[] : ByteArray }.data.toList]], D.clo 75 [], D.clo 77 [], .str { data := #[115] : ByteArray }.data.toList], B (bif decide (w ≥ 0) then decide (w ≤ 0) else false)]))) := by kernel_rfl
noncomputable def nVof3s  : List Nat → Nat → Option Ans := scrAt [([1, 0], 0, Ans.pure [] kdL)]
theorem nVof3 (w : Int) (K : D → Prop) : runS (En Tryz.f43) (fi Tryz.f43 K) (nVof3s ) nolv 200 [.code []] ⟨argSlots 0 [I 3, I w], .empty⟩ =
  (PureW PP 54 [] [] kdL ∧ ((true = true → 4 ≤ lenM) → ((0 : Int) ≤ 3 ∧ 3 < (↑4 : Int)) ∧ ((0 : Int) ≤ 3 ∧ 3 < (↑4 : Int)) ∧ (decide (w ≥ 0) = true → (0 : Int) ≤ 3 ∧ 3 < (↑4 : Int)) ∧ True ∧ K (.tup [.agg [I 0, I 0, D.clo 78 [], D.clo 90 [D.ep [.str { data := #[] : ByteArray }.data.toList]], D.clo 79 [], D.clo 80 [], .str { data := #[] : ByteArray }.data.toList], B (bif decide (w ≥ 0) then decide (w ≤ 0) else false)]))) := by kernel_rfl
instance ddNilf : DD .nilf := ⟨trivial⟩
def kdE : D := .agg [I 0, I 0, .nilf, .nilf, .nilf, .nilf, .str []]
instance ddKdE : DD kdE := inferInstanceAs (DD (.agg [_, _, _, _, _, _, _]))
def kdF (k : Int) : D := if k = 0 then kd0 else if k = 1 then kd1 else if k = 2 then kd2 else if k = 3 then kd3 else kdE
instance ddKdF {k : Int} : DD (kdF k) := by
  unfold kdF
  (repeat' split) <;> infer_instance
/-- Whether there are signals of a kind and a width. -/
def tyB (k w : Int) : Bool := if k = 0 then decide (1 ≤ w ∧ w ≤ 128) else decide ((k = 1 ∨ k = 2 ∨ k = 3) ∧ w = 0)
theorem tyB0 (w : Int) : tyB 0 w = (bif decide (w ≥ 1) then decide (w ≤ 128) else false) := by
  unfold tyB
  rw [if_pos rfl, Bool.eq_iff_iff]; simp
theorem tyBk {k w : Int} (h : k = 1 ∨ k = 2 ∨ k = 3) : tyB k w = (bif decide (w ≥ 0) then decide (w ≤ 0) else false) := by
  unfold tyB
  rw [if_neg (by omega), Bool.eq_iff_iff]; simp; omega
theorem c43 (k w : Int) : Pure PP 43 [I k, I w] (.tup [kdF k, B (tyB k w)]) := by
  by_cases h0 : k = 0
  · subst h0
    rw [tyB0]
    refine pu F43 (by kernel_rfl) (of_eq (nVof0 w _) ⟨PureW.mk c54, fun _ => ⟨by omega, by omega, fun _ => by omega, trivial, ?_⟩⟩)
    exact Wk.refl _
  by_cases h1 : k = 1
  · subst h1
    rw [tyBk (.inl rfl)]
    refine pu F43 (by kernel_rfl) (of_eq (nVof1 w _) ⟨PureW.mk c54, fun _ => ⟨by omega, by omega, fun _ => by omega, trivial, ?_⟩⟩)
    exact Wk.refl _
  by_cases h2 : k = 2
  · subst h2
    rw [tyBk (.inr (.inl rfl))]
    refine pu F43 (by kernel_rfl) (of_eq (nVof2 w _) ⟨PureW.mk c54, fun _ => ⟨by omega, by omega, fun _ => by omega, trivial, ?_⟩⟩)
    exact Wk.refl _
  by_cases h3 : k = 3
  · subst h3
    rw [tyBk (.inr (.inr rfl))]
    refine pu F43 (by kernel_rfl) (of_eq (nVof3 w _) ⟨PureW.mk c54, fun _ => ⟨by omega, by omega, fun _ => by omega, trivial, ?_⟩⟩)
    exact Wk.refl _
  have ht : tyB k w = false := by
    unfold tyB
    rw [if_neg h0, decide_eq_false (by omega)]
  have hk : kdF k = kdE := by
    unfold kdF
    rw [if_neg h0, if_neg h1, if_neg h2, if_neg h3]
  rw [ht, hk]
  refine pu F43 (by kernel_rfl) (of_eq (nVof k w _) ⟨PureW.mk c54, fun _ => ?_⟩)
  have hc : (bif decide (k < 0) then true else decide (k ≥ (4 : Int))) = true := by
    rw [Bool.cond_true_left]; simp; omega
  have hc' : (bif decide (k < 0) then true else decide (k ≥ ((4 : Nat) : Int))) = true := hc
  first | rw [hc] | rw [hc']
  refine at_le (st' := ⟨[(4, .own [I 0, I 0, .nilf, .nilf, .nilf, .nilf, .str []]), (15, B true)], .empty⟩) (runS_sound hmix _ _ _ (of_eq (nVofE _) ⟨trivial, ?_⟩)) ((keepSt_le _ [4, 15] _).cast (by kernel_rfl))
  exact Wk.of_eq (by kernel_rfl)
theorem c430 (w : Int) : Pure PP 43 [I 0, I w] (.tup [kd0, B (tyB 0 w)]) := c43 0 w
theorem c431 (w : Int) : Pure PP 43 [I 1, I w] (.tup [kd1, B (tyB 1 w)]) := c43 1 w
theorem c432 (w : Int) : Pure PP 43 [I 2, I w] (.tup [kd2, B (tyB 2 w)]) := c43 2 w
theorem c433 (w : Int) : Pure PP 43 [I 3, I w] (.tup [kd3, B (tyB 3 w)]) := c43 3 w
theorem c43E (k w : Int) (h : ¬ (k = 0 ∨ k = 1 ∨ k = 2 ∨ k = 3)) : Pure PP 43 [I k, I w] (.tup [kdE, B false]) := by
  have hk : kdF k = kdE := by
    unfold kdF
    rw [if_neg (by omega), if_neg (by omega), if_neg (by omega), if_neg (by omega)]
  have ht : tyB k w = false := by
    unfold tyB
    rw [if_neg (by omega), decide_eq_false (by omega)]
  have := c43 k w
  rw [hk, ht] at this; exact this
theorem F42 : OkF 42 Tryz.f42 := ⟨by kernel_rfl, by kernel_rfl, by kernel_rfl⟩
def lv42 : List (List Nat × List Nat) := []
noncomputable def nVT0s (w : Int) : List Nat → Nat → Option Ans := scrAt [([1, 0], 2, Ans.pure [I 0, I w] (.tup [kd0, B (tyB 0 w)]))]
theorem nVT0 (w : Int) (K : D → Prop) : runS (En Tryz.f42) (fi Tryz.f42 K) (nVT0s w) lv42 200 [.code []] ⟨argSlots 0 [I 0, I w], .empty⟩ =
  (PureW PP 43 [I 0, I w] [I 0, I w] (.tup [kd0, B (tyB 0 w)]) ∧ True ∧ K (B (tyB 0 w))) := by kernel_rfl
noncomputable def nVT1s (w : Int) : List Nat → Nat → Option Ans := scrAt [([1, 0], 2, Ans.pure [I 1, I w] (.tup [kd1, B (tyB 1 w)]))]
theorem nVT1 (w : Int) (K : D → Prop) : runS (En Tryz.f42) (fi Tryz.f42 K) (nVT1s w) lv42 200 [.code []] ⟨argSlots 0 [I 1, I w], .empty⟩ =
  (PureW PP 43 [I 1, I w] [I 1, I w] (.tup [kd1, B (tyB 1 w)]) ∧ True ∧ K (B (tyB 1 w))) := by kernel_rfl
noncomputable def nVT2s (w : Int) : List Nat → Nat → Option Ans := scrAt [([1, 0], 2, Ans.pure [I 2, I w] (.tup [kd2, B (tyB 2 w)]))]
theorem nVT2 (w : Int) (K : D → Prop) : runS (En Tryz.f42) (fi Tryz.f42 K) (nVT2s w) lv42 200 [.code []] ⟨argSlots 0 [I 2, I w], .empty⟩ =
  (PureW PP 43 [I 2, I w] [I 2, I w] (.tup [kd2, B (tyB 2 w)]) ∧ True ∧ K (B (tyB 2 w))) := by kernel_rfl
noncomputable def nVT3s (w : Int) : List Nat → Nat → Option Ans := scrAt [([1, 0], 2, Ans.pure [I 3, I w] (.tup [kd3, B (tyB 3 w)]))]
theorem nVT3 (w : Int) (K : D → Prop) : runS (En Tryz.f42) (fi Tryz.f42 K) (nVT3s w) lv42 200 [.code []] ⟨argSlots 0 [I 3, I w], .empty⟩ =
  (PureW PP 43 [I 3, I w] [I 3, I w] (.tup [kd3, B (tyB 3 w)]) ∧ True ∧ K (B (tyB 3 w))) := by kernel_rfl
noncomputable def nVTEs (k : Int) (w : Int) : List Nat → Nat → Option Ans := scrAt [([1, 0], 2, Ans.pure [I k, I w] (.tup [kdE, B false]))]
theorem nVTE (k w : Int) (K : D → Prop) : runS (En Tryz.f42) (fi Tryz.f42 K) (nVTEs k w) lv42 200 [.code []] ⟨argSlots 0 [I k, I w], .empty⟩ =
  (PureW PP 43 [I k, I w] [I k, I w] (.tup [kdE, B false]) ∧ True ∧ K (B false)) := by kernel_rfl
theorem tyBE {k w : Int} (h : ¬ (k = 0 ∨ k = 1 ∨ k = 2 ∨ k = 3)) : tyB k w = false := by
  unfold tyB
  rw [if_neg (by omega), decide_eq_false (by omega)]
theorem c42 (k w : Int) : Pure PP 42 [I k, I w] (B (tyB k w)) := by
  by_cases h : k = 0 ∨ k = 1 ∨ k = 2 ∨ k = 3
  · rcases h with rfl | rfl | rfl | rfl
    · exact pu F42 (by kernel_rfl) (of_eq (nVT0 w _) ⟨PureW.mk (c430 w), trivial, Wk.refl _⟩)
    · exact pu F42 (by kernel_rfl) (of_eq (nVT1 w _) ⟨PureW.mk (c431 w), trivial, Wk.refl _⟩)
    · exact pu F42 (by kernel_rfl) (of_eq (nVT2 w _) ⟨PureW.mk (c432 w), trivial, Wk.refl _⟩)
    · exact pu F42 (by kernel_rfl) (of_eq (nVT3 w _) ⟨PureW.mk (c433 w), trivial, Wk.refl _⟩)
  · rw [tyBE h]
    exact pu F42 (by kernel_rfl) (of_eq (nVTE k w _) ⟨PureW.mk (c43E k w h), trivial, Wk.refl _⟩)
theorem F68 : OkF 68 Tryz.f68 := ⟨by kernel_rfl, by kernel_rfl, by kernel_rfl⟩
def lv68 : List (List Nat × List Nat) := []
noncomputable def nK2s (q : Str) : List Nat → Nat → Option Ans := scrAt [([1, 0], 1, Ans.pure [.str q] (B (canG q).snd))]
theorem nK2 (w : Int) (q : Str) (K : D → Prop) : runS (En Tryz.f68) (fi Tryz.f68 K) (nK2s q) lv68 200 [.code []] ⟨argSlots 0 [I w, .str q], .empty⟩ =
  (PureW PP 69 [.str q] [.str q] (B (canG q).snd) ∧ K (B (canG q).snd)) := by kernel_rfl
theorem F74 : OkF 74 Tryz.f74 := ⟨by kernel_rfl, by kernel_rfl, by kernel_rfl⟩
def lv74 : List (List Nat × List Nat) := []
noncomputable def nK5s  : List Nat → Nat → Option Ans := scrAt []
theorem nK5 (w : Int) (q : Str) (K : D → Prop) : runS (En Tryz.f74) (fi Tryz.f74 K) (nK5s ) lv74 200 [.code []] ⟨argSlots 0 [I w, .str q], .empty⟩ =
  (List.length q ≤ strM → K (B (decide ((↑(List.length q) : Int) ≤ 64)))) := by kernel_rfl
theorem F78 : OkF 78 Tryz.f78 := ⟨by kernel_rfl, by kernel_rfl, by kernel_rfl⟩
def lv78 : List (List Nat × List Nat) := []
noncomputable def nK7s  : List Nat → Nat → Option Ans := scrAt []
theorem nK7 (w : Int) (q : Str) (K : D → Prop) : runS (En Tryz.f78) (fi Tryz.f78 K) (nK7s ) lv78 200 [.code []] ⟨argSlots 0 [I w, .str q], .empty⟩ =
  (K (B (q == { data := #[] : ByteArray }.data.toList))) := by kernel_rfl
theorem c68 (w : Int) (q : Str) : Pure PP 68 [I w, .str q] (B (canG q).2) := pu F68 (by kernel_rfl) (of_eq (nK2 w q _) ⟨PureW.mk (c69 q), Wk.refl _⟩)
theorem c74 (w : Int) (q : Str) : Pure PP 74 [I w, .str q] (B (decide (q.length ≤ 64))) := by
  refine pu F74 (by kernel_rfl) (of_eq (nK5 w q _) fun _ => ?_)
  have : decide ((q.length : Int) ≤ 64) = decide (q.length ≤ 64) := decide_eq_decide.2 (by omega)
  rw [this]; exact Wk.refl _
theorem c78 (w : Int) (q : Str) : Pure PP 78 [I w, .str q] (B (decide (q = []))) := by
  refine pu F78 (by kernel_rfl) (of_eq (nK7 w q _) ?_)
  rw [empB]; exact Wk.refl _
theorem cLV120 : Pure PP 36 [.int .u8 120] (B true) := c36 120
theorem cRepZ (z : Int) (h0 : 0 ≤ z ∧ z ≤ 1000) : Pure PP 37 [.str [120], I z] (.str (List.replicate z.toNat 120)) := by
  have := c37 [120] z.toNat (by simp; omega) (by omega)
  have e : Lib.repeatL [120] z.toNat = List.replicate z.toNat 120 := by
    generalize z.toNat = n
    induction n with
    | zero => rfl
    | succ n ih => rw [List.replicate_succ, ← ih]; rfl
  rw [e, show ((z.toNat : Nat) : Int) = z by omega] at this
  exact this
theorem F19 : OkF 19 Tryz.f19 := ⟨by kernel_rfl, by kernel_rfl, by kernel_rfl⟩
def lv19 : List (List Nat × List Nat) := []
noncomputable def nBAs (w : Int) : List Nat → Nat → Option Ans := scrAt [([1, 0, 0], 8, Ans.pure [D.int IntKind.u8 120] (B true)), ([1, 1, 0], 4, Ans.pure [.str [120], I w] (.str (List.replicate w.toNat 120)))]
theorem nBA (w : Int) (K : D → Prop) : runS (En Tryz.f19) (fi Tryz.f19 K) (nBAs w) lv19 200 [.code []] ⟨argSlots 0 [I w, .int .u8 120], .empty⟩ =
  (((!bif decide (w < 1) then true else decide (w > 128)) = true → PureW PP 36 [D.int IntKind.u8 120] [D.int IntKind.u8 120] (B true)) ∧ bif bif bif decide (w < 1) then true else decide (w > 128) then true else false then K (.str { data := #[] : ByteArray }.data.toList) else allByte 1 (litG [D.int IntKind.u8 120]) ∧ PureW PP 37 [.str [120], I w] [.str [120], I w] (.str (List.replicate w.toNat 120)) ∧ K (.str (List.replicate w.toNat 120))) := by kernel_rfl
def allX (w : Int) : Str := if 1 ≤ w ∧ w ≤ 128 then List.replicate w.toNat 120 else []
theorem c19 (w : Int) : Pure PP 19 [I w, .int .u8 120] (.str (allX w)) := by
  refine pu F19 (by kernel_rfl) (of_eq (nBA w _) ⟨fun _ => PureW.mk cLV120, ?_⟩)
  by_cases h : 1 ≤ w ∧ w ≤ 128
  · have hc : (bif decide (w < 1) then true else decide (w > 128)) = false := by
      rw [decide_eq_false (by omega), cond_false, decide_eq_false (by omega)]
    unfold allX
    rw [hc, if_pos h]
    refine ⟨fun i hi => ?_, PureW.mk (cRepZ w (by omega)), Wk.refl _⟩
    have : i = 0 := by omega
    subst this
    exact ⟨120, rfl⟩
  · have hc : (bif decide (w < 1) then true else decide (w > 128)) = true := by
      by_cases h1 : w < 1
      · rw [decide_eq_true h1]; rfl
      · rw [decide_eq_false h1, cond_false, decide_eq_true (by omega)]
    unfold allX
    rw [hc, if_neg h]
    exact Wk.refl _
end Go.Proofs.YtmlhaikblfjghaaGreatDoor.S1
/- Values: valid values; snapshots. -/
namespace Go.Proofs.YtmlhaikblfjghaaGreatDoor.S1
open Go Go.Ab Go.Proofs
-- nolay
attribute [local instance] LT10
/-- A proposition as a truth value. -/
noncomputable def pB (p : Prop) : Bool := @decide p (Classical.propDecidable p)
theorem pB_t {p : Prop} (h : p) : pB p = true := by unfold pB; exact @decide_eq_true p (Classical.propDecidable p) h
theorem pB_f {p : Prop} (h : ¬ p) : pB p = false := by unfold pB; exact @decide_eq_false p (Classical.propDecidable p) h
theorem pB_iff {p : Prop} : pB p = true ↔ p := ⟨fun h => by unfold pB at h; exact @of_decide_eq_true p (Classical.propDecidable p) h, pB_t⟩
theorem pB_no {p : Prop} : pB p = false ↔ ¬ p := ⟨fun h k => (by rw [pB_t k] at h; cases h), pB_f⟩
theorem F34 : OkF 34 Tryz.f34 := ⟨by kernel_rfl, by kernel_rfl, by kernel_rfl⟩
def lv34 : List (List Nat × List Nat) := []
noncomputable def nVV0s (w : Int) (q : Str) : List Nat → Nat → Option Ans := scrAt [([1, 0], 2, Ans.pure [I 0, I w] (.tup [kd0, B (tyB 0 w)])), ([1, 1, 0], 6, Ans.pure [I w, .str q] (B (bif bvB q then (↑(List.length q) : Int) == w else false)))]
theorem nVV0 (w : Int) (q : Str) (K : D → Prop) : runS (En Tryz.f34) (fi Tryz.f34 K) (nVV0s w q) lv34 200 [.code []] ⟨argSlots 0 [I 0, I w, .str q], .empty⟩ =
  (PureW PP 43 [I 0, I w] [I 0, I w] (.tup [kd0, B (tyB 0 w)]) ∧ True ∧ (tyB 0 w = true → PureW PP 64 [I w, .str q] [I w, .str q] (B (bif bvB q then (↑(List.length q) : Int) == w else false))) ∧ K (B (bif tyB 0 w then bif bvB q then (↑(List.length q) : Int) == w else false else false))) := by kernel_rfl
noncomputable def nVV1s (w : Int) (q : Str) : List Nat → Nat → Option Ans := scrAt [([1, 0], 2, Ans.pure [I 1, I w] (.tup [kd1, B (tyB 1 w)])), ([1, 1, 0], 6, Ans.pure [I w, .str q] (B (canG q).snd))]
theorem nVV1 (w : Int) (q : Str) (K : D → Prop) : runS (En Tryz.f34) (fi Tryz.f34 K) (nVV1s w q) lv34 200 [.code []] ⟨argSlots 0 [I 1, I w, .str q], .empty⟩ =
  (PureW PP 43 [I 1, I w] [I 1, I w] (.tup [kd1, B (tyB 1 w)]) ∧ True ∧ (tyB 1 w = true → PureW PP 68 [I w, .str q] [I w, .str q] (B (canG q).snd)) ∧ K (B (bif tyB 1 w then (canG q).snd else false))) := by kernel_rfl
noncomputable def nVV2s (w : Int) (q : Str) : List Nat → Nat → Option Ans := scrAt [([1, 0], 2, Ans.pure [I 2, I w] (.tup [kd2, B (tyB 2 w)])), ([1, 1, 0], 6, Ans.pure [I w, .str q] (B (decide (List.length q ≤ 64))))]
theorem nVV2 (w : Int) (q : Str) (K : D → Prop) : runS (En Tryz.f34) (fi Tryz.f34 K) (nVV2s w q) lv34 200 [.code []] ⟨argSlots 0 [I 2, I w, .str q], .empty⟩ =
  (PureW PP 43 [I 2, I w] [I 2, I w] (.tup [kd2, B (tyB 2 w)]) ∧ True ∧ (tyB 2 w = true → PureW PP 74 [I w, .str q] [I w, .str q] (B (decide (List.length q ≤ 64)))) ∧ K (B (bif tyB 2 w then decide (List.length q ≤ 64) else false))) := by kernel_rfl
noncomputable def nVV3s (w : Int) (q : Str) : List Nat → Nat → Option Ans := scrAt [([1, 0], 2, Ans.pure [I 3, I w] (.tup [kd3, B (tyB 3 w)])), ([1, 1, 0], 6, Ans.pure [I w, .str q] (B (decide (q = []))))]
theorem nVV3 (w : Int) (q : Str) (K : D → Prop) : runS (En Tryz.f34) (fi Tryz.f34 K) (nVV3s w q) lv34 200 [.code []] ⟨argSlots 0 [I 3, I w, .str q], .empty⟩ =
  (PureW PP 43 [I 3, I w] [I 3, I w] (.tup [kd3, B (tyB 3 w)]) ∧ True ∧ (tyB 3 w = true → PureW PP 78 [I w, .str q] [I w, .str q] (B (decide (q = [])))) ∧ K (B (bif tyB 3 w then decide (q = []) else false))) := by kernel_rfl
/-- Whether a string is a value of signals of a kind and a width. -/
def vvF (k w : Int) (q : Str) : Bool := bif tyB k w then (if k = 0 then (bif bvB q then (q.length : Int) == w else false) else if k = 1 then (canG q).2 else if k = 2 then decide (q.length ≤ 64) else decide (q = [])) else false
theorem c34 (k w : Int) (q : Str) (hk : k = 0 ∨ k = 1 ∨ k = 2 ∨ k = 3) (hq : q.length ≤ 1000000) : Pure PP 34 [I k, I w, .str q] (B (vvF k w q)) := by
  rcases hk with rfl | rfl | rfl | rfl
  · exact pu F34 (by kernel_rfl) (of_eq (nVV0 w q _) ⟨PureW.mk (c430 w), trivial, fun _ => PureW.mk (c64 w q hq), Wk.refl _⟩)
  · exact pu F34 (by kernel_rfl) (of_eq (nVV1 w q _) ⟨PureW.mk (c431 w), trivial, fun _ => PureW.mk (c68 w q), Wk.refl _⟩)
  · exact pu F34 (by kernel_rfl) (of_eq (nVV2 w q _) ⟨PureW.mk (c432 w), trivial, fun _ => PureW.mk (c74 w q), Wk.refl _⟩)
  · exact pu F34 (by kernel_rfl) (of_eq (nVV3 w q _) ⟨PureW.mk (c433 w), trivial, fun _ => PureW.mk (c78 w q), Wk.refl _⟩)
theorem F33 : OkF 33 Tryz.f33 := ⟨by kernel_rfl, by kernel_rfl, by kernel_rfl⟩
def lv33 : List (List Nat × List Nat) := [([1, 0, 1, 0], [0, 5, 6, 7])]
noncomputable def nStys  : List Nat → Nat → Option Ans := scrAt []
theorem nSty (st : List Sto) (K : D → Prop) : runS (En Tryz.f33) (fi Tryz.f33 K) (nStys ) lv33 200 [.code []] ⟨argSlots 0 [L st 2 Sto.d], .empty⟩ =
  (st.length ≤ lenM → At (En Tryz.f33) (fi Tryz.f33 K) [It.code [1, 0, 1, 0], It.blk 0, It.code [1, 1]] { sl := [(0, L st 2 Sto.d), (5, L st 2 Sto.d), (6, I (↑st.length : Int)), (7, I 0)], h := Heap.empty : St }) := by kernel_rfl
def SSty (st : List Sto) (i : Int) : St := ⟨[(0, L st 2 Sto.d), (5, L st 2 Sto.d), (6, I st.length), (7, I i)], .empty⟩
noncomputable def nStyas (st : List Sto) (i : Int) : List Nat → Nat → Option Ans := scrAt [([1, 0, 1, 0, 0, 1, 1, 0, 0, 1, 0], 4, Ans.pure [I (st.getD i.toNat default).kind, I (st.getD i.toNat default).wid] (B (tyB (st.getD i.toNat default).kind (st.getD i.toNat default).wid)))]
theorem nStya (st : List Sto) (i : Int) (J : St → Prop) (K : D → Prop) : runS (En Tryz.f33) (fi Tryz.f33 K) (nStyas st i) lv33 200 [.code [1, 0, 1, 0, 0], stp [0, 5, 6, 7] J, .blk 0, .code [1, 1]] (SSty st i) =
  (bif decide (i < (↑st.length : Int)) then (0 ≤ i ∧ i < (↑st.length : Int)) ∧ True ∧ PureW PP 42 [I (st.getD i.toNat default).kind, I (st.getD i.toNat default).wid] [I (st.getD i.toNat default).kind, I (st.getD i.toNat default).wid] (B (tyB (st.getD i.toNat default).kind (st.getD i.toNat default).wid)) ∧ bif !tyB (st.getD i.toNat default).kind (st.getD i.toNat default).wid then K (B false) else J { sl := [(0, L st 2 Sto.d), (5, L st 2 Sto.d), (6, I (↑st.length : Int)), (7, I (addI .i64 i 1))], h := Heap.empty : St } else st.length ≤ lenM → K (B (decide ((↑st.length : Int) ≤ 64)))) := by kernel_rfl
def TyP (st : List Sto) : Prop := (∀ o ∈ st, tyB o.kind o.wid = true) ∧ st.length ≤ 64
theorem mem_take_succ {α : Type} [Inhabited α] {l : List α} {i : Nat} (h : i < l.length) {x : α} (hx : x ∈ l.take (i + 1)) : x ∈ l.take i ∨ x = l.getD i default := by
  rw [take_snoc _ _ h] at hx
  rcases List.mem_append.1 hx with h1 | h1
  · exact .inl h1
  · exact .inr (by simpa using h1)
theorem c33 (st : List Sto) : Pure PP 33 [L st 2 Sto.d] (B (pB (TyP st))) := by
  refine pu F33 (by kernel_rfl) (of_eq (nSty st _) fun hl => ?_)
  refine lp (fn := Tryz.f33) (fun i : Nat => i ≤ st.length ∧ ∀ o ∈ st.take i, tyB o.kind o.wid = true) (fun i => SSty st i) (fun i => st.length - i) [0, 5, 6, 7] (by kernel_rfl) (fun i hi => of_eq (nStya st i _ _) (cond_intro (fun hlt => ?_) fun hge => ?_)) 0 ⟨Nat.zero_le _, fun o ho => by simp at ho⟩
  · have hlt := ltI hlt
    obtain ⟨hi, ha⟩ := hi
    rw [Int.toNat_natCast, add1 hlt hl]
    refine ⟨⟨by omega, by omega⟩, trivial, PureW.mk (c42 _ _), cond_intro (fun h => ?_) fun h => ?_⟩
    · have h : tyB (st.getD i default).kind (st.getD i default).wid = false := by simpa using h
      have : pB (TyP st) = false := pB_f fun k => by
        have := k.1 _ (getD_mem hlt)
        rw [h] at this; cases this
      rw [this]; exact Wk.refl _
    · have h : tyB (st.getD i default).kind (st.getD i default).wid = true := by simpa using h
      refine Nx.mk (i + 1) ⟨hlt, fun o ho => ?_⟩ (by omega)
      rcases mem_take_succ hlt ho with h1 | rfl
      · exact ha o h1
      · exact h
  · obtain ⟨hi, ha⟩ := hi
    rw [List.take_of_length_le (geI hge)] at ha
    intro _
    have : decide ((st.length : Int) ≤ 64) = pB (TyP st) := by
      by_cases h : st.length ≤ 64
      · rw [pB_t ⟨ha, h⟩, decide_eq_true (by omega)]
      · rw [pB_f fun k => h k.2, decide_eq_false (by omega)]
    rw [this]; exact Wk.refl _
theorem tyB_k {k w : Int} (h : tyB k w = true) : k = 0 ∨ k = 1 ∨ k = 2 ∨ k = 3 := by
  rcases Classical.em (k = 0 ∨ k = 1 ∨ k = 2 ∨ k = 3) with h1 | h1
  · exact h1
  · rw [tyBE h1] at h; cases h
theorem F12 : OkF 12 Tryz.f12 := ⟨by kernel_rfl, by kernel_rfl, by kernel_rfl⟩
def lv12 : List (List Nat × List Nat) := [([1, 1, 0, 1, 0], [1, 17, 18, 19])]
noncomputable def nSnvs (st : List Sto) : List Nat → Nat → Option Ans := scrAt [([1, 0, 0], 1, Ans.pure [L st 2 Sto.d] (B (pB (TyP st))))]
theorem nSnv (st : List Sto) (vs : List Str) (K : D → Prop) : runS (En Tryz.f12) (fi Tryz.f12 K) (nSnvs st) lv12 200 [.code []] ⟨argSlots 0 [L st 2 Sto.d, L vs 1 .str], .empty⟩ =
  (PureW PP 33 [L st 2 Sto.d] [L st 2 Sto.d] (B (pB (TyP st))) ∧ (((!!pB (TyP st)) = true → vs.length ≤ lenM) → ((!!pB (TyP st)) = true → st.length ≤ lenM) → bif bif !pB (TyP st) then true else (↑vs.length : Int) != (↑st.length : Int) then K (B false) else st.length ≤ lenM → At (En Tryz.f12) (fi Tryz.f12 K) [It.code [1, 1, 0, 1, 0], It.blk 0, It.code [1, 1, 1]] { sl := [(1, L vs 1 .str), (17, L st 2 Sto.d), (18, I (↑st.length : Int)), (19, I 0)], h := Heap.empty : St })) := by kernel_rfl
def SSnv (st : List Sto) (vs : List Str) (i : Int) : St := ⟨[(1, L vs 1 .str), (17, L st 2 Sto.d), (18, I st.length), (19, I i)], .empty⟩
noncomputable def nSnvas (st : List Sto) (vs : List Str) (i : Int) : List Nat → Nat → Option Ans := scrAt [([1, 1, 0, 1, 0, 0, 1, 1, 0, 0, 1, 0], 8, Ans.pure [I (st.getD i.toNat default).kind, I (st.getD i.toNat default).wid, .str (vs.getD i.toNat default)] (B (vvF (st.getD i.toNat default).kind (st.getD i.toNat default).wid (vs.getD i.toNat default))))]
theorem nSnva (st : List Sto) (vs : List Str) (i : Int) (J : St → Prop) (K : D → Prop) : runS (En Tryz.f12) (fi Tryz.f12 K) (nSnvas st vs i) lv12 200 [.code [1, 1, 0, 1, 0, 0], stp [1, 17, 18, 19] J, .blk 0, .code [1, 1, 1]] (SSnv st vs i) =
  (bif decide (i < (↑st.length : Int)) then (0 ≤ i ∧ i < (↑st.length : Int)) ∧ True ∧ (0 ≤ i ∧ i < (↑vs.length : Int)) ∧ PureW PP 34 [I (st.getD i.toNat default).kind, I (st.getD i.toNat default).wid, .str (vs.getD i.toNat default)] [I (st.getD i.toNat default).kind, I (st.getD i.toNat default).wid, .str (vs.getD i.toNat default)] (B (vvF (st.getD i.toNat default).kind (st.getD i.toNat default).wid (vs.getD i.toNat default))) ∧ bif !vvF (st.getD i.toNat default).kind (st.getD i.toNat default).wid (vs.getD i.toNat default) then K (B false) else J { sl := [(1, L vs 1 .str), (17, L st 2 Sto.d), (18, I (↑st.length : Int)), (19, I (addI .i64 i 1))], h := Heap.empty : St } else K (B true)) := by kernel_rfl
def vvS (o : Sto) (q : Str) : Bool := vvF o.kind o.wid q
def SvP (st : List Sto) (vs : List Str) : Prop := TyP st ∧ vs.length = st.length ∧ ∀ i, i < st.length → vvS (st.getD i default) (vs.getD i default) = true
theorem c12 (st : List Sto) (vs : List Str) (hv : ∀ v ∈ vs, v.length ≤ 1000000) : Pure PP 12 [L st 2 Sto.d, L vs 1 .str] (B (pB (SvP st vs))) := by
  refine pu F12 (by kernel_rfl) (of_eq (nSnv st vs _) ⟨PureW.mk (c33 st), fun _ _ => cond_intro (fun h => ?_) fun h hl => ?_⟩)
  · have : pB (SvP st vs) = false := pB_f fun k => by
      rw [pB_t k.1] at h
      have := k.2.1
      simp at h; omega
    rw [this]; exact Wk.refl _
  · obtain ⟨hty, hlen⟩ : TyP st ∧ vs.length = st.length := by
      cases hb : pB (TyP st) with
      | false => rw [hb] at h; cases h
      | true =>
        rw [hb] at h
        simp at h
        exact ⟨pB_iff.1 hb, by omega⟩
    refine lp (fn := Tryz.f12) (fun i : Nat => i ≤ st.length ∧ ∀ j, j < i → vvS (st.getD j default) (vs.getD j default) = true) (fun i => SSnv st vs i) (fun i => st.length - i) [1, 17, 18, 19] (by kernel_rfl) (fun i hi => of_eq (nSnva st vs i _ _) (cond_intro (fun hlt => ?_) fun hge => ?_)) 0 ⟨Nat.zero_le _, fun j hj => by omega⟩
    · have hlt := ltI hlt
      obtain ⟨hi, ha⟩ := hi
      rw [Int.toNat_natCast, add1 hlt hl]
      refine ⟨⟨by omega, by omega⟩, trivial, ⟨by omega, by omega⟩, PureW.mk (c34 _ _ _ (tyB_k (hty.1 _ (getD_mem hlt))) (hv _ (getD_mem (by omega)))), cond_intro (fun h => ?_) fun h => ?_⟩
      · have h : vvS (st.getD i default) (vs.getD i default) = false := by simpa [vvS] using h
        have : pB (SvP st vs) = false := pB_f fun k => by
          have := k.2.2 i hlt
          rw [h] at this; cases this
        rw [this]; exact Wk.refl _
      · have h : vvS (st.getD i default) (vs.getD i default) = true := by simpa [vvS] using h
        refine Nx.mk (i + 1) ⟨hlt, fun j hj => ?_⟩ (by omega)
        rcases Nat.lt_succ_iff_lt_or_eq.1 hj with h1 | rfl
        · exact ha j h1
        · exact h
    · obtain ⟨hi, ha⟩ := hi
      have := geI hge
      rw [pB_t ⟨hty, hlen, fun j hj => ha j (by omega)⟩]; exact Wk.refl _
end Go.Proofs.YtmlhaikblfjghaaGreatDoor.S1
/- Segments and gaps. -/
namespace Go.Proofs.YtmlhaikblfjghaaGreatDoor.S1
open Go Go.Ab Go.Proofs
-- nolay
attribute [local instance] LT10
theorem F35 : OkF 35 Tryz.f35 := ⟨by kernel_rfl, by kernel_rfl, by kernel_rfl⟩
def lv35 : List (List Nat × List Nat) := []
noncomputable def nSgis (o : Sto) : List Nat → Nat → Option Ans := scrAt [([1, 0], 4, Ans.pure [I o.kind, I o.wid] (B (tyB o.kind o.wid)))]
theorem nSgi (o : Sto) (a b : Int) (K : D → Prop) : runS (En Tryz.f35) (fi Tryz.f35 K) (nSgis o) lv35 200 [.code []] ⟨argSlots 0 [o.d, I a, I b], .empty⟩ =
  (PureW PP 42 [I o.kind, I o.wid] [I o.kind, I o.wid] (B (tyB o.kind o.wid)) ∧ K (B (bif bif bif tyB o.kind o.wid then decide (a ≥ -1) else false then decide (a ≤ b) else false then decide (b ≤ 1099511627776) else false))) := by kernel_rfl
def IvP (o : Sto) (a b : Int) : Prop := tyB o.kind o.wid = true ∧ -1 ≤ a ∧ a ≤ b ∧ b ≤ 1099511627776
theorem c35 (o : Sto) (a b : Int) : Pure PP 35 [o.d, I a, I b] (B (pB (IvP o a b))) := by
  refine pu F35 (by kernel_rfl) (of_eq (nSgi o a b _) ⟨PureW.mk (c42 _ _), ?_⟩)
  have : (bif bif bif tyB o.kind o.wid then decide (a ≥ -1) else false then decide (a ≤ b) else false then decide (b ≤ 1099511627776) else false) = pB (IvP o a b) := by
    rw [Bool.eq_iff_iff, pB_iff]
    unfold IvP
    cases tyB o.kind o.wid <;> simp <;> omega
  rw [this]; exact Wk.refl _
theorem F15 : OkF 15 Tryz.f15 := ⟨by kernel_rfl, by kernel_rfl, by kernel_rfl⟩
def lv15 : List (List Nat × List Nat) := [([1, 1, 1, 0, 1, 0], [2, 3, 5, 11, 34, 35, 36])]
noncomputable def nSgvs (o : Sto) (a : Int) (b : Int) (q : Str) : List Nat → Nat → Option Ans := scrAt [([1, 0, 0], 3, Ans.pure [o.d, I a, I b] (B (pB (IvP o a b)))), ([1, 0, 0], 11, Ans.pure [I o.kind, I o.wid, .str q] (B (vvF o.kind o.wid q)))]
theorem nSgv (o : Sto) (a b : Int) (q : Str) (l : List Cg) (K : D → Prop) : runS (En Tryz.f15) (fi Tryz.f15 K) (nSgvs o a b q) lv15 200 [.code []] ⟨argSlots 0 [o.d, I a, I b, .str q, L l 2 Cg.d], .empty⟩ =
  (PureW PP 35 [o.d, I a, I b] [o.d, I a, I b] (B (pB (IvP o a b))) ∧ ((!!pB (IvP o a b)) = true → PureW PP 34 [I o.kind, I o.wid, .str q] [I o.kind, I o.wid, .str q] (B (vvF o.kind o.wid q))) ∧ (((!bif !pB (IvP o a b) then true else !vvF o.kind o.wid q) = true → l.length ≤ lenM) → bif bif bif !pB (IvP o a b) then true else !vvF o.kind o.wid q then true else decide ((↑l.length : Int) > 4096) then K (B false) else l.length ≤ lenM → At (En Tryz.f15) (fi Tryz.f15 K) [It.code [1, 1, 1, 0, 1, 0], It.blk 0, It.code [1, 1, 1, 1]] { sl := [(2, I b), (3, .str q), (5, .own [I o.kind, I o.wid]), (11, I a), (34, L l 2 Cg.d), (35, I (↑l.length : Int)), (36, I 0)], h := Heap.empty : St })) := by kernel_rfl
def SSgv (o : Sto) (b : Int) (q : Str) (a : Int) (l : List Cg) (i : Int) : St := ⟨[(2, I b), (3, .str q), (5, .own [I o.kind, I o.wid]), (11, I a), (34, L l 2 Cg.d), (35, I l.length), (36, I i)], .empty⟩
noncomputable def nSgvas (o : Sto) (l : List Cg) (i : Int) : List Nat → Nat → Option Ans := scrAt [([1, 1, 1, 0, 1, 0, 0, 1, 1, 0, 0, 1, 0, 0], 17, Ans.pure [I o.kind, I o.wid, .str (l.getD i.toNat default).val] (B (vvF o.kind o.wid (l.getD i.toNat default).val)))]
theorem nSgva (o : Sto) (b : Int) (q : Str) (a : Int) (l : List Cg) (i : Int) (J : St → Prop) (K : D → Prop) : runS (En Tryz.f15) (fi Tryz.f15 K) (nSgvas o l i) lv15 200 [.code [1, 1, 1, 0, 1, 0, 0], stp [2, 3, 5, 11, 34, 35, 36] J, .blk 0, .code [1, 1, 1, 1]] (SSgv o b q a l i) =
  (bif decide (i < (↑l.length : Int)) then (0 ≤ i ∧ i < (↑l.length : Int)) ∧ True ∧ ((!bif decide ((l.getD i.toNat default).time ≤ a) then true else decide ((l.getD i.toNat default).time > b)) = true → PureW PP 34 [I o.kind, I o.wid, .str (l.getD i.toNat default).val] [I o.kind, I o.wid, .str (l.getD i.toNat default).val] (B (vvF o.kind o.wid (l.getD i.toNat default).val))) ∧ bif bif bif bif decide ((l.getD i.toNat default).time ≤ a) then true else decide ((l.getD i.toNat default).time > b) then true else !vvF o.kind o.wid (l.getD i.toNat default).val then true else bif o.kind != 3 then (l.getD i.toNat default).val == q else false then K (B false) else J { sl := [(2, I b), (3, .str (l.getD i.toNat default).val), (5, .own [I o.kind, I o.wid]), (11, I (l.getD i.toNat default).time), (34, L l 2 Cg.d), (35, I (↑l.length : Int)), (36, I (addI .i64 i 1))], h := Heap.empty : St } else K (B true)) := by kernel_rfl
theorem segC (vv : Str → Bool) (k a b : Int) (q : Str) (c : Cg) : (bif bif bif decide (c.time ≤ a) then true else decide (c.time > b) then true else !vv c.val then true else bif k != 3 then c.val == q else false) = false ↔ (a < c.time ∧ c.time ≤ b ∧ vv c.val = true ∧ (decide (k = 3) = true ∨ c.val ≠ q)) := by
  by_cases h1 : c.time ≤ a
  · simp [h1]; omega
  · by_cases h2 : c.time > b
    · simp [h1, h2]; omega
    · have h3 : a < c.time ∧ c.time ≤ b := by omega
      by_cases h4 : k = 3 <;> simp [h1, h2, h3, h4] <;> omega
def SgP (o : Sto) (a b : Int) (q : Str) (l : List Cg) : Prop := IvP o a b ∧ vvS o q = true ∧ l.length ≤ 4096 ∧ segV (vvS o) (decide (o.kind = 3)) b a q l
theorem c15 (o : Sto) (a b : Int) (q : Str) (l : List Cg) (hq : q.length ≤ 1000000) (hl : ∀ c ∈ l, c.val.length ≤ 1000000) : Pure PP 15 [o.d, I a, I b, .str q, L l 2 Cg.d] (B (pB (SgP o a b q l))) := by
  have hk : pB (IvP o a b) = true → o.kind = 0 ∨ o.kind = 1 ∨ o.kind = 2 ∨ o.kind = 3 := fun h => tyB_k (pB_iff.1 h).1
  refine pu F15 (by kernel_rfl) (of_eq (nSgv o a b q l _) ⟨PureW.mk (c35 o a b), fun h => PureW.mk (c34 _ _ _ (hk (by simpa using h)) hq), fun _ => cond_intro (fun h => ?_) fun h hlm => ?_⟩)
  · have : pB (SgP o a b q l) = false := pB_f fun k => by
      obtain ⟨k1, k2, k3, _⟩ := k
      rw [pB_t k1, show vvF o.kind o.wid q = true from k2] at h
      simp at h; omega
    rw [this]; exact Wk.refl _
  · obtain ⟨h1, h2, h3⟩ : IvP o a b ∧ vvS o q = true ∧ l.length ≤ 4096 := by
      cases hb : pB (IvP o a b) with
      | false => rw [hb] at h; cases h
      | true =>
        cases hv : vvF o.kind o.wid q with
        | false => rw [hb, hv] at h; cases h
        | true =>
          rw [hb, hv] at h
          simp at h
          exact ⟨pB_iff.1 hb, hv, by omega⟩
    have hkk := hk (pB_t h1)
    refine lp (fn := Tryz.f15) (fun x : Nat × Int × Str => x.1 ≤ l.length ∧ (segV (vvS o) (decide (o.kind = 3)) b a q l ↔ segV (vvS o) (decide (o.kind = 3)) b x.2.1 x.2.2 (l.drop x.1))) (fun x => SSgv o b x.2.2 x.2.1 l x.1) (fun x => l.length - x.1) [2, 3, 5, 11, 34, 35, 36] (by kernel_rfl) (fun x hx => of_eq (nSgva o b x.2.2 x.2.1 l x.1 _ _) ?_) (0, a, q) ⟨Nat.zero_le _, Iff.rfl⟩
    obtain ⟨i, at_, bf⟩ := x
    obtain ⟨hi, hs⟩ := hx
    simp only at hi hs ⊢
    refine cond_intro (fun hlt => ?_) fun hge => ?_
    · have hlt := ltI hlt
      rw [drop_cons _ _ hlt] at hs
      rw [Int.toNat_natCast, add1 hlt hlm]
      refine ⟨⟨by omega, by omega⟩, trivial, fun _ => PureW.mk (c34 _ _ _ hkk (hl _ (getD_mem hlt))), cond_intro (fun h => ?_) fun h => ?_⟩
      · have : pB (SgP o a b q l) = false := pB_f fun k => by
          have k := hs.1 k.2.2.2
          have := (segC (vvS o) o.kind at_ b bf (l.getD i default)).2 ⟨k.1, k.2.1, k.2.2.1, k.2.2.2.1⟩
          unfold vvS at this
          rw [this] at h; cases h
        rw [this]; exact Wk.refl _
      · have h := (segC (vvS o) o.kind at_ b bf (l.getD i default)).1 h
        exact Nx.mk (i + 1, (l.getD i default).time, (l.getD i default).val) ⟨hlt, hs.trans ⟨fun k => k.2.2.2.2, fun k => ⟨h.1, h.2.1, h.2.2.1, h.2.2.2, k⟩⟩⟩ (by simp only; omega)
    · rw [List.drop_of_length_le (geI hge)] at hs
      rw [pB_t ⟨h1, h2, h3, hs.2 trivial⟩]; exact Wk.refl _
theorem F13 : OkF 13 Tryz.f13 := ⟨by kernel_rfl, by kernel_rfl, by kernel_rfl⟩
def lv13 : List (List Nat × List Nat) := [([1, 1, 0, 1, 0], [0, 1, 2, 7, 11, 12, 13])]
noncomputable def nGfs  : List Nat → Nat → Option Ans := scrAt []
theorem nGf (a b : Int) (gs : List Gp) (K : D → Prop) : runS (En Tryz.f13) (fi Tryz.f13 K) (nGfs ) lv13 200 [.code []] ⟨argSlots 0 [I a, I b, L gs 2 Gp.d], .empty⟩ =
  (gs.length ≤ lenM → At (En Tryz.f13) (fi Tryz.f13 K) [It.code [1, 1, 0, 1, 0], It.blk 0, It.code [1, 1, 1]] { sl := [(0, I a), (1, I b), (2, L gs 2 Gp.d), (7, I a), (11, L gs 2 Gp.d), (12, I (↑gs.length : Int)), (13, I 0)], h := Heap.empty : St }) := by kernel_rfl
def SGf (a b : Int) (gs : List Gp) (p i : Int) : St := ⟨[(0, I a), (1, I b), (2, L gs 2 Gp.d), (7, I p), (11, L gs 2 Gp.d), (12, I gs.length), (13, I i)], .empty⟩
noncomputable def nGfas  : List Nat → Nat → Option Ans := scrAt []
theorem nGfa (a b : Int) (gs : List Gp) (p i : Int) (J : St → Prop) (K : D → Prop) : runS (En Tryz.f13) (fi Tryz.f13 K) (nGfas ) lv13 200 [.code [1, 1, 0, 1, 0, 0], stp [0, 1, 2, 7, 11, 12, 13] J, .blk 0, .code [1, 1, 1]] (SGf a b gs p i) =
  (bif decide (i < (↑gs.length : Int)) then (0 ≤ i ∧ i < (↑gs.length : Int)) ∧ True ∧ bif bif bif bif decide ((gs.getD i.toNat default).frm < addI .i64 a 1) then true else decide ((gs.getD i.toNat default).frm ≥ (gs.getD i.toNat default).to) then true else decide ((gs.getD i.toNat default).to > addI .i64 b 1) then true else bif decide (i > 0) then decide ((gs.getD i.toNat default).frm ≤ p) else false then K (B false) else J { sl := [(0, I a), (1, I b), (2, L gs 2 Gp.d), (7, I (gs.getD i.toNat default).to), (11, L gs 2 Gp.d), (12, I (↑gs.length : Int)), (13, I (addI .i64 i 1))], h := Heap.empty : St } else gs.length ≤ lenM → K (B (decide ((↑gs.length : Int) ≤ 16)))) := by kernel_rfl
def GfP (a b : Int) (gs : List Gp) : Prop := gapV a b none gs ∧ gs.length ≤ 16
theorem gapC (a b p : Int) (i : Nat) (g : Gp) : (bif bif bif decide (g.frm < a + 1) then true else decide (g.frm ≥ g.to) then true else decide (g.to > b + 1) then true else bif decide ((i : Int) > 0) then decide (g.frm ≤ p) else false) = false ↔ (a + 1 ≤ g.frm ∧ g.frm < g.to ∧ g.to ≤ b + 1 ∧ ∀ q, (if i = 0 then none else some p) = some q → q < g.frm) := by
  by_cases h1 : g.frm < a + 1
  · simp [h1]; omega
  · by_cases h2 : g.frm ≥ g.to
    · simp [h1, h2]; omega
    · by_cases h3 : g.to > b + 1
      · simp [h1, h2, h3]; omega
      · have h4 : a + 1 ≤ g.frm ∧ g.frm < g.to ∧ g.to ≤ b + 1 := by omega
        rw [decide_eq_false h1, decide_eq_false h2, decide_eq_false h3]
        simp only [cond_false]
        by_cases h5 : i = 0
        · subst h5
          simp [h4]
        · rw [decide_eq_true (show (i : Int) > 0 by omega), cond_true, if_neg h5]
          simp; omega
theorem c13 (a b : Int) (gs : List Gp) (ha : -1 ≤ a ∧ a ≤ 1099511627776) (hb : -1 ≤ b ∧ b ≤ 1099511627776) : Pure PP 13 [I a, I b, L gs 2 Gp.d] (B (pB (GfP a b gs))) := by
  refine pu F13 (by kernel_rfl) (of_eq (nGf a b gs _) fun hlm => ?_)
  refine lp (fn := Tryz.f13) (fun x : Nat × Int => x.1 ≤ gs.length ∧ (gapV a b none gs ↔ gapV a b (if x.1 = 0 then none else some x.2) (gs.drop x.1))) (fun x => SGf a b gs x.2 x.1) (fun x => gs.length - x.1) [0, 1, 2, 7, 11, 12, 13] (by kernel_rfl) (fun x hx => of_eq (nGfa a b gs x.2 x.1 _ _) ?_) (0, a) ⟨Nat.zero_le _, Iff.rfl⟩
  obtain ⟨i, p⟩ := x
  obtain ⟨hi, hs⟩ := hx
  simp only at hi hs ⊢
  refine cond_intro (fun hlt => ?_) fun hge => ?_
  · have hlt := ltI hlt
    rw [drop_cons _ _ hlt] at hs
    rw [Int.toNat_natCast, add1 hlt hlm, add64 (a := a) (b := 1) (by omega) (by omega), add64 (a := b) (b := 1) (by omega) (by omega)]
    refine ⟨⟨by omega, by omega⟩, trivial, cond_intro (fun h => ?_) fun h => ?_⟩
    · have : pB (GfP a b gs) = false := pB_f fun k => by
        have k := hs.1 k.1
        have := (gapC a b p i (gs.getD i default)).2 ⟨k.1, k.2.1, k.2.2.1, k.2.2.2.1⟩
        rw [this] at h; cases h
      rw [this]; exact Wk.refl _
    · have h := (gapC a b p i (gs.getD i default)).1 h
      refine Nx.mk (i + 1, (gs.getD i default).to) ⟨hlt, hs.trans ?_⟩ (by simp only; omega)
      simp only [if_neg (show ¬ i + 1 = 0 by omega)]
      exact ⟨fun k => k.2.2.2.2, fun k => ⟨h.1, h.2.1, h.2.2.1, h.2.2.2, k⟩⟩
  · rw [List.drop_of_length_le (geI hge)] at hs
    intro _
    have : decide ((gs.length : Int) ≤ 16) = pB (GfP a b gs) := by
      by_cases h : gs.length ≤ 16
      · rw [pB_t ⟨hs.2 trivial, h⟩, decide_eq_true (by omega)]
      · rw [pB_f fun k => h k.2, decide_eq_false (by omega)]
    rw [this]; exact Wk.refl _
theorem F18 : OkF 18 Tryz.f18 := ⟨by kernel_rfl, by kernel_rfl, by kernel_rfl⟩
def lv18 : List (List Nat × List Nat) := [([1, 1, 0, 1, 0], [2, 7, 19, 20, 21])]
noncomputable def nVats  : List Nat → Nat → Option Ans := scrAt []
theorem nVat (c : Chk) (k t : Int) (K : D → Prop) : runS (En Tryz.f18) (fi Tryz.f18 K) (nVats ) lv18 200 [.code []] ⟨argSlots 0 [c.d, I k, I t], .empty⟩ =
  ((0 ≤ k ∧ k < (↑c.vals.length : Int)) ∧ (0 ≤ k ∧ k < (↑c.chg.length : Int)) ∧ ((c.chg.getD k.toNat default).length ≤ lenM → At (En Tryz.f18) (fi Tryz.f18 K) [It.code [1, 1, 0, 1, 0], It.blk 0, It.code [1, 1, 1]] { sl := [(2, I t), (7, .str (c.vals.getD k.toNat default)), (19, L (c.chg.getD k.toNat default) 2 Cg.d), (20, I (↑(c.chg.getD k.toNat default).length : Int)), (21, I 0)], h := Heap.empty : St })) := by kernel_rfl
def SVat (t : Int) (q : Str) (l : List Cg) (i : Int) : St := ⟨[(2, I t), (7, .str q), (19, L l 2 Cg.d), (20, I l.length), (21, I i)], .empty⟩
noncomputable def nVatas  : List Nat → Nat → Option Ans := scrAt []
theorem nVata (t : Int) (q : Str) (l : List Cg) (i : Int) (J : St → Prop) (K : D → Prop) : runS (En Tryz.f18) (fi Tryz.f18 K) (nVatas ) lv18 200 [.code [1, 1, 0, 1, 0, 0], stp [2, 7, 19, 20, 21] J, .blk 0, .code [1, 1, 1]] (SVat t q l i) =
  (bif decide (i < (↑l.length : Int)) then (0 ≤ i ∧ i < (↑l.length : Int)) ∧ True ∧ bif decide ((l.getD i.toNat default).time ≤ t) then J { sl := [(2, I t), (7, .str (l.getD i.toNat default).val), (19, L l 2 Cg.d), (20, I (↑l.length : Int)), (21, I (addI .i64 i 1))], h := Heap.empty : St } else J { sl := [(2, I t), (7, .str q), (19, L l 2 Cg.d), (20, I (↑l.length : Int)), (21, I (addI .i64 i 1))], h := Heap.empty : St } else K (.str q)) := by kernel_rfl
theorem c18 (c : Chk) (k t : Int) (h0 : 0 ≤ k) (h1 : k < c.vals.length) (h2 : k < c.chg.length) : Pure PP 18 [c.d, I k, I t] (.str (valAt (c.vals.getD k.toNat default) (c.chg.getD k.toNat default) t)) := by
  refine pu F18 (by kernel_rfl) (of_eq (nVat c k t _) ⟨⟨h0, h1⟩, ⟨h0, h2⟩, fun hlm => ?_⟩)
  generalize c.chg.getD k.toNat default = l at hlm ⊢
  generalize c.vals.getD k.toNat default = v
  refine lp (fn := Tryz.f18) (fun x : Nat × Str => x.1 ≤ l.length ∧ valAt v l t = valAt x.2 (l.drop x.1) t) (fun x => SVat t x.2 l x.1) (fun x => l.length - x.1) [2, 7, 19, 20, 21] (by kernel_rfl) (fun x hx => of_eq (nVata t x.2 l x.1 _ _) ?_) (0, v) ⟨Nat.zero_le _, rfl⟩
  obtain ⟨i, q⟩ := x
  obtain ⟨hi, hs⟩ := hx
  simp only at hi hs ⊢
  refine cond_intro (fun hlt => ?_) fun hge => ?_
  · have hlt := ltI hlt
    rw [drop_cons _ _ hlt] at hs
    rw [Int.toNat_natCast, add1 hlt hlm]
    refine ⟨⟨by omega, by omega⟩, trivial, cond_intro (fun h => ?_) fun h => ?_⟩
    · refine Nx.mk (i + 1, (l.getD i default).val) ⟨hlt, ?_⟩ (by simp only; omega)
      rw [hs]
      unfold valAt
      rw [List.foldl_cons, h, cond_true]
    · refine Nx.mk (i + 1, q) ⟨hlt, ?_⟩ (by simp only; omega)
      rw [hs]
      unfold valAt
      rw [List.foldl_cons, h, cond_false]
  · rw [List.drop_of_length_le (geI hge)] at hs
    rw [hs]; exact Wk.refl _
end Go.Proofs.YtmlhaikblfjghaaGreatDoor.S1
/- Blocks: the checks of a signal. -/
namespace Go.Proofs.YtmlhaikblfjghaaGreatDoor.S1
open Go Go.Ab Go.Proofs
-- nolay
attribute [local instance] LT10
abbrev ckC (c : Chk) : List D := [I c.frm, I c.to, L c.vals 1 .str, L c.chg 1 (fun l => L l 2 Cg.d), L c.gaps 2 Gp.d]
theorem F14 : OkF 14 Tryz.f14 := ⟨by kernel_rfl, by kernel_rfl, by kernel_rfl⟩
def lv14 : List (List Nat × List Nat) := []
noncomputable def nBv1s (i : Int) (o : Sto) (c : Chk) : List Nat → Nat → Option Ans := scrAt [([1, 0], 15, Ans.pure [o.d, I c.frm, I c.to, .str (c.vals.getD i.toNat default), L (c.chg.getD i.toNat default) 2 Cg.d] (B (pB (SgP o c.frm c.to (c.vals.getD i.toNat default) (c.chg.getD i.toNat default)))))]
theorem nBv1 (i : Int) (o : Sto) (c : Chk) (K : D → Prop) : runS (En Tryz.f14) (fi Tryz.f14 K) (nBv1s i o c) lv14 200 [.code []] ⟨argSlots 0 [I i, o.d, .ep (ckC c)], .empty⟩ =
  ((0 ≤ i ∧ i < (↑c.vals.length : Int)) ∧ (0 ≤ i ∧ i < (↑c.chg.length : Int)) ∧ PureW PP 15 [o.d, I c.frm, I c.to, .str (c.vals.getD i.toNat default), L (c.chg.getD i.toNat default) 2 Cg.d] [o.d, I c.frm, I c.to, .str (c.vals.getD i.toNat default), L (c.chg.getD i.toNat default) 2 Cg.d] (B (pB (SgP o c.frm c.to (c.vals.getD i.toNat default) (c.chg.getD i.toNat default)))) ∧ K (B (pB (SgP o c.frm c.to (c.vals.getD i.toNat default) (c.chg.getD i.toNat default))))) := by kernel_rfl
theorem F16 : OkF 16 Tryz.f16 := ⟨by kernel_rfl, by kernel_rfl, by kernel_rfl⟩
def lv16 : List (List Nat × List Nat) := []
def hBn (n : Int) : Heap := ⟨upd (fun _ => none) 0 (some (.lit [I n])), 1, fun _ => none, 0, fun _ => none⟩
noncomputable def nBv2s  : List Nat → Nat → Option Ans := scrAt []
theorem nBv2 (i : Int) (o : Sto) (c : Chk) (n : Int) (K : D → Heap → Prop) : runS (En Tryz.f16) (fh Tryz.f16 K) (nBv2s ) lv16 200 [.code []] ⟨argSlots 0 [I i, o.d, .bp 0 0, .ep (ckC c)], hBn n⟩ =
  ((0 ≤ i ∧ i < (↑c.chg.length : Int)) ∧ ((c.chg.getD i.toNat default).length ≤ lenM → True ∧ K (B (decide (addI .i64 n (↑(c.chg.getD i.toNat default).length : Int) ≤ 4096))) { box := upd (upd (fun _ => none) 0 (some (Row.lit [I n]))) 0 (some (Row.lit [I (addI .i64 n (↑(c.chg.getD i.toNat default).length : Int))])), nl := 1, hw := fun _ => none, nt := 0, vw := fun _ => none : Heap })) := by kernel_rfl
theorem F17 : OkF 17 Tryz.f17 := ⟨by kernel_rfl, by kernel_rfl, by kernel_rfl⟩
def lv17 : List (List Nat × List Nat) := [([1, 0, 1, 0], [0, 2, 4, 11, 12, 13]), ([1, 0, 1, 0, 0, 1, 1, 0, 0, 1, 1, 1, 1, 0], [0, 2, 4, 7, 11, 12, 13, 33, 34, 35])]
noncomputable def nBv3s  : List Nat → Nat → Option Ans := scrAt []
theorem nBv3 (i : Int) (o : Sto) (c : Chk) (K : D → Prop) : runS (En Tryz.f17) (fi Tryz.f17 K) (nBv3s ) lv17 200 [.code []] ⟨argSlots 0 [I i, o.d, .ep (ckC c)], .empty⟩ =
  (c.gaps.length ≤ lenM → At (En Tryz.f17) (fi Tryz.f17 K) [It.code [1, 0, 1, 0], It.blk 0, It.code [1, 1]] { sl := [(0, I i), (2, D.ep [I c.frm, I c.to, L c.vals 1 .str, L c.chg 1 fun l => L l 2 Cg.d, L c.gaps 2 Gp.d]), (4, .own [I o.kind, I o.wid]), (11, L c.gaps 2 Gp.d), (12, I (↑c.gaps.length : Int)), (13, I 0)], h := Heap.empty : St }) := by kernel_rfl
def SB3 (i : Int) (o : Sto) (c : Chk) (j : Int) : St := ⟨[(0, I i), (2, .ep (ckC c)), (4, .own [I o.kind, I o.wid]), (11, L c.gaps 2 Gp.d), (12, I c.gaps.length), (13, I j)], .empty⟩
def TB3 (i : Int) (o : Sto) (c : Chk) (j : Int) (g : Gp) (l : List Cg) (m : Int) : St := ⟨[(0, I i), (2, .ep (ckC c)), (4, .own [I o.kind, I o.wid]), (7, .own [I g.frm, I g.to]), (11, L c.gaps 2 Gp.d), (12, I c.gaps.length), (13, I j), (33, L l 2 Cg.d), (34, I l.length), (35, I m)], .empty⟩
noncomputable def nB3as (i : Int) (o : Sto) (c : Chk) (j : Int) : List Nat → Nat → Option Ans := scrAt [([1, 0, 1, 0, 0, 1, 1, 0, 0, 1, 1, 0, 0], 4, Ans.pure [c.d, I i, I (c.gaps.getD j.toNat default).frm] (.str (valAt (c.vals.getD i.toNat default) (c.chg.getD i.toNat default) (c.gaps.getD j.toNat default).frm))), ([1, 0, 1, 0, 0, 1, 1, 0, 0, 1, 1, 0, 0], 7, Ans.pure [I o.wid, D.int IntKind.u8 120] (.str (allX o.wid)))]
theorem nB3a (i : Int) (o : Sto) (c : Chk) (j : Int) (J : St → Prop) (K : D → Prop) : runS (En Tryz.f17) (fi Tryz.f17 K) (nB3as i o c j) lv17 200 [.code [1, 0, 1, 0, 0], stp [0, 2, 4, 11, 12, 13] J, .blk 0, .code [1, 1]] (SB3 i o c j) =
  (bif decide (j < (↑c.gaps.length : Int)) then
  (0 ≤ j ∧ j < (↑c.gaps.length : Int)) ∧ True ∧ bif o.kind != 0 then J { sl := [(0, I i), (2, D.ep [I c.frm, I c.to, L c.vals 1 .str, L c.chg 1 fun l => L l 2 Cg.d, L c.gaps 2 Gp.d]), (4, .own [I o.kind, I o.wid]), (11, L c.gaps 2 Gp.d), (12, I (↑c.gaps.length : Int)), (13, I (addI .i64 j 1))], h := Heap.empty : St } else PureW PP 18 [c.d, I i, I (c.gaps.getD j.toNat default).frm] [c.d, I i, I (c.gaps.getD j.toNat default).frm] (.str (valAt (c.vals.getD i.toNat default) (c.chg.getD i.toNat default) (c.gaps.getD j.toNat default).frm)) ∧ PureW PP 19 [I o.wid, D.int IntKind.u8 120] [I o.wid, D.int IntKind.u8 120] (.str (allX o.wid)) ∧ bif !valAt (c.vals.getD i.toNat default) (c.chg.getD i.toNat default) (c.gaps.getD j.toNat default).frm == allX o.wid then K (B false) else (0 ≤ i ∧ i < (↑c.chg.length : Int)) ∧ ((c.chg.getD i.toNat default).length ≤ lenM → At (En Tryz.f17) (fi Tryz.f17 K) [It.code [1, 0, 1, 0, 0, 1, 1, 0, 0, 1, 1, 1, 1, 0], It.blk 2, It.blk 1, It.code [1, 0, 1, 0, 0, 1, 1, 1], stp [0, 2, 4, 11, 12, 13] J, It.blk 0, It.code [1, 1]] { sl := [(0, I i), (2, D.ep [I c.frm, I c.to, L c.vals 1 .str, L c.chg 1 fun l => L l 2 Cg.d, L c.gaps 2 Gp.d]), (4, .own [I o.kind, I o.wid]), (7, .own [I (c.gaps.getD j.toNat default).frm, I (c.gaps.getD j.toNat default).to]), (11, L c.gaps 2 Gp.d), (12, I (↑c.gaps.length : Int)), (13, I j), (33, L (c.chg.getD i.toNat default) 2 Cg.d), (34, I (↑(c.chg.getD i.toNat default).length : Int)), (35, I 0)], h := Heap.empty : St })
 else K (B true)) := by kernel_rfl
noncomputable def nB3bs  : List Nat → Nat → Option Ans := scrAt []
theorem nB3b (i : Int) (o : Sto) (c : Chk) (j : Int) (g : Gp) (l : List Cg) (m : Int) (J J2 : St → Prop) (K : D → Prop) : runS (En Tryz.f17) (fi Tryz.f17 K) (nB3bs ) lv17 200 [.code [1, 0, 1, 0, 0, 1, 1, 0, 0, 1, 1, 1, 1, 0, 0], stp [0, 2, 4, 7, 11, 12, 13, 33, 34, 35] J, .blk 2, .blk 1, .code [1, 0, 1, 0, 0, 1, 1, 1], stp [0, 2, 4, 11, 12, 13] J2, .blk 0, .code [1, 1]] (TB3 i o c j g l m) =
  (bif decide (m < (↑l.length : Int)) then (0 ≤ m ∧ m < (↑l.length : Int)) ∧ True ∧ bif bif decide ((l.getD m.toNat default).time > g.frm) then decide ((l.getD m.toNat default).time < g.to) else false then K (B false) else J { sl := [(0, I i), (2, D.ep [I c.frm, I c.to, L c.vals 1 .str, L c.chg 1 fun l => L l 2 Cg.d, L c.gaps 2 Gp.d]), (4, .own [I o.kind, I o.wid]), (7, .own [I g.frm, I g.to]), (11, L c.gaps 2 Gp.d), (12, I (↑c.gaps.length : Int)), (13, I j), (33, L l 2 Cg.d), (34, I (↑l.length : Int)), (35, I (addI .i64 m 1))], h := Heap.empty : St } else J2 { sl := [(0, I i), (2, D.ep [I c.frm, I c.to, L c.vals 1 .str, L c.chg 1 fun l => L l 2 Cg.d, L c.gaps 2 Gp.d]), (4, .own [I o.kind, I o.wid]), (11, L c.gaps 2 Gp.d), (12, I (↑c.gaps.length : Int)), (13, I (addI .i64 j 1))], h := Heap.empty : St }) := by kernel_rfl
/-- The strings of a chunk, and the lists of changes, are not long. -/
def StrC (c : Chk) : Prop := (∀ v ∈ c.vals, v.length ≤ 1000000) ∧ ∀ l ∈ c.chg, l.length ≤ 1000000 ∧ ∀ x ∈ l, x.val.length ≤ 1000000
theorem c14 (i : Int) (o : Sto) (c : Chk) (h0 : 0 ≤ i) (h1 : i < c.vals.length) (h2 : i < c.chg.length) (hs : StrC c) : Pure PP 14 [I i, o.d, .ep (ckC c)] (B (pB (SgP o c.frm c.to (c.vals.getD i.toNat default) (c.chg.getD i.toNat default)))) :=
  pu F14 (by kernel_rfl) (of_eq (nBv1 i o c _) ⟨⟨h0, h1⟩, ⟨h0, h2⟩, PureW.mk (c15 _ _ _ _ _ (hs.1 _ (getD_mem (by omega))) (hs.2 _ (getD_mem (by omega))).2), Wk.refl _⟩)
theorem hBn_set (a b : Int) : (⟨upd (upd (fun _ => none) 0 (some (Row.lit [I a]))) 0 (some (Row.lit [I b])), 1, fun _ => none, 0, fun _ => none⟩ : Heap) = hBn b :=
  hp_eq (fun k => by rcases k with _ | k <;> rfl) rfl rfl
theorem e16 (i : Int) (o : Sto) (c : Chk) (n : Int) (h0 : 0 ≤ i) (h2 : i < c.chg.length) (hs : StrC c) (hn : 0 ≤ n ∧ n ≤ 1000000000) : Does PP 16 [I i, o.d, .bp 0 0, .ep (ckC c)] (hBn n) (B (decide (n + (c.chg.getD i.toNat default).length ≤ 4096))) (hBn (n + (c.chg.getD i.toNat default).length)) := by
  have hl := (hs.2 _ (getD_mem (l := c.chg) (i := i.toNat) (by omega))).1
  refine du F16 (by kernel_rfl) (of_eq (nBv2 i o c n _) ⟨⟨h0, h2⟩, fun _ => ⟨trivial, ?_⟩⟩)
  rw [add64 (by omega) (by omega), hBn_set]
  exact RetLe.refl _ _
def Q3 (o : Sto) (c : Chk) (i : Nat) (g : Gp) : Prop := o.kind = 0 → valAt (c.vals.getD i default) (c.chg.getD i default) g.frm = allX o.wid ∧ ∀ x ∈ c.chg.getD i default, ¬ (g.frm < x.time ∧ x.time < g.to)
def P3 (o : Sto) (c : Chk) (i : Nat) : Prop := ∀ g ∈ c.gaps, Q3 o c i g
theorem c17 (i : Int) (o : Sto) (c : Chk) (h0 : 0 ≤ i) (h1 : i < c.vals.length) (h2 : i < c.chg.length) : Pure PP 17 [I i, o.d, .ep (ckC c)] (B (pB (P3 o c i.toNat))) := by
  refine pu F17 (by kernel_rfl) (of_eq (nBv3 i o c _) fun hlm => ?_)
  refine lp (fn := Tryz.f17) (fun j : Nat => j ≤ c.gaps.length ∧ ∀ g ∈ c.gaps.take j, Q3 o c i.toNat g) (fun j => SB3 i o c j) (fun j => c.gaps.length - j) [0, 2, 4, 11, 12, 13] (by kernel_rfl) (fun j hj => of_eq (nB3a i o c j _ _) (cond_intro (fun hlt => ?_) fun hge => ?_)) 0 ⟨Nat.zero_le _, fun g hg => by simp at hg⟩
  · have hlt := ltI hlt
    obtain ⟨hj, ha⟩ := hj
    have hnx : Q3 o c i.toNat (c.gaps.getD j default) → ∀ g ∈ c.gaps.take (j + 1), Q3 o c i.toNat g := fun h g hg => by
      rcases mem_take_succ hlt hg with h1 | rfl
      · exact ha g h1
      · exact h
    have hbad : ¬ Q3 o c i.toNat (c.gaps.getD j default) → pB (P3 o c i.toNat) = false := fun h => pB_f fun k => h (k _ (getD_mem hlt))
    rw [Int.toNat_natCast, add1 hlt hlm]
    refine ⟨⟨by omega, by omega⟩, trivial, cond_intro (fun hk => ?_) fun hk => ?_⟩
    · exact Nx.mk (j + 1) ⟨hlt, hnx fun h => by simp at hk; exact absurd h hk⟩ (by omega)
    · have hk : o.kind = 0 := by simpa using hk
      refine ⟨PureW.mk (c18 c i _ h0 h1 h2), PureW.mk (c19 _), cond_intro (fun hv => ?_) fun hv => ⟨⟨h0, h2⟩, fun hlc => ?_⟩⟩
      · rw [hbad fun k => by rw [(k hk).1] at hv; simp at hv]; exact Wk.refl _
      · have hv : valAt (c.vals.getD i.toNat default) (c.chg.getD i.toNat default) (c.gaps.getD j default).frm = allX o.wid := by simpa using hv
        refine lp (fn := Tryz.f17) (fun m : Nat => m ≤ (c.chg.getD i.toNat default).length ∧ ∀ x ∈ (c.chg.getD i.toNat default).take m, ¬ ((c.gaps.getD j default).frm < x.time ∧ x.time < (c.gaps.getD j default).to)) (fun m => TB3 i o c j (c.gaps.getD j default) (c.chg.getD i.toNat default) m) (fun m => (c.chg.getD i.toNat default).length - m) [0, 2, 4, 7, 11, 12, 13, 33, 34, 35] (by kernel_rfl) (fun m hm => of_eq (nB3b i o c j (c.gaps.getD j default) (c.chg.getD i.toNat default) m _ _ _) ?_) 0 ⟨Nat.zero_le _, fun g hg => by simp at hg⟩
        obtain ⟨hm, hq⟩ := hm
        refine cond_intro (fun hlt2 => ?_) fun hge2 => ?_
        · have hlt2 := ltI hlt2
          rw [Int.toNat_natCast, add1 hlt2 hlc]
          refine ⟨⟨by omega, by omega⟩, trivial, cond_intro (fun h => ?_) fun h => ?_⟩
          · have h : (c.gaps.getD j default).frm < ((c.chg.getD i.toNat default).getD m default).time ∧ ((c.chg.getD i.toNat default).getD m default).time < (c.gaps.getD j default).to := by
              simpa using h
            rw [hbad fun k => (k hk).2 _ (getD_mem hlt2) h]; exact Wk.refl _
          · have h : ¬ ((c.gaps.getD j default).frm < ((c.chg.getD i.toNat default).getD m default).time ∧ ((c.chg.getD i.toNat default).getD m default).time < (c.gaps.getD j default).to) := fun k => by
              rw [decide_eq_true (show _ > _ from k.1), cond_true, decide_eq_true k.2] at h
              cases h
            refine Nx.mk (m + 1) ⟨hlt2, fun x hx => ?_⟩ (by omega)
            rcases mem_take_succ hlt2 hx with h1 | rfl
            · exact hq x h1
            · exact h
        · rw [List.take_of_length_le (geI hge2)] at hq
          rw [add1 hlt hlm]
          exact Nx.mk (j + 1) ⟨hlt, hnx fun _ => ⟨hv, hq⟩⟩ (by omega)
  · obtain ⟨hj, ha⟩ := hj
    rw [List.take_of_length_le (geI hge)] at ha
    rw [pB_t (p := P3 o c i.toNat) ha]; exact Wk.refl _
end Go.Proofs.YtmlhaikblfjghaaGreatDoor.S1
/- Blocks: a valid chunk. -/
namespace Go.Proofs.YtmlhaikblfjghaaGreatDoor.S1
open Go Go.Ab Go.Proofs
-- nolay
attribute [local instance] LT10
theorem F6 : OkF 6 Tryz.f6 := ⟨by kernel_rfl, by kernel_rfl, by kernel_rfl⟩
def lv6 : List (List Nat × List Nat) := [([1, 1, 0], [0, 3]), ([1, 1, 1, 1, 0, 1, 0], [6, 60, 61, 62]), ([1, 1, 1, 1, 0, 1, 0, 0, 1, 1, 0, 0, 1, 1, 0], [6, 7, 8, 60, 61, 62, 67, 68, 69])]
noncomputable def nBlAs (st : List Sto) (c : Chk) : List Nat → Nat → Option Ans := scrAt [([1, 0, 0], 24, Ans.pure [L st 2 Sto.d, L c.vals 1 .str] (B (pB (SvP st c.vals)))), ([1, 0, 0], 42, Ans.pure [I c.frm, I c.to, L c.gaps 2 Gp.d] (B (pB (GfP c.frm c.to c.gaps))))]
theorem nBlA (st : List Sto) (c : Chk) (K : D → Heap → Prop) : runS (EnX [5] Tryz.f6) (fh Tryz.f6 K) (nBlAs st c) lv6 200 [.code []] ⟨argSlots 0 [L st 2 Sto.d, c.d], .empty⟩ =
  (((!bif bif bif decide (c.frm < -1) then true else decide (c.frm > 1099511627775) then true else decide (c.to ≤ c.frm) then true else decide (c.to > 1099511627776)) = true → PureW PP 12 [L st 2 Sto.d, L c.vals 1 .str] [L st 2 Sto.d, L c.vals 1 .str] (B (pB (SvP st c.vals)))) ∧ (((!bif bif bif bif decide (c.frm < -1) then true else decide (c.frm > 1099511627775) then true else decide (c.to ≤ c.frm) then true else decide (c.to > 1099511627776) then true else !pB (SvP st c.vals)) = true → c.chg.length ≤ lenM) → ((!bif bif bif bif decide (c.frm < -1) then true else decide (c.frm > 1099511627775) then true else decide (c.to ≤ c.frm) then true else decide (c.to > 1099511627776) then true else !pB (SvP st c.vals)) = true → st.length ≤ lenM) → ((!bif bif bif bif bif decide (c.frm < -1) then true else decide (c.frm > 1099511627775) then true else decide (c.to ≤ c.frm) then true else decide (c.to > 1099511627776) then true else !pB (SvP st c.vals) then true else (↑c.chg.length : Int) != (↑st.length : Int)) = true → PureW PP 13 [I c.frm, I c.to, L c.gaps 2 Gp.d] [I c.frm, I c.to, L c.gaps 2 Gp.d] (B (pB (GfP c.frm c.to c.gaps)))) ∧ bif bif bif bif bif bif bif decide (c.frm < -1) then true else decide (c.frm > 1099511627775) then true else decide (c.to ≤ c.frm) then true else decide (c.to > 1099511627776) then true else !pB (SvP st c.vals) then true else (↑c.chg.length : Int) != (↑st.length : Int) then true else !pB (GfP c.frm c.to c.gaps) then K (B false) Heap.empty else At (EnX [5] Tryz.f6) (fh Tryz.f6 K) [It.code [1, 1, 0], It.code [1, 1, 1]] { sl := [(0, L st 2 Sto.d), (3, .own [I c.frm, I c.to, L c.vals 1 .str, L c.chg 1 fun l => L l 2 Cg.d, L c.gaps 2 Gp.d])], h := Heap.empty : St })) := by kernel_rfl
noncomputable def lvBl : List (List Nat × List Nat) := [([1, 1, 1, 1, 0, 1, 0], [6, 60, 61, 62]), ([1, 1, 1, 1, 0, 1, 0, 0, 1, 1, 0, 0, 1, 1, 0], [6, 7, 8, 60, 61, 62, 67, 68, 69])]
noncomputable def nBlBs  : List Nat → Nat → Option Ans := scrAt []
theorem nBlB (st : List Sto) (c : Chk) (K : D → Heap → Prop) : runS (EnX [5] Tryz.f6) (fh Tryz.f6 K) (nBlBs ) lvBl 200 [.code [1, 1, 0], .code [1, 1, 1]] ⟨[(0, L st 2 Sto.d), (3, .ep (ckC c))], .empty⟩ =
  (True ∧ True ∧ (st.length ≤ lenM → At (EnX [5] Tryz.f6) (fh Tryz.f6 K) [It.code [1, 1, 1, 1, 0, 1, 0], It.blk 0, It.code [1, 1, 1, 1, 1]] { sl := [(6, .list 3 1 (litG [D.clo 14 [D.ep [I c.frm, I c.to, L c.vals 1 .str, L c.chg 1 fun l => L l 2 Cg.d, L c.gaps 2 Gp.d]], D.clo 16 [D.bp 0 0, D.ep [I c.frm, I c.to, L c.vals 1 .str, L c.chg 1 fun l => L l 2 Cg.d, L c.gaps 2 Gp.d]], D.clo 17 [D.ep [I c.frm, I c.to, L c.vals 1 .str, L c.chg 1 fun l => L l 2 Cg.d, L c.gaps 2 Gp.d]]]) .full), (60, L st 2 Sto.d), (61, I (↑st.length : Int)), (62, I 0)], h := { box := upd (upd (fun _ => none) 0 (some (Row.lit [I 0]))) 0 (some (Row.lit [I 0])), nl := 1, hw := fun _ => none, nt := 0, vw := fun _ => none : Heap } : St })) := by kernel_rfl
def ckL (c : Chk) : D := .list 3 1 (litG [.clo 14 [.ep (ckC c)], .clo 16 [.bp 0 0, .ep (ckC c)], .clo 17 [.ep (ckC c)]]) .full
def SBv (st : List Sto) (c : Chk) (n i : Int) : St := ⟨[(6, ckL c), (60, L st 2 Sto.d), (61, I st.length), (62, I i)], hBn n⟩
def TBv (st : List Sto) (c : Chk) (n i : Int) (o : Sto) (k : Int) : St := ⟨[(6, ckL c), (7, I i), (8, .own [I o.kind, I o.wid]), (60, L st 2 Sto.d), (61, I st.length), (62, I i), (67, ckL c), (68, I 3), (69, I k)], hBn n⟩
noncomputable def nBlas  : List Nat → Nat → Option Ans := scrAt []
theorem nBla (st : List Sto) (c : Chk) (n i : Int) (J : St → Prop) (K : D → Heap → Prop) : runS (EnX [5] Tryz.f6) (fh Tryz.f6 K) (nBlas ) lvBl 200 [.code [1, 1, 1, 1, 0, 1, 0, 0], stp [6, 60, 61, 62] J, .blk 0, .code [1, 1, 1, 1, 1]] (SBv st c n i) =
  (bif decide (i < (↑st.length : Int)) then (0 ≤ i ∧ i < (↑st.length : Int)) ∧ True ∧ (3 ≤ lenM → At (EnX [5] Tryz.f6) (fh Tryz.f6 K) [It.code [1, 1, 1, 1, 0, 1, 0, 0, 1, 1, 0, 0, 1, 1, 0], It.blk 2, It.blk 1, It.code [1, 1, 1, 1, 0, 1, 0, 0, 1, 1, 1], stp [6, 60, 61, 62] J, It.blk 0, It.code [1, 1, 1, 1, 1]] { sl := [(6, ckL c), (7, I i), (8, .own [I (st.getD i.toNat default).kind, I (st.getD i.toNat default).wid]), (60, L st 2 Sto.d), (61, I (↑st.length : Int)), (62, I i), (67, .list 3 1 (litG [D.clo 14 [D.ep [I c.frm, I c.to, L c.vals 1 .str, L c.chg 1 fun l => L l 2 Cg.d, L c.gaps 2 Gp.d]], D.clo 16 [D.bp 0 0, D.ep [I c.frm, I c.to, L c.vals 1 .str, L c.chg 1 fun l => L l 2 Cg.d, L c.gaps 2 Gp.d]], D.clo 17 [D.ep [I c.frm, I c.to, L c.vals 1 .str, L c.chg 1 fun l => L l 2 Cg.d, L c.gaps 2 Gp.d]]]) .full), (68, I (↑3 : Int)), (69, I 0)], h := { box := upd (fun _ => none) 0 (some (Row.lit [I n])), nl := 1, hw := fun _ => none, nt := 0, vw := fun _ => none : Heap } : St }) else K (B true) { box := upd (fun _ => none) 0 (some (Row.lit [I n])), nl := 1, hw := fun _ => none, nt := 0, vw := fun _ => none : Heap }) := by kernel_rfl
noncomputable def nBlb0s (c : Chk) (i : Int) (o : Sto) : List Nat → Nat → Option Ans := scrAt [([1, 1, 1, 1, 0, 1, 0, 0, 1, 1, 0, 0, 1, 1, 0, 0, 1, 1, 0, 0, 1, 0], 3, Ans.pure [I i, o.d, D.ep (ckC c)] (B (pB (SgP o c.frm c.to (c.vals.getD i.toNat default) (c.chg.getD i.toNat default)))))]
theorem nBlb0 (st : List Sto) (c : Chk) (n i : Int) (o : Sto) (J J2 : St → Prop) (K : D → Heap → Prop) : runS (EnX [5] Tryz.f6) (fh Tryz.f6 K) (nBlb0s c i o) lvBl 200 [.code [1, 1, 1, 1, 0, 1, 0, 0, 1, 1, 0, 0, 1, 1, 0, 0], stp [6, 7, 8, 60, 61, 62, 67, 68, 69] J, .blk 2, .blk 1, .code [1, 1, 1, 1, 0, 1, 0, 0, 1, 1, 1], stp [6, 60, 61, 62] J2, .blk 0, .code [1, 1, 1, 1, 1]] (TBv st c n i o 0) =
  (((0 : Int) ≤ 0 ∧ 0 < (↑3 : Int)) ∧ PureW PP 14 [I i, o.d, D.ep (ckC c)] [I i, o.d, D.ep (ckC c)] (B (pB (SgP o c.frm c.to (c.vals.getD i.toNat default) (c.chg.getD i.toNat default)))) ∧ bif !pB (SgP o c.frm c.to (c.vals.getD i.toNat default) (c.chg.getD i.toNat default)) then K (B false) { box := upd (fun _ => none) 0 (some (Row.lit [I n])), nl := 1, hw := fun _ => none, nt := 0, vw := fun _ => none : Heap } else J { sl := [(6, ckL c), (7, I i), (8, .own [I o.kind, I o.wid]), (60, L st 2 Sto.d), (61, I (↑st.length : Int)), (62, I i), (67, ckL c), (68, I 3), (69, I (addI .i64 0 1))], h := { box := upd (fun _ => none) 0 (some (Row.lit [I n])), nl := 1, hw := fun _ => none, nt := 0, vw := fun _ => none : Heap } : St }) := by kernel_rfl
noncomputable def nBlb1s (c : Chk) (n : Int) (i : Int) : List Nat → Nat → Option Ans := scrAt [([1, 1, 1, 1, 0, 1, 0, 0, 1, 1, 0, 0, 1, 1, 0, 0, 1, 1, 0, 0, 1, 0], 3, Ans.eff (B (decide (n + (↑(c.chg.getD i.toNat default).length : Int) ≤ 4096))) (hBn (n + (↑(c.chg.getD i.toNat default).length : Int))))]
theorem nBlb1 (st : List Sto) (c : Chk) (n i : Int) (o : Sto) (J J2 : St → Prop) (K : D → Heap → Prop) : runS (EnX [5] Tryz.f6) (fh Tryz.f6 K) (nBlb1s c n i) lvBl 200 [.code [1, 1, 1, 1, 0, 1, 0, 0, 1, 1, 0, 0, 1, 1, 0, 0], stp [6, 7, 8, 60, 61, 62, 67, 68, 69] J, .blk 2, .blk 1, .code [1, 1, 1, 1, 0, 1, 0, 0, 1, 1, 1], stp [6, 60, 61, 62] J2, .blk 0, .code [1, 1, 1, 1, 1]] (TBv st c n i o 1) =
  (((0 : Int) ≤ 1 ∧ 1 < (↑3 : Int)) ∧ Does PP 16 [I i, .agg [I o.kind, I o.wid], D.bp 0 0, D.ep [I c.frm, I c.to, L c.vals 1 .str, L c.chg 1 fun l => L l 2 Cg.d, L c.gaps 2 Gp.d]] { box := upd (fun _ => none) 0 (some (Row.lit [I n])), nl := 1, hw := fun _ => none, nt := 0, vw := fun _ => none : Heap } (B (decide (n + (↑(c.chg.getD i.toNat default).length : Int) ≤ 4096))) (hBn (n + (↑(c.chg.getD i.toNat default).length : Int))) ∧ bif !decide (n + (↑(c.chg.getD i.toNat default).length : Int) ≤ 4096) then K (B false) { box := upd (fun _ => none) 0 (some (Row.lit [I (n + (↑(c.chg.getD i.toNat default).length : Int))])), nl := 1, hw := fun _ => none, nt := 0, vw := fun _ => none : Heap } else J { sl := [(6, ckL c), (7, I i), (8, .own [I o.kind, I o.wid]), (60, L st 2 Sto.d), (61, I (↑st.length : Int)), (62, I i), (67, ckL c), (68, I 3), (69, I (addI .i64 1 1))], h := { box := upd (fun _ => none) 0 (some (Row.lit [I (n + (↑(c.chg.getD i.toNat default).length : Int))])), nl := 1, hw := fun _ => none, nt := 0, vw := fun _ => none : Heap } : St }) := by kernel_rfl
noncomputable def nBlb2s (c : Chk) (i : Int) (o : Sto) : List Nat → Nat → Option Ans := scrAt [([1, 1, 1, 1, 0, 1, 0, 0, 1, 1, 0, 0, 1, 1, 0, 0, 1, 1, 0, 0, 1, 0], 3, Ans.pure [I i, o.d, D.ep (ckC c)] (B (pB (P3 o c i.toNat))))]
theorem nBlb2 (st : List Sto) (c : Chk) (n i : Int) (o : Sto) (J J2 : St → Prop) (K : D → Heap → Prop) : runS (EnX [5] Tryz.f6) (fh Tryz.f6 K) (nBlb2s c i o) lvBl 200 [.code [1, 1, 1, 1, 0, 1, 0, 0, 1, 1, 0, 0, 1, 1, 0, 0], stp [6, 7, 8, 60, 61, 62, 67, 68, 69] J, .blk 2, .blk 1, .code [1, 1, 1, 1, 0, 1, 0, 0, 1, 1, 1], stp [6, 60, 61, 62] J2, .blk 0, .code [1, 1, 1, 1, 1]] (TBv st c n i o 2) =
  (((0 : Int) ≤ 2 ∧ 2 < (↑3 : Int)) ∧ PureW PP 17 [I i, o.d, D.ep (ckC c)] [I i, o.d, D.ep (ckC c)] (B (pB (P3 o c i.toNat))) ∧ bif !pB (P3 o c i.toNat) then K (B false) { box := upd (fun _ => none) 0 (some (Row.lit [I n])), nl := 1, hw := fun _ => none, nt := 0, vw := fun _ => none : Heap } else J { sl := [(6, ckL c), (7, I i), (8, .own [I o.kind, I o.wid]), (60, L st 2 Sto.d), (61, I (↑st.length : Int)), (62, I i), (67, ckL c), (68, I 3), (69, I (addI .i64 2 1))], h := { box := upd (fun _ => none) 0 (some (Row.lit [I n])), nl := 1, hw := fun _ => none, nt := 0, vw := fun _ => none : Heap } : St }) := by kernel_rfl
noncomputable def nBlb3s  : List Nat → Nat → Option Ans := scrAt []
theorem nBlb3 (st : List Sto) (c : Chk) (n i : Int) (o : Sto) (J J2 : St → Prop) (K : D → Heap → Prop) : runS (EnX [5] Tryz.f6) (fh Tryz.f6 K) (nBlb3s ) lvBl 200 [.code [1, 1, 1, 1, 0, 1, 0, 0, 1, 1, 0, 0, 1, 1, 0, 0], stp [6, 7, 8, 60, 61, 62, 67, 68, 69] J, .blk 2, .blk 1, .code [1, 1, 1, 1, 0, 1, 0, 0, 1, 1, 1], stp [6, 60, 61, 62] J2, .blk 0, .code [1, 1, 1, 1, 1]] (TBv st c n i o 3) =
  (J2 { sl := [(6, ckL c), (60, L st 2 Sto.d), (61, I (↑st.length : Int)), (62, I (addI .i64 i 1))], h := { box := upd (fun _ => none) 0 (some (Row.lit [I n])), nl := 1, hw := fun _ => none, nt := 0, vw := fun _ => none : Heap } : St }) := by kernel_rfl
theorem valC (f t : Int) (n m : Nat) (a b : Bool) : (bif bif bif bif bif bif decide (f < -1) then true else decide (f > 1099511627775) then true else decide (t ≤ f) then true else decide (t > 1099511627776) then true else !a then true else (n : Int) != (m : Int) then true else !b) = false ↔ (-1 ≤ f ∧ f < t ∧ t ≤ 1099511627776 ∧ a = true ∧ n = m ∧ b = true) := by
  cases a <;> cases b <;> simp <;> omega
theorem valC2 (f t : Int) (n m : Nat) (a : Bool) (h : (!bif bif bif bif bif decide (f < -1) then true else decide (f > 1099511627775) then true else decide (t ≤ f) then true else decide (t > 1099511627776) then true else !a then true else (n : Int) != (m : Int)) = true) : -1 ≤ f ∧ f < t ∧ t ≤ 1099511627776 := by
  revert h
  cases a <;> simp <;> omega
/-- What a valid chunk is. -/
abbrev VCP (st : List Sto) (c : Chk) : Prop := VC vvS (fun o => allX o.wid) 1099511627776 16 4096 st c
theorem vc_pre {st : List Sto} {c : Chk} (h : VCP st c) (h64 : st.length ≤ 64) : SvP st c.vals ∧ GfP c.frm c.to c.gaps := by
  refine ⟨⟨⟨fun o ho => ?_, h64⟩, h.vl, h.vs⟩, h.gf, h.gl⟩
  obtain ⟨i, hi, rfl⟩ := List.mem_iff_getElem.1 ho
  have := h.vs i hi
  rw [List.getD_eq_getElem?_getD, List.getElem?_eq_getElem hi] at this
  unfold vvS vvF at this
  cases hb : tyB (st[i]).kind (st[i]).wid with
  | true => rfl
  | false =>
    rw [show (some st[i]).getD default = st[i] from rfl, hb] at this
    cases this
def sumL (l : List (List Cg)) : Nat := (l.map List.length).sum
theorem sumL_take (l : List (List Cg)) (k : Nat) (h : k < l.length) : sumL (l.take (k + 1)) = sumL (l.take k) + (l.getD k default).length ∧ sumL (l.take (k + 1)) ≤ sumL l := by
  constructor
  · unfold sumL
    rw [take_snoc _ _ h, List.map_append, List.sum_append]; rfl
  · unfold sumL
    have : l.map List.length = (l.take (k + 1)).map List.length ++ (l.drop (k + 1)).map List.length := by
      rw [← List.map_append, List.take_append_drop]
    rw [this, List.sum_append]; omega
def nK (n l : Int) : Nat → Int
  | 0 => n
  | 1 => n
  | _ => n + l
structure RdP (st : List Sto) (c : Chk) (i : Nat) : Prop where
  a : SgP (st.getD i default) c.frm c.to (c.vals.getD i default) (c.chg.getD i default)
  b : P3 (st.getD i default) c i
theorem vc_sg {st : List Sto} {c : Chk} (k : VCP st c) (h64 : st.length ≤ 64) {i : Nat} (hi : i < st.length) : SgP (st.getD i default) c.frm c.to (c.vals.getD i default) (c.chg.getD i default) := by
  have h1 := (vc_pre k h64).1.1.1 _ (getD_mem hi)
  have h2 := sumL_take c.chg i (by rw [k.cl]; exact hi)
  have h3 : sumL c.chg ≤ 4096 := k.cn
  have h4 := k.f1
  exact ⟨⟨h1, k.f0, by omega, k.f2⟩, k.vs i hi, by omega, k.sg i hi⟩
theorem vc_mk {st : List Sto} {c : Chk} (f0 : -1 ≤ c.frm) (f1 : c.frm < c.to) (f2 : c.to ≤ 1099511627776) (hs : SvP st c.vals) (hcl : c.chg.length = st.length) (hg : GfP c.frm c.to c.gaps) (hn : sumL c.chg ≤ 4096) (h : ∀ j, j < st.length → RdP st c j) : VCP st c :=
  ⟨f0, f1, f2, hs.2.1, hcl, hs.2.2, fun i hi => (h i hi).a.2.2.2, hn, hg.2, hg.1, fun g hg i hi h0 => (h i hi).b g hg h0⟩
theorem c6 (st : List Sto) (c : Chk) (h64 : st.length ≤ 64) (hs : StrC c) : Pure PP 6 [L st 2 Sto.d, c.d] (B (pB (VCP st c))) := by
  refine pr F6 (by kernel_rfl) (of_eq (nBlA st c _) ⟨fun _ => PureW.mk (c12 _ _ hs.1), fun _ _ => ⟨fun h => ?_, cond_intro (fun h => ?_) fun h => ?_⟩⟩)
  · have := valC2 _ _ _ _ _ h
    exact PureW.mk (c13 _ _ _ (by omega) (by omega))
  · have : pB (VCP st c) = false := pB_f fun k => by
      obtain ⟨k1, k2⟩ := vc_pre k h64
      rw [(valC _ _ _ _ _ _).2 ⟨k.f0, k.f1, k.f2, pB_t k1, k.cl, pB_t k2⟩] at h
      cases h
    rw [this]; exact ⟨_, RetLe.refl _ _⟩
  · obtain ⟨f0, f1, f2, hsv, hcl, hgf⟩ := (valC _ _ _ _ _ _).1 h
    have hsv := pB_iff.1 hsv
    have hgf := pB_iff.1 hgf
    refine at_le (st' := ⟨[(0, L st 2 Sto.d), (3, .ep (ckC c))], .empty⟩) (runS_sound hmix _ _ _ (of_eq (nBlB st c _) ⟨trivial, trivial, fun hlm => ?_⟩)) ((StLe.layOwn 3 rfl (by kernel_rfl)).cast (by kernel_rfl))
    refine at_le (st' := SBv st c (sumL (c.chg.take 0)) ((0 : Nat) : Int)) ?_ ((StLe.heap (hBn_set 0 0)).cast (by kernel_rfl))
    refine lpC (fn := Tryz.f6) (fun i : Nat => i ≤ st.length ∧ sumL (c.chg.take i) ≤ 4096 ∧ ∀ j, j < i → RdP st c j) (fun i => SBv st c (sumL (c.chg.take i)) i) (fun i => st.length - i) [6, 60, 61, 62] (by kernel_rfl) (fun i hi => runS_sound hmix _ _ _ (of_eq (nBla st c _ i _ _) (cond_intro (fun hlt => ?_) fun hge => ?_))) 0 ⟨Nat.zero_le _, Nat.zero_le _, fun j hj => by omega⟩
    · have hlt := ltI hlt
      obtain ⟨hi, hn, ha⟩ := hi
      have hv : i < c.vals.length := by rw [hsv.2.1]; exact hlt
      have hc : i < c.chg.length := by rw [hcl]; exact hlt
      have hsum := sumL_take c.chg i hc
      have hlen := (hs.2 _ (getD_mem hc)).1
      refine ⟨⟨by omega, by omega⟩, trivial, fun _ => ?_⟩
      rw [Int.toNat_natCast]
      refine at_le (st' := TBv st c (nK (sumL (c.chg.take i)) (c.chg.getD i default).length 0) i (st.getD i default) ((0 : Nat) : Int)) ?_ ((StLe.refl _ _).cast (by kernel_rfl))
      refine lpC (fn := Tryz.f6) (fun k : Nat => k ≤ 3 ∧ (1 ≤ k → SgP (st.getD i default) c.frm c.to (c.vals.getD i default) (c.chg.getD i default)) ∧ (2 ≤ k → sumL (c.chg.take (i + 1)) ≤ 4096) ∧ (3 ≤ k → P3 (st.getD i default) c i)) (fun k => TBv st c (nK (sumL (c.chg.take i)) (c.chg.getD i default).length k) i (st.getD i default) k) (fun k => 3 - k) [6, 7, 8, 60, 61, 62, 67, 68, 69] (by kernel_rfl) (fun k hk => ?_) 0 ⟨Nat.zero_le _, fun h => by omega, fun h => by omega, fun h => by omega⟩
      obtain ⟨hk, h1, h2, h3⟩ := hk
      rcases k with _ | _ | _ | _ | k
      · refine runS_sound hmix _ _ _ (of_eq (nBlb0 st c _ i _ _ _ _) ⟨⟨by omega, by omega⟩, PureW.mk (c14 i _ c (by omega) (by omega) (by omega) hs), ?_⟩)
        rw [Int.toNat_natCast]
        refine cond_intro (fun h => ?_) fun h => ?_
        · have h : pB (SgP (st.getD i default) c.frm c.to (c.vals.getD i default) (c.chg.getD i default)) = false := by simpa using h
          rw [pB_f fun k => pB_no.1 h (vc_sg k h64 hlt)]
          exact ⟨_, RetLe.refl _ _⟩
        · have h : pB (SgP (st.getD i default) c.frm c.to (c.vals.getD i default) (c.chg.getD i default)) = true := by simpa using h
          exact Nx.of 1 ⟨by omega, fun _ => pB_iff.1 h, fun h => by omega, fun h => by omega⟩ (by omega) ((StLe.refl _ _).cast (by kernel_rfl))
      · refine runS_sound hmix _ _ _ (of_eq (nBlb1 st c _ i _ _ _ _) ⟨⟨by omega, by omega⟩, e16 i _ c _ (by omega) (by omega) hs ⟨by show (0 : Int) ≤ (sumL (c.chg.take i) : Nat); omega, by show ((sumL (c.chg.take i) : Nat) : Int) ≤ _; omega⟩, ?_⟩)
        rw [Int.toNat_natCast, show nK (sumL (c.chg.take i)) (c.chg.getD i default).length (0 + 1) + ((c.chg.getD i default).length : Int) = ((sumL (c.chg.take (i + 1)) : Nat) : Int) by rw [hsum.1]; rfl]
        refine cond_intro (fun h => ?_) fun h => ?_
        · rw [pB_f fun k => by
            have k2 : sumL c.chg ≤ 4096 := k.cn
            rw [decide_eq_true (by omega)] at h; cases h]
          exact ⟨_, RetLe.refl _ _⟩
        · have h : sumL (c.chg.take (i + 1)) ≤ 4096 := by simp at h; omega
          refine Nx.of 2 ⟨by omega, fun _ => h1 (by omega), fun _ => h, fun h => by omega⟩ (by omega) ((StLe.refl _ _).cast ?_)
          rw [hsum.1]; kernel_rfl
      · refine runS_sound hmix _ _ _ (of_eq (nBlb2 st c _ i _ _ _ _) ⟨⟨by omega, by omega⟩, PureW.mk (c17 i _ c (by omega) (by omega) (by omega)), ?_⟩)
        rw [Int.toNat_natCast]
        refine cond_intro (fun h => ?_) fun h => ?_
        · have h : pB (P3 (st.getD i default) c i) = false := by simpa using h
          rw [pB_f fun k => pB_no.1 h fun g hg h0 => k.gp g hg i hlt h0]
          exact ⟨_, RetLe.refl _ _⟩
        · have h : pB (P3 (st.getD i default) c i) = true := by simpa using h
          exact Nx.of 3 ⟨by omega, fun _ => h1 (by omega), fun _ => h2 (by omega), fun _ => pB_iff.1 h⟩ (by omega) ((StLe.refl _ _).cast (by kernel_rfl))
      · refine runS_sound hmix _ _ _ (of_eq (nBlb3 st c _ i _ _ _ _) ?_)
        rw [add1 hlt hlm]
        refine Nx.of (i + 1) ⟨hlt, h2 (by omega), fun j hj => ?_⟩ (by omega) ((StLe.refl _ _).cast ?_)
        · rcases Nat.lt_succ_iff_lt_or_eq.1 hj with h4 | rfl
          · exact ha j h4
          · exact ⟨h1 (by omega), h3 (by omega)⟩
        · rw [hsum.1]; kernel_rfl
      · omega
    · obtain ⟨hi, hn, ha⟩ := hi
      have := geI hge
      rw [List.take_of_length_le (by omega)] at hn
      rw [pB_t (vc_mk f0 f1 f2 hsv hcl hgf hn fun j hj => ha j (by omega))]
      exact ⟨_, RetLe.refl _ _⟩
end Go.Proofs.YtmlhaikblfjghaaGreatDoor.S1
/- CompactionInverts: the law. -/
namespace Go.Proofs.YtmlhaikblfjghaaGreatDoor.S1
open Go Go.Ab Go.Proofs
-- nolay
attribute [local instance] LT10
theorem c7' (c : Chk) (t : Int) (hs : SmallC c) : Pure PP 7 [c.d, I t] (.tup [(split c t).1.d, (split c t).2.1.d, I (split c t).2.2]) := c7 c t hs
theorem c8' (a b : Chk) (ha : SmallC a) (hb : SmallC b) : Pure PP 8 [a.d, b.d] (.tup [(join a b).1.d, I (join a b).2]) := c8 a b ha hb
theorem F3 : OkF 3 Tryz.f3 := ⟨by kernel_rfl, by kernel_rfl, by kernel_rfl⟩
def lv3 : List (List Nat × List Nat) := [([1, 1, 1, 1, 1, 1], [0, 4, 7, 8, 9, 10, 11]), ([1, 1, 1, 1, 1, 1, 1, 1, 1], [7, 8, 12, 13, 14, 16])]
noncomputable def nCIs (st : List Sto) (c : Chk) (t : Int) : List Nat → Nat → Option Ans := scrAt [([1, 0, 0], 0, Ans.pure [] (B true)), ([1, 1, 0, 0], 2, Ans.pure [L st 2 Sto.d, c.d] (B (fewB st c))), ([1, 1, 0, 0], 7, Ans.pure [L st 2 Sto.d, c.d] (B (pB (VCP st c)))), ([1, 1, 1, 0], 2, Ans.pure [c.d, I t] (.tup [(split c t).fst.d, (split c t).snd.fst.d, I (split c t).snd.snd])), ([1, 1, 1, 1, 1, 0], 2, Ans.pure [(split c t).fst.d, (split c t).snd.fst.d] (.tup [(join (split c t).fst (split c t).snd.fst).fst.d, I (join (split c t).fst (split c t).snd.fst).snd]))]
theorem nCI (st : List Sto) (c : Chk) (t : Int) (K : D → Prop) : runS (En Tryz.f3) (fi Tryz.f3 K) (nCIs st c t) lv3 200 [.code []] ⟨argSlots 0 [L st 2 Sto.d, c.d, I t], .empty⟩ =
  (PureW PP 4 [] [] (B true) ∧ PureW PP 5 [L st 2 Sto.d, c.d] [L st 2 Sto.d, c.d] (B (fewB st c)) ∧ ((!!fewB st c) = true → PureW PP 6 [L st 2 Sto.d, c.d] [L st 2 Sto.d, c.d] (B (pB (VCP st c)))) ∧ bif bif !fewB st c then true else !pB (VCP st c) then K (B true) else PureW PP 7 [c.d, I t] [c.d, I t] (.tup [(split c t).fst.d, (split c t).snd.fst.d, I (split c t).snd.snd]) ∧ True ∧ True ∧ bif bif decide (t ≤ c.frm) then true else decide (t ≥ c.to) then K (B ((split c t).snd.snd == 2)) else PureW PP 8 [(split c t).fst.d, (split c t).snd.fst.d] [(split c t).fst.d, (split c t).snd.fst.d] (.tup [(join (split c t).fst (split c t).snd.fst).fst.d, I (join (split c t).fst (split c t).snd.fst).snd]) ∧ True ∧ At (En Tryz.f3) (fi Tryz.f3 K) [It.code [1, 1, 1, 1, 1, 1]] { sl := [(0, L st 2 Sto.d), (4, .own [I c.frm, I c.to, L c.vals 1 .str, L c.chg 1 fun l => L l 2 Cg.d, L c.gaps 2 Gp.d]), (7, .own [I (split c t).fst.frm, I (split c t).fst.to, L (split c t).fst.vals 1 .str, L (split c t).fst.chg 1 fun l => L l 2 Cg.d, L (split c t).fst.gaps 2 Gp.d]), (8, .own [I (split c t).snd.fst.frm, I (split c t).snd.fst.to, L (split c t).snd.fst.vals 1 .str, L (split c t).snd.fst.chg 1 fun l => L l 2 Cg.d, L (split c t).snd.fst.gaps 2 Gp.d]), (9, I (split c t).snd.snd), (10, .own [I (join (split c t).fst (split c t).snd.fst).fst.frm, I (join (split c t).fst (split c t).snd.fst).fst.to, L (join (split c t).fst (split c t).snd.fst).fst.vals 1 .str, L (join (split c t).fst (split c t).snd.fst).fst.chg 1 fun l => L l 2 Cg.d, L (join (split c t).fst (split c t).snd.fst).fst.gaps 2 Gp.d]), (11, I (join (split c t).fst (split c t).snd.fst).snd)], h := Heap.empty : St }) := by kernel_rfl
noncomputable def lvCI : List (List Nat × List Nat) := [([1, 1, 1, 1, 1, 1, 1, 1, 1], [7, 8, 12, 13, 14, 16])]
noncomputable def nCJs (st : List Sto) (c : Chk) (a : Chk) (b : Chk) : List Nat → Nat → Option Ans := scrAt [([1, 1, 1, 1, 1, 1, 0, 0], 9, Ans.pure [L st 2 Sto.d, a.d] (B (pB (VCP st a)))), ([1, 1, 1, 1, 1, 1, 0, 0], 15, Ans.pure [L st 2 Sto.d, b.d] (B (pB (VCP st b)))), ([1, 1, 1, 1, 1, 1, 0, 0], 21, Ans.pure [c.d, c.d] (B true)), ([1, 1, 1, 1, 1, 1, 1, 0], 3, Ans.pure [c.d, I a.to] (.tup [(split c a.to).fst.d, (split c a.to).snd.fst.d, I (split c a.to).snd.snd])), ([1, 1, 1, 1, 1, 1, 1, 1, 0], 2, Ans.pure [b.d, a.d] (.tup [(join b a).fst.d, I (join b a).snd]))]
theorem nCJ (st : List Sto) (c a b : Chk) (K : D → Prop) : runS (En Tryz.f3) (fi Tryz.f3 K) (nCJs st c a b) lvCI 200 [.code [1, 1, 1, 1, 1, 1]] ⟨[(0, L st 2 Sto.d), (4, .own (ckC c)), (7, .own (ckC a)), (8, .own (ckC b)), (9, I 0), (10, .own (ckC c)), (11, I 0)], .empty⟩ =
  ((true = true → PureW PP 6 [L st 2 Sto.d, a.d] [L st 2 Sto.d, a.d] (B (pB (VCP st a)))) ∧ ((!!pB (VCP st a)) = true → PureW PP 6 [L st 2 Sto.d, b.d] [L st 2 Sto.d, b.d] (B (pB (VCP st b)))) ∧ ((!bif !pB (VCP st a) then true else !pB (VCP st b)) = true → PureW PP 9 [c.d, c.d] [c.d, c.d] (B true)) ∧ bif bif bif !pB (VCP st a) then true else !pB (VCP st b) then true else false then K (B false) else PureW PP 7 [c.d, I a.to] [c.d, I a.to] (.tup [(split c a.to).fst.d, (split c a.to).snd.fst.d, I (split c a.to).snd.snd]) ∧ True ∧ True ∧ PureW PP 8 [b.d, a.d] [b.d, a.d] (.tup [(join b a).fst.d, I (join b a).snd]) ∧ True ∧ At (En Tryz.f3) (fi Tryz.f3 K) [It.code [1, 1, 1, 1, 1, 1, 1, 1, 1]] { sl := [(7, .own [I a.frm, I a.to, L a.vals 1 .str, L a.chg 1 fun l => L l 2 Cg.d, L a.gaps 2 Gp.d]), (8, .own [I b.frm, I b.to, L b.vals 1 .str, L b.chg 1 fun l => L l 2 Cg.d, L b.gaps 2 Gp.d]), (12, .own [I (split c a.to).fst.frm, I (split c a.to).fst.to, L (split c a.to).fst.vals 1 .str, L (split c a.to).fst.chg 1 fun l => L l 2 Cg.d, L (split c a.to).fst.gaps 2 Gp.d]), (13, .own [I (split c a.to).snd.fst.frm, I (split c a.to).snd.fst.to, L (split c a.to).snd.fst.vals 1 .str, L (split c a.to).snd.fst.chg 1 fun l => L l 2 Cg.d, L (split c a.to).snd.fst.gaps 2 Gp.d]), (14, I (split c a.to).snd.snd), (16, I (join b a).snd)], h := Heap.empty : St }) := by kernel_rfl
noncomputable def nCKs (a : Chk) (b : Chk) : List Nat → Nat → Option Ans := scrAt [([1, 1, 1, 1, 1, 1, 1, 1, 1, 0], 5, Ans.pure [a.d, a.d] (B true)), ([1, 1, 1, 1, 1, 1, 1, 1, 1, 0], 10, Ans.pure [b.d, b.d] (B true))]
theorem nCK (a b : Chk) (K : D → Prop) : runS (En Tryz.f3) (fi Tryz.f3 K) (nCKs a b) nolv 200 [.code [1, 1, 1, 1, 1, 1, 1, 1, 1]] ⟨[(7, .own (ckC a)), (8, .own (ckC b)), (12, .own (ckC a)), (13, .own (ckC b)), (14, I 0), (16, I 1)], .empty⟩ =
  ((true = true → PureW PP 9 [a.d, a.d] [a.d, a.d] (B true)) ∧ (true = true → PureW PP 9 [b.d, b.d] [b.d, b.d] (B true)) ∧ K (B true)) := by kernel_rfl
theorem few_all {st : List Sto} {c : Chk} (h : fewB st c = true) : st.length ≤ 64 ∧ SmallC c ∧ StrC c := by
  unfold fewB few1 at h
  simp at h
  obtain ⟨h0, h1, h2⟩ := h
  refine ⟨by omega, ⟨by omega, by omega, by omega, fun l hl => ?_⟩, fun v hv => ?_, fun l hl => ⟨?_, fun x hx => ?_⟩⟩
  · have := (h1 l hl).2; omega
  · have := h0 v hv; omega
  · have := (h1 l hl).2; omega
  · have := (h1 l hl).1 x hx; omega
theorem valAt_len {N : Nat} (t : Int) : ∀ (l : List Cg) (b : Str), b.length ≤ N → (∀ x ∈ l, x.val.length ≤ N) → (valAt b l t).length ≤ N
  | [], _, hb, _ => hb
  | x :: r, b, hb, hl => by
    show (valAt (bif decide (x.time ≤ t) then x.val else b) r t).length ≤ N
    refine valAt_len t r _ ?_ fun y hy => hl y (List.mem_cons_of_mem _ hy)
    cases decide (x.time ≤ t)
    · exact hb
    · exact hl x (List.mem_cons_self ..)
theorem cut_strC {c : Chk} (hm : SmallC c) (hs : StrC c) (f u : Int) {l : List Cg} (hl : l ∈ c.chg.map (cut f u)) : l.length ≤ 100000 ∧ ∀ x ∈ l, x.val.length ≤ 1000000 := by
  obtain ⟨k, hk, rfl⟩ := List.mem_map.1 hl
  have h1 := cut_len f u k
  have h2 := hm.2.2.2 k hk
  exact ⟨by omega, fun x hx => (hs.2 k hk).2 x (List.mem_filter.1 (show x ∈ k.filter (inB f u) from hx)).1⟩
theorem part_small {c : Chk} (hm : SmallC c) (hs : StrC c) (f u : Int) (vs : List Str) (gs : List Gp) (hv : vs.length = c.vals.length) (hvs : ∀ v ∈ vs, v.length ≤ 1000000) (hg : gs.length ≤ c.gaps.length) : SmallC ⟨f, u, vs, c.chg.map (cut f u), gs⟩ ∧ StrC ⟨f, u, vs, c.chg.map (cut f u), gs⟩ := by
  obtain ⟨m1, m2, m3, m4⟩ := hm
  refine ⟨⟨by rw [List.length_map]; exact m1, by show vs.length ≤ _; omega, by show gs.length ≤ _; omega, fun l hl => (cut_strC ⟨m1, m2, m3, m4⟩ hs f u hl).1⟩, hvs, fun l hl => ?_⟩
  have := cut_strC ⟨m1, m2, m3, m4⟩ hs f u hl
  exact ⟨by omega, this.2⟩
theorem c3 (st : List Sto) (c : Chk) (t : Int) : Pure PP 3 [L st 2 Sto.d, c.d, I t] (B true) := by
  cases hf : fewB st c with
  | false =>
    refine pu F3 (by kernel_rfl) (of_eq (nCI st c t _) ⟨PureW.mk c4, PureW.mk (c5 st c), fun h => ?_, ?_⟩)
    · rw [hf] at h; cases h
    · rw [hf]; exact Wk.refl _
  | true =>
    obtain ⟨h64, hm, hs⟩ := few_all hf
    refine pu F3 (by kernel_rfl) (of_eq (nCI st c t _) ⟨PureW.mk c4, PureW.mk (c5 st c), fun h => PureW.mk (c6 st c h64 hs), ?_⟩)
    rw [hf]
    refine cond_intro (fun _ => Wk.refl _) fun hv => ⟨PureW.mk (c7' c t hm), trivial, trivial, ?_⟩
    have hv : VCP st c := by
      cases hb : pB (VCP st c) with
      | true => exact pB_iff.1 hb
      | false => rw [hb] at hv; cases hv
    have hlen : ((c.chg.length : Int) != (c.vals.length : Int)) = false := by
      rw [hv.cl, hv.vl]; simp
    refine cond_intro (fun hr => ?_) fun hr => ?_
    · have : (split c t).2.2 = 2 := by
        unfold split
        rw [hlen, cond_false, hr, cond_true]
      rw [this]; exact Wk.refl _
    · have h2 : c.frm < t := by
        cases h : decide (t ≤ c.frm) with
        | true => rw [h] at hr; cases hr
        | false => have := of_decide_eq_false h; omega
      have h3 : t < c.to := by
        rw [decide_eq_false (show ¬ t ≤ c.frm by omega), cond_false] at hr
        have := of_decide_eq_false hr; omega
      have hsp : split c t = (⟨c.frm, t, c.vals, c.chg.map (cut c.frm t), gapsL t c.gaps⟩, ⟨t, c.to, valsAt c t, c.chg.map (cut t c.to), gapsR t c.gaps⟩, 0) := by
        unfold split
        rw [hlen, cond_false, hr, cond_false]
      have hl := hv.left (Int.le_refl _) h2 h3
      have hrr := hv.right (Int.le_refl _) h2 h3
      have hj := hv.join (Int.le_refl _) (by omega) h2 h3
      have hvv : ∀ v ∈ valsAt c t, v.length ≤ 1000000 := fun v hv' => by
        unfold valsAt at hv'
        obtain ⟨i, hi, rfl⟩ := List.mem_map.1 hv'
        have hi := List.mem_range.1 hi
        have hi2 : i < c.chg.length := by rw [hv.cl, ← hv.vl]; exact hi
        exact valAt_len t _ _ (hs.1 _ (getD_mem hi)) fun x hx => (hs.2 _ (getD_mem hi2)).2 x hx
      have sa := part_small hm hs c.frm t c.vals (gapsL t c.gaps) rfl hs.1 (fm_len _ (gL_len t) _)
      have sb := part_small hm hs t c.to (valsAt c t) (gapsR t c.gaps) (by unfold valsAt; simp) hvv (fm_len _ (gR_len t) _)
      generalize ha : (⟨c.frm, t, c.vals, c.chg.map (cut c.frm t), gapsL t c.gaps⟩ : Chk) = a at hsp hl hj sa
      generalize hbb : (⟨t, c.to, valsAt c t, c.chg.map (cut t c.to), gapsR t c.gaps⟩ : Chk) = b at hsp hrr hj sb
      have hat : a.to = t := by rw [← ha]
      rw [hsp]
      refine ⟨PureW.mk (c8' a b sa.1 sb.1), trivial, ?_⟩
      show At _ _ _ ⟨[(0, L st 2 Sto.d), (4, .own (ckC c)), (7, .own (ckC a)), (8, .own (ckC b)), (9, I 0), (10, .own (ckC (join a b).1)), (11, I (join a b).2)], .empty⟩
      rw [hj.1]
      refine runS_sound hmix _ _ _ (of_eq (nCJ st c a b _) ⟨fun _ => PureW.mk (c6 st a h64 sa.2), fun _ => PureW.mk (c6 st b h64 sb.2), fun _ => PureW.mk (c9 c), ?_⟩)
      rw [pB_t hl, pB_t hrr]
      refine ⟨PureW.mk (c7' c a.to hm), trivial, trivial, PureW.mk (c8' b a sb.1 sa.1), trivial, ?_⟩
      rw [show split c a.to = (a, b, 0) by rw [hat]; exact hsp, hj.2]
      exact runS_sound hmix _ _ _ (of_eq (nCK a b _) ⟨fun _ => PureW.mk (c9 a), fun _ => PureW.mk (c9 b), Wk.refl _⟩)
end Go.Proofs.YtmlhaikblfjghaaGreatDoor.S1
/- Compaction: the arguments read. -/
namespace Go.Proofs.YtmlhaikblfjghaaGreatDoor.S1
open Go Go.Ab Go.Proofs
open Go.ChangeShapes Go.WideShapes Go.ChangeAt Go.RowKit Go.Joins
-- nolay

abbrev any {α : Type} : α → Prop := fun _ => True
theorem rc {P : Program} {total : Nat} {f : Field} {fs : List Field} {off off' t : Nat} {α β : Type} {enc : α → D} {encF : β → List D} (h : Reads P t enc any) (k : ReadsF P total fs off' encF any) (ht : f.type = t) (ho : f.offset = off) (hs : off + P.cellsOf t = off') :
    ReadsF P total (f :: fs) off (fun x : α × β => cellsD (enc x.1) ++ encF x.2) any := by
  subst ht; subst hs
  have hc := ReadsF.cons h k ho
  exact ⟨hc.size, hc.ones, hc.data, fun a b => by obtain ⟨x, _, hr⟩ := hc.it a b; exact ⟨x, trivial, hr⟩⟩
theorem rn {P : Program} {total : Nat} : ReadsF P total [] total (fun _ : Unit => []) any := ReadsF.nil
theorem cI : Tryz.prog.cellsOf 3 = 1 := by kernel_rfl
theorem cStr : Tryz.prog.cellsOf 9 = 1 := by kernel_rfl
theorem cStrs : Tryz.prog.cellsOf 23 = 1 := by kernel_rfl
theorem cCg : Tryz.prog.cellsOf 48 = 2 := by kernel_rfl
theorem cCgs : Tryz.prog.cellsOf 49 = 1 := by kernel_rfl
theorem cCgss : Tryz.prog.cellsOf 24 = 1 := by kernel_rfl
theorem cGp : Tryz.prog.cellsOf 60 = 2 := by kernel_rfl
theorem cGps : Tryz.prog.cellsOf 25 = 1 := by kernel_rfl
theorem cSto : Tryz.prog.cellsOf 56 = 2 := by kernel_rfl
theorem cStos : Tryz.prog.cellsOf 22 = 1 := by kernel_rfl
theorem cChk : Tryz.prog.cellsOf 27 = 5 := by kernel_rfl
theorem rI : Reads Tryz.prog 3 (fun n : Int => I n) any := (Reads.int Tryz.underlying3 cI).map (fun n => n) (fun _ => rfl) (fun n => ⟨n, rfl⟩) fun _ _ => trivial
theorem rStr : Reads Tryz.prog 9 (fun s : Str => .str s) any := (Reads.str Tryz.underlying9 cStr).map (fun n => n) (fun _ => rfl) (fun n => ⟨n, rfl⟩) fun _ _ => trivial
theorem rsl {e t sz : Nat} {α : Type} [Inhabited α] {enc : α → D} (h : Reads Tryz.prog e enc any) (ht : Tryz.prog.underlying t = some (.slice e)) (hc : Tryz.prog.cellsOf t = 1) (hp : Tryz.prog.cellsOf e = sz) (h0 : 0 < sz) : Reads Tryz.prog t (fun es : List α => L es sz enc) any := by
  have h := Reads.slice h ht hc (by rw [hp]; exact h0)
  rw [hp] at h
  exact h.map (fun n => n) (fun _ => rfl) (fun n => ⟨n, rfl⟩) fun _ _ => trivial
theorem rCg : Reads Tryz.prog 48 Cg.d any := by
  refine (Reads.struct (ok := any) Tryz.underlying48 ?_).map (fun x : Int × Str × Unit => (⟨x.1, x.2.1⟩ : Cg)) (fun _ => rfl) (fun b => ⟨(b.time, b.val, ()), rfl⟩) fun _ _ => trivial
  rw [cCg]
  exact rc rI (rc rStr rn rfl rfl (by rw [cStr])) rfl rfl (by rw [cI])
theorem rGp : Reads Tryz.prog 60 Gp.d any := by
  refine (Reads.struct (ok := any) Tryz.underlying60 ?_).map (fun x : Int × Int × Unit => (⟨x.1, x.2.1⟩ : Gp)) (fun _ => rfl) (fun b => ⟨(b.frm, b.to, ()), rfl⟩) fun _ _ => trivial
  rw [cGp]
  exact rc rI (rc rI rn rfl rfl (by rw [cI])) rfl rfl (by rw [cI])
theorem rSto : Reads Tryz.prog 56 Sto.d any := by
  refine (Reads.struct (ok := any) Tryz.underlying56 ?_).map (fun x : Int × Int × Unit => (⟨x.1, x.2.1⟩ : Sto)) (fun _ => rfl) (fun b => ⟨(b.kind, b.wid, ()), rfl⟩) fun _ _ => trivial
  rw [cSto]
  exact rc rI (rc rI rn rfl rfl (by rw [cI])) rfl rfl (by rw [cI])
theorem rStos : Reads Tryz.prog 22 (fun es : List Sto => L es 2 Sto.d) any := rsl rSto Tryz.underlying22 cStos cSto (by decide)
theorem rStrs : Reads Tryz.prog 23 (fun es : List Str => L es 1 .str) any := rsl rStr Tryz.underlying23 cStrs cStr (by decide)
theorem rGps : Reads Tryz.prog 25 (fun es : List Gp => L es 2 Gp.d) any := rsl rGp Tryz.underlying25 cGps cGp (by decide)
theorem rCgs : Reads Tryz.prog 49 (fun es : List Cg => L es 2 Cg.d) any := rsl rCg Tryz.underlying49 cCgs cCg (by decide)
theorem rCgss : Reads Tryz.prog 24 (fun es : List (List Cg) => L es 1 fun l => L l 2 Cg.d) any := rsl rCgs Tryz.underlying24 cCgss cCgs (by decide)
theorem rChk : Reads Tryz.prog 27 Chk.d any := by
  refine (Reads.struct (ok := any) Tryz.underlying27 ?_).map (fun x : Int × Int × List Str × List (List Cg) × List Gp × Unit => (⟨x.1, x.2.1, x.2.2.1, x.2.2.2.1, x.2.2.2.2.1⟩ : Chk)) (fun _ => rfl) (fun b => ⟨(b.frm, b.to, b.vals, b.chg, b.gaps, ()), rfl⟩) fun _ _ => trivial
  rw [cChk]
  exact rc rI (rc rI (rc rStrs (rc rCgss (rc rGps rn rfl rfl (by rw [cGps])) rfl rfl (by rw [cCgss])) rfl rfl (by rw [cStrs])) rfl rfl (by rw [cI])) rfl rfl (by rw [cI])
theorem own : ownKnob Tryz.prog.godebug = none := by kernel_rfl
theorem laid : laidOutB Tryz.prog = true := by kernel_rfl
theorem trod_cons {P : Program} {H : Type} {en : TypeId × Value → H} {W : World} {b : Nat} {sp : Nat → Bool} {hd : Bool} {t : TypeId} {ts : List TypeId} {vs : List Value} {ds : List (DataW H)} {ps : List MemPlace} (h : DataW.TrodAll en P W b sp hd (t :: ts) vs ds ps) :
    ∃ v r d e p q, vs = v :: r ∧ ds = d :: e ∧ DataW.Trod en P W b sp hd t v d p ∧ DataW.TrodAll en P W b sp hd ts r e q := by
  cases vs with
  | nil => simp [DataW.TrodAll] at h
  | cons v r => cases ds with
    | nil => simp [DataW.TrodAll] at h
    | cons d e =>
      obtain ⟨p, q, h1, h2, _⟩ := h
      exact ⟨v, r, d, e, p, q, rfl, rfl, h1, h2⟩
theorem trod_nil {P : Program} {H : Type} {en : TypeId × Value → H} {W : World} {b : Nat} {sp : Nat → Bool} {hd : Bool} {vs : List Value} {ds : List (DataW H)} {ps : List MemPlace} (h : DataW.TrodAll en P W b sp hd [] vs ds ps) : vs = [] ∧ ds = [] := by
  cases vs with
  | nil => cases ds with
    | nil => exact ⟨rfl, rfl⟩
    | cons d e => simp [DataW.TrodAll] at h
  | cons v r => simp [DataW.TrodAll] at h
end Go.Proofs.YtmlhaikblfjghaaGreatDoor.S1
