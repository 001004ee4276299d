/- Values of bits: characters and their number. -/
import Derived.Test.YtmlhaikblfjghaaGreatDoorCCI3
namespace Go.Proofs.YtmlhaikblfjghaaGreatDoor.S1
open Go Go.Ab Go.Proofs
theorem F44 : OkF 44 Tryz.f44 := ⟨by kernel_rfl, by kernel_rfl, by kernel_rfl⟩
def lv44 : List (List Nat × List Nat) := [([1, 0, 1, 0], [0, 4])]
noncomputable def nLCs  : List Nat → Nat → Option Ans := scrAt []
theorem nLC [Lay] (c : UInt8) (K : D → Prop) : runS (En Tryz.f44) (fi Tryz.f44 K) (nLCs ) lv44 200 [.code []] ⟨argSlots 0 [.int .u8 c.toNat], .empty⟩ =
  (At (En Tryz.f44) (fi Tryz.f44 K) [It.code [1, 0, 1, 0], It.blk 0, It.code [1, 1]] { sl := [(0, D.int IntKind.u8 (↑c.toNat : Int)), (4, I 0)], h := Heap.empty : St }) := by kernel_rfl
def SLC (c : UInt8) (i : Int) : St := ⟨[(0, .int .u8 c.toNat), (4, I i)], .empty⟩
noncomputable def nLCas  : List Nat → Nat → Option Ans := scrAt []
theorem nLCa [Lay] (c : UInt8) (i : Int) (J : St → Prop) (K : D → Prop) : runS (En Tryz.f44) (fi Tryz.f44 K) (nLCas ) lv44 200 [.code [1, 0, 1, 0, 0], stp [0, 4] J, .blk 0, .code [1, 1]] (SLC c i) =
  (bif decide (i < 4) then (0 ≤ i ∧ i < (↑4 : Int)) ∧ bif (↑({ data := #[48, 49, 120, 122] : ByteArray }.data.toList.getD i.toNat 0).toNat : Int) == (↑c.toNat : Int) then K (I i) else J { sl := [(0, D.int IntKind.u8 (↑c.toNat : Int)), (4, I (addI .i64 i 1))], h := Heap.empty : St } else K (I (-1))) := by kernel_rfl
def codeF (c : UInt8) : Int := if c.toNat = 48 then 0 else if c.toNat = 49 then 1 else if c.toNat = 120 then 2 else if c.toNat = 122 then 3 else -1
theorem c44 [Lay] (c : UInt8) : Pure PP 44 [.int .u8 c.toNat] (I (codeF c)) := by
  refine pu F44 (by kernel_rfl) (of_eq (nLC c _) ?_)
  have e4 : ∀ i : Nat, i < 4 → (({ data := #[48, 49, 120, 122] : ByteArray }.data.toList.getD (i : Int).toNat 0).toNat : Int) = [(48 : Int), 49, 120, 122].getD i 0 := fun i hi => by
    rcases i with _ | _ | _ | _ | i
    · rfl
    · rfl
    · rfl
    · rfl
    · omega
  refine lp (fn := Tryz.f44) (fun i : Nat => i ≤ 4 ∧ ∀ k, k < i → (c.toNat : Int) ≠ [(48 : Int), 49, 120, 122].getD k 0) (fun i => SLC c i) (fun i => 4 - i) [0, 4] (by kernel_rfl) (fun i hi => of_eq (nLCa c i _ _) ?_) 0 ⟨Nat.zero_le _, fun k hk => by omega⟩
  obtain ⟨hi, hn⟩ := hi
  refine cond_intro (fun hlt => ?_) fun hge => ?_
  · have hlt : i < 4 := by have := of_decide_eq_true hlt; omega
    rw [e4 i hlt, add64 (by omega) (by omega)]
    refine ⟨⟨by omega, by show (i : Int) < 4; omega⟩, cond_intro (fun h => ?_) fun h => ?_⟩
    · have h := eq_of_beq h
      have hc : codeF c = i := by
        have n0 := hn 0
        have n1 := hn 1
        have n2 := hn 2
        unfold codeF
        rcases i with _ | _ | _ | _ | i
        · have h : (48 : Int) = c.toNat := h
          rw [if_pos (by omega)]; rfl
        · have h : (49 : Int) = c.toNat := h
          rw [if_neg (by omega), if_pos (by omega)]; rfl
        · have h : (120 : Int) = c.toNat := h
          rw [if_neg (by omega), if_neg (by omega), if_pos (by omega)]; rfl
        · have h : (122 : Int) = c.toNat := h
          rw [if_neg (by omega), if_neg (by omega), if_neg (by omega), if_pos (by omega)]; rfl
        · omega
      rw [hc]; exact Wk.refl _
    · refine Nx.mk (i + 1) ⟨by omega, fun k hk => ?_⟩ (by omega)
      by_cases hki : k = i
      · subst hki
        intro e
        rw [e, beq_self_eq_true] at h; cases h
      · exact hn k (by omega)
  · have h4 : i = 4 := by have := of_decide_eq_false hge; omega
    subst h4
    have n0 : (c.toNat : Int) ≠ 48 := hn 0 (by omega)
    have n1 : (c.toNat : Int) ≠ 49 := hn 1 (by omega)
    have n2 : (c.toNat : Int) ≠ 120 := hn 2 (by omega)
    have n3 : (c.toNat : Int) ≠ 122 := hn 3 (by omega)
    have hc : codeF c = -1 := by
      unfold codeF
      rw [if_neg (by omega), if_neg (by omega), if_neg (by omega), if_neg (by omega)]
    rw [hc]; exact Wk.refl _
theorem codeF_5 (c : UInt8) : codeF c = -1 ∨ codeF c = 0 ∨ codeF c = 1 ∨ codeF c = 2 ∨ codeF c = 3 := by
  unfold codeF
  split
  · simp
  · split
    · simp
    · split
      · simp
      · split <;> simp
theorem F36 : OkF 36 Tryz.f36 := ⟨by kernel_rfl, by kernel_rfl, by kernel_rfl⟩
def lv36 : List (List Nat × List Nat) := []
noncomputable def nLVs (c : UInt8) : List Nat → Nat → Option Ans := scrAt [([1, 0], 1, Ans.pure [D.int IntKind.u8 (↑c.toNat : Int)] (I (codeF c)))]
theorem nLV [Lay] (c : UInt8) (K : D → Prop) : runS (En Tryz.f36) (fi Tryz.f36 K) (nLVs c) lv36 200 [.code []] ⟨argSlots 0 [.int .u8 c.toNat], .empty⟩ =
  (PureW PP 44 [D.int IntKind.u8 (↑c.toNat : Int)] [D.int IntKind.u8 (↑c.toNat : Int)] (I (codeF c)) ∧ K (B (decide (codeF c ≥ 0)))) := by kernel_rfl
theorem c36 [Lay] (c : UInt8) : Pure PP 36 [.int .u8 c.toNat] (B (decide (codeF c ≥ 0))) := pu F36 (by kernel_rfl) (of_eq (nLV c _) ⟨PureW.mk (c44 c), Wk.refl _⟩)
theorem F104 : OkF 104 Tryz.f104 := ⟨by kernel_rfl, by kernel_rfl, by kernel_rfl⟩
def lv104 : List (List Nat × List Nat) := [([1, 1, 0, 1, 0], [0, 2, 3, 7, 8])]
noncomputable def nCts  : List Nat → Nat → Option Ans := scrAt []
theorem nCt [Lay] (q : Str) (K : D → Prop) : runS (En Tryz.f104) (fi Tryz.f104 K) (nCts ) lv104 200 [.code []] ⟨argSlots 0 [.str q], .empty⟩ =
  (List.length q ≤ strM → At (En Tryz.f104) (fi Tryz.f104 K) [It.code [1, 1, 0, 1, 0], It.blk 0, It.code [1, 1, 1]] { sl := [(0, .str q), (2, .own [I 0, I 0, I 0, I 0]), (3, .own [I 0, I 0, I 0, I 0]), (7, I (↑(List.length q) : Int)), (8, I 0)], h := Heap.empty : St }) := by kernel_rfl
def SCt (q : Str) (a b c d i : Int) : St := ⟨[(0, .str q), (2, .own [I 0, I 0, I 0, I 0]), (3, .own [I a, I b, I c, I d]), (7, I q.length), (8, I i)], .empty⟩
def SCu (q : Str) (a b c d i k : Int) : St := ⟨[(0, .str q), (2, .own [I 0, I 0, I 0, I 0]), (3, .own [I a, I b, I c, I d]), (5, I k), (7, I q.length), (8, I i)], .empty⟩
noncomputable def lvCt : List (List Nat × List Nat) := lv104 ++ [([1, 1, 0, 1, 0, 0, 1, 1, 0, 0, 1, 1], [0, 2, 3, 5, 7, 8])]
noncomputable def nCtas (q : Str) (i : Int) : List Nat → Nat → Option Ans := scrAt [([1, 1, 0, 1, 0, 0, 1, 1, 0, 0, 1, 0], 3, Ans.pure [D.int IntKind.u8 (↑(List.getD q i.toNat 0).toNat : Int)] (I (codeF (List.getD q i.toNat 0))))]
theorem nCta [Lay] (q : Str) (a b c d i : Int) (J : St → Prop) (K : D → Prop) : runS (En Tryz.f104) (fi Tryz.f104 K) (nCtas q i) lvCt 200 [.code [1, 1, 0, 1, 0, 0], stp [0, 2, 3, 7, 8] J, .blk 0, .code [1, 1, 1]] (SCt q a b c d i) =
  (bif decide (i < (↑(List.length q) : Int)) then (0 ≤ i ∧ i < (↑(List.length q) : Int)) ∧ PureW PP 44 [D.int IntKind.u8 (↑(List.getD q i.toNat 0).toNat : Int)] [D.int IntKind.u8 (↑(List.getD q i.toNat 0).toNat : Int)] (I (codeF (List.getD q i.toNat 0))) ∧ At (En Tryz.f104) (fi Tryz.f104 K) [It.code [1, 1, 0, 1, 0, 0, 1, 1, 0, 0, 1, 1], It.blk 1, It.code [1, 1, 0, 1, 0, 0, 1, 1, 1], stp [0, 2, 3, 7, 8] J, It.blk 0, It.code [1, 1, 1]] { sl := [(0, .str q), (2, .own [I 0, I 0, I 0, I 0]), (3, .own [I a, I b, I c, I d]), (5, I (codeF (List.getD q i.toNat 0))), (7, I (↑(List.length q) : Int)), (8, I i)], h := Heap.empty : St } else True ∧ K (.agg [I a, I b, I c, I d])) := by kernel_rfl
noncomputable def nCtms  : List Nat → Nat → Option Ans := scrAt []
theorem nCtm [Lay] (q : Str) (a b c d i : Int) (J : St → Prop) (K : D → Prop) : runS (En Tryz.f104) (fi Tryz.f104 K) (nCtms ) nolv 200 [.code [1, 1, 0, 1, 0, 0, 1, 1, 0, 0, 1, 1], .blk 1, .code [1, 1, 0, 1, 0, 0, 1, 1, 1], stp [0, 2, 3, 7, 8] J, .blk 0, .code [1, 1, 1]] (SCu q a b c d i (-1)) =
  (J { sl := [(0, .str q), (2, .own [I 0, I 0, I 0, I 0]), (3, .own [I a, I b, I c, I d]), (7, I (↑(List.length q) : Int)), (8, I (addI .i64 i 1))], h := Heap.empty : St }) := by kernel_rfl
noncomputable def nCt0s  : List Nat → Nat → Option Ans := scrAt []
theorem nCt0 [Lay] (q : Str) (a b c d i : Int) (J : St → Prop) (K : D → Prop) : runS (En Tryz.f104) (fi Tryz.f104 K) (nCt0s ) nolv 200 [.code [1, 1, 0, 1, 0, 0, 1, 1, 0, 0, 1, 1], .blk 1, .code [1, 1, 0, 1, 0, 0, 1, 1, 1], stp [0, 2, 3, 7, 8] J, .blk 0, .code [1, 1, 1]] (SCu q a b c d i 0) =
  (True ∧ J { sl := [(0, .str q), (2, .own [I 0, I 0, I 0, I 0]), (3, .own [I (addI .i64 a 1), I b, I c, I d]), (7, I (↑(List.length q) : Int)), (8, I (addI .i64 i 1))], h := Heap.empty : St }) := by kernel_rfl
noncomputable def nCt1s  : List Nat → Nat → Option Ans := scrAt []
theorem nCt1 [Lay] (q : Str) (a b c d i : Int) (J : St → Prop) (K : D → Prop) : runS (En Tryz.f104) (fi Tryz.f104 K) (nCt1s ) nolv 200 [.code [1, 1, 0, 1, 0, 0, 1, 1, 0, 0, 1, 1], .blk 1, .code [1, 1, 0, 1, 0, 0, 1, 1, 1], stp [0, 2, 3, 7, 8] J, .blk 0, .code [1, 1, 1]] (SCu q a b c d i 1) =
  (True ∧ J { sl := [(0, .str q), (2, .own [I 0, I 0, I 0, I 0]), (3, .own [I a, I (addI .i64 b 1), I c, I d]), (7, I (↑(List.length q) : Int)), (8, I (addI .i64 i 1))], h := Heap.empty : St }) := by kernel_rfl
noncomputable def nCt2s  : List Nat → Nat → Option Ans := scrAt []
theorem nCt2 [Lay] (q : Str) (a b c d i : Int) (J : St → Prop) (K : D → Prop) : runS (En Tryz.f104) (fi Tryz.f104 K) (nCt2s ) nolv 200 [.code [1, 1, 0, 1, 0, 0, 1, 1, 0, 0, 1, 1], .blk 1, .code [1, 1, 0, 1, 0, 0, 1, 1, 1], stp [0, 2, 3, 7, 8] J, .blk 0, .code [1, 1, 1]] (SCu q a b c d i 2) =
  (True ∧ J { sl := [(0, .str q), (2, .own [I 0, I 0, I 0, I 0]), (3, .own [I a, I b, I (addI .i64 c 1), I d]), (7, I (↑(List.length q) : Int)), (8, I (addI .i64 i 1))], h := Heap.empty : St }) := by kernel_rfl
noncomputable def nCt3s  : List Nat → Nat → Option Ans := scrAt []
theorem nCt3 [Lay] (q : Str) (a b c d i : Int) (J : St → Prop) (K : D → Prop) : runS (En Tryz.f104) (fi Tryz.f104 K) (nCt3s ) nolv 200 [.code [1, 1, 0, 1, 0, 0, 1, 1, 0, 0, 1, 1], .blk 1, .code [1, 1, 0, 1, 0, 0, 1, 1, 1], stp [0, 2, 3, 7, 8] J, .blk 0, .code [1, 1, 1]] (SCu q a b c d i 3) =
  (True ∧ J { sl := [(0, .str q), (2, .own [I 0, I 0, I 0, I 0]), (3, .own [I a, I b, I c, I (addI .i64 d 1)]), (7, I (↑(List.length q) : Int)), (8, I (addI .i64 i 1))], h := Heap.empty : St }) := by kernel_rfl
end Go.Proofs.YtmlhaikblfjghaaGreatDoor.S1
/- Values of bits: valid ones. -/
namespace Go.Proofs.YtmlhaikblfjghaaGreatDoor.S1
open Go Go.Ab Go.Proofs
def cntF (k : Int) (q : Str) : Nat := (q.filter fun c => codeF c == k).length
theorem cntF_le (k : Int) (q : Str) : cntF k q ≤ q.length := List.length_filter_le _ _
theorem cntF_snoc (k : Int) (q : Str) (i : Nat) (h : i < q.length) : cntF k (q.take (i + 1)) = cntF k (q.take i) + if codeF (q.getD i default) = k then 1 else 0 := by
  unfold cntF
  rw [take_snoc _ _ h, List.filter_append, List.length_append]
  congr 1
  by_cases hk : codeF (q.getD i default) = k
  · rw [if_pos hk, List.filter_cons, if_pos (by rw [beq_iff_eq]; exact hk)]; rfl
  · rw [if_neg hk, List.filter_cons, if_neg (by rw [beq_iff_eq]; exact hk)]; rfl
theorem c104 [Lay] (q : Str) (hq : q.length ≤ 1000000) : Pure PP 104 [.str q] (.agg [I (cntF 0 q), I (cntF 1 q), I (cntF 2 q), I (cntF 3 q)]) := by
  refine pu F104 (by kernel_rfl) (of_eq (nCt q _) fun hlm => ?_)
  refine lpC (fn := Tryz.f104) (fun i : Nat => i ≤ q.length) (fun i => SCt q (cntF 0 (q.take i)) (cntF 1 (q.take i)) (cntF 2 (q.take i)) (cntF 3 (q.take i)) i) (fun i => q.length - i) [0, 2, 3, 7, 8] (by kernel_rfl) (fun i hi => runS_sound hmix _ _ _ (of_eq (nCta q _ _ _ _ i _ _) (cond_intro (fun hlt => ?_) fun hge => ?_))) 0 (Nat.zero_le _)
  · have hlt := ltI hlt
    have hL := fun k => cntF_le k (q.take i)
    have hT : (q.take i).length = i := by rw [List.length_take]; omega
    rw [Int.toNat_natCast]
    have hg : q.getD i 0 = q.getD i default := rfl
    rw [hg]
    refine ⟨⟨by omega, by omega⟩, PureW.mk (c44 _), ?_⟩
    have a1 : ∀ k, addI .i64 ((cntF k (q.take i) : Nat) : Int) 1 = ((cntF k (q.take i) + 1 : Nat) : Int) := fun k => by
      have := hL k
      rw [add64 (by omega) (by omega)]; rfl
    have ai : addI .i64 (i : Int) 1 = ((i + 1 : Nat) : Int) := by rw [add64 (by omega) (by omega)]; rfl
    have hN : ∀ st, st = SCt q (cntF 0 (q.take (i + 1))) (cntF 1 (q.take (i + 1))) (cntF 2 (q.take (i + 1))) (cntF 3 (q.take (i + 1))) ((i + 1 : Nat) : Int) →
        Nx (EnC cfg0 Tryz.f104).nt (fun i : Nat => i ≤ q.length) (fun i => SCt q (cntF 0 (q.take i)) (cntF 1 (q.take i)) (cntF 2 (q.take i)) (cntF 3 (q.take i)) i) (fun i => q.length - i) (q.length - i) st := fun st h => by
      subst h; exact Nx.mk (i + 1) hlt (by omega)
    have s := fun k => cntF_snoc k q i hlt
    rcases codeF_5 (q.getD i default) with h | h | h | h | h
    · rw [h]
      refine runS_sound hmix _ _ _ (of_eq (nCtm q _ _ _ _ i _ _) (hN _ ?_))
      rw [ai, s 0, s 1, s 2, s 3, h]; rfl
    · rw [h]
      refine runS_sound hmix _ _ _ (of_eq (nCt0 q _ _ _ _ i _ _) ⟨trivial, hN _ ?_⟩)
      rw [ai, a1, s 0, s 1, s 2, s 3, h]; rfl
    · rw [h]
      refine runS_sound hmix _ _ _ (of_eq (nCt1 q _ _ _ _ i _ _) ⟨trivial, hN _ ?_⟩)
      rw [ai, a1, s 0, s 1, s 2, s 3, h]; rfl
    · rw [h]
      refine runS_sound hmix _ _ _ (of_eq (nCt2 q _ _ _ _ i _ _) ⟨trivial, hN _ ?_⟩)
      rw [ai, a1, s 0, s 1, s 2, s 3, h]; rfl
    · rw [h]
      refine runS_sound hmix _ _ _ (of_eq (nCt3 q _ _ _ _ i _ _) ⟨trivial, hN _ ?_⟩)
      rw [ai, a1, s 0, s 1, s 2, s 3, h]; rfl
  · rw [List.take_of_length_le (geI hge)]
    exact ⟨trivial, Wk.refl _⟩
theorem F86 : OkF 86 Tryz.f86 := ⟨by kernel_rfl, by kernel_rfl, by kernel_rfl⟩
def lv86 : List (List Nat × List Nat) := []
noncomputable def nBss (q : Str) : List Nat → Nat → Option Ans := scrAt [([1, 1, 0], 1, Ans.pure [.str q] (.agg [I (↑(cntF 0 q) : Int), I (↑(cntF 1 q) : Int), I (↑(cntF 2 q) : Int), I (↑(cntF 3 q) : Int)]))]
theorem nBs [Lay] (q : Str) (K : D → Prop) : runS (En Tryz.f86) (fi Tryz.f86 K) (nBss q) lv86 200 [.code []] ⟨argSlots 0 [.str q], .empty⟩ =
  (((!q == { data := #[] : ByteArray }.data.toList) = true → List.length q ≤ strM) → bif bif q == { data := #[] : ByteArray }.data.toList then true else decide ((↑(List.length q) : Int) > 128) then K (B false) else PureW PP 104 [.str q] [.str q] (.agg [I (↑(cntF 0 q) : Int), I (↑(cntF 1 q) : Int), I (↑(cntF 2 q) : Int), I (↑(cntF 3 q) : Int)]) ∧ True ∧ (List.length q ≤ strM → K (B (addI .i64 (addI .i64 (addI .i64 (↑(cntF 0 q) : Int) (↑(cntF 1 q) : Int)) (↑(cntF 2 q) : Int)) (↑(cntF 3 q) : Int) == (↑(List.length q) : Int))))) := by kernel_rfl
end Go.Proofs.YtmlhaikblfjghaaGreatDoor.S1
/- Values of bits: valid ones, of a width. -/
namespace Go.Proofs.YtmlhaikblfjghaaGreatDoor.S1
open Go Go.Ab Go.Proofs
def bvB (q : Str) : Bool := bif bif decide (q = []) then true else decide (q.length > 128) then false else decide (cntF 0 q + cntF 1 q + cntF 2 q + cntF 3 q = q.length)
theorem empB (r : Str) : (r == ({ data := #[] : ByteArray }.data.toList : Str)) = decide (r = []) := by
  cases r <;> rfl
theorem c86 [Lay] (q : Str) (hq : q.length ≤ 1000000) : Pure PP 86 [.str q] (B (bvB q)) := by
  have h0 := cntF_le 0 q
  have h1 := cntF_le 1 q
  have h2 := cntF_le 2 q
  have h3 := cntF_le 3 q
  refine pu F86 (by kernel_rfl) (of_eq (nBs q _) ?_)
  rw [empB]
  have hc : (bif decide (q = []) then true else decide ((q.length : Int) > 128)) = (bif decide (q = []) then true else decide (q.length > 128)) := by
    cases decide (q = [])
    · exact decide_eq_decide.2 (by omega)
    · rfl
  rw [hc]
  unfold bvB
  refine fun _ => cond_intro (fun h => ?_) fun h => ⟨PureW.mk (c104 q hq), trivial, fun _ => ?_⟩
  · rw [h]; exact Wk.refl _
  · rw [h, add64 (a := (cntF 0 q : Int)) (b := (cntF 1 q : Int)) (by omega) (by omega), add64 (a := (cntF 0 q : Int) + (cntF 1 q : Int)) (b := (cntF 2 q : Int)) (by omega) (by omega), add64 (by omega) (by omega)]
    have : (((cntF 0 q : Int) + (cntF 1 q : Int) + (cntF 2 q : Int) + (cntF 3 q : Int)) == (q.length : Int)) = decide (cntF 0 q + cntF 1 q + cntF 2 q + cntF 3 q = q.length) := by
      rw [Bool.eq_iff_iff, beq_iff_eq, decide_eq_true_eq]; omega
    rw [this]; exact Wk.refl _
theorem F64 : OkF 64 Tryz.f64 := ⟨by kernel_rfl, by kernel_rfl, by kernel_rfl⟩
def lv64 : List (List Nat × List Nat) := []
noncomputable def nBvs (q : Str) : List Nat → Nat → Option Ans := scrAt [([1, 0], 1, Ans.pure [.str q] (B (bvB q)))]
theorem nBv [Lay] (w : Int) (q : Str) (K : D → Prop) : runS (En Tryz.f64) (fi Tryz.f64 K) (nBvs q) lv64 200 [.code []] ⟨argSlots 0 [I w, .str q], .empty⟩ =
  (PureW PP 86 [.str q] [.str q] (B (bvB q)) ∧ ((bvB q = true → List.length q ≤ strM) → K (B (bif bvB q then (↑(List.length q) : Int) == w else false)))) := by kernel_rfl
theorem c64 [Lay] (w : Int) (q : Str) (hq : q.length ≤ 1000000) : Pure PP 64 [I w, .str q] (B (bif bvB q then (q.length : Int) == w else false)) :=
  pu F64 (by kernel_rfl) (of_eq (nBv w q _) ⟨PureW.mk (c86 q hq), fun _ => Wk.refl _⟩)
end Go.Proofs.YtmlhaikblfjghaaGreatDoor.S1
/- Values: the kinds of signals. -/
namespace Go.Proofs.YtmlhaikblfjghaaGreatDoor.S1
open Go Go.Ab Go.Proofs
instance ddEp {ds : List D} [h : DS ds] : DD (.ep ds) := ⟨h.p⟩
theorem F70 : OkF 70 Tryz.f70 := ⟨by kernel_rfl, by kernel_rfl, by kernel_rfl⟩
def lv70 : List (List Nat × List Nat) := [([1], [1])]
noncomputable def nVsms  : List Nat → Nat → Option Ans := scrAt []
theorem nVsm [Lay] (q : Str) (K : D → Prop) : runS (En Tryz.f70) (fi Tryz.f70 K) (nVsms ) lv70 200 [.code []] ⟨argSlots 0 [.str q], .empty⟩ =
  (At (En Tryz.f70) (fi Tryz.f70 K) [It.code [1]] { sl := [(1, .own [.str q])], h := Heap.empty : St }) := by kernel_rfl
noncomputable def nVsm2s  : List Nat → Nat → Option Ans := scrAt []
theorem nVsm2 [Lay] (q : Str) (K : D → Prop) : runS (En Tryz.f70) (fi Tryz.f70 K) (nVsm2s ) nolv 200 [.code [1]] ⟨[(1, .ep [.str q])], .empty⟩ =
  (K (D.clo 90 [D.ep [.str q]])) := by kernel_rfl
theorem c70 [Lay] (q : Str) : Pure PP 70 [.str q] (.clo 90 [.ep [.str q]]) := by
  refine pu F70 (by kernel_rfl) (of_eq (nVsm q _) ?_)
  refine at_le (st' := ⟨[(1, .ep [.str q])], .empty⟩) (runS_sound hmix _ _ _ (of_eq (nVsm2 q _) (Wk.refl _))) ((StLe.layOwn 1 rfl (by kernel_rfl)).cast (by kernel_rfl))
theorem F54 : OkF 54 Tryz.f54 := ⟨by kernel_rfl, by kernel_rfl, by kernel_rfl⟩
def lv54 : List (List Nat × List Nat) := []
noncomputable def nVkss  : List Nat → Nat → Option Ans := scrAt [([1, 0], 3, Ans.pure [.str { data := #[48] : ByteArray }.data.toList] (D.clo 90 [D.ep [.str { data := #[48] : ByteArray }.data.toList]])), ([1, 0], 6, Ans.pure [.str { data := #[] : ByteArray }.data.toList] (D.clo 90 [D.ep [.str { data := #[] : ByteArray }.data.toList]])), ([1, 0], 9, Ans.pure [.str { data := #[] : ByteArray }.data.toList] (D.clo 90 [D.ep [.str { data := #[] : ByteArray }.data.toList]]))]
theorem nVks [Lay]  (K : D → Prop) : runS (En Tryz.f54) (fi Tryz.f54 K) (nVkss ) lv54 200 [.code []] ⟨argSlots 0 [], .empty⟩ =
  (PureW PP 70 [.str { data := #[48] : ByteArray }.data.toList] [.str { data := #[48] : ByteArray }.data.toList] (D.clo 90 [D.ep [.str { data := #[48] : ByteArray }.data.toList]]) ∧ PureW PP 70 [.str { data := #[] : ByteArray }.data.toList] [.str { data := #[] : ByteArray }.data.toList] (D.clo 90 [D.ep [.str { data := #[] : ByteArray }.data.toList]]) ∧ PureW PP 70 [.str { data := #[] : ByteArray }.data.toList] [.str { data := #[] : ByteArray }.data.toList] (D.clo 90 [D.ep [.str { data := #[] : ByteArray }.data.toList]]) ∧ K (.list 4 7 (litG [.agg [I 1, I 128, D.clo 64 [], D.clo 65 [], D.clo 66 [], D.clo 67 [], .str { data := #[98] : ByteArray }.data.toList], .agg [I 0, I 0, D.clo 68 [], D.clo 90 [D.ep [.str { data := #[48] : ByteArray }.data.toList]], D.clo 71 [], D.clo 73 [], .str { data := #[114] : ByteArray }.data.toList], .agg [I 0, I 0, D.clo 74 [], D.clo 90 [D.ep [.str { data := #[] : ByteArray }.data.toList]], D.clo 75 [], D.clo 77 [], .str { data := #[115] : ByteArray }.data.toList], .agg [I 0, I 0, D.clo 78 [], D.clo 90 [D.ep [.str { data := #[] : ByteArray }.data.toList]], D.clo 79 [], D.clo 80 [], .str { data := #[] : ByteArray }.data.toList]]) .full)) := by kernel_rfl
def kd0 : D := .agg [I 1, I 128, .clo 64 [], .clo 65 [], .clo 66 [], .clo 67 [], .str { data := #[98] : ByteArray }.data.toList]
def kd1 : D := .agg [I 0, I 0, .clo 68 [], .clo 90 [.ep [.str { data := #[48] : ByteArray }.data.toList]], .clo 71 [], .clo 73 [], .str { data := #[114] : ByteArray }.data.toList]
def kd2 : D := .agg [I 0, I 0, .clo 74 [], .clo 90 [.ep [.str { data := #[] : ByteArray }.data.toList]], .clo 75 [], .clo 77 [], .str { data := #[115] : ByteArray }.data.toList]
def kd3 : D := .agg [I 0, I 0, .clo 78 [], .clo 90 [.ep [.str { data := #[] : ByteArray }.data.toList]], .clo 79 [], .clo 80 [], .str { data := #[] : ByteArray }.data.toList]
instance ddKd0 : DD kd0 := inferInstanceAs (DD (.agg [_, _, _, _, _, _, _]))
instance ddKd1 : DD kd1 := inferInstanceAs (DD (.agg [_, _, _, _, _, _, _]))
instance ddKd2 : DD kd2 := inferInstanceAs (DD (.agg [_, _, _, _, _, _, _]))
instance ddKd3 : DD kd3 := inferInstanceAs (DD (.agg [_, _, _, _, _, _, _]))
theorem datas_get : ∀ (ds : List D) (i : Nat), Datas ds → i < ds.length → Ab.Data (ds.getD i .junk)
  | [], _, _, h => by simp at h
  | d :: r, 0, h, _ => by simp only [Datas] at h; exact h.1
  | d :: r, i + 1, h, hi => by
    simp only [Datas] at h
    rw [List.getD_cons_succ]
    exact datas_get r i h.2 (by simp at hi; omega)
def kdL : D := .list 4 7 (litG [kd0, kd1, kd2, kd3]) .full
instance ddKdL : DD kdL := ⟨by
  have h : DS [kd0, kd1, kd2, kd3] := inferInstance
  unfold kdL
  simp only [Ab.Data]
  exact ⟨fun i hi => datas_get _ i h.p hi, fun _ _ h => by cases h⟩⟩
theorem ek : (.list 4 7 (litG [kd0, kd1, kd2, kd3]) .full : D) = kdL := by kernel_rfl
theorem c54 [Lay] : Pure PP 54 [] kdL := by
  refine pu F54 (by kernel_rfl) (of_eq (nVks _) ⟨PureW.mk (c70 _), PureW.mk (c70 _), PureW.mk (c70 _), ?_⟩)
  exact Wk.of_eq ek
end Go.Proofs.YtmlhaikblfjghaaGreatDoor.S1
