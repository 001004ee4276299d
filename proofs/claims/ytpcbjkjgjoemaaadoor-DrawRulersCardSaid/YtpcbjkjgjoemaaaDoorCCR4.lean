/- Lines: the marks of an Event. -/
import Derived.Test.YtpcbjkjgjoemaaaDoorCCR3
namespace Go.Proofs.YtpcbjkjgjoemaaaDoor.S1
open Go Go.Ab Go.Proofs
/-- The Builder's first word, by what has been written. -/
def aOf (es : Str) : D := if es = [] then .nilp else .bp 0 0
/-- The Builder and a number. -/
def hBa (a : D) (es : Str) (i : Int) : Heap := ⟨upd (upd (fun _ => none) 0 (some (.litT TB [a, .bv TU 0 es.length]))) 1 (some (.lit [I i])), 3, upd (fun _ => none) 0 (some es.length), 1, upd (fun _ => none) 0 (some (cv es encB))⟩
theorem aOf_snoc (es : Str) (c : UInt8) : aOf (es ++ [c]) = .bp 0 0 := by
  unfold aOf
  rw [if_neg (by simp)]
theorem aOf_or (es : Str) : aOf es = .nilp ∨ aOf es = .bp 0 0 := by
  unfold aOf
  split
  · exact .inl rfl
  · exact .inr rfl
theorem eWB3 [Lay] (a : D) (ha : a = .nilp ∨ a = .bp 0 0) (es : Str) (i : Int) (c : UInt8) (hl : es.length ≤ 1000000) : Does PP 21 [.bp 0 0, encB c] (hBa a es i) .nili (hBa (.bp 0 0) (es ++ [c]) i) := by
  have hh : ∀ a : D, (⟨upd (upd (upd (fun _ => none) 0 (some (.litT TB [a, .bv TU 0 es.length]))) 1 (some (.lit [I i]))) 0 (some (.litT TB [.bp 0 0, .bv TU 0 (es ++ [c]).length])), 3, upd (upd (fun _ => none) 0 (some es.length)) 0 (some (es ++ [c]).length), 1, upd (upd (fun _ => none) 0 (some (cv es encB))) 0 (some (cv (es ++ [c]) encB))⟩ : Heap) = hBa (.bp 0 0) (es ++ [c]) i := fun a => hp_eq (fun k => by rcases k with _ | _ | k <;> rfl) (upd_upd _ _ _ _) (upd_upd _ _ _ _)
  rcases ha with rfl | rfl
  · rw [← hh .nilp]
    exact fr (e21 .nilp (.inl rfl) es c (by omega)) [0] [0]
  · rw [← hh (.bp 0 0)]
    exact fr (e21 (.bp 0 0) (.inr rfl) es c (by omega)) [0] [0]
def hEz (i : Int) : Heap := ⟨upd (fun _ => none) 1 (some (.lit [I i])), 3, fun _ => none, 1, fun _ => none⟩
theorem eStr3 [Lay] (a : D) (ha : a = .nilp ∨ a = .bp 0 0) (es : Str) (i : Int) (h0 : es ≠ []) : Does PP 23 [.bp 0 0] (hBa a es i) (.str es) (hEz i) := by
  have hh : ∀ a : D, (⟨upd (upd (upd (fun _ => none) 0 (some (.litT TB [a, .bv TU 0 es.length]))) 1 (some (.lit [I i]))) 0 none, 3, upd (upd (fun _ => none) 0 (some es.length)) 0 none, 1, upd (upd (fun _ => none) 0 (some (cv es encB))) 0 none⟩ : Heap) = hEz i := fun a => hp_eq (fun k => by rcases k with _ | _ | k <;> rfl) (funext fun k => by rcases k with _ | k <;> rfl) (funext fun k => by rcases k with _ | k <;> rfl)
  rcases ha with rfl | rfl
  · rw [← hh .nilp]
    exact fr (e23 .nilp es h0) [0] [0]
  · rw [← hh (.bp 0 0)]
    exact fr (e23 (.bp 0 0) es h0) [0] [0]
/-- A byte, whatever number it is. -/
theorem eWBz3 [Lay] (a : D) (ha : a = .nilp ∨ a = .bp 0 0) (es : Str) (i z : Int) (hz : 0 ≤ z ∧ z < 256) (hl : es.length ≤ 1000000) : Does PP 21 [.bp 0 0, .int .u8 z] (hBa a es i) .nili (hBa (.bp 0 0) (es ++ [UInt8.ofNat z.toNat]) i) := by
  have h := eWB3 a ha es i (UInt8.ofNat z.toNat) hl
  have : encB (UInt8.ofNat z.toNat) = .int .u8 z := by
    unfold encB
    congr 1
    rw [UInt8.toNat_ofNat']
    omega
  rw [this] at h
  exact h
theorem F33 : OkF 33 Tryd.f33 := ⟨by kernel_rfl, by kernel_rfl, by kernel_rfl⟩
def lv33 : List (List Nat × List Nat) := [([1, 1, 1, 0, 1, 0, 1, 0, 1, 0, 0], [3, 5, 6, 7, 8])]
noncomputable def nEvs  : List Nat → Nat → Option Ans := scrAt []
theorem nEv [Lay] (a b c d : Int) (l : List Chg) (K : D → Heap → Prop) : runS (EnX [5, 6] Tryd.f33) (fh Tryd.f33 K) (nEvs ) nolv 200 [.code []] ⟨argSlots 0 [.agg [I a, I b, I c, I d], L l 2 Chg.d], .empty⟩ =
  (True ∧ True ∧ True ∧ At (EnX [5, 6] Tryd.f33) (fh Tryd.f33 K) [It.code [1, 1, 1, 0, 1, 0], It.blk 0, It.code [1, 1, 1, 1]] { sl := [(10, D.mv 59 [.agg [I a, I b, I c, I d]]), (9, .agg [I a, I b, I c, I d]), (6, D.bp 1 0), (5, D.bp 0 0), (4, .str { data := #[] : ByteArray }.data.toList), (3, .own [L l 2 Chg.d]), (2, .own [I a, I b, I c, I d]), (0, .agg [I a, I b, I c, I d]), (1, L l 2 Chg.d)], h := { box := upd (upd (upd (fun _ => none) 0 (some (Row.litT 57 [D.nilp, .list 0 0 (fun _ => D.junk) .full]))) 1 (some (Row.lit [I 0]))) 1 (some (Row.lit [I 0])), nl := 2, hw := fun _ => none, nt := 0, vw := fun _ => none : Heap } : St }) := by kernel_rfl
noncomputable def nEv0s  : List Nat → Nat → Option Ans := scrAt []
theorem nEv0 [Lay] (l : List Chg) (a : D) (es : Str) (i x y z : Int) (J : St → Prop) (K : St → Prop) : runS (EnX [5, 6] Tryd.f33) K (nEv0s ) lv33 200 [.code [1, 1, 1, 0, 1, 0, 0], .stop J] ⟨[(3, .ep [L l 2 Chg.d]), (5, .bp 0 0), (6, .bp 1 0), (11, .agg [I x, I y, I z])], hBa a es i⟩ =
  (True ∧ J { sl := [(7, .own [I x, I y, I z]), (3, D.ep [L l 2 Chg.d]), (5, D.bp 0 0), (6, D.bp 1 0), (11, .agg [I x, I y, I z])], h := { box := upd (upd (fun _ => none) 0 (some (Row.litT TB [a, D.bv TU 0 (List.length es)]))) 1 (some (Row.lit [I i])), nl := 3, hw := upd (fun _ => none) 0 (some (List.length es)), nt := 1, vw := upd (fun _ => none) 0 (some (cv es encB)) : Heap } : St }) := by kernel_rfl
noncomputable def nEv1s  : List Nat → Nat → Option Ans := scrAt []
theorem nEv1 [Lay] (l : List Chg) (a : D) (es : Str) (i x y z : Int) (J : St → Prop) (K : St → Prop) : runS (EnX [5, 6] Tryd.f33) K (nEv1s ) lv33 200 [.code [1, 1, 1, 0, 1, 0, 1], .stop J] ⟨[(3, .ep [L l 2 Chg.d]), (5, .bp 0 0), (6, .bp 1 0), (7, .own [I x, I y, I z])], hBa a es i⟩ =
  (At (EnX [5, 6] Tryd.f33) K [It.code [1, 1, 1, 0, 1, 0, 1, 0, 1, 0, 0], It.blk 2, It.code [1, 1, 1, 0, 1, 0, 1, 0, 1, 1], It.blk 1, It.stop J] { sl := [(3, D.ep [L l 2 Chg.d]), (5, D.bp 0 0), (6, D.bp 1 0), (7, .own [I x, I y, I z]), (8, I 0)], h := { box := upd (upd (fun _ => none) 0 (some (Row.litT TB [a, D.bv TU 0 (List.length es)]))) 1 (some (Row.lit [I i])), nl := 3, hw := upd (fun _ => none) 0 (some (List.length es)), nt := 1, vw := upd (fun _ => none) 0 (some (cv es encB)) : Heap } : St }) := by kernel_rfl
def SEv (l : List Chg) (a : D) (es : Str) (x y z n i : Int) : St := ⟨[(3, .ep [L l 2 Chg.d]), (5, .bp 0 0), (6, .bp 1 0), (7, .own [I x, I y, I z]), (8, I n)], hBa a es i⟩
noncomputable def nEv2s (es : Str) (n : Int) (i : Int) : List Nat → Nat → Option Ans := scrAt [([1, 1, 1, 0, 1, 0, 1, 0, 1, 1], 3, Ans.eff D.nili (hBa (D.bp 0 0) (es ++ [{ data := #[46, 33, 35] : ByteArray }.data.toList.getD (if 2 < n then 2 else n).toNat 0]) i))]
theorem nEv2 [Lay] (l : List Chg) (a : D) (es : Str) (x y z n i : Int) (J J2 : St → Prop) (K : St → Prop) : runS (EnX [5, 6] Tryd.f33) K (nEv2s es n i) lv33 200 [.code [1, 1, 1, 0, 1, 0, 1, 0, 1, 0, 0, 0], stp [3, 5, 6, 7, 8] J, .blk 2, .code [1, 1, 1, 0, 1, 0, 1, 0, 1, 1], .blk 1, .stop J2] (SEv l a es x y z n i) =
  (l.length ≤ lenM →
  (decide (i < (↑l.length : Int)) = true → 0 ≤ i ∧ i < (↑l.length : Int)) ∧
    bif bif decide (i < (↑l.length : Int)) then decide ((l.getD i.toNat default).time ≤ z) else false then True ∧ J { sl := [(3, D.ep [L l 2 Chg.d]), (5, D.bp 0 0), (6, D.bp 1 0), (7, .own [I x, I y, I z]), (8, I (addI .i64 n 1))], h := { box := upd (upd (upd (fun _ => none) 0 (some (Row.litT TB [a, D.bv TU 0 (List.length es)]))) 1 (some (Row.lit [I i]))) 1 (some (Row.lit [I (addI .i64 i 1)])), nl := 3, hw := upd (fun _ => none) 0 (some (List.length es)), nt := 1, vw := upd (fun _ => none) 0 (some (cv es encB)) : Heap } : St }
    else ((0 ≤ if 2 < n then 2 else n) ∧ (if 2 < n then 2 else n) < (↑3 : Int)) ∧ Does PP 21 [D.bp 0 0, D.int IntKind.u8 (↑({ data := #[46, 33, 35] : ByteArray }.data.toList.getD (if 2 < n then 2 else n).toNat 0).toNat : Int)] { box := upd (upd (fun _ => none) 0 (some (Row.litT TB [a, D.bv TU 0 (List.length es)]))) 1 (some (Row.lit [I i])), nl := 3, hw := upd (fun _ => none) 0 (some (List.length es)), nt := 1, vw := upd (fun _ => none) 0 (some (cv es encB)) : Heap } D.nili (hBa (D.bp 0 0) (es ++ [{ data := #[46, 33, 35] : ByteArray }.data.toList.getD (if 2 < n then 2 else n).toNat 0]) i) ∧ J2 { sl := [(33, D.nili), (32, D.int IntKind.u8 (↑({ data := #[46, 33, 35] : ByteArray }.data.toList.getD (if 2 < n then 2 else n).toNat 0).toNat : Int)), (31, I (if 2 < n then 2 else n)), (30, I n), (25, B (bif decide (i < (↑l.length : Int)) then decide ((l.getD i.toNat default).time ≤ z) else false)), (16, B (decide (i < (↑l.length : Int)))), (15, B (decide (i < (↑l.length : Int)))), (14, I (↑l.length : Int)), (13, L l 2 Chg.d), (12, I i), (3, D.ep [L l 2 Chg.d]), (5, D.bp 0 0), (6, D.bp 1 0), (7, .own [I x, I y, I z]), (8, I n)], h := { box := upd (upd (fun _ => none) 0 (some (Row.litT TB [D.bp 0 0, D.bv TU 0 (List.length (es ++ [{ data := #[46, 33, 35] : ByteArray }.data.toList.getD (if 2 < n then 2 else n).toNat 0]))]))) 1 (some (Row.lit [I i])), nl := 3, hw := upd (fun _ => none) 0 (some (List.length (es ++ [{ data := #[46, 33, 35] : ByteArray }.data.toList.getD (if 2 < n then 2 else n).toNat 0]))), nt := 1, vw := upd (fun _ => none) 0 (some (cv (es ++ [{ data := #[46, 33, 35] : ByteArray }.data.toList.getD (if 2 < n then 2 else n).toNat 0]) encB)) : Heap } : St }) := by kernel_rfl
noncomputable def nEvZs (es : Str) (i : Int) : List Nat → Nat → Option Ans := scrAt [([1, 1, 1, 1, 0], 0, Ans.eff (.str es) (hEz i))]
theorem nEvZ [Lay] (a : D) (es : Str) (i : Int) (K : D → Heap → Prop) : runS (EnX [5, 6] Tryd.f33) (fh Tryd.f33 K) (nEvZs es i) lv33 200 [.code [1, 1, 1, 1]] ⟨[(5, .bp 0 0)], hBa a es i⟩ =
  (Does PP 23 [D.bp 0 0] { box := upd (upd (fun _ => none) 0 (some (Row.litT TB [a, D.bv TU 0 (List.length es)]))) 1 (some (Row.lit [I i])), nl := 3, hw := upd (fun _ => none) 0 (some (List.length es)), nt := 1, vw := upd (fun _ => none) 0 (some (cv es encB)) : Heap } (.str es) (hEz i) ∧ K (.str es) { box := upd (fun _ => none) 1 (some (Row.lit [I i])), nl := 3, hw := fun _ => none, nt := 1, vw := fun _ => none : Heap }) := by kernel_rfl
/-- In a round, with the loop's record. -/
def hBaL (a : D) (es : Str) (i : Int) (q : RecD) : Heap := ⟨upd (upd (upd (fun _ => none) 0 (some (.litT TB [a, .bv TU 0 es.length]))) 1 (some (.lit [I i]))) 2 (some (.loop q none)), 3, upd (fun _ => none) 0 (some es.length), 1, upd (fun _ => none) 0 (some (cv es encB))⟩
def hB2 (a : D) (es : Str) (i : Int) : Heap := ⟨upd (upd (fun _ => none) 0 (some (.litT TB [a, .bv TU 0 es.length]))) 1 (some (.lit [I i])), 2, upd (fun _ => none) 0 (some es.length), 1, upd (fun _ => none) 0 (some (cv es encB))⟩
theorem hBaL_off {a : D} {es : Str} {i : Int} {q : RecD} : hOff (hBaL a es i q) 2 = hBa a es i := by
  have : upd (hBaL a es i q).box 2 none = (hBa a es i).box := by
    funext k; rcases k with _ | _ | _ | k <;> rfl
  unfold hOff
  rw [this]; rfl
noncomputable abbrev evE : Env := EnX [5, 6] Tryd.f33
abbrev evP : List Nat := [1, 1, 1, 0, 1, 0]
abbrev evSl (l : List Chg) : Slots := [(3, .ep [L l 2 Chg.d]), (5, .bp 0 0), (6, .bp 1 0)]
noncomputable abbrev evQ (l : List Chg) : RecD := recAt evE evP (evSl l)
theorem evCh_get (n : Nat) : (({ data := #[46, 33, 35] } : ByteArray).data.toList).getD (if 2 < (n : Int) then 2 else (n : Int)).toNat 0 = evCh n := by
  unfold evCh
  rcases n with _ | _ | n
  · rfl
  · rfl
  · have : (if 2 < ((n + 1 + 1 : Nat) : Int) then 2 else ((n + 1 + 1 : Nat) : Int)) = 2 := by split <;> omega
    rw [this, if_neg (by omega), if_neg (by omega)]; rfl
theorem evY [Lay] {l : List Chg} {t : Int} (hi : Inc t l) (hlen : l.length ≤ 1000) (j x y : Int) (es : Str) (hes : es.length ≤ 1000) (hxy : x ≤ y + 1) (K : D → Heap → Prop)
    (hk : K (.bool true) (hBaL (.bp 0 0) (es ++ [evCh (cntR l x y)]) (nLe l y : Nat) (evQ l))) : CallY PP 2 [.agg [I j, I x, I y]] (hBaL (aOf es) es (nLe l (x - 1) : Nat) (evQ l)) K := by
  refine callY_of (E := evE) (p := evP) (sl := evSl l) (by kernel_rfl) rfl (by kernel_rfl) (by kernel_rfl) ?_
  rw [hBaL_off]
  refine at_le (st' := ⟨[(3, .ep [L l 2 Chg.d]), (5, .bp 0 0), (6, .bp 1 0), (11, .agg [I j, I x, I y])], hBa (aOf es) es (nLe l (x - 1) : Nat)⟩) (runS_sound hmix _ _ _ (of_eq (nEv0 l (aOf es) es _ j x y _ _) ⟨trivial, ?_⟩)) (keepSt_le _ [3, 5, 6, 11] _)
  refine at_le (st' := ⟨[(3, .ep [L l 2 Chg.d]), (5, .bp 0 0), (6, .bp 1 0), (7, .own [I j, I x, I y])], hBa (aOf es) es (nLe l (x - 1) : Nat)⟩) ?_ (keepSt_le _ [3, 5, 6, 7] _)
  refine runS_sound hmix _ _ _ (of_eq (nEv1 l (aOf es) es _ j x y _ _) ?_)
  have hmm := nLe_mono l (show x - 1 ≤ y by omega)
  have hcn := cntR_nLe l x y hxy
  have hly := nLe_le l y
  refine lp (fn := Tryd.f33) (fun z : Nat × Nat => nLe l (x - 1) ≤ z.1 ∧ z.1 ≤ nLe l y ∧ z.2 = z.1 - nLe l (x - 1)) (fun z => SEv l (aOf es) es j x y z.2 z.1) (fun z => nLe l y - z.1) [3, 5, 6, 7, 8] (by kernel_rfl) (fun z hz => of_eq (nEv2 l (aOf es) es j x y z.2 z.1 _ _ _) fun hlm => ?_) (nLe l (x - 1), 0) ⟨Nat.le_refl _, hmm, by simp⟩
  obtain ⟨i, n⟩ := z
  obtain ⟨h1, h2, h3⟩ := hz
  simp only at h1 h2 h3 ⊢
  have hc : (bif decide ((i : Int) < (l.length : Int)) then decide ((l.getD (i : Int).toNat default).time ≤ y) else false) = decide (i < nLe l y) := by
    rw [Bool.eq_iff_iff, decide_eq_true_iff, nLe_iff hi y i, Int.toNat_natCast]
    by_cases hlt : i < l.length
    · rw [decide_eq_true (show (i : Int) < (l.length : Int) by omega)]; simp [hlt]
    · rw [decide_eq_false (show ¬ (i : Int) < (l.length : Int) by omega)]; simp [hlt]
  rw [hc]
  refine ⟨fun h => ⟨by omega, of_decide_eq_true h⟩, cond_intro (fun h => ⟨trivial, ?_⟩) fun h => ?_⟩
  · have h := of_decide_eq_true h
    rw [add64 (a := (i : Int)) (b := 1) (by omega) (by omega), add64 (by omega) (by omega), upd_upd]
    exact Nx.mk (i + 1, n + 1) ⟨by simp only; omega, h, by simp only; omega⟩ (by simp only; omega)
  · have h := of_decide_eq_false h
    have hie : i = nLe l y := by omega
    have hn : n = cntR l x y := by omega
    rw [evCh_get]
    refine ⟨⟨by split <;> omega, by show (if 2 < (n : Int) then 2 else (n : Int)) < 3; split <;> omega⟩, eWB3 (aOf es) (aOf_or es) es i _ (by omega), ?_⟩
    subst hie
    rw [hn]
    exact hk
theorem c33 [Lay] (frm stp cols fin : Int) (h1 : 0 ≤ frm ∧ frm ≤ fin) (h2 : 1 ≤ stp ∧ stp ≤ 1099511627776) (h3 : 1 ≤ cols ∧ cols ≤ 200) (h4 : fin ≤ 1099511627776) (l : List Chg) (hlen : l.length ≤ 1000) (hi : Inc (frm - 1) l) (hlf : ∀ x ∈ l, x.time ≤ fin) :
    Pure PP 33 [.agg [I frm, I stp, I cols, I fin], L l 2 Chg.d] (.str (evS l stp fin cols.toNat frm)) := by
  refine pr F33 (by kernel_rfl) (of_eq (nEv frm stp cols fin l _) ⟨trivial, trivial, trivial, ?_⟩)
  refine at_le (st' := ⟨[(3, .ep [L l 2 Chg.d]), (5, .bp 0 0), (6, .bp 1 0), (10, .mv 59 [.agg [I frm, I stp, I cols, I fin]])], hB2 .nilp [] 0⟩) ?_
    ((((StLe.layOwn 3 rfl (by kernel_rfl)).trans (StLe.idleBoxT _ 0 1 TU TB (cv ([] : Str) encB) rfl rfl)).trans (keepSt_le _ [3, 5, 6, 10] _)).trans (StLe.heap (hp_eq (fun k => by rcases k with _ | _ | k <;> rfl) rfl rfl)))
  refine at_rangeM (E := evE) (p := evP) (by kernel_rfl) (f := 59) (first := [.agg [I frm, I stp, I cols, I fin]]) (by kernel_rfl) [3, 5, 6] ?_
  generalize hm : nCol stp fin cols.toNat frm = m
  have hmle := nCol_le stp fin cols.toNat frm
  have hlenS : (evS l stp fin cols.toNat frm).length = m := by rw [← hm]; exact colS_len _ _ _ _ _
  generalize hT : evS l stp fin cols.toNat frm = T at hlenS ⊢
  have hm0 : 0 < m := by
    rw [← hm]
    rcases nCol_end stp fin cols.toNat frm with h | h
    · omega
    · rcases Nat.eq_zero_or_pos (nCol stp fin cols.toNat frm) with h0 | h0
      · rw [h0] at h; simp at h; omega
      · exact h0
  have hall := allCall frm stp cols fin 2 (fun j => hBaL (aOf (T.take j)) (T.take j) (nLe l (frm + (j : Int) * stp - 1) : Nat) (evQ l)) ⟨h1.1, by omega⟩ h2 ⟨by omega, h3.2⟩ ⟨by omega, h4⟩ (fun j K hj hK => by
    have hin := nCol_in stp fin cols.toNat frm j hj
    rw [hm] at hj
    have hts := take_snoc T j (by omega)
    have hg : T.getD j default = evCh (cntR l (frm + (j : Int) * stp) (hiC (frm + (j : Int) * stp) stp fin)) := by
      rw [← hT]; exact colS_get (fun a => evCh (cntR l a (hiC a stp fin))) stp fin cols.toNat frm j (by rw [hm]; exact hj)
    refine evY hi hlen _ _ _ _ (by rw [List.length_take]; omega) (by unfold hiC; omega) K ?_
    rw [← hg, ← hts]
    have ha : aOf (T.take (j + 1)) = .bp 0 0 := by rw [hts, aOf_snoc]
    have hn : nLe l (frm + ((j + 1 : Nat) : Int) * stp - 1) = nLe l (hiC (frm + (j : Int) * stp) stp fin) := by
      rw [mulS]
      by_cases hb : frm + (j : Int) * stp + stp - 1 ≤ fin
      · have : hiC (frm + (j : Int) * stp) stp fin = frm + ((j : Int) * stp + stp) - 1 := by unfold hiC; omega
        rw [this]
      · have : hiC (frm + (j : Int) * stp) stp fin = fin := by unfold hiC; omega
        rw [this, nLe_all hlf, nLe_all fun x hx => by have := hlf x hx; omega]
    simp only [ha, hn] at hK
    exact hK)
  rw [hm] at hall
  have e0 : hBaL (aOf (T.take 0)) (T.take 0) (nLe l (frm + ((0 : Nat) : Int) * stp - 1) : Nat) (evQ l) = hBaL .nilp [] 0 (evQ l) := by
    have : nLe l (frm + ((0 : Nat) : Int) * stp - 1) = 0 := nLe_zero fun x hx => by have := hi.gt x hx; simp; omega
    rw [this]; rfl
  simp only [e0] at hall
  refine CallA.mono hall fun _ h hh => .inl ?_
  subst hh
  refine ⟨rfl, ?_⟩
  rw [List.take_of_length_le (show T.length ≤ m by omega)]
  refine (at_le (st' := ⟨[(5, .bp 0 0)], hBa (aOf T) T (nLe l (frm + (m : Int) * stp - 1) : Nat)⟩) (runS_sound hmix _ _ _ (of_eq (nEvZ (aOf T) T _ _) ⟨eStr3 _ (aOf_or T) T _ (by intro h0; rw [h0] at hlenS; simp at hlenS; omega), _, RetLe.wk (Wk.refl _) rfl⟩)) ?_).it
  show StLe _ ⟨_, hOff (hBaL (aOf T) T (nLe l (frm + (m : Int) * stp - 1) : Nat) (evQ l)) 2⟩ _
  rw [hBaL_off]
  exact keepSt_le _ [5] _
end Go.Proofs.YtpcbjkjgjoemaaaDoor.S1
/- Lines: the text of a value. -/
namespace Go.Proofs.YtpcbjkjgjoemaaaDoor.S1
open Go Go.Ab Go.Proofs
theorem F38 : OkF 38 Tryd.f38 := ⟨by kernel_rfl, by kernel_rfl, by kernel_rfl⟩
def lv38 : List (List Nat × List Nat) := [([1, 1, 1, 0, 1, 0], [7, 21, 22, 23])]
noncomputable def ntxs (v : Str) (base : Int) : List Nat → Nat → Option Ans := scrAt [([1, 0, 1, 0, 1, 0, 0], 2, Ans.pure [.str v, I base] (.str (numR v base)))]
theorem ntx [Lay] (k : Int) (v : Str) (base : Int) (K : D → Heap → Prop) : runS (EnV [] [20] Tryd.f38) (fh Tryd.f38 K) (ntxs v base) lv38 200 [.code []] ⟨argSlots 0 [I k, .str v, I base], .empty⟩ =
  (bif k == 0 then PureW PP 8 [.str v, I base] [.str v, I base] (.str (numR v base)) ∧ K (.str (numR v base)) Heap.empty else bif k == 1 then K (.str v) Heap.empty else True ∧ (List.length v ≤ lenM → At (EnV [] [20] Tryd.f38) (fh Tryd.f38 K) [It.code [1, 1, 1, 0, 1, 0], It.blk 1, It.code [1, 1, 1, 1]] { sl := [(7, D.vec 0 (List.length v) 1), (21, D.vec 0 (List.length v) 1), (22, I (↑(List.length v) : Int)), (23, I 0)], h := { box := fun _ => none, nl := 0, hw := upd (fun _ => none) 0 (some (List.length v)), nt := 1, vw := upd (fun _ => none) 0 (some (strG v)) : Heap } : St })) := by kernel_rfl
def Stx (es : Str) (i : Int) : St := ⟨[(7, .vec 0 es.length 1), (21, .vec 0 es.length 1), (22, I es.length), (23, I i)], hVec es encB⟩
noncomputable def ntxas  : List Nat → Nat → Option Ans := scrAt []
theorem ntxa [Lay] (es : Str) (i : Int) (J : St → Prop) (K : D → Heap → Prop) : runS (EnV [] [20] Tryd.f38) (fh Tryd.f38 K) (ntxas ) lv38 200 [.code [1, 1, 1, 0, 1, 0, 0], stp [7, 21, 22, 23] J, .blk 1, .code [1, 1, 1, 1]] (Stx es i) =
  (bif decide (i < (↑(List.length es) : Int)) then (upd (fun _ => none) 0 (some (List.length es)) 0 = some (List.length es) ∧ 0 ≤ i ∧ i < (↑(List.length es) : Int)) ∧ upd (fun _ => none) 0 (some (List.length es)) 0 = some (List.length es) ∧ bif bif decide ((↑(List.getD es i.toNat default).toNat : Int) < 32) then true else decide ((↑(List.getD es i.toNat default).toNat : Int) > 126) then (upd (fun _ => none) 0 (some (List.length es)) 0 = some (List.length es) ∧ 0 ≤ i ∧ i < (↑(List.length es) : Int)) ∧ upd (fun _ => none) 0 (some (List.length es)) 0 = some (List.length es) ∧ J { sl := [(7, D.vec 0 (List.length es) 1), (21, D.vec 0 (List.length es) 1), (22, I (↑(List.length es) : Int)), (23, I (addI .i64 i 1))], h := { box := fun _ => none, nl := 0, hw := upd (fun _ => none) 0 (some (List.length es)), nt := 1, vw := upd (upd (fun _ => none) 0 (some (cv es encB))) 0 (some (setG (cv es encB) i.toNat (D.int IntKind.u8 63))) : Heap } : St } else J { sl := [(7, D.vec 0 (List.length es) 1), (21, D.vec 0 (List.length es) 1), (22, I (↑(List.length es) : Int)), (23, I (addI .i64 i 1))], h := { box := fun _ => none, nl := 0, hw := upd (fun _ => none) 0 (some (List.length es)), nt := 1, vw := upd (fun _ => none) 0 (some (cv es encB)) : Heap } : St } else (upd (fun _ => none) 0 (some (List.length es)) 0 = some (List.length es) ∧ allByte (List.length es) (cv es encB)) ∧ K (.str (bytesG (List.length es) (cv es encB))) { box := fun _ => none, nl := 0, hw := upd (fun _ => none) 0 (some (List.length es)), nt := 1, vw := upd (fun _ => none) 0 (some (cv es encB)) : Heap }) := by kernel_rfl
def qmB (c : UInt8) : UInt8 := if lbBad c = true then 63 else c
def txF (k base : Int) (v : Str) : Str := if k = 0 then numR v base else if k = 1 then v else v.map qmB
theorem bytesG_cv (es : Str) : bytesG es.length (cv es encB) = es := by
  unfold bytesG
  refine List.ext_getElem (by simp) fun i h1 h2 => ?_
  rw [List.getElem_map, List.getElem_range]
  unfold cv encB byteD
  rw [List.getD_eq_getElem?_getD, List.getElem?_eq_getElem h2, Option.getD_some]
  show UInt8.ofNat ((es[i].toNat : Int)).toNat = es[i]
  rw [Int.toNat_natCast, UInt8.ofNat_toNat]
theorem cc38 [Lay] (k base : Int) (v : Str) (hl : v.length ≤ 1000000) : Pure PP 38 [I k, .str v, I base] (.str (txF k base v)) := by
  refine pr F38 (by kernel_rfl) (of_eq (ntx k v base _) (cond_intro (fun h => ⟨PureW.mk (c8 v base hl), ?_⟩) fun h => cond_intro (fun h1 => ?_) fun h1 => ⟨trivial, fun hlm => ?_⟩)) <;> unfold txF
  · rw [if_pos (by simpa using h)]; exact ⟨_, RetLe.refl _ _⟩
  · rw [if_neg (by simpa using h), if_pos (by simpa using h1)]; exact ⟨_, RetLe.refl _ _⟩
  · rw [if_neg (by simpa using h), if_neg (by simpa using h1)]
    refine at_le (st' := Stx v (0 : Nat)) ?_ ((StLe.refl _ _).cast (by kernel_rfl))
    refine lp (fn := Tryd.f38) (fun z : Nat × Str => z.1 ≤ v.length ∧ z.2 = (v.take z.1).map qmB ++ v.drop z.1) (fun z => Stx z.2 z.1) (fun z => v.length - z.1) [7, 21, 22, 23] (by kernel_rfl) (fun z hz => of_eq (ntxa z.2 z.1 _ _) ?_) (0, v) ⟨Nat.zero_le _, by simp⟩
    obtain ⟨i, es⟩ := z
    obtain ⟨hi, he⟩ := hz
    simp only at hi he ⊢
    have hel : es.length = v.length := by rw [he]; simp; omega
    have hw0 : upd (fun _ => (none : Option Nat)) 0 (some es.length) 0 = some es.length := upd_same _ _ _
    refine cond_intro (fun hlt => ?_) fun hge => ?_
    · have hlt := ltI hlt
      have hin : (0 : Int) ≤ (i : Int) ∧ (i : Int) < (es.length : Int) := ⟨by omega, by omega⟩
      rw [add64 (a := (i : Int)) (b := 1) (by omega) (by omega), Int.toNat_natCast]
      have hg : es.getD i default = v.getD i default := by
        rw [he, List.getD_eq_getElem?_getD, List.getElem?_append_right (by simp; omega)]
        simp [List.getD_eq_getElem?_getD, Nat.min_eq_left hi]
      have hst : ∀ x : UInt8, es.set i x = (v.take i).map qmB ++ (x :: v.drop (i + 1)) := fun x => by
        rw [he, drop_cons v i (by omega), List.set_append_right _ _ (by simp; omega)]
        simp [Nat.min_eq_left hi]
      have htk : ∀ x : UInt8, qmB (v.getD i default) = x → (v.take i).map qmB ++ (x :: v.drop (i + 1)) = (v.take (i + 1)).map qmB ++ v.drop (i + 1) := fun x hx => by
        rw [take_snoc v i (by omega), List.map_append, List.append_assoc, List.map_cons, hx]; rfl
      refine ⟨⟨hw0, hin⟩, hw0, cond_intro (fun h => ⟨⟨hw0, hin⟩, hw0, ?_⟩) fun h => ?_⟩
      · have h : lbBad (v.getD i default) = true := by rw [← hg]; exact h
        refine Nx.of (i + 1, es.set i 63) ⟨by simp only; omega, ?_⟩ (by simp only; omega) ?_
        · simp only
          rw [hst]
          exact htk 63 (by unfold qmB; rw [if_pos h])
        · simp only [Stx, hVec, List.length_set]
          rw [upd_upd]
          exact StLe.vec (t := 0) (n := es.length) (upd_same _ _ _) fun k _ => cv_set (enc := encB) (k := i) (x := 63) hlt k
      · have h : lbBad (v.getD i default) = false := by rw [← hg]; exact h
        refine Nx.mk (i + 1, es) ⟨by simp only; omega, ?_⟩ (by simp only; omega)
        simp only
        rw [he, drop_cons v i (by omega)]
        exact htk _ (by unfold qmB; rw [if_neg (by rw [h]; simp)])
    · have hge := geI hge
      have : i = v.length := by omega
      subst this
      rw [List.take_length, List.drop_length, List.append_nil] at he
      refine ⟨⟨hw0, fun j hj => ⟨es.getD j default, rfl⟩⟩, _, RetLe.wk ?_ rfl⟩
      rw [bytesG_cv, he]; exact Wk.refl _
theorem c38 [Lay] (k : Int) (v : Str) (base : Int) (hl : v.length ≤ 1000000) : Pure PP 38 [I k, .str v, I base] (.str (txF k base v)) := cc38 k base v hl
theorem F37 : OkF 37 Tryd.f37 := ⟨by kernel_rfl, by kernel_rfl, by kernel_rfl⟩
def lv37 : List (List Nat × List Nat) := []
noncomputable def nLi1s (v : Str) (k : Int) (l : Ln) : List Nat → Nat → Option Ans := scrAt [([1, 0], 4, Ans.pure [I k, .str v, I l.base] (.str (txF k l.base v)))]
theorem nLi1 [Lay] (v : Str) (k : Int) (l : Ln) (K : D → Heap → Prop) : runS (En Tryd.f37) (fh Tryd.f37 K) (nLi1s v k l) lv37 200 [.code []] ⟨argSlots 0 [.str v, .ep [I k], .ep [I l.sig, .str l.lab, I l.base]], .empty⟩ =
  (PureW PP 38 [I k, .str v, I l.base] [I k, .str v, I l.base] (.str (txF k l.base v)) ∧ K (.str (txF k l.base v)) Heap.empty) := by kernel_rfl
theorem c37 [Lay] (v : Str) (k : Int) (l : Ln) (hl : v.length ≤ 1000000) : Pure PP 37 [.str v, .ep [I k], .ep [I l.sig, .str l.lab, I l.base]] (.str (txF k l.base v)) :=
  pr F37 (by kernel_rfl) (of_eq (nLi1 v k l _) ⟨PureW.mk (c38 k v l.base hl), _, RetLe.refl _ _⟩)
end Go.Proofs.YtpcbjkjgjoemaaaDoor.S1
/- Lines: a bus's text is written. -/
namespace Go.Proofs.YtpcbjkjgjoemaaaDoor.S1
open Go Go.Ab Go.Proofs
/-- The Builder, the span's number, the quiet columns. -/
def hU (a : D) (es : Str) (i q : Int) : Heap := ⟨upd (upd (upd (fun _ => none) 0 (some (.litT TB [a, .bv TU 0 es.length]))) 1 (some (.lit [I i]))) 2 (some (.lit [I q])), 4, upd (fun _ => none) 0 (some es.length), 1, upd (fun _ => none) 0 (some (cv es encB))⟩
theorem hU_app (a : D) (es r : Str) (i q : Int) : (⟨upd (upd (upd (upd (fun _ => none) 0 (some (.litT TB [a, .bv TU 0 es.length]))) 1 (some (.lit [I i]))) 2 (some (.lit [I q]))) 0 (some (.litT TB [.bp 0 0, .bv TU 0 (es ++ r).length])), 4, upd (upd (fun _ => none) 0 (some es.length)) 0 (some (es ++ r).length), 1, upd (upd (fun _ => none) 0 (some (cv es encB))) 0 (some (cv (es ++ r) encB))⟩ : Heap) = hU (.bp 0 0) (es ++ r) i q :=
  hp_eq (fun k => by rcases k with _ | _ | _ | k <;> rfl) (upd_upd _ _ _ _) (upd_upd _ _ _ _)
theorem eWBU [Lay] (a : D) (ha : a = .nilp ∨ a = .bp 0 0) (es : Str) (i q : Int) (c : UInt8) (hl : es.length ≤ 1000000) : Does PP 21 [.bp 0 0, encB c] (hU a es i q) .nili (hU (.bp 0 0) (es ++ [c]) i q) := by
  rcases ha with rfl | rfl
  · rw [← hU_app .nilp]
    exact fr (e21 .nilp (.inl rfl) es c (by omega)) [0] [0]
  · rw [← hU_app (.bp 0 0)]
    exact fr (e21 (.bp 0 0) (.inr rfl) es c (by omega)) [0] [0]
theorem eWSU [Lay] (a : D) (ha : a = .nilp ∨ a = .bp 0 0) (es r : Str) (i q : Int) (hl : es.length + r.length ≤ 1000000) : Does PP 46 [.bp 0 0, .str r] (hU a es i q) (.tup [I r.length, .nili]) (hU (.bp 0 0) (es ++ r) i q) := by
  rcases ha with rfl | rfl
  · rw [← hU_app .nilp]
    exact fr (e46 .nilp (.inl rfl) es r (by omega)) [0] [0]
  · rw [← hU_app (.bp 0 0)]
    exact fr (e46 (.bp 0 0) (.inr rfl) es r (by omega)) [0] [0]
def hUz (i q : Int) : Heap := ⟨upd (upd (fun _ => none) 1 (some (.lit [I i]))) 2 (some (.lit [I q])), 4, fun _ => none, 1, fun _ => none⟩
theorem eStrU [Lay] (a : D) (ha : a = .nilp ∨ a = .bp 0 0) (es : Str) (i q : Int) (h0 : es ≠ []) : Does PP 23 [.bp 0 0] (hU a es i q) (.str es) (hUz i q) := by
  have hh : ∀ a : D, (⟨upd (upd (upd (upd (fun _ => none) 0 (some (.litT TB [a, .bv TU 0 es.length]))) 1 (some (.lit [I i]))) 2 (some (.lit [I q]))) 0 none, 4, upd (upd (fun _ => none) 0 (some es.length)) 0 none, 1, upd (upd (fun _ => none) 0 (some (cv es encB))) 0 none⟩ : Heap) = hUz i q := fun a => hp_eq (fun k => by rcases k with _ | _ | _ | k <;> rfl) (funext fun k => by rcases k with _ | k <;> rfl) (funext fun k => by rcases k with _ | k <;> rfl)
  rcases ha with rfl | rfl
  · rw [← hh .nilp]
    exact fr (e23 .nilp es h0) [0] [0]
  · rw [← hh (.bp 0 0)]
    exact fr (e23 (.bp 0 0) es h0) [0] [0]
theorem cfitZ [Lay] (q : Str) (n : Int) (h0 : 0 < n) (hq : q.length ≤ 1000000) (hn : n ≤ 1000000) : Pure PP 64 [.str q, I n] (.str (fitS q n.toNat)) := by
  have := c64 q n.toNat (by omega) hq (by omega)
  rw [show ((n.toNat : Nat) : Int) = n by omega] at this
  exact this
theorem F63 : OkF 63 Tryd.f63 := ⟨by kernel_rfl, by kernel_rfl, by kernel_rfl⟩
def lv63 : List (List Nat × List Nat) := []
noncomputable def nFls (es : Str) (i : Int) (q : Int) (k : Int) (n : Ln) (l : List Sp) : List Nat → Nat → Option Ans := scrAt [([0, 1, 0], 6, Ans.pure [.str (l.getD i.toNat default).val, D.ep [I k], D.ep [I n.sig, .str n.lab, I n.base]] (.str (txF k n.base (l.getD i.toNat default).val))), ([0, 1, 0], 8, Ans.pure [.str (txF k n.base (l.getD i.toNat default).val), I q] (.str (fitS (txF k n.base (l.getD i.toNat default).val) q.toNat))), ([0, 1, 0], 9, Ans.eff (.tup [I (↑(List.length (fitS (txF k n.base (l.getD i.toNat default).val) q.toNat)) : Int), D.nili]) (hU (D.bp 0 0) (es ++ fitS (txF k n.base (l.getD i.toNat default).val) q.toNat) i q))]
theorem nFl [Lay] (a : D) (es : Str) (i q k : Int) (n : Ln) (l : List Sp) (K : D → Heap → Prop) : runS (En Tryd.f63) (fh Tryd.f63 K) (nFls es i q k n l) lv63 200 [.code []] ⟨argSlots 0 [.bp 2 0, .bp 0 0, .ep [.clo 37 [.ep [I k], .ep [I n.sig, .str n.lab, I n.base]]], .ep [L l 3 Sp.d], .bp 1 0], hU a es i q⟩ =
  (bif decide (q > 0) then (0 ≤ i ∧ i < (↑l.length : Int)) ∧ PureW PP 37 [.str (l.getD i.toNat default).val, D.ep [I k], D.ep [I n.sig, .str n.lab, I n.base]] [.str (l.getD i.toNat default).val, D.ep [I k], D.ep [I n.sig, .str n.lab, I n.base]] (.str (txF k n.base (l.getD i.toNat default).val)) ∧ PureW PP 64 [.str (txF k n.base (l.getD i.toNat default).val), I q] [.str (txF k n.base (l.getD i.toNat default).val), I q] (.str (fitS (txF k n.base (l.getD i.toNat default).val) q.toNat)) ∧ Does PP 46 [D.bp 0 0, .str (fitS (txF k n.base (l.getD i.toNat default).val) q.toNat)] { box := upd (upd (upd (fun _ => none) 0 (some (Row.litT TB [a, D.bv TU 0 (List.length es)]))) 1 (some (Row.lit [I i]))) 2 (some (Row.lit [I q])), nl := 4, hw := upd (fun _ => none) 0 (some (List.length es)), nt := 1, vw := upd (fun _ => none) 0 (some (cv es encB)) : Heap } (.tup [I (↑(List.length (fitS (txF k n.base (l.getD i.toNat default).val) q.toNat)) : Int), D.nili]) (hU (D.bp 0 0) (es ++ fitS (txF k n.base (l.getD i.toNat default).val) q.toNat) i q) ∧ True ∧ K (.tup []) { box := upd (upd (upd (upd (fun _ => none) 0 (some (Row.litT TB [D.bp 0 0, D.bv TU 0 (List.length (es ++ fitS (txF k n.base (l.getD i.toNat default).val) q.toNat))]))) 1 (some (Row.lit [I i]))) 2 (some (Row.lit [I q]))) 2 (some (Row.lit [I 0])), nl := 4, hw := upd (fun _ => none) 0 (some (List.length (es ++ fitS (txF k n.base (l.getD i.toNat default).val) q.toNat))), nt := 1, vw := upd (fun _ => none) 0 (some (cv (es ++ fitS (txF k n.base (l.getD i.toNat default).val) q.toNat) encB)) : Heap }
 else True ∧ K (.tup []) { box := upd (upd (upd (upd (fun _ => none) 0 (some (Row.litT TB [a, D.bv TU 0 (List.length es)]))) 1 (some (Row.lit [I i]))) 2 (some (Row.lit [I q]))) 2 (some (Row.lit [I 0])), nl := 4, hw := upd (fun _ => none) 0 (some (List.length es)), nt := 1, vw := upd (fun _ => none) 0 (some (cv es encB)) : Heap }) := by kernel_rfl
def flT (k base : Int) (l : List Sp) (i q : Int) : Str := if 0 < q then fitS (txF k base (l.getD i.toNat default).val) q.toNat else []
def flA (a : D) (q : Int) : D := if 0 < q then .bp 0 0 else a
theorem flA_or {a : D} (ha : a = .nilp ∨ a = .bp 0 0) (q : Int) : flA a q = .nilp ∨ flA a q = .bp 0 0 := by
  unfold flA
  split
  · exact .inr rfl
  · exact ha
theorem e63 [Lay] (a : D) (ha : a = .nilp ∨ a = .bp 0 0) (es : Str) (i q k : Int) (n : Ln) (l : List Sp) (hi : 0 ≤ i ∧ i < (l.length : Int)) (hq : q ≤ 1000) (hes : es.length ≤ 1000) (hv : (l.getD i.toNat default).val.length ≤ 1000000) (ht : (txF k n.base (l.getD i.toNat default).val).length ≤ 1000000) :
    Does PP 63 [.bp 2 0, .bp 0 0, .ep [.clo 37 [.ep [I k], .ep [I n.sig, .str n.lab, I n.base]]], .ep [L l 3 Sp.d], .bp 1 0] (hU a es i q) (.tup []) (hU (flA a q) (es ++ flT k n.base l i q) i 0) := by
  refine du F63 (by kernel_rfl) (of_eq (nFl a es i q k n l _) (cond_intro (fun h => ?_) fun h => ⟨trivial, ?_⟩)) <;> unfold flT flA
  · have h : 0 < q := of_decide_eq_true h
    rw [if_pos h, if_pos h]
    have hfl := fitS_len (txF k n.base (l.getD i.toNat default).val) (n := q.toNat) (by omega)
    refine ⟨hi, PureW.mk (c37 _ k n hv), PureW.mk (cfitZ _ q h ht (by omega)), eWSU a ha es _ i q (by rw [hfl]; omega), trivial, ?_⟩
    rw [upd_upd]
    exact RetLe.refl _ _
  · have h : ¬ 0 < q := of_decide_eq_false h
    rw [if_neg h, if_neg h, List.append_nil, upd_upd]
    exact RetLe.refl _ _
end Go.Proofs.YtpcbjkjgjoemaaaDoor.S1
/- Lines: a bit. -/
namespace Go.Proofs.YtpcbjkjgjoemaaaDoor.S1
open Go Go.Ab Go.Proofs
theorem F35 : OkF 35 Tryd.f35 := ⟨by kernel_rfl, by kernel_rfl, by kernel_rfl⟩
def lv35 : List (List Nat × List Nat) := [([1, 1, 1, 0, 1, 0, 1, 0, 0, 0], [3, 5, 6, 7]), ([1, 1, 1, 0, 1, 0, 1, 0, 1, 1, 0, 0], [3, 5, 6, 7, 8, 9])]
noncomputable def nBis  : List Nat → Nat → Option Ans := scrAt []
theorem nBi [Lay] (a b c d : Int) (l : List Sp) (K : D → Heap → Prop) : runS (EnX [5, 6] Tryd.f35) (fh Tryd.f35 K) (nBis ) nolv 200 [.code []] ⟨argSlots 0 [.agg [I a, I b, I c, I d], L l 3 Sp.d], .empty⟩ =
  (True ∧ True ∧ True ∧ At (EnX [5, 6] Tryd.f35) (fh Tryd.f35 K) [It.code [1, 1, 1, 0, 1, 0], It.blk 0, It.code [1, 1, 1, 1]] { sl := [(13, D.mv 59 [.agg [I a, I b, I c, I d]]), (12, .agg [I a, I b, I c, I d]), (6, D.bp 1 0), (5, D.bp 0 0), (4, .str { data := #[] : ByteArray }.data.toList), (3, .own [L l 3 Sp.d]), (2, .own [I a, I b, I c, I d]), (0, .agg [I a, I b, I c, I d]), (1, L l 3 Sp.d)], h := { box := upd (upd (upd (fun _ => none) 0 (some (Row.litT 57 [D.nilp, .list 0 0 (fun _ => D.junk) .full]))) 1 (some (Row.lit [I 0]))) 1 (some (Row.lit [I 0])), nl := 2, hw := fun _ => none, nt := 0, vw := fun _ => none : Heap } : St }) := by kernel_rfl
abbrev bitP : List Nat := [1, 1, 1, 0, 1, 0]
noncomputable def nBi0s  : List Nat → Nat → Option Ans := scrAt []
theorem nBi0 [Lay] (l : List Sp) (a : D) (es : Str) (i x y z : Int) (J : St → Prop) (K : St → Prop) : runS (EnX [5, 6] Tryd.f35) K (nBi0s ) lv35 200 [.code [1, 1, 1, 0, 1, 0, 0], .stop J] ⟨[(3, .ep [L l 3 Sp.d]), (5, .bp 0 0), (6, .bp 1 0), (14, .agg [I x, I y, I z])], hBa a es i⟩ =
  (True ∧ J { sl := [(7, .own [I x, I y, I z]), (3, D.ep [L l 3 Sp.d]), (5, D.bp 0 0), (6, D.bp 1 0), (14, .agg [I x, I y, I z])], h := { box := upd (upd (fun _ => none) 0 (some (Row.litT TB [a, D.bv TU 0 (List.length es)]))) 1 (some (Row.lit [I i])), nl := 3, hw := upd (fun _ => none) 0 (some (List.length es)), nt := 1, vw := upd (fun _ => none) 0 (some (cv es encB)) : Heap } : St }) := by kernel_rfl
noncomputable def nBi1s  : List Nat → Nat → Option Ans := scrAt []
theorem nBi1 [Lay] (l : List Sp) (a : D) (es : Str) (i x y z : Int) (J : St → Prop) (K : St → Prop) : runS (EnX [5, 6] Tryd.f35) K (nBi1s ) lv35 200 [.code [1, 1, 1, 0, 1, 0, 1], .stop J] ⟨[(3, .ep [L l 3 Sp.d]), (5, .bp 0 0), (6, .bp 1 0), (7, .own [I x, I y, I z])], hBa a es i⟩ =
  (At (EnX [5, 6] Tryd.f35) K [It.code [1, 1, 1, 0, 1, 0, 1, 0, 0, 0], It.blk 2, It.code [1, 1, 1, 0, 1, 0, 1, 0, 1], It.blk 1, It.stop J] { sl := [(3, D.ep [L l 3 Sp.d]), (5, D.bp 0 0), (6, D.bp 1 0), (7, .own [I x, I y, I z])], h := { box := upd (upd (fun _ => none) 0 (some (Row.litT TB [a, D.bv TU 0 (List.length es)]))) 1 (some (Row.lit [I i])), nl := 3, hw := upd (fun _ => none) 0 (some (List.length es)), nt := 1, vw := upd (fun _ => none) 0 (some (cv es encB)) : Heap } : St }) := by kernel_rfl
def SBi (l : List Sp) (a : D) (es : Str) (x y z i : Int) : St := ⟨[(3, .ep [L l 3 Sp.d]), (5, .bp 0 0), (6, .bp 1 0), (7, .own [I x, I y, I z])], hBa a es i⟩
noncomputable def nBi2s  : List Nat → Nat → Option Ans := scrAt []
theorem nBi2 [Lay] (l : List Sp) (a : D) (es : Str) (x y z i : Int) (J J2 : St → Prop) (K : St → Prop) : runS (EnX [5, 6] Tryd.f35) K (nBi2s ) lv35 200 [.code [1, 1, 1, 0, 1, 0, 1, 0, 0, 0, 0], stp [3, 5, 6, 7] J, .blk 2, .code [1, 1, 1, 0, 1, 0, 1, 0, 1], .blk 1, .stop J2] (SBi l a es x y z i) =
  ((0 ≤ i ∧ i < (↑l.length : Int)) ∧ bif decide ((l.getD i.toNat default).to < y) then True ∧ J { sl := [(3, D.ep [L l 3 Sp.d]), (5, D.bp 0 0), (6, D.bp 1 0), (7, .own [I x, I y, I z])], h := { box := upd (upd (upd (fun _ => none) 0 (some (Row.litT TB [a, D.bv TU 0 (List.length es)]))) 1 (some (Row.lit [I i]))) 1 (some (Row.lit [I (addI .i64 i 1)])), nl := 3, hw := upd (fun _ => none) 0 (some (List.length es)), nt := 1, vw := upd (fun _ => none) 0 (some (cv es encB)) : Heap } : St } else At (EnX [5, 6] Tryd.f35) K [It.code [1, 1, 1, 0, 1, 0, 1, 0, 1, 1, 0, 0], It.blk 4, It.code [1, 1, 1, 0, 1, 0, 1, 0, 1, 1, 1], It.blk 1, It.stop J2] { sl := [(3, D.ep [L l 3 Sp.d]), (5, D.bp 0 0), (6, D.bp 1 0), (7, .own [I x, I y, I z]), (8, I i), (9, I 0)], h := { box := upd (upd (fun _ => none) 0 (some (Row.litT TB [a, D.bv TU 0 (List.length es)]))) 1 (some (Row.lit [I i])), nl := 3, hw := upd (fun _ => none) 0 (some (List.length es)), nt := 1, vw := upd (fun _ => none) 0 (some (cv es encB)) : Heap } : St }) := by kernel_rfl
def SBj (l : List Sp) (a : D) (es : Str) (x y z f n i : Int) : St := ⟨[(3, .ep [L l 3 Sp.d]), (5, .bp 0 0), (6, .bp 1 0), (7, .own [I x, I y, I z]), (8, I f), (9, I n)], hBa a es i⟩
noncomputable def lvBi : List (List Nat × List Nat) := lv35 ++ [([1, 1, 1, 0, 1, 0, 1, 0, 1, 1, 1, 1, 0, 1, 1, 1, 0], [5, 10])]
noncomputable def nBi3s (es : Str) (i : Int) : List Nat → Nat → Option Ans := scrAt [([1, 1, 1, 0, 1, 0, 1, 0, 1, 1, 1, 1, 0, 1, 0], 0, Ans.eff D.nili (hBa (D.bp 0 0) (es ++ [UInt8.ofNat (Int.toNat 35)]) i)), ([1, 1, 1, 0, 1, 0, 1, 0, 1, 1, 1, 1, 0, 1, 1, 1, 1, 1, 0], 0, Ans.eff D.nili (hBa (D.bp 0 0) (es ++ [UInt8.ofNat (Int.toNat 47)]) i)), ([1, 1, 1, 0, 1, 0, 1, 0, 1, 1, 1, 1, 0, 1, 1, 1, 1, 1, 1, 1, 0], 0, Ans.eff D.nili (hBa (D.bp 0 0) (es ++ [UInt8.ofNat (Int.toNat 92)]) i)), ([1, 1, 1, 0, 1, 0, 1, 0, 1, 1, 1, 1, 0, 1, 1, 1, 1, 1, 1, 1, 1], 0, Ans.eff D.nili (hBa (D.bp 0 0) (es ++ [UInt8.ofNat (Int.toNat 124)]) i))]
theorem nBi3 [Lay] (l : List Sp) (a : D) (es : Str) (x y z f n i : Int) (J J2 : St → Prop) (K : St → Prop) : runS (EnX [5, 6] Tryd.f35) K (nBi3s es i) lvBi 200 [.code [1, 1, 1, 0, 1, 0, 1, 0, 1, 1, 0, 0, 0], stp [3, 5, 6, 7, 8, 9] J, .blk 4, .code [1, 1, 1, 0, 1, 0, 1, 0, 1, 1, 1], .blk 1, .stop J2] (SBj l a es x y z f n i) =
  (l.length ≤ lenM →
  (decide (addI .i64 i 1 < (↑l.length : Int)) = true → 0 ≤ addI .i64 i 1 ∧ addI .i64 i 1 < (↑l.length : Int)) ∧
    bif bif decide (addI .i64 i 1 < (↑l.length : Int)) then decide ((l.getD (addI .i64 i 1).toNat default).frm ≤ z) else false then True ∧ J { sl := [(3, D.ep [L l 3 Sp.d]), (5, D.bp 0 0), (6, D.bp 1 0), (7, .own [I x, I y, I z]), (8, I f), (9, I (addI .i64 n 1))], h := { box := upd (upd (upd (fun _ => none) 0 (some (Row.litT TB [a, D.bv TU 0 (List.length es)]))) 1 (some (Row.lit [I i]))) 1 (some (Row.lit [I (addI .i64 i 1)])), nl := 3, hw := upd (fun _ => none) 0 (some (List.length es)), nt := 1, vw := upd (fun _ => none) 0 (some (cv es encB)) : Heap } : St }
    else
      (0 ≤ f ∧ f < (↑l.length : Int)) ∧
        (0 ≤ i ∧ i < (↑l.length : Int)) ∧
          bif true == decide (n > 1) then
            Does PP 21 [D.bp 0 0, D.int IntKind.u8 35] { box := upd (upd (fun _ => none) 0 (some (Row.litT TB [a, D.bv TU 0 (List.length es)]))) 1 (some (Row.lit [I i])), nl := 3, hw := upd (fun _ => none) 0 (some (List.length es)), nt := 1, vw := upd (fun _ => none) 0 (some (cv es encB)) : Heap } D.nili (hBa (D.bp 0 0) (es ++ [UInt8.ofNat (Int.toNat 35)]) i) ∧
              J2 { sl := [(61, D.nili), (57, B (true == decide (n > 1))), (60, B (true == decide (n > 1))), (59, B (decide (n > 1))), (58, I n), (11, .str (l.getD i.toNat default).val), (10, .str (l.getD f.toNat default).val), (55, .str (l.getD i.toNat default).val), (54, D.ep [.str (l.getD i.toNat default).val]), (53, D.ep [I (l.getD i.toNat default).frm, I (l.getD i.toNat default).to, .str (l.getD i.toNat default).val]), (52, I i), (51, L l 3 Sp.d), (50, .str (l.getD f.toNat default).val), (49, D.ep [.str (l.getD f.toNat default).val]), (48, D.ep [I (l.getD f.toNat default).frm, I (l.getD f.toNat default).to, .str (l.getD f.toNat default).val]), (47, I f), (46, L l 3 Sp.d), (41, B (bif decide (addI .i64 i 1 < (↑l.length : Int)) then decide ((l.getD (addI .i64 i 1).toNat default).frm ≤ z) else false)), (31, B (decide (addI .i64 i 1 < (↑l.length : Int)))), (30, B (decide (addI .i64 i 1 < (↑l.length : Int)))), (29, I (↑l.length : Int)), (28, L l 3 Sp.d), (27, I (addI .i64 i 1)), (26, I i), (3, D.ep [L l 3 Sp.d]), (5, D.bp 0 0), (6, D.bp 1 0), (7, .own [I x, I y, I z]), (8, I f), (9, I n)], h := { box := upd (upd (fun _ => none) 0 (some (Row.litT TB [D.bp 0 0, D.bv TU 0 (List.length (es ++ [UInt8.ofNat 35]))]))) 1 (some (Row.lit [I i])), nl := 3, hw := upd (fun _ => none) 0 (some (List.length (es ++ [UInt8.ofNat 35]))), nt := 1, vw := upd (fun _ => none) 0 (some (cv (es ++ [UInt8.ofNat (Int.toNat 35)]) encB)) : Heap } : St }
          else
            bif true == (n == 0) then At (EnX [5, 6] Tryd.f35) K [It.code [1, 1, 1, 0, 1, 0, 1, 0, 1, 1, 1, 1, 0, 1, 1, 1, 0], It.blk 6, It.blk 1, It.stop J2] { sl := [(5, D.bp 0 0), (10, .str (l.getD f.toNat default).val)], h := { box := upd (upd (fun _ => none) 0 (some (Row.litT TB [a, D.bv TU 0 (List.length es)]))) 1 (some (Row.lit [I i])), nl := 3, hw := upd (fun _ => none) 0 (some (List.length es)), nt := 1, vw := upd (fun _ => none) 0 (some (cv es encB)) : Heap } : St }
            else
              bif true == bif (l.getD f.toNat default).val == { data := #[48] : ByteArray }.data.toList then (l.getD i.toNat default).val == { data := #[49] : ByteArray }.data.toList else false then
                Does PP 21 [D.bp 0 0, D.int IntKind.u8 47] { box := upd (upd (fun _ => none) 0 (some (Row.litT TB [a, D.bv TU 0 (List.length es)]))) 1 (some (Row.lit [I i])), nl := 3, hw := upd (fun _ => none) 0 (some (List.length es)), nt := 1, vw := upd (fun _ => none) 0 (some (cv es encB)) : Heap } D.nili (hBa (D.bp 0 0) (es ++ [UInt8.ofNat (Int.toNat 47)]) i) ∧
                  J2
                    {
                      sl :=
                        [(79, D.nili), (71, B (true == bif (l.getD f.toNat default).val == { data := #[48] : ByteArray }.data.toList then (l.getD i.toNat default).val == { data := #[49] : ByteArray }.data.toList else false)), (78, B (true == bif (l.getD f.toNat default).val == { data := #[48] : ByteArray }.data.toList then (l.getD i.toNat default).val == { data := #[49] : ByteArray }.data.toList else false)), (77, B (bif (l.getD f.toNat default).val == { data := #[48] : ByteArray }.data.toList then (l.getD i.toNat default).val == { data := #[49] : ByteArray }.data.toList else false)), (74, B ((l.getD f.toNat default).val == { data := #[48] : ByteArray }.data.toList)), (73, B ((l.getD f.toNat default).val == { data := #[48] : ByteArray }.data.toList)), (72, .str (l.getD f.toNat default).val), (62, B (true == (n == 0))), (65, B (true == (n == 0))), (64, B (n == 0)), (63, I n), (57, B (true == decide (n > 1))), (60, B (true == decide (n > 1))), (59, B (decide (n > 1))), (58, I n), (11, .str (l.getD i.toNat default).val), (10, .str (l.getD f.toNat default).val), (55, .str (l.getD i.toNat default).val), (54, D.ep [.str (l.getD i.toNat default).val]), (53, D.ep [I (l.getD i.toNat default).frm, I (l.getD i.toNat default).to, .str (l.getD i.toNat default).val]), (52, I i), (51, L l 3 Sp.d), (50, .str (l.getD f.toNat default).val), (49, D.ep [.str (l.getD f.toNat default).val]), (48, D.ep [I (l.getD f.toNat default).frm, I (l.getD f.toNat default).to, .str (l.getD f.toNat default).val]), (47, I f), (46, L l 3 Sp.d), (41, B (bif decide (addI .i64 i 1 < (↑l.length : Int)) then decide ((l.getD (addI .i64 i 1).toNat default).frm ≤ z) else false)), (31, B (decide (addI .i64 i 1 < (↑l.length : Int)))),
                          (30, B (decide (addI .i64 i 1 < (↑l.length : Int)))), (29, I (↑l.length : Int)), (28, L l 3 Sp.d), (27, I (addI .i64 i 1)), (26, I i), (3, D.ep [L l 3 Sp.d]), (5, D.bp 0 0), (6, D.bp 1 0), (7, .own [I x, I y, I z]), (8, I f), (9, I n)],
                      h := { box := upd (upd (fun _ => none) 0 (some (Row.litT TB [D.bp 0 0, D.bv TU 0 (List.length (es ++ [UInt8.ofNat 47]))]))) 1 (some (Row.lit [I i])), nl := 3, hw := upd (fun _ => none) 0 (some (List.length (es ++ [UInt8.ofNat 47]))), nt := 1, vw := upd (fun _ => none) 0 (some (cv (es ++ [UInt8.ofNat (Int.toNat 47)]) encB)) : Heap } : St }
              else
                bif true == bif (l.getD f.toNat default).val == { data := #[49] : ByteArray }.data.toList then (l.getD i.toNat default).val == { data := #[48] : ByteArray }.data.toList else false then
                  Does PP 21 [D.bp 0 0, D.int IntKind.u8 92] { box := upd (upd (fun _ => none) 0 (some (Row.litT TB [a, D.bv TU 0 (List.length es)]))) 1 (some (Row.lit [I i])), nl := 3, hw := upd (fun _ => none) 0 (some (List.length es)), nt := 1, vw := upd (fun _ => none) 0 (some (cv es encB)) : Heap } D.nili (hBa (D.bp 0 0) (es ++ [UInt8.ofNat (Int.toNat 92)]) i) ∧
                    J2
                      {
                        sl :=
                          [(88, D.nili), (80, B (true == bif (l.getD f.toNat default).val == { data := #[49] : ByteArray }.data.toList then (l.getD i.toNat default).val == { data := #[48] : ByteArray }.data.toList else false)), (87, B (true == bif (l.getD f.toNat default).val == { data := #[49] : ByteArray }.data.toList then (l.getD i.toNat default).val == { data := #[48] : ByteArray }.data.toList else false)), (86, B (bif (l.getD f.toNat default).val == { data := #[49] : ByteArray }.data.toList then (l.getD i.toNat default).val == { data := #[48] : ByteArray }.data.toList else false)), (83, B ((l.getD f.toNat default).val == { data := #[49] : ByteArray }.data.toList)), (82, B ((l.getD f.toNat default).val == { data := #[49] : ByteArray }.data.toList)), (81, .str (l.getD f.toNat default).val), (71, B (true == bif (l.getD f.toNat default).val == { data := #[48] : ByteArray }.data.toList then (l.getD i.toNat default).val == { data := #[49] : ByteArray }.data.toList else false)), (78, B (true == bif (l.getD f.toNat default).val == { data := #[48] : ByteArray }.data.toList then (l.getD i.toNat default).val == { data := #[49] : ByteArray }.data.toList else false)), (77, B (bif (l.getD f.toNat default).val == { data := #[48] : ByteArray }.data.toList then (l.getD i.toNat default).val == { data := #[49] : ByteArray }.data.toList else false)), (74, B ((l.getD f.toNat default).val == { data := #[48] : ByteArray }.data.toList)), (73, B ((l.getD f.toNat default).val == { data := #[48] : ByteArray }.data.toList)), (72, .str (l.getD f.toNat default).val), (62, B (true == (n == 0))), (65, B (true == (n == 0))), (64, B (n == 0)), (63, I n), (57, B (true == decide (n > 1))), (60, B (true == decide (n > 1))), (59, B (decide (n > 1))), (58, I n), (11, .str (l.getD i.toNat default).val), (10, .str (l.getD f.toNat default).val), (55, .str (l.getD i.toNat default).val),
                            (54, D.ep [.str (l.getD i.toNat default).val]), (53, D.ep [I (l.getD i.toNat default).frm, I (l.getD i.toNat default).to, .str (l.getD i.toNat default).val]), (52, I i), (51, L l 3 Sp.d), (50, .str (l.getD f.toNat default).val), (49, D.ep [.str (l.getD f.toNat default).val]), (48, D.ep [I (l.getD f.toNat default).frm, I (l.getD f.toNat default).to, .str (l.getD f.toNat default).val]), (47, I f), (46, L l 3 Sp.d), (41, B (bif decide (addI .i64 i 1 < (↑l.length : Int)) then decide ((l.getD (addI .i64 i 1).toNat default).frm ≤ z) else false)), (31, B (decide (addI .i64 i 1 < (↑l.length : Int)))), (30, B (decide (addI .i64 i 1 < (↑l.length : Int)))), (29, I (↑l.length : Int)), (28, L l 3 Sp.d), (27, I (addI .i64 i 1)), (26, I i), (3, D.ep [L l 3 Sp.d]), (5, D.bp 0 0), (6, D.bp 1 0), (7, .own [I x, I y, I z]), (8, I f), (9, I n)],
                        h := { box := upd (upd (fun _ => none) 0 (some (Row.litT TB [D.bp 0 0, D.bv TU 0 (List.length (es ++ [UInt8.ofNat 92]))]))) 1 (some (Row.lit [I i])), nl := 3, hw := upd (fun _ => none) 0 (some (List.length (es ++ [UInt8.ofNat 92]))), nt := 1, vw := upd (fun _ => none) 0 (some (cv (es ++ [UInt8.ofNat (Int.toNat 92)]) encB)) : Heap } : St }
                else
                  Does PP 21 [D.bp 0 0, D.int IntKind.u8 124] { box := upd (upd (fun _ => none) 0 (some (Row.litT TB [a, D.bv TU 0 (List.length es)]))) 1 (some (Row.lit [I i])), nl := 3, hw := upd (fun _ => none) 0 (some (List.length es)), nt := 1, vw := upd (fun _ => none) 0 (some (cv es encB)) : Heap } D.nili (hBa (D.bp 0 0) (es ++ [UInt8.ofNat (Int.toNat 124)]) i) ∧
                    J2
                      {
                        sl :=
                          [(56, D.nili), (80, B (true == bif (l.getD f.toNat default).val == { data := #[49] : ByteArray }.data.toList then (l.getD i.toNat default).val == { data := #[48] : ByteArray }.data.toList else false)), (87, B (true == bif (l.getD f.toNat default).val == { data := #[49] : ByteArray }.data.toList then (l.getD i.toNat default).val == { data := #[48] : ByteArray }.data.toList else false)), (86, B (bif (l.getD f.toNat default).val == { data := #[49] : ByteArray }.data.toList then (l.getD i.toNat default).val == { data := #[48] : ByteArray }.data.toList else false)), (83, B ((l.getD f.toNat default).val == { data := #[49] : ByteArray }.data.toList)), (82, B ((l.getD f.toNat default).val == { data := #[49] : ByteArray }.data.toList)), (81, .str (l.getD f.toNat default).val), (71, B (true == bif (l.getD f.toNat default).val == { data := #[48] : ByteArray }.data.toList then (l.getD i.toNat default).val == { data := #[49] : ByteArray }.data.toList else false)), (78, B (true == bif (l.getD f.toNat default).val == { data := #[48] : ByteArray }.data.toList then (l.getD i.toNat default).val == { data := #[49] : ByteArray }.data.toList else false)), (77, B (bif (l.getD f.toNat default).val == { data := #[48] : ByteArray }.data.toList then (l.getD i.toNat default).val == { data := #[49] : ByteArray }.data.toList else false)), (74, B ((l.getD f.toNat default).val == { data := #[48] : ByteArray }.data.toList)), (73, B ((l.getD f.toNat default).val == { data := #[48] : ByteArray }.data.toList)), (72, .str (l.getD f.toNat default).val), (62, B (true == (n == 0))), (65, B (true == (n == 0))), (64, B (n == 0)), (63, I n), (57, B (true == decide (n > 1))), (60, B (true == decide (n > 1))), (59, B (decide (n > 1))), (58, I n), (11, .str (l.getD i.toNat default).val), (10, .str (l.getD f.toNat default).val), (55, .str (l.getD i.toNat default).val),
                            (54, D.ep [.str (l.getD i.toNat default).val]), (53, D.ep [I (l.getD i.toNat default).frm, I (l.getD i.toNat default).to, .str (l.getD i.toNat default).val]), (52, I i), (51, L l 3 Sp.d), (50, .str (l.getD f.toNat default).val), (49, D.ep [.str (l.getD f.toNat default).val]), (48, D.ep [I (l.getD f.toNat default).frm, I (l.getD f.toNat default).to, .str (l.getD f.toNat default).val]), (47, I f), (46, L l 3 Sp.d), (41, B (bif decide (addI .i64 i 1 < (↑l.length : Int)) then decide ((l.getD (addI .i64 i 1).toNat default).frm ≤ z) else false)), (31, B (decide (addI .i64 i 1 < (↑l.length : Int)))), (30, B (decide (addI .i64 i 1 < (↑l.length : Int)))), (29, I (↑l.length : Int)), (28, L l 3 Sp.d), (27, I (addI .i64 i 1)), (26, I i), (3, D.ep [L l 3 Sp.d]), (5, D.bp 0 0), (6, D.bp 1 0), (7, .own [I x, I y, I z]), (8, I f), (9, I n)],
                        h := { box := upd (upd (fun _ => none) 0 (some (Row.litT TB [D.bp 0 0, D.bv TU 0 (List.length (es ++ [UInt8.ofNat 124]))]))) 1 (some (Row.lit [I i])), nl := 3, hw := upd (fun _ => none) 0 (some (List.length (es ++ [UInt8.ofNat 124]))), nt := 1, vw := upd (fun _ => none) 0 (some (cv (es ++ [UInt8.ofNat (Int.toNat 124)]) encB)) : Heap } : St }) := by kernel_rfl
noncomputable def nBiZs (es : Str) (i : Int) : List Nat → Nat → Option Ans := scrAt [([1, 1, 1, 1, 0], 0, Ans.eff (.str es) (hEz i))]
theorem nBiZ [Lay] (a : D) (es : Str) (i : Int) (K : D → Heap → Prop) : runS (EnX [5, 6] Tryd.f35) (fh Tryd.f35 K) (nBiZs es i) lv35 200 [.code [1, 1, 1, 1]] ⟨[(5, .bp 0 0)], hBa a es i⟩ =
  (Does PP 23 [D.bp 0 0] { box := upd (upd (fun _ => none) 0 (some (Row.litT TB [a, D.bv TU 0 (List.length es)]))) 1 (some (Row.lit [I i])), nl := 3, hw := upd (fun _ => none) 0 (some (List.length es)), nt := 1, vw := upd (fun _ => none) 0 (some (cv es encB)) : Heap } (.str es) (hEz i) ∧ K (.str es) { box := upd (fun _ => none) 1 (some (Row.lit [I i])), nl := 3, hw := fun _ => none, nt := 1, vw := fun _ => none : Heap }) := by kernel_rfl
noncomputable def nBi4ns (q : Str) (es : Str) (i : Int) : List Nat → Nat → Option Ans := scrAt [([1, 1, 1, 0, 1, 0, 1, 0, 1, 1, 1, 1, 0, 1, 1, 1, 0], 8,
    Ans.eff (ren (rnm [0] 4) (rnm [0] 1) D.nili)
      (frameH [0] [0] { box := upd (upd (upd (upd (upd (upd (upd (fun _ => none) 0 (some (Row.litT TB [D.nilp, D.bv TU 0 (List.length es)]))) 1 (some (Row.lit [I i]))) 3 (some (Row.map none (fun x => false) (mvNew (ofVal (Value.int IntKind.u8 0)))))) 3 (some (Row.map none (updK (fun x => false) [KA.s { data := #[48] : ByteArray }.data.toList] true) (MV.i IntKind.u8 (updK (fun _ => (0 : Int)) [KA.s { data := #[48] : ByteArray }.data.toList] 95))))) 3 (some (Row.map none (updK (updK (fun x => false) [KA.s { data := #[48] : ByteArray }.data.toList] true) [KA.s { data := #[49] : ByteArray }.data.toList] true) (MV.i IntKind.u8 (updK (updK (fun _ => (0 : Int)) [KA.s { data := #[48] : ByteArray }.data.toList] 95) [KA.s { data := #[49] : ByteArray }.data.toList] 45))))) 3 (some (Row.map none (updK (updK (updK (fun x => false) [KA.s { data := #[48] : ByteArray }.data.toList] true) [KA.s { data := #[49] : ByteArray }.data.toList] true) [KA.s { data := #[120] : ByteArray }.data.toList] true) (MV.i IntKind.u8 (updK (updK (updK (fun _ => (0 : Int)) [KA.s { data := #[48] : ByteArray }.data.toList] 95) [KA.s { data := #[49] : ByteArray }.data.toList] 45) [KA.s { data := #[120] : ByteArray }.data.toList] 120))))) 3 (some (Row.map none (updK (updK (updK (updK (fun x => false) [KA.s { data := #[48] : ByteArray }.data.toList] true) [KA.s { data := #[49] : ByteArray }.data.toList] true) [KA.s { data := #[120] : ByteArray }.data.toList] true) [KA.s { data := #[122] : ByteArray }.data.toList] true) (MV.i IntKind.u8 (updK (updK (updK (updK (fun _ => (0 : Int)) [KA.s { data := #[48] : ByteArray }.data.toList] 95) [KA.s { data := #[49] : ByteArray }.data.toList] 45) [KA.s { data := #[120] : ByteArray }.data.toList] 120) [KA.s { data := #[122] : ByteArray }.data.toList] 122)))), nl := 4, hw := upd (fun _ => none) 0 (some (List.length es)), nt := 1, vw := upd (fun _ => none) 0 (some (cv es encB)) : Heap }
        (hSb (D.bp 0 0) (es ++ [UInt8.ofNat (updK (updK (updK (updK (fun _ => (0 : Int)) [KA.s { data := #[48] : ByteArray }.data.toList] 95) [KA.s { data := #[49] : ByteArray }.data.toList] 45) [KA.s { data := #[120] : ByteArray }.data.toList] 120) [KA.s { data := #[122] : ByteArray }.data.toList] 122 [KA.s q]).toNat]))))]
theorem nBi4n [Lay] (q es : Str) (i : Int) (J2 : St → Prop) (K : St → Prop) : runS (EnX [5, 6] Tryd.f35) K (nBi4ns q es i) lv35 200 [.code [1, 1, 1, 0, 1, 0, 1, 0, 1, 1, 1, 1, 0, 1, 1, 1, 0], .blk 6, .blk 1, .stop J2] ⟨[(5, .bp 0 0), (10, .str q)], hBa .nilp es i⟩ =
  (True ∧
  True ∧
    True ∧
      True ∧
        True ∧
          Does PP 21 [D.bp 0 0, D.int IntKind.u8 (updK (updK (updK (updK (fun _ => (0 : Int)) [KA.s { data := #[48] : ByteArray }.data.toList] 95) [KA.s { data := #[49] : ByteArray }.data.toList] 45) [KA.s { data := #[120] : ByteArray }.data.toList] 120) [KA.s { data := #[122] : ByteArray }.data.toList] 122 [KA.s q])]
              { box := upd (upd (upd (upd (upd (upd (upd (fun _ => none) 0 (some (Row.litT TB [D.nilp, D.bv TU 0 (List.length es)]))) 1 (some (Row.lit [I i]))) 3 (some (Row.map none (fun x => false) (mvNew (ofVal (Value.int IntKind.u8 0)))))) 3 (some (Row.map none (updK (fun x => false) [KA.s { data := #[48] : ByteArray }.data.toList] true) (MV.i IntKind.u8 (updK (fun _ => (0 : Int)) [KA.s { data := #[48] : ByteArray }.data.toList] 95))))) 3 (some (Row.map none (updK (updK (fun x => false) [KA.s { data := #[48] : ByteArray }.data.toList] true) [KA.s { data := #[49] : ByteArray }.data.toList] true) (MV.i IntKind.u8 (updK (updK (fun _ => (0 : Int)) [KA.s { data := #[48] : ByteArray }.data.toList] 95) [KA.s { data := #[49] : ByteArray }.data.toList] 45))))) 3 (some (Row.map none (updK (updK (updK (fun x => false) [KA.s { data := #[48] : ByteArray }.data.toList] true) [KA.s { data := #[49] : ByteArray }.data.toList] true) [KA.s { data := #[120] : ByteArray }.data.toList] true) (MV.i IntKind.u8 (updK (updK (updK (fun _ => (0 : Int)) [KA.s { data := #[48] : ByteArray }.data.toList] 95) [KA.s { data := #[49] : ByteArray }.data.toList] 45) [KA.s { data := #[120] : ByteArray }.data.toList] 120))))) 3 (some (Row.map none (updK (updK (updK (updK (fun x => false) [KA.s { data := #[48] : ByteArray }.data.toList] true) [KA.s { data := #[49] : ByteArray }.data.toList] true) [KA.s { data := #[120] : ByteArray }.data.toList] true) [KA.s { data := #[122] : ByteArray }.data.toList] true) (MV.i IntKind.u8 (updK (updK (updK (updK (fun _ => (0 : Int)) [KA.s { data := #[48] : ByteArray }.data.toList] 95) [KA.s { data := #[49] : ByteArray }.data.toList] 45) [KA.s { data := #[120] : ByteArray }.data.toList] 120) [KA.s { data := #[122] : ByteArray }.data.toList] 122)))), nl := 4, hw := upd (fun _ => none) 0 (some (List.length es)), nt := 1, vw := upd (fun _ => none) 0 (some (cv es encB)) : Heap } (ren (rnm [0] 4) (rnm [0] 1) D.nili)
              (frameH [0] [0] { box := upd (upd (upd (upd (upd (upd (upd (fun _ => none) 0 (some (Row.litT TB [D.nilp, D.bv TU 0 (List.length es)]))) 1 (some (Row.lit [I i]))) 3 (some (Row.map none (fun x => false) (mvNew (ofVal (Value.int IntKind.u8 0)))))) 3 (some (Row.map none (updK (fun x => false) [KA.s { data := #[48] : ByteArray }.data.toList] true) (MV.i IntKind.u8 (updK (fun _ => (0 : Int)) [KA.s { data := #[48] : ByteArray }.data.toList] 95))))) 3 (some (Row.map none (updK (updK (fun x => false) [KA.s { data := #[48] : ByteArray }.data.toList] true) [KA.s { data := #[49] : ByteArray }.data.toList] true) (MV.i IntKind.u8 (updK (updK (fun _ => (0 : Int)) [KA.s { data := #[48] : ByteArray }.data.toList] 95) [KA.s { data := #[49] : ByteArray }.data.toList] 45))))) 3 (some (Row.map none (updK (updK (updK (fun x => false) [KA.s { data := #[48] : ByteArray }.data.toList] true) [KA.s { data := #[49] : ByteArray }.data.toList] true) [KA.s { data := #[120] : ByteArray }.data.toList] true) (MV.i IntKind.u8 (updK (updK (updK (fun _ => (0 : Int)) [KA.s { data := #[48] : ByteArray }.data.toList] 95) [KA.s { data := #[49] : ByteArray }.data.toList] 45) [KA.s { data := #[120] : ByteArray }.data.toList] 120))))) 3 (some (Row.map none (updK (updK (updK (updK (fun x => false) [KA.s { data := #[48] : ByteArray }.data.toList] true) [KA.s { data := #[49] : ByteArray }.data.toList] true) [KA.s { data := #[120] : ByteArray }.data.toList] true) [KA.s { data := #[122] : ByteArray }.data.toList] true) (MV.i IntKind.u8 (updK (updK (updK (updK (fun _ => (0 : Int)) [KA.s { data := #[48] : ByteArray }.data.toList] 95) [KA.s { data := #[49] : ByteArray }.data.toList] 45) [KA.s { data := #[120] : ByteArray }.data.toList] 120) [KA.s { data := #[122] : ByteArray }.data.toList] 122)))), nl := 4, hw := upd (fun _ => none) 0 (some (List.length es)), nt := 1, vw := upd (fun _ => none) 0 (some (cv es encB)) : Heap }
                (hSb (D.bp 0 0) (es ++ [UInt8.ofNat (updK (updK (updK (updK (fun _ => (0 : Int)) [KA.s { data := #[48] : ByteArray }.data.toList] 95) [KA.s { data := #[49] : ByteArray }.data.toList] 45) [KA.s { data := #[120] : ByteArray }.data.toList] 120) [KA.s { data := #[122] : ByteArray }.data.toList] 122 [KA.s q]).toNat]))) ∧
            J2
              { sl := [(70, D.nili), (69, D.int IntKind.u8 (updK (updK (updK (updK (fun _ => (0 : Int)) [KA.s { data := #[48] : ByteArray }.data.toList] 95) [KA.s { data := #[49] : ByteArray }.data.toList] 45) [KA.s { data := #[120] : ByteArray }.data.toList] 120) [KA.s { data := #[122] : ByteArray }.data.toList] 122 [KA.s q])), (68, .str q), (67, D.mp 3), (66, D.mp 3), (5, D.bp 0 0), (10, .str q)],
                h :=
                  {
                    box :=
                      upd (upd (upd (upd (upd (upd (upd (upd (fun _ => none) 0 (some (Row.litT TB [D.nilp, D.bv TU 0 (List.length es)]))) 1 (some (Row.lit [I i]))) 3 (some (Row.map none (fun x => false) (mvNew (ofVal (Value.int IntKind.u8 0)))))) 3 (some (Row.map none (updK (fun x => false) [KA.s { data := #[48] : ByteArray }.data.toList] true) (MV.i IntKind.u8 (updK (fun _ => (0 : Int)) [KA.s { data := #[48] : ByteArray }.data.toList] 95))))) 3 (some (Row.map none (updK (updK (fun x => false) [KA.s { data := #[48] : ByteArray }.data.toList] true) [KA.s { data := #[49] : ByteArray }.data.toList] true) (MV.i IntKind.u8 (updK (updK (fun _ => (0 : Int)) [KA.s { data := #[48] : ByteArray }.data.toList] 95) [KA.s { data := #[49] : ByteArray }.data.toList] 45))))) 3 (some (Row.map none (updK (updK (updK (fun x => false) [KA.s { data := #[48] : ByteArray }.data.toList] true) [KA.s { data := #[49] : ByteArray }.data.toList] true) [KA.s { data := #[120] : ByteArray }.data.toList] true) (MV.i IntKind.u8 (updK (updK (updK (fun _ => (0 : Int)) [KA.s { data := #[48] : ByteArray }.data.toList] 95) [KA.s { data := #[49] : ByteArray }.data.toList] 45) [KA.s { data := #[120] : ByteArray }.data.toList] 120))))) 3 (some (Row.map none (updK (updK (updK (updK (fun x => false) [KA.s { data := #[48] : ByteArray }.data.toList] true) [KA.s { data := #[49] : ByteArray }.data.toList] true) [KA.s { data := #[120] : ByteArray }.data.toList] true) [KA.s { data := #[122] : ByteArray }.data.toList] true) (MV.i IntKind.u8 (updK (updK (updK (updK (fun _ => (0 : Int)) [KA.s { data := #[48] : ByteArray }.data.toList] 95) [KA.s { data := #[49] : ByteArray }.data.toList] 45) [KA.s { data := #[120] : ByteArray }.data.toList] 120) [KA.s { data := #[122] : ByteArray }.data.toList] 122))))) 0
                        (some (Row.litT TB [D.bp 0 0, D.bv TU 0 (List.length (es ++ [UInt8.ofNat (updK (updK (updK (updK (fun _ => (0 : Int)) [KA.s { data := #[48] : ByteArray }.data.toList] 95) [KA.s { data := #[49] : ByteArray }.data.toList] 45) [KA.s { data := #[120] : ByteArray }.data.toList] 120) [KA.s { data := #[122] : ByteArray }.data.toList] 122 [KA.s q]).toNat]))])),
                    nl := 4, hw := upd (upd (fun _ => none) 0 (some (List.length es))) 0 (some (List.length (es ++ [UInt8.ofNat (updK (updK (updK (updK (fun _ => (0 : Int)) [KA.s { data := #[48] : ByteArray }.data.toList] 95) [KA.s { data := #[49] : ByteArray }.data.toList] 45) [KA.s { data := #[120] : ByteArray }.data.toList] 120) [KA.s { data := #[122] : ByteArray }.data.toList] 122 [KA.s q]).toNat]))), nt := 1, vw := upd (upd (fun _ => none) 0 (some (cv es encB))) 0 (some (cv (es ++ [UInt8.ofNat (updK (updK (updK (updK (fun _ => (0 : Int)) [KA.s { data := #[48] : ByteArray }.data.toList] 95) [KA.s { data := #[49] : ByteArray }.data.toList] 45) [KA.s { data := #[120] : ByteArray }.data.toList] 120) [KA.s { data := #[122] : ByteArray }.data.toList] 122 [KA.s q]).toNat]) encB)) : Heap } :
                St }) := by kernel_rfl
noncomputable def nBi4bs (q : Str) (es : Str) (i : Int) : List Nat → Nat → Option Ans := scrAt [([1, 1, 1, 0, 1, 0, 1, 0, 1, 1, 1, 1, 0, 1, 1, 1, 0], 8,
    Ans.eff (ren (rnm [0] 4) (rnm [0] 1) D.nili)
      (frameH [0] [0] { box := upd (upd (upd (upd (upd (upd (upd (fun _ => none) 0 (some (Row.litT TB [D.bp 0 0, D.bv TU 0 (List.length es)]))) 1 (some (Row.lit [I i]))) 3 (some (Row.map none (fun x => false) (mvNew (ofVal (Value.int IntKind.u8 0)))))) 3 (some (Row.map none (updK (fun x => false) [KA.s { data := #[48] : ByteArray }.data.toList] true) (MV.i IntKind.u8 (updK (fun _ => (0 : Int)) [KA.s { data := #[48] : ByteArray }.data.toList] 95))))) 3 (some (Row.map none (updK (updK (fun x => false) [KA.s { data := #[48] : ByteArray }.data.toList] true) [KA.s { data := #[49] : ByteArray }.data.toList] true) (MV.i IntKind.u8 (updK (updK (fun _ => (0 : Int)) [KA.s { data := #[48] : ByteArray }.data.toList] 95) [KA.s { data := #[49] : ByteArray }.data.toList] 45))))) 3 (some (Row.map none (updK (updK (updK (fun x => false) [KA.s { data := #[48] : ByteArray }.data.toList] true) [KA.s { data := #[49] : ByteArray }.data.toList] true) [KA.s { data := #[120] : ByteArray }.data.toList] true) (MV.i IntKind.u8 (updK (updK (updK (fun _ => (0 : Int)) [KA.s { data := #[48] : ByteArray }.data.toList] 95) [KA.s { data := #[49] : ByteArray }.data.toList] 45) [KA.s { data := #[120] : ByteArray }.data.toList] 120))))) 3 (some (Row.map none (updK (updK (updK (updK (fun x => false) [KA.s { data := #[48] : ByteArray }.data.toList] true) [KA.s { data := #[49] : ByteArray }.data.toList] true) [KA.s { data := #[120] : ByteArray }.data.toList] true) [KA.s { data := #[122] : ByteArray }.data.toList] true) (MV.i IntKind.u8 (updK (updK (updK (updK (fun _ => (0 : Int)) [KA.s { data := #[48] : ByteArray }.data.toList] 95) [KA.s { data := #[49] : ByteArray }.data.toList] 45) [KA.s { data := #[120] : ByteArray }.data.toList] 120) [KA.s { data := #[122] : ByteArray }.data.toList] 122)))), nl := 4, hw := upd (fun _ => none) 0 (some (List.length es)), nt := 1, vw := upd (fun _ => none) 0 (some (cv es encB)) : Heap }
        (hSb (D.bp 0 0) (es ++ [UInt8.ofNat (updK (updK (updK (updK (fun _ => (0 : Int)) [KA.s { data := #[48] : ByteArray }.data.toList] 95) [KA.s { data := #[49] : ByteArray }.data.toList] 45) [KA.s { data := #[120] : ByteArray }.data.toList] 120) [KA.s { data := #[122] : ByteArray }.data.toList] 122 [KA.s q]).toNat]))))]
theorem nBi4b [Lay] (q es : Str) (i : Int) (J2 : St → Prop) (K : St → Prop) : runS (EnX [5, 6] Tryd.f35) K (nBi4bs q es i) lv35 200 [.code [1, 1, 1, 0, 1, 0, 1, 0, 1, 1, 1, 1, 0, 1, 1, 1, 0], .blk 6, .blk 1, .stop J2] ⟨[(5, .bp 0 0), (10, .str q)], hBa (.bp 0 0) es i⟩ =
  (True ∧
  True ∧
    True ∧
      True ∧
        True ∧
          Does PP 21 [D.bp 0 0, D.int IntKind.u8 (updK (updK (updK (updK (fun _ => (0 : Int)) [KA.s { data := #[48] : ByteArray }.data.toList] 95) [KA.s { data := #[49] : ByteArray }.data.toList] 45) [KA.s { data := #[120] : ByteArray }.data.toList] 120) [KA.s { data := #[122] : ByteArray }.data.toList] 122 [KA.s q])]
              { box := upd (upd (upd (upd (upd (upd (upd (fun _ => none) 0 (some (Row.litT TB [D.bp 0 0, D.bv TU 0 (List.length es)]))) 1 (some (Row.lit [I i]))) 3 (some (Row.map none (fun x => false) (mvNew (ofVal (Value.int IntKind.u8 0)))))) 3 (some (Row.map none (updK (fun x => false) [KA.s { data := #[48] : ByteArray }.data.toList] true) (MV.i IntKind.u8 (updK (fun _ => (0 : Int)) [KA.s { data := #[48] : ByteArray }.data.toList] 95))))) 3 (some (Row.map none (updK (updK (fun x => false) [KA.s { data := #[48] : ByteArray }.data.toList] true) [KA.s { data := #[49] : ByteArray }.data.toList] true) (MV.i IntKind.u8 (updK (updK (fun _ => (0 : Int)) [KA.s { data := #[48] : ByteArray }.data.toList] 95) [KA.s { data := #[49] : ByteArray }.data.toList] 45))))) 3 (some (Row.map none (updK (updK (updK (fun x => false) [KA.s { data := #[48] : ByteArray }.data.toList] true) [KA.s { data := #[49] : ByteArray }.data.toList] true) [KA.s { data := #[120] : ByteArray }.data.toList] true) (MV.i IntKind.u8 (updK (updK (updK (fun _ => (0 : Int)) [KA.s { data := #[48] : ByteArray }.data.toList] 95) [KA.s { data := #[49] : ByteArray }.data.toList] 45) [KA.s { data := #[120] : ByteArray }.data.toList] 120))))) 3 (some (Row.map none (updK (updK (updK (updK (fun x => false) [KA.s { data := #[48] : ByteArray }.data.toList] true) [KA.s { data := #[49] : ByteArray }.data.toList] true) [KA.s { data := #[120] : ByteArray }.data.toList] true) [KA.s { data := #[122] : ByteArray }.data.toList] true) (MV.i IntKind.u8 (updK (updK (updK (updK (fun _ => (0 : Int)) [KA.s { data := #[48] : ByteArray }.data.toList] 95) [KA.s { data := #[49] : ByteArray }.data.toList] 45) [KA.s { data := #[120] : ByteArray }.data.toList] 120) [KA.s { data := #[122] : ByteArray }.data.toList] 122)))), nl := 4, hw := upd (fun _ => none) 0 (some (List.length es)), nt := 1, vw := upd (fun _ => none) 0 (some (cv es encB)) : Heap } (ren (rnm [0] 4) (rnm [0] 1) D.nili)
              (frameH [0] [0] { box := upd (upd (upd (upd (upd (upd (upd (fun _ => none) 0 (some (Row.litT TB [D.bp 0 0, D.bv TU 0 (List.length es)]))) 1 (some (Row.lit [I i]))) 3 (some (Row.map none (fun x => false) (mvNew (ofVal (Value.int IntKind.u8 0)))))) 3 (some (Row.map none (updK (fun x => false) [KA.s { data := #[48] : ByteArray }.data.toList] true) (MV.i IntKind.u8 (updK (fun _ => (0 : Int)) [KA.s { data := #[48] : ByteArray }.data.toList] 95))))) 3 (some (Row.map none (updK (updK (fun x => false) [KA.s { data := #[48] : ByteArray }.data.toList] true) [KA.s { data := #[49] : ByteArray }.data.toList] true) (MV.i IntKind.u8 (updK (updK (fun _ => (0 : Int)) [KA.s { data := #[48] : ByteArray }.data.toList] 95) [KA.s { data := #[49] : ByteArray }.data.toList] 45))))) 3 (some (Row.map none (updK (updK (updK (fun x => false) [KA.s { data := #[48] : ByteArray }.data.toList] true) [KA.s { data := #[49] : ByteArray }.data.toList] true) [KA.s { data := #[120] : ByteArray }.data.toList] true) (MV.i IntKind.u8 (updK (updK (updK (fun _ => (0 : Int)) [KA.s { data := #[48] : ByteArray }.data.toList] 95) [KA.s { data := #[49] : ByteArray }.data.toList] 45) [KA.s { data := #[120] : ByteArray }.data.toList] 120))))) 3 (some (Row.map none (updK (updK (updK (updK (fun x => false) [KA.s { data := #[48] : ByteArray }.data.toList] true) [KA.s { data := #[49] : ByteArray }.data.toList] true) [KA.s { data := #[120] : ByteArray }.data.toList] true) [KA.s { data := #[122] : ByteArray }.data.toList] true) (MV.i IntKind.u8 (updK (updK (updK (updK (fun _ => (0 : Int)) [KA.s { data := #[48] : ByteArray }.data.toList] 95) [KA.s { data := #[49] : ByteArray }.data.toList] 45) [KA.s { data := #[120] : ByteArray }.data.toList] 120) [KA.s { data := #[122] : ByteArray }.data.toList] 122)))), nl := 4, hw := upd (fun _ => none) 0 (some (List.length es)), nt := 1, vw := upd (fun _ => none) 0 (some (cv es encB)) : Heap }
                (hSb (D.bp 0 0) (es ++ [UInt8.ofNat (updK (updK (updK (updK (fun _ => (0 : Int)) [KA.s { data := #[48] : ByteArray }.data.toList] 95) [KA.s { data := #[49] : ByteArray }.data.toList] 45) [KA.s { data := #[120] : ByteArray }.data.toList] 120) [KA.s { data := #[122] : ByteArray }.data.toList] 122 [KA.s q]).toNat]))) ∧
            J2
              { sl := [(70, D.nili), (69, D.int IntKind.u8 (updK (updK (updK (updK (fun _ => (0 : Int)) [KA.s { data := #[48] : ByteArray }.data.toList] 95) [KA.s { data := #[49] : ByteArray }.data.toList] 45) [KA.s { data := #[120] : ByteArray }.data.toList] 120) [KA.s { data := #[122] : ByteArray }.data.toList] 122 [KA.s q])), (68, .str q), (67, D.mp 3), (66, D.mp 3), (5, D.bp 0 0), (10, .str q)],
                h :=
                  {
                    box :=
                      upd (upd (upd (upd (upd (upd (upd (upd (fun _ => none) 0 (some (Row.litT TB [D.bp 0 0, D.bv TU 0 (List.length es)]))) 1 (some (Row.lit [I i]))) 3 (some (Row.map none (fun x => false) (mvNew (ofVal (Value.int IntKind.u8 0)))))) 3 (some (Row.map none (updK (fun x => false) [KA.s { data := #[48] : ByteArray }.data.toList] true) (MV.i IntKind.u8 (updK (fun _ => (0 : Int)) [KA.s { data := #[48] : ByteArray }.data.toList] 95))))) 3 (some (Row.map none (updK (updK (fun x => false) [KA.s { data := #[48] : ByteArray }.data.toList] true) [KA.s { data := #[49] : ByteArray }.data.toList] true) (MV.i IntKind.u8 (updK (updK (fun _ => (0 : Int)) [KA.s { data := #[48] : ByteArray }.data.toList] 95) [KA.s { data := #[49] : ByteArray }.data.toList] 45))))) 3 (some (Row.map none (updK (updK (updK (fun x => false) [KA.s { data := #[48] : ByteArray }.data.toList] true) [KA.s { data := #[49] : ByteArray }.data.toList] true) [KA.s { data := #[120] : ByteArray }.data.toList] true) (MV.i IntKind.u8 (updK (updK (updK (fun _ => (0 : Int)) [KA.s { data := #[48] : ByteArray }.data.toList] 95) [KA.s { data := #[49] : ByteArray }.data.toList] 45) [KA.s { data := #[120] : ByteArray }.data.toList] 120))))) 3 (some (Row.map none (updK (updK (updK (updK (fun x => false) [KA.s { data := #[48] : ByteArray }.data.toList] true) [KA.s { data := #[49] : ByteArray }.data.toList] true) [KA.s { data := #[120] : ByteArray }.data.toList] true) [KA.s { data := #[122] : ByteArray }.data.toList] true) (MV.i IntKind.u8 (updK (updK (updK (updK (fun _ => (0 : Int)) [KA.s { data := #[48] : ByteArray }.data.toList] 95) [KA.s { data := #[49] : ByteArray }.data.toList] 45) [KA.s { data := #[120] : ByteArray }.data.toList] 120) [KA.s { data := #[122] : ByteArray }.data.toList] 122))))) 0
                        (some (Row.litT TB [D.bp 0 0, D.bv TU 0 (List.length (es ++ [UInt8.ofNat (updK (updK (updK (updK (fun _ => (0 : Int)) [KA.s { data := #[48] : ByteArray }.data.toList] 95) [KA.s { data := #[49] : ByteArray }.data.toList] 45) [KA.s { data := #[120] : ByteArray }.data.toList] 120) [KA.s { data := #[122] : ByteArray }.data.toList] 122 [KA.s q]).toNat]))])),
                    nl := 4, hw := upd (upd (fun _ => none) 0 (some (List.length es))) 0 (some (List.length (es ++ [UInt8.ofNat (updK (updK (updK (updK (fun _ => (0 : Int)) [KA.s { data := #[48] : ByteArray }.data.toList] 95) [KA.s { data := #[49] : ByteArray }.data.toList] 45) [KA.s { data := #[120] : ByteArray }.data.toList] 120) [KA.s { data := #[122] : ByteArray }.data.toList] 122 [KA.s q]).toNat]))), nt := 1, vw := upd (upd (fun _ => none) 0 (some (cv es encB))) 0 (some (cv (es ++ [UInt8.ofNat (updK (updK (updK (updK (fun _ => (0 : Int)) [KA.s { data := #[48] : ByteArray }.data.toList] 95) [KA.s { data := #[49] : ByteArray }.data.toList] 45) [KA.s { data := #[120] : ByteArray }.data.toList] 120) [KA.s { data := #[122] : ByteArray }.data.toList] 122 [KA.s q]).toNat]) encB)) : Heap } :
                St }) := by kernel_rfl
theorem lvl_map (q : Str) : updK (updK (updK (updK (fun _ => (0 : Int)) [KA.s { data := #[48] : ByteArray }.data.toList] 95) [KA.s { data := #[49] : ByteArray }.data.toList] 45) [KA.s { data := #[120] : ByteArray }.data.toList] 120) [KA.s { data := #[122] : ByteArray }.data.toList] 122 [KA.s q] = ((lvl q).toNat : Int) := by
  have e : ∀ b : UInt8, ({ data := #[b] : ByteArray } : ByteArray).data.toList = [b] := fun b => rfl
  rw [e, e, e, e]
  have k : ∀ (f : MKey → Int) (b : UInt8) (v : Int), updK f [KA.s [b]] v [KA.s q] = if q = [b] then v else f [KA.s q] := fun f b v => by
    unfold updK
    by_cases h : q = [b]
    · subst h; rw [if_pos rfl, decide_eq_true rfl, cond_true]
    · rw [if_neg h, decide_eq_false (by simpa using h), cond_false]
  rw [k, k, k, k]
  unfold lvl
  by_cases h0 : q = [48]
  · subst h0; rfl
  by_cases h1 : q = [49]
  · subst h1; rfl
  by_cases h2 : q = [120]
  · subst h2; rfl
  by_cases h3 : q = [122]
  · subst h3; rfl
  simp [h0, h1, h2, h3]
noncomputable abbrev biE : Env := EnX [5, 6] Tryd.f35
abbrev biSl (l : List Sp) : Slots := [(3, .ep [L l 3 Sp.d]), (5, .bp 0 0), (6, .bp 1 0)]
noncomputable abbrev biQ (l : List Sp) : RecD := recAt biE bitP (biSl l)
/-- With a name to spare. -/
def hBaM (a : D) (es : Str) (i : Int) (q : RecD) : Heap := ⟨(hBaL a es i q).box, 4, (hBaL a es i q).hw, 1, (hBaL a es i q).vw⟩
theorem sl_low {m k N M : Nat} (hm : 2 ≤ m) (l : List Sp) {t : Nat} {d : D} (h : Ab.look (biSl l) t = some d) : RenOk d ∧ ren (fbF m N) (fbF k M) d = d := by
  rcases look_cons h with ⟨_, rfl⟩ | ⟨_, h⟩
  · exact ⟨⟨fun i _ => (inferInstance : DD (Sp.d (l.getD i default))).p, trivial⟩, rfl⟩
  rcases look_cons h with ⟨_, rfl⟩ | ⟨_, h⟩
  · exact ⟨trivial, by show D.bp (fbF m N 0) 0 = _; rw [fbF_in (by omega)]⟩
  rcases look_cons h with ⟨_, rfl⟩ | ⟨_, h⟩
  · exact ⟨trivial, by show D.bp (fbF m N 1) 0 = _; rw [fbF_in (by omega)]⟩
  · cases h
theorem hBaM_low (a : D) (ha : a = .nilp ∨ a = .bp 0 0) (es : Str) (i : Int) (l : List Sp) : LowH 3 1 (hBaM a es i (biQ l)) := by
  refine ⟨fun k row e => ?_, fun t n e => ?_, fun t ht => ?_, fun t n f _ e j _ => ?_⟩
  · rcases k with _ | _ | _ | k
    · cases e
      refine ⟨by omega, ?_⟩
      rcases ha with rfl | rfl <;> exact ⟨⟨trivial, trivial, trivial⟩, rfl⟩
    · cases e
      exact ⟨by omega, ⟨trivial, trivial⟩, rfl⟩
    · cases e
      exact ⟨by omega, fun t d h => sl_low (by omega) l h⟩
    · cases e
  · rcases t with _ | t
    · omega
    · cases e
  · rcases t with _ | t
    · omega
    · rfl
  · rcases t with _ | t
    · cases e; exact (inferInstance : DD (cv es encB j)).p
    · cases e
theorem heapM {h : Heap} {a : D} {es : Str} {i : Int} {q : RecD} (hb : ∀ k, k < 3 → h.box k = (hBaL a es i q).box k) (hn : h.nl ≤ 4) (hw : h.hw = (hBaL a es i q).hw) (ht : h.nt = 1) (hv : h.vw = (hBaL a es i q).vw) : HeapLe h (hBaM a es i q) := by
  refine ⟨fun l row e => ⟨row, ?_, RowLe.refl _⟩, hn, fun t n e => by rw [hw]; exact e, by rw [ht]; exact Nat.le_refl _, fun t n _ => by rw [hv]; exact VwLe.refl _ _, fun t e => by rw [hv] at e; exact e⟩
  rcases l with _ | _ | _ | l
  · rw [hb 0 (by omega)]; exact e
  · rw [hb 1 (by omega)]; exact e
  · rw [hb 2 (by omega)]; exact e
  · cases e
theorem sp_to {c : List Chg} {frm til x : Int} (hi : Inc frm c) (v : Str) (hx : x ≤ til) {i : Nat} (h : i ≤ c.length) : ((spS frm v til c).getD i default).to < x ↔ i < nLe c x := by
  rw [spS_get c frm v til i h, nLe_iff hi x i]
  simp only
  split
  · rename_i h1
    constructor
    · intro h2; exact ⟨h1, by omega⟩
    · intro h2; have := h2.2; omega
  · constructor
    · intro h2; omega
    · intro h2; omega
theorem sp_frm {c : List Chg} {frm til y : Int} (hi : Inc frm c) (v : Str) (i : Nat) : (i + 1 < (spS frm v til c).length ∧ ((spS frm v til c).getD (i + 1) default).frm ≤ y) ↔ i < nLe c y := by
  rw [spS_len, nLe_iff hi y i]
  constructor
  · intro ⟨h1, h2⟩
    rw [spS_get c frm v til (i + 1) (by omega), if_neg (by omega)] at h2
    exact ⟨by omega, h2⟩
  · intro ⟨h1, h2⟩
    refine ⟨by omega, ?_⟩
    rw [spS_get c frm v til (i + 1) (by omega), if_neg (by omega)]
    exact h2
theorem sp_val {c : List Chg} {frm til : Int} (v : Str) {i : Nat} (h : i ≤ c.length) : ((spS frm v til c).getD i default).val = curV v c i := by
  rw [spS_get c frm v til i h]
theorem biY [Lay] {c : List Chg} {frm til : Int} (hi : Inc frm c) (v : Str) (hlen : c.length ≤ 900) (j x y : Int) (es : Str) (hes : es.length ≤ 1000) (hxy : x ≤ y) (hy : y ≤ til) (K : D → Heap → Prop)
    (hk : K (.bool true) (hBaL (.bp 0 0) (es ++ [bitCh v c x y]) (nLe c y : Nat) (biQ (spS frm v til c)))) : CallY PP 2 [.agg [I j, I x, I y]] (hBaL (aOf es) es (nLe c (x - 1) : Nat) (biQ (spS frm v til c))) K := by
  refine CallY.forget (h1 := hBaM (.bp 0 0) (es ++ [bitCh v c x y]) (nLe c y : Nat) (biQ (spS frm v til c))) (d := .bool true) trivial (hBaM_low _ (.inr rfl) _ _ _) hk ?_
  refine callY_of (E := biE) (p := bitP) (sl := biSl (spS frm v til c)) (by kernel_rfl) rfl (by kernel_rfl) (by kernel_rfl) ?_
  rw [hBaL_off]
  generalize hl : spS frm v til c = l
  have hll : l.length = c.length + 1 := by rw [← hl, spS_len]
  refine at_le (st' := ⟨[(3, .ep [L l 3 Sp.d]), (5, .bp 0 0), (6, .bp 1 0), (14, .agg [I j, I x, I y])], hBa (aOf es) es (nLe c (x - 1) : Nat)⟩) (runS_sound hmix _ _ _ (of_eq (nBi0 l (aOf es) es _ j x y _ _) ⟨trivial, ?_⟩)) (keepSt_le _ [3, 5, 6, 14] _)
  refine at_le (st' := ⟨[(3, .ep [L l 3 Sp.d]), (5, .bp 0 0), (6, .bp 1 0), (7, .own [I j, I x, I y])], hBa (aOf es) es (nLe c (x - 1) : Nat)⟩) ?_ (keepSt_le _ [3, 5, 6, 7] _)
  refine runS_sound hmix _ _ _ (of_eq (nBi1 l (aOf es) es _ j x y _ _) ?_)
  have hm1 := nLe_mono c (show x - 1 ≤ x by omega)
  have hm2 := nLe_mono c hxy
  have hly := nLe_le c y
  refine lp (fn := Tryd.f35) (fun i : Nat => nLe c (x - 1) ≤ i ∧ i ≤ nLe c x) (fun i => SBi l (aOf es) es j x y i) (fun i => nLe c x - i) [3, 5, 6, 7] (by kernel_rfl) (fun i hi' => of_eq (nBi2 l (aOf es) es j x y i _ _ _) ⟨by omega, ?_⟩) (nLe c (x - 1)) ⟨Nat.le_refl _, hm1⟩
  rw [Int.toNat_natCast]
  have hto := sp_to hi v (show x ≤ til by omega) (i := i) (by omega)
  rw [hl] at hto
  refine cond_intro (fun h => ⟨trivial, ?_⟩) fun h => ?_
  · have h := hto.1 (of_decide_eq_true h)
    rw [add64 (a := (i : Int)) (b := 1) (by omega) (by omega), upd_upd]
    exact Nx.mk (i + 1) ⟨by omega, h⟩ (by omega)
  have h : ¬ i < nLe c x := fun h1 => of_decide_eq_false h (hto.2 h1)
  have hie : i = nLe c x := by omega
  subst hie
  refine lp (fn := Tryd.f35) (fun z : Nat × Nat => nLe c x ≤ z.1 ∧ z.1 ≤ nLe c y ∧ z.2 = z.1 - nLe c x) (fun z => SBj l (aOf es) es j x y (nLe c x : Nat) z.2 z.1) (fun z => nLe c y - z.1) [3, 5, 6, 7, 8, 9] (by kernel_rfl) (fun z hz => of_eq (nBi3 l (aOf es) es j x y (nLe c x : Nat) z.2 z.1 _ _ _) fun hlm => ?_) (nLe c x, 0) ⟨Nat.le_refl _, hm2, by simp⟩
  obtain ⟨i, n⟩ := z
  obtain ⟨h1, h2, h3⟩ := hz
  simp only at h1 h2 h3 ⊢
  rw [add64 (a := (i : Int)) (b := 1) (by omega) (by omega), show ((i : Int) + 1) = ((i + 1 : Nat) : Int) from rfl, Int.toNat_natCast, Int.toNat_natCast, Int.toNat_natCast]
  have hfr := sp_frm hi v (til := til) (y := y) i
  rw [hl] at hfr
  have hc : (bif decide (((i + 1 : Nat) : Int) < (l.length : Int)) then decide ((l.getD (i + 1) default).frm ≤ y) else false) = decide (i < nLe c y) := by
    rw [Bool.eq_iff_iff, decide_eq_true_iff, ← hfr]
    by_cases hlt : i + 1 < l.length
    · rw [decide_eq_true (show ((i + 1 : Nat) : Int) < (l.length : Int) by omega)]; simp [hlt]
    · rw [decide_eq_false (show ¬ ((i + 1 : Nat) : Int) < (l.length : Int) by omega)]; simp [hlt]
  rw [hc]
  refine ⟨fun h => ⟨by omega, of_decide_eq_true h⟩, cond_intro (fun h => ⟨trivial, ?_⟩) fun h => ⟨⟨by omega, by omega⟩, ⟨by omega, by omega⟩, ?_⟩⟩
  · have h := of_decide_eq_true h
    rw [upd_upd]
    have hn1 : addI .i64 (n : Int) 1 = ((n + 1 : Nat) : Int) := by rw [add64 (by omega) (by omega)]; rfl
    rw [hn1]
    exact Nx.mk (i + 1, n + 1) ⟨by simp only; omega, h, by simp only; omega⟩ (by simp only; omega)
  have h := of_decide_eq_false h
  have hie : i = nLe c y := by omega
  subst hie
  have hv1 := sp_val (frm := frm) (til := til) v (c := c) (i := nLe c x) (by omega)
  have hv2 := sp_val (frm := frm) (til := til) v (c := c) (i := nLe c y) hly
  rw [hl] at hv1 hv2
  rw [hv1, hv2]
  have hch : bitCh v c x y = bitC (curV v c (nLe c x)) (curV v c (nLe c y)) n := by
    unfold bitCh; rw [h3]
  rw [hch]
  generalize curV v c (nLe c x) = p
  generalize curV v c (nLe c y) = q
  have e0 : ∀ b : UInt8, ({ data := #[b] : ByteArray } : ByteArray).data.toList = [b] := fun b => rfl
  have hend : ∀ b : UInt8, True ∧ HeapLe (hOn (hBa (.bp 0 0) (es ++ [b]) (nLe c y : Nat)) 2 (biQ l) none) (hBaM (.bp 0 0) (es ++ [b]) (nLe c y : Nat) (biQ l)) := fun b =>
    ⟨trivial, heapM (fun k hk => by rcases k with _ | _ | _ | k <;> first | rfl | omega) (by show 3 ≤ 4; omega) rfl rfl rfl⟩
  unfold bitC
  refine cond_intro (fun h => ⟨eWB3 (aOf es) (aOf_or es) es _ 35 (by omega), ?_⟩) fun h => ?_
  · have h : (n : Int) > 1 := by simpa using h
    rw [if_pos (by omega)]
    exact hend 35
  have h : ¬ (n : Int) > 1 := by simpa using h
  rw [if_neg (by omega)]
  refine cond_intro (fun h0 => ?_) fun h0 => ?_
  · have h0 : n = 0 := by simpa using h0
    rw [if_pos h0]
    rcases aOf_or es with ha | ha <;> rw [ha]
    · refine runS_sound hmix _ _ _ (of_eq (nBi4n p es _ _ _) ?_)
      rw [lvl_map]
      refine ⟨trivial, trivial, trivial, trivial, trivial, fr (WBz .nilp (.inl rfl) es _ ⟨by omega, by have := (lvl p).toNat_lt; omega⟩ (by omega)) [0] [0], ?_⟩
      rw [Int.toNat_natCast, UInt8.ofNat_toNat]
      exact ⟨trivial, heapM (fun k hk => by rcases k with _ | _ | _ | k <;> first | rfl | omega) (by show 4 ≤ 4; omega) (upd_upd _ _ _ _) rfl (upd_upd _ _ _ _)⟩
    · refine runS_sound hmix _ _ _ (of_eq (nBi4b p es _ _ _) ?_)
      rw [lvl_map]
      refine ⟨trivial, trivial, trivial, trivial, trivial, fr (WBz (.bp 0 0) (.inr rfl) es _ ⟨by omega, by have := (lvl p).toNat_lt; omega⟩ (by omega)) [0] [0], ?_⟩
      rw [Int.toNat_natCast, UInt8.ofNat_toNat]
      exact ⟨trivial, heapM (fun k hk => by rcases k with _ | _ | _ | k <;> first | rfl | omega) (by show 4 ≤ 4; omega) (upd_upd _ _ _ _) rfl (upd_upd _ _ _ _)⟩
  have h0 : ¬ n = 0 := by simpa using h0
  rw [if_neg h0]
  refine cond_intro (fun h4 => ⟨eWB3 (aOf es) (aOf_or es) es _ 47 (by omega), ?_⟩) fun h4 => ?_
  · have h4 : p = [48] ∧ q = [49] := by simpa using h4
    rw [if_pos h4]
    exact hend 47
  have h4 : ¬ (p = [48] ∧ q = [49]) := by simpa using h4
  rw [if_neg h4]
  refine cond_intro (fun h5 => ⟨eWB3 (aOf es) (aOf_or es) es _ 92 (by omega), ?_⟩) fun h5 => ⟨eWB3 (aOf es) (aOf_or es) es _ 124 (by omega), ?_⟩
  · have h5 : p = [49] ∧ q = [48] := by simpa using h5
    rw [if_pos h5]
    exact hend 92
  have h5 : ¬ (p = [49] ∧ q = [48]) := by simpa using h5
  rw [if_neg h5]
  exact hend 124
theorem c35 [Lay] (frm stp cols fin : Int) (h1 : 0 ≤ frm ∧ frm ≤ fin) (h2 : 1 ≤ stp ∧ stp ≤ 1099511627776) (h3 : 1 ≤ cols ∧ cols ≤ 200) (h4 : fin ≤ 1099511627776) (v : Str) (c : List Chg) (hlen : c.length ≤ 900) (hi : Inc frm c) (hlf : ∀ x ∈ c, x.time ≤ lastC frm stp cols fin) :
    Pure PP 35 [.agg [I frm, I stp, I cols, I fin], L (spS frm v (lastC frm stp cols fin) c) 3 Sp.d] (.str (bitS v c stp fin cols.toNat frm)) := by
  have hlf2 : ∀ x ∈ c, x.time ≤ fin := fun x hx => by have := hlf x hx; unfold lastC at this; omega
  refine pr F35 (by kernel_rfl) (of_eq (nBi frm stp cols fin (spS frm v (lastC frm stp cols fin) c) _) ⟨trivial, trivial, trivial, ?_⟩)
  refine at_le (st' := ⟨[(3, .ep [L (spS frm v (lastC frm stp cols fin) c) 3 Sp.d]), (5, .bp 0 0), (6, .bp 1 0), (13, .mv 59 [.agg [I frm, I stp, I cols, I fin]])], hB2 .nilp [] 0⟩) ?_
    ((((StLe.layOwn 3 rfl (by kernel_rfl)).trans (StLe.idleBoxT _ 0 1 TU TB (cv ([] : Str) encB) rfl rfl)).trans (keepSt_le _ [3, 5, 6, 13] _)).trans (StLe.heap (hp_eq (fun k => by rcases k with _ | _ | k <;> rfl) rfl rfl)))
  refine at_rangeM (E := biE) (p := bitP) (by kernel_rfl) (f := 59) (first := [.agg [I frm, I stp, I cols, I fin]]) (by kernel_rfl) [3, 5, 6] ?_
  generalize hm : nCol stp fin cols.toNat frm = m
  have hmle := nCol_le stp fin cols.toNat frm
  have hlenS : (bitS v c stp fin cols.toNat frm).length = m := by rw [← hm]; exact colS_len _ _ _ _ _
  generalize hT : bitS v c stp fin cols.toNat frm = T at hlenS ⊢
  have hm0 : 0 < m := by
    rw [← hm]
    rcases nCol_end stp fin cols.toNat frm with h | h
    · omega
    · rcases Nat.eq_zero_or_pos (nCol stp fin cols.toNat frm) with h0 | h0
      · rw [h0] at h; simp at h; omega
      · exact h0
  have hall := allCall frm stp cols fin 2 (fun j => hBaL (aOf (T.take j)) (T.take j) (nLe c (frm + (j : Int) * stp - 1) : Nat) (biQ (spS frm v (lastC frm stp cols fin) c))) ⟨h1.1, by omega⟩ h2 ⟨by omega, h3.2⟩ ⟨by omega, h4⟩ (fun j K hj hK => by
    have hin := nCol_in stp fin cols.toNat frm j hj
    rw [hm] at hj
    have hts := take_snoc T j (by omega)
    have hg : T.getD j default = bitCh v c (frm + (j : Int) * stp) (hiC (frm + (j : Int) * stp) stp fin) := by
      rw [← hT]; exact colS_get (fun a => bitCh v c a (hiC a stp fin)) stp fin cols.toNat frm j (by rw [hm]; exact hj)
    have hjc : ((j + 1 : Nat) : Int) * stp ≤ cols * stp := Int.mul_le_mul_of_nonneg_right (by omega) (by omega)
    rw [mulS] at hjc
    refine biY hi v hlen _ _ _ _ (by rw [List.length_take]; omega) (by unfold hiC; omega) (by unfold hiC lastC; omega) K ?_
    rw [← hg, ← hts]
    have ha : aOf (T.take (j + 1)) = .bp 0 0 := by rw [hts, aOf_snoc]
    have hn : nLe c (frm + ((j + 1 : Nat) : Int) * stp - 1) = nLe c (hiC (frm + (j : Int) * stp) stp fin) := by
      rw [mulS]
      by_cases hb : frm + (j : Int) * stp + stp - 1 ≤ fin
      · have : hiC (frm + (j : Int) * stp) stp fin = frm + ((j : Int) * stp + stp) - 1 := by unfold hiC; omega
        rw [this]
      · have : hiC (frm + (j : Int) * stp) stp fin = fin := by unfold hiC; omega
        rw [this, nLe_all hlf2, nLe_all fun x hx => by have := hlf2 x hx; omega]
    simp only [ha, hn] at hK
    exact hK)
  rw [hm] at hall
  have e0 : hBaL (aOf (T.take 0)) (T.take 0) (nLe c (frm + ((0 : Nat) : Int) * stp - 1) : Nat) (biQ (spS frm v (lastC frm stp cols fin) c)) = hBaL .nilp [] 0 (biQ (spS frm v (lastC frm stp cols fin) c)) := by
    have : nLe c (frm + ((0 : Nat) : Int) * stp - 1) = 0 := nLe_zero fun x hx => by have := hi.gt x hx; simp; omega
    rw [this]; rfl
  simp only [e0] at hall
  refine CallA.mono hall fun _ h hh => .inl ?_
  subst hh
  refine ⟨rfl, ?_⟩
  rw [List.take_of_length_le (show T.length ≤ m by omega)]
  refine (at_le (st' := ⟨[(5, .bp 0 0)], hBa (aOf T) T (nLe c (frm + (m : Int) * stp - 1) : Nat)⟩) (runS_sound hmix _ _ _ (of_eq (nBiZ (aOf T) T _ _) ⟨eStr3 _ (aOf_or T) T _ (by intro h0; rw [h0] at hlenS; simp at hlenS; omega), _, RetLe.wk (Wk.refl _) rfl⟩)) ?_).it
  show StLe _ ⟨_, hOff (hBaL (aOf T) T (nLe c (frm + (m : Int) * stp - 1) : Nat) (biQ (spS frm v (lastC frm stp cols fin) c))) 2⟩ _
  rw [hBaL_off]
  exact keepSt_le _ [5] _
end Go.Proofs.YtpcbjkjgjoemaaaDoor.S1
