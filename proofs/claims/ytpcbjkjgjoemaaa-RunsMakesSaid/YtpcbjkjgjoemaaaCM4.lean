/- Seat 2: chosen spans. -/
import Derived.Test.YtpcbjkjgjoemaaaCM3
namespace Go.Proofs.Ytpcbjkjgjoemaaa.S1
open Go Go.Ab Go.Proofs
def chS (a b : Str) (to : Int) (out : List Sp) (x : Iv) : List Sp := bif decide (x.to < to) then addS (addS out x.frm a) (addI .i64 x.to 1) b else addS out x.frm a
def chR (l : List Iv) (a b : Str) (frm to : Int) : List Sp × Int :=
  if frm ≥ 0 ∧ frm ≤ to ∧ to ≤ 1099511627776 then (lastTo ((iclip l frm to).foldl (chS a b to) [⟨frm, 0, bif inI l frm then a else b⟩]) to, 0) else ([], 2)
theorem F8 : OkF 8 Try.f8 := ⟨by kernel_rfl, by kernel_rfl, by kernel_rfl⟩
def lv8 : List (List Nat × List Nat) := [([1, 1, 1, 1, 1, 0, 1, 0], [1, 2, 4, 13, 31, 32, 33])]
def lvCh : List (List Nat × List Nat) := [([1, 1, 1, 1], [0, 1, 2, 3, 4, 12])]
noncomputable def nChs (l : List Iv) (frm : Int) (to : Int) : List Nat → Nat → Option Ans := scrAt [([1, 0, 0], 2, Ans.pure [I frm, I to] (B (decide (frm ≥ 0 ∧ frm ≤ to ∧ to ≤ 1099511627776)))), ([1, 1, 1, 0, 0], 2, Ans.pure [L l 2 Iv.d, I frm] (B (inI l frm)))]
theorem nCh (l : List Iv) (a b : Str) (frm to : Int) (K : D → Heap → Prop) : runS (EnV [] [] Try.f8) (fh Try.f8 K) (nChs l frm to) lvCh 200 [.code []] ⟨argSlots 0 [L l 2 Iv.d, .str a, .str b, I frm, I to], .empty⟩ =
  (PureW PP 18 [I frm, I to] [I frm, I to] (B (decide (frm ≥ 0 ∧ frm ≤ to ∧ to ≤ 1099511627776))) ∧ bif !decide (frm ≥ 0 ∧ frm ≤ to ∧ to ≤ 1099511627776) then K (.tup [.list 0 0 (fun _ => D.junk) .full, I 2]) Heap.empty else PureW PP 21 [L l 2 Iv.d, I frm] [L l 2 Iv.d, I frm] (B (inI l frm)) ∧ bif inI l frm then At (EnV [] [] Try.f8) (fh Try.f8 K) [It.code [1, 1, 1, 1]] { sl := [(0, L l 2 Iv.d), (1, .str a), (2, .str b), (3, I frm), (4, I to), (12, .str a)], h := Heap.empty : St } else At (EnV [] [] Try.f8) (fh Try.f8 K) [It.code [1, 1, 1, 1]] { sl := [(0, L l 2 Iv.d), (1, .str a), (2, .str b), (3, I frm), (4, I to), (12, .str b)], h := Heap.empty : St }) := by kernel_rfl
def lvChb : List (List Nat × List Nat) := [([1, 1, 1, 1, 1, 0, 1, 0], [1, 2, 4, 13, 31, 32, 33])]
noncomputable def nChbs (l : List Iv) (frm : Int) (to : Int) (v : Str) : List Nat → Nat → Option Ans := scrAt [([1, 1, 1, 1, 0], 2, Ans.eff (D.vec 0 1 3) (hVec [{ frm := frm, to := 0, val := v : Sp }] Sp.d)), ([1, 1, 1, 1, 1, 0, 0], 3, Ans.pure [L l 2 Iv.d, I frm, I to] (L (iclip l frm to) 2 Iv.d))]
theorem nChb (l : List Iv) (a b : Str) (frm to : Int) (v : Str) (K : D → Heap → Prop) : runS (EnV [] [] Try.f8) (fh Try.f8 K) (nChbs l frm to v) lvChb 200 [.code [1, 1, 1, 1]] ⟨[(0, L l 2 Iv.d), (1, .str a), (2, .str b), (3, I frm), (4, I to), (12, .str v)], .empty⟩ =
  (Does PP 19 [.list 0 0 (fun _ => D.junk) .full, I frm, .str v] Heap.empty (D.vec 0 1 3) (hVec [{ frm := frm, to := 0, val := v : Sp }] Sp.d) ∧ PureW PP 22 [L l 2 Iv.d, I frm, I to] [L l 2 Iv.d, I frm, I to] (L (iclip l frm to) 2 Iv.d) ∧ ((iclip l frm to).length ≤ lenM → At (EnV [] [] Try.f8) (fh Try.f8 K) [It.code [1, 1, 1, 1, 1, 0, 1, 0], It.blk 0, It.code [1, 1, 1, 1, 1, 1]] { sl := [(1, .str a), (2, .str b), (4, I to), (13, D.vec 0 1 3), (31, L (iclip l frm to) 2 Iv.d), (32, I (↑(iclip l frm to).length : Int)), (33, I 0)], h := { box := fun _ => none, nl := 0, hw := upd (fun _ => none) 0 (some [{ frm := frm, to := 0, val := v : Sp }].length), nt := 1, vw := upd (fun _ => none) 0 (some (cv [{ frm := frm, to := 0, val := v : Sp }] Sp.d)) : Heap } : St })) := by kernel_rfl
def SCh (a b : Str) (to : Int) (out : List Sp) (x : List Iv) (i : Int) : St := ⟨[(1, .str a), (2, .str b), (4, I to), (13, .vec 0 out.length 3), (31, L x 2 Iv.d), (32, I x.length), (33, I i)], hVec out Sp.d⟩
noncomputable def nChcs (a : Str) (b : Str) (to : Int) (out : List Sp) (x : List Iv) (i : Int) : List Nat → Nat → Option Ans := scrAt [([1, 1, 1, 1, 1, 0, 1, 0, 0, 1, 1, 0, 0, 1, 0], 4, Ans.eff (D.vec 0 (addS out (x.getD i.toNat default).frm a).length 3) (hVec (addS out (x.getD i.toNat default).frm a) Sp.d)), ([1, 1, 1, 1, 1, 0, 1, 0, 0, 1, 1, 0, 0, 1, 1, 1, 0], 5, Ans.eff (D.vec 0 (addS (addS out (x.getD i.toNat default).frm a) (addI .i64 (x.getD i.toNat default).to 1) b).length 3) (hVec (addS (addS out (x.getD i.toNat default).frm a) (addI .i64 (x.getD i.toNat default).to 1) b) Sp.d)), ([1, 1, 1, 1, 1, 1, 0], 2, Ans.eff (D.vec 0 out.length 3) (hVec (lastTo out to) Sp.d))]
theorem nChc (a b : Str) (to : Int) (out : List Sp) (x : List Iv) (i : Int) (J : St → Prop) (K : D → Heap → Prop) : runS (EnV [] [] Try.f8) (fh Try.f8 K) (nChcs a b to out x i) nolv 200 [.code [1, 1, 1, 1, 1, 0, 1, 0, 0], stp [1, 2, 4, 13, 31, 32, 33] J, .blk 0, .code [1, 1, 1, 1, 1, 1]] (SCh a b to out x i) =
  (bif decide (i < (↑x.length : Int)) then
  (0 ≤ i ∧ i < (↑x.length : Int)) ∧
    True ∧
      Does PP 19 [D.vec 0 out.length 3, I (x.getD i.toNat default).frm, .str a] { box := fun _ => none, nl := 0, hw := upd (fun _ => none) 0 (some out.length), nt := 1, vw := upd (fun _ => none) 0 (some (cv out Sp.d)) : Heap } (D.vec 0 (addS out (x.getD i.toNat default).frm a).length 3) (hVec (addS out (x.getD i.toNat default).frm a) Sp.d) ∧
        bif decide ((x.getD i.toNat default).to < to) then Does PP 19 [D.vec 0 (addS out (x.getD i.toNat default).frm a).length 3, I (addI .i64 (x.getD i.toNat default).to 1), .str b] { box := fun _ => none, nl := 0, hw := upd (fun _ => none) 0 (some (addS out (x.getD i.toNat default).frm a).length), nt := 1, vw := upd (fun _ => none) 0 (some (cv (addS out (x.getD i.toNat default).frm a) Sp.d)) : Heap } (D.vec 0 (addS (addS out (x.getD i.toNat default).frm a) (addI .i64 (x.getD i.toNat default).to 1) b).length 3) (hVec (addS (addS out (x.getD i.toNat default).frm a) (addI .i64 (x.getD i.toNat default).to 1) b) Sp.d) ∧ J { sl := [(1, .str a), (2, .str b), (4, I to), (13, D.vec 0 (addS (addS out (x.getD i.toNat default).frm a) (addI .i64 (x.getD i.toNat default).to 1) b).length 3), (31, L x 2 Iv.d), (32, I (↑x.length : Int)), (33, I (addI .i64 i 1))], h := { box := fun _ => none, nl := 0, hw := upd (fun _ => none) 0 (some (addS (addS out (x.getD i.toNat default).frm a) (addI .i64 (x.getD i.toNat default).to 1) b).length), nt := 1, vw := upd (fun _ => none) 0 (some (cv (addS (addS out (x.getD i.toNat default).frm a) (addI .i64 (x.getD i.toNat default).to 1) b) Sp.d)) : Heap } : St } else J { sl := [(1, .str a), (2, .str b), (4, I to), (13, D.vec 0 (addS out (x.getD i.toNat default).frm a).length 3), (31, L x 2 Iv.d), (32, I (↑x.length : Int)), (33, I (addI .i64 i 1))], h := { box := fun _ => none, nl := 0, hw := upd (fun _ => none) 0 (some (addS out (x.getD i.toNat default).frm a).length), nt := 1, vw := upd (fun _ => none) 0 (some (cv (addS out (x.getD i.toNat default).frm a) Sp.d)) : Heap } : St }
 else Does PP 20 [D.vec 0 out.length 3, I to] { box := fun _ => none, nl := 0, hw := upd (fun _ => none) 0 (some out.length), nt := 1, vw := upd (fun _ => none) 0 (some (cv out Sp.d)) : Heap } (D.vec 0 out.length 3) (hVec (lastTo out to) Sp.d) ∧ K (.tup [D.vec 0 out.length 3, I 0]) { box := fun _ => none, nl := 0, hw := upd (fun _ => none) 0 (some (lastTo out to).length), nt := 1, vw := upd (fun _ => none) 0 (some (cv (lastTo out to) Sp.d)) : Heap }) := by kernel_rfl
def rchS (a b : Str) (z : List Sp × Int) (x : Iv) : List Sp × Int := (addR' (bif decide (x.frm > z.2) then addR' z.1 ⟨z.2, subI .i64 x.frm 1, b⟩ else z.1) ⟨x.frm, x.to, a⟩, addI .i64 x.to 1)
def rchW (l : List Iv) (a b : Str) (frm to : Int) : List Sp × Int := (clipR l frm to).foldl (rchS a b) ([], frm)
def rchR (l : List Iv) (a b : Str) (frm to : Int) : List Sp × Int :=
  if frm ≥ 0 ∧ frm ≤ to ∧ to ≤ 1099511627776 then (bif decide ((rchW l a b frm to).2 ≤ to) then addR' (rchW l a b frm to).1 ⟨(rchW l a b frm to).2, to, b⟩ else (rchW l a b frm to).1, 0) else ([], 2)
theorem F9 : OkF 9 Try.f9 := ⟨by kernel_rfl, by kernel_rfl, by kernel_rfl⟩
def lv9 : List (List Nat × List Nat) := [([1, 1, 1, 1, 1, 0, 1, 0], [1, 2, 4, 12, 13, 14, 15])]
noncomputable def nRcs (l : List Iv) (frm : Int) (to : Int) : List Nat → Nat → Option Ans := scrAt [([1, 0, 0], 2, Ans.pure [I frm, I to, I 1099511627776] (B (decide (frm ≥ 0 ∧ frm ≤ to ∧ to ≤ 1099511627776)))), ([1, 1, 0], 3, Ans.pure [L l 2 Iv.d, I frm, I to] (L (clipR l frm to) 2 Iv.d))]
theorem nRc (l : List Iv) (a b : Str) (frm to : Int) (K : D → Heap → Prop) : runS (En Try.f9) (fh Try.f9 K) (nRcs l frm to) lv9 200 [.code []] ⟨argSlots 0 [L l 2 Iv.d, .str a, .str b, I frm, I to], .empty⟩ =
  (PureW PP 16 [I frm, I to, I 1099511627776] [I frm, I to, I 1099511627776] (B (decide (frm ≥ 0 ∧ frm ≤ to ∧ to ≤ 1099511627776))) ∧ bif !decide (frm ≥ 0 ∧ frm ≤ to ∧ to ≤ 1099511627776) then K (.tup [.list 0 0 (fun _ => D.junk) .full, I 2]) Heap.empty else PureW PP 23 [L l 2 Iv.d, I frm, I to] [L l 2 Iv.d, I frm, I to] (L (clipR l frm to) 2 Iv.d) ∧ At (En Try.f9) (fh Try.f9 K) [It.code [1, 1, 1, 1, 1, 0, 1, 0], It.blk 0, It.code [1, 1, 1, 1, 1, 1]] { sl := [(1, .str a), (2, .str b), (4, I to), (12, L (clipR l frm to) 2 Iv.d), (13, .list 0 3 (litG []) .full), (14, I frm), (15, I 0)], h := Heap.empty : St }) := by kernel_rfl
def SRc (a b : Str) (to : Int) (x : List Iv) (out : List Sp) (at_ i : Int) : St := ⟨[(1, .str a), (2, .str b), (4, I to), (12, L x 2 Iv.d), (13, L out 3 Sp.d), (14, I at_), (15, I i)], .empty⟩
def lvRcm : List (List Nat × List Nat) := [([1, 1, 1, 1, 1, 0, 1, 0, 0, 1, 0, 0, 1], [1, 2, 4, 12, 13, 14, 15])]
noncomputable def nRcas (b : Str) (to : Int) (x : List Iv) (out : List Sp) (at_ : Int) (i : Int) : List Nat → Nat → Option Ans := scrAt [([1, 1, 1, 1, 1, 0, 1, 0, 0, 1, 0, 0, 0, 1, 0], 10, Ans.pure [L out 3 Sp.d, { frm := at_, to := subI .i64 (x.getD i.toNat default).frm 1, val := b : Sp }.d] (L (addR' out { frm := at_, to := subI .i64 (x.getD i.toNat default).frm 1, val := b : Sp }) 3 Sp.d)), ([1, 1, 1, 1, 1, 1, 0, 1, 0], 5, Ans.pure [L out 3 Sp.d, { frm := at_, to := to, val := b : Sp }.d] (L (addR' out { frm := at_, to := to, val := b : Sp }) 3 Sp.d))]
theorem nRca (a b : Str) (to : Int) (x : List Iv) (out : List Sp) (at_ i : Int) (J : St → Prop) (K : D → Heap → Prop) : runS (En Try.f9) (fh Try.f9 K) (nRcas b to x out at_ i) lvRcm 200 [.code [1, 1, 1, 1, 1, 0, 1, 0, 0], stp [1, 2, 4, 12, 13, 14, 15] J, .blk 0, .code [1, 1, 1, 1, 1, 1]] (SRc a b to x out at_ i) =
  (x.length ≤ lenM →
  bif decide (i < (↑x.length : Int)) then (0 ≤ i ∧ i < (↑x.length : Int)) ∧ bif decide ((x.getD i.toNat default).frm > at_) then (0 ≤ i ∧ i < (↑x.length : Int)) ∧ PureW PP 17 [L out 3 Sp.d, { frm := at_, to := subI .i64 (x.getD i.toNat default).frm 1, val := b : Sp }.d] [L out 3 Sp.d, { frm := at_, to := subI .i64 (x.getD i.toNat default).frm 1, val := b : Sp }.d] (L (addR' out { frm := at_, to := subI .i64 (x.getD i.toNat default).frm 1, val := b : Sp }) 3 Sp.d) ∧ At (En Try.f9) (fh Try.f9 K) [It.code [1, 1, 1, 1, 1, 0, 1, 0, 0, 1, 0, 0, 1], It.blk 1, It.code [1, 1, 1, 1, 1, 0, 1, 0, 0, 1, 1], stp [1, 2, 4, 12, 13, 14, 15] J, It.blk 0, It.code [1, 1, 1, 1, 1, 1]] { sl := [(1, .str a), (2, .str b), (4, I to), (12, L x 2 Iv.d), (13, L (addR' out { frm := at_, to := subI .i64 (x.getD i.toNat default).frm 1, val := b : Sp }) 3 Sp.d), (14, I at_), (15, I i)], h := Heap.empty : St } else At (En Try.f9) (fh Try.f9 K) [It.code [1, 1, 1, 1, 1, 0, 1, 0, 0, 1, 0, 0, 1], It.blk 1, It.code [1, 1, 1, 1, 1, 0, 1, 0, 0, 1, 1], stp [1, 2, 4, 12, 13, 14, 15] J, It.blk 0, It.code [1, 1, 1, 1, 1, 1]] { sl := [(1, .str a), (2, .str b), (4, I to), (12, L x 2 Iv.d), (13, L out 3 Sp.d), (14, I at_), (15, I i)], h := Heap.empty : St }
  else bif decide (at_ ≤ to) then PureW PP 17 [L out 3 Sp.d, { frm := at_, to := to, val := b : Sp }.d] [L out 3 Sp.d, { frm := at_, to := to, val := b : Sp }.d] (L (addR' out { frm := at_, to := to, val := b : Sp }) 3 Sp.d) ∧ K (.tup [L (addR' out { frm := at_, to := to, val := b : Sp }) 3 Sp.d, I 0]) Heap.empty else K (.tup [L out 3 Sp.d, I 0]) Heap.empty) := by kernel_rfl
noncomputable def nRcbs (a : Str) (x : List Iv) (out : List Sp) (i : Int) : List Nat → Nat → Option Ans := scrAt [([1, 1, 1, 1, 1, 0, 1, 0, 0, 1, 0, 0, 1], 13, Ans.pure [L out 3 Sp.d, { frm := (x.getD i.toNat default).frm, to := (x.getD i.toNat default).to, val := a : Sp }.d] (L (addR' out { frm := (x.getD i.toNat default).frm, to := (x.getD i.toNat default).to, val := a : Sp }) 3 Sp.d))]
theorem nRcb (a b : Str) (to : Int) (x : List Iv) (out : List Sp) (at_ i : Int) (J : St → Prop) (K : D → Heap → Prop) : runS (En Try.f9) (fh Try.f9 K) (nRcbs a x out i) nolv 200 [.code [1, 1, 1, 1, 1, 0, 1, 0, 0, 1, 0, 0, 1], .blk 1, .code [1, 1, 1, 1, 1, 0, 1, 0, 0, 1, 1], stp [1, 2, 4, 12, 13, 14, 15] J, .blk 0, .code [1, 1, 1, 1, 1, 1]] (SRc a b to x out at_ i) =
  ((0 ≤ i ∧ i < (↑x.length : Int)) ∧ (0 ≤ i ∧ i < (↑x.length : Int)) ∧ PureW PP 17 [L out 3 Sp.d, { frm := (x.getD i.toNat default).frm, to := (x.getD i.toNat default).to, val := a : Sp }.d] [L out 3 Sp.d, { frm := (x.getD i.toNat default).frm, to := (x.getD i.toNat default).to, val := a : Sp }.d] (L (addR' out { frm := (x.getD i.toNat default).frm, to := (x.getD i.toNat default).to, val := a : Sp }) 3 Sp.d) ∧ (0 ≤ i ∧ i < (↑x.length : Int)) ∧ J { sl := [(1, .str a), (2, .str b), (4, I to), (12, L x 2 Iv.d), (13, L (addR' out { frm := (x.getD i.toNat default).frm, to := (x.getD i.toNat default).to, val := a : Sp }) 3 Sp.d), (14, I (addI .i64 (x.getD i.toNat default).to 1)), (15, I (addI .i64 i 1))], h := Heap.empty : St }) := by kernel_rfl
theorem mrgF_len : ∀ (q out : List Iv), (q.foldl mrg out).length ≤ out.length + q.length
  | [], out => by simp
  | x :: r, out => by
    rw [List.foldl_cons]
    have := mrgF_len r (mrg out x)
    have := mrg_len out x
    simp only [List.length_cons]; omega
theorem iclip_len (l : List Iv) (f t : Int) : (iclip l f t).length ≤ l.length := by
  unfold iclip
  have h1 := mrgF_len (srtI (l.filterMap (clip1I (loT f) (hiT t)))) []
  rw [srtI_len] at h1
  have h2 : (l.filterMap (clip1I (loT f) (hiT t))).length ≤ l.length := List.length_filterMap_le _ _
  simp only [List.length_nil] at h1
  omega
theorem c8 (l : List Iv) (a b : Str) (frm to : Int) (hb : l.length ≤ 1000) : Pure PP 8 [L l 2 Iv.d, .str a, .str b, I frm, I to] (.tup [L (chR l a b frm to).1 3 Sp.d, I (chR l a b frm to).2]) := by
  refine pr F8 (by kernel_rfl) (of_eq (nCh l a b frm to _) ⟨PureW.mk (c18 _ _), cond_intro (fun h => ?_) fun h => ?_⟩)
  · have : ¬ (frm ≥ 0 ∧ frm ≤ to ∧ to ≤ 1099511627776) := fun hc => by rw [decide_eq_true hc] at h; cases h
    rw [chR, if_neg this]; exact ret_nilP
  have hr : frm ≥ 0 ∧ frm ≤ to ∧ to ≤ 1099511627776 := by simpa using h
  rw [chR, if_pos hr]
  simp only
  have hB : ∀ v, v = (bif inI l frm then a else b) → At (EnV [] [] Try.f8) (fh Try.f8 fun d h => ∃ h', RetLe d h (.tup [L (lastTo ((iclip l frm to).foldl (chS a b to) [⟨frm, 0, bif inI l frm then a else b⟩]) to) 3 Sp.d, I 0]) h') [.code [1, 1, 1, 1]] ⟨[(0, L l 2 Iv.d), (1, .str a), (2, .str b), (3, I frm), (4, I to), (12, .str v)], .empty⟩ := fun v e => by
    rw [← e]
    refine runS_sound hmix _ _ _ (of_eq (nChb l a b frm to v _) ⟨eadd0 frm v, PureW.mk (c22 l frm to (by omega)), fun hl => ?_⟩)
    have hxl := iclip_len l frm to
    generalize iclip l frm to = x at hl hxl ⊢
    refine lp (fn := Try.f8) (fun z : Nat × List Sp => z.1 ≤ x.length ∧ z.2 ≠ [] ∧ z.2.length ≤ 1 + 2 * z.1 ∧ x.foldl (chS a b to) [⟨frm, 0, v⟩] = (x.drop z.1).foldl (chS a b to) z.2) (fun z => SCh a b to z.2 x z.1) (fun z => x.length - z.1) [1, 2, 4, 13, 31, 32, 33] (by kernel_rfl) (fun z hz => of_eq (nChc a b to z.2 x z.1 _ _) ?_) (0, [⟨frm, 0, v⟩]) ⟨Nat.zero_le _, by simp, Nat.le_refl _, rfl⟩
    obtain ⟨i, out⟩ := z
    obtain ⟨_, hne, hol, he⟩ := hz
    simp only at hne hol he ⊢
    refine cond_intro (fun hlt => ?_) fun hge => ?_
    · have hlt := ltI hlt
      rw [add1 hlt hl, Int.toNat_natCast]
      rw [drop_cons _ _ hlt, List.foldl_cons] at he
      generalize x.getD i default = y at he ⊢
      have h1 := addS_len out y.frm a
      have h2 := addS_len (addS out y.frm a) (addI .i64 y.to 1) b
      refine ⟨⟨by omega, by omega⟩, trivial, e19 _ _ _ (by omega), cond_intro (fun h => ⟨e19 _ _ _ (by omega), Nx.mk (i + 1, addS (addS out y.frm a) (addI .i64 y.to 1) b) ⟨hlt, addS_ne _ _ _, by simp only; omega, ?_⟩ (by simp only; omega)⟩) fun h => Nx.mk (i + 1, addS out y.frm a) ⟨hlt, addS_ne _ _ _, by simp only; omega, ?_⟩ (by simp only; omega)⟩
      · rw [he]; simp only [chS, h, cond_true]
      · rw [he]; simp only [chS, h, cond_false]
    · rw [he, List.drop_of_length_le (geI hge)]
      exact ⟨e20 out to hne, ret_vecP (lastTo_len _ _).symm⟩
  exact ⟨PureW.mk (c21 _ _), cond_intro (fun h => hB a (by rw [h]; rfl)) fun h => hB b (by rw [h]; rfl)⟩
theorem clipR_len (l : List Iv) (f t : Int) : (clipR l f t).length ≤ 20 + 2 * l.length := by
  unfold clipR
  have h1 := nrmR_len [⟨f, t⟩]
  have h2 := cmbS_len l (nrmR [⟨f, t⟩]) 1 (cutsR l (nrmR [⟨f, t⟩])) []
  have h3 := (cutsR_len l (nrmR [⟨f, t⟩])).2
  simp only [List.length_append, List.length_singleton, List.length_nil] at h1 h2 h3
  omega
theorem c9 (l : List Iv) (a b : Str) (frm to : Int) (hb : l.length ≤ 50) : Pure PP 9 [L l 2 Iv.d, .str a, .str b, I frm, I to] (.tup [L (rchR l a b frm to).1 3 Sp.d, I (rchR l a b frm to).2]) := by
  refine pr F9 (by kernel_rfl) (of_eq (nRc l a b frm to _) ⟨PureW.mk (c16 _ _ _), cond_intro (fun h => ?_) fun h => ⟨PureW.mk (c23 l frm to hb), ?_⟩⟩)
  · have : ¬ (frm ≥ 0 ∧ frm ≤ to ∧ to ≤ 1099511627776) := fun hc => by rw [decide_eq_true hc] at h; cases h
    rw [rchR, if_neg this]; exact ret_nilP
  have hr : frm ≥ 0 ∧ frm ≤ to ∧ to ≤ 1099511627776 := by simpa using h
  rw [rchR, if_pos hr]
  simp only
  have hw : rchW l a b frm to = (clipR l frm to).foldl (rchS a b) ([], frm) := rfl
  rw [hw]
  have hxl := clipR_len l frm to
  generalize clipR l frm to = x at hxl ⊢
  refine at_le (st' := SRc a b to x [] frm (0 : Nat)) ?_ ((StLe.set 13 rfl (Wk.nilL (α := Sp) (sz' := 3) (enc := Sp.d)) rfl rfl).cast rfl)
  refine lp (fn := Try.f9) (fun z : Nat × List Sp × Int => z.1 ≤ x.length ∧ z.2.1.length ≤ 2 * z.1 ∧ x.foldl (rchS a b) ([], frm) = (x.drop z.1).foldl (rchS a b) z.2) (fun z => SRc a b to x z.2.1 z.2.2 z.1) (fun z => x.length - z.1) [1, 2, 4, 12, 13, 14, 15] (by kernel_rfl) (fun z hz => of_eq (nRca a b to x z.2.1 z.2.2 z.1 _ _) fun hl => ?_) (0, [], frm) ⟨Nat.zero_le _, Nat.le_refl _, rfl⟩
  obtain ⟨i, out, at_⟩ := z
  obtain ⟨_, hol, he⟩ := hz
  simp only at hol he ⊢
  refine cond_intro (fun hlt => ?_) fun hge => ?_
  · have hlt := ltI hlt
    rw [Int.toNat_natCast]
    rw [drop_cons _ _ hlt, List.foldl_cons] at he
    have hin : (0 : Int) ≤ (i : Int) ∧ (i : Int) < (x.length : Int) := ⟨by omega, by omega⟩
    have hC : ∀ o, o = (bif decide ((x.getD i default).frm > at_) then addR' out ⟨at_, subI .i64 (x.getD i default).frm 1, b⟩ else out) → o.length ≤ out.length + 1 → At (En Try.f9) (fh Try.f9 fun d h => ∃ h', RetLe d h (.tup [L (bif decide ((x.foldl (rchS a b) ([], frm)).2 ≤ to) then addR' (x.foldl (rchS a b) ([], frm)).1 ⟨(x.foldl (rchS a b) ([], frm)).2, to, b⟩ else (x.foldl (rchS a b) ([], frm)).1) 3 Sp.d, I 0]) h')
        [.code [1, 1, 1, 1, 1, 0, 1, 0, 0, 1, 0, 0, 1], .blk 1, .code [1, 1, 1, 1, 1, 0, 1, 0, 0, 1, 1], stp [1, 2, 4, 12, 13, 14, 15] (Nx Try.f9.ntmps (fun z : Nat × List Sp × Int => z.1 ≤ x.length ∧ z.2.1.length ≤ 2 * z.1 ∧ x.foldl (rchS a b) ([], frm) = (x.drop z.1).foldl (rchS a b) z.2) (fun z => SRc a b to x z.2.1 z.2.2 z.1) (fun z => x.length - z.1) (x.length - i)), .blk 0, .code [1, 1, 1, 1, 1, 1]] (SRc a b to x o at_ i) := fun o e hol2 => by
      refine runS_sound hmix _ _ _ (of_eq (nRcb a b to x o at_ i _ _) ?_)
      rw [add1 hlt hl, Int.toNat_natCast]
      generalize x.getD i default = y at he e ⊢
      have h2 := addR_len o ⟨y.frm, y.to, a⟩
      refine ⟨hin, hin, PureW.mk (c17 _ _ (by omega)), hin, Nx.mk (i + 1, addR' o ⟨y.frm, y.to, a⟩, addI .i64 y.to 1) ⟨hlt, by simp only; omega, ?_⟩ (by simp only; omega)⟩
      rw [he, e]; rfl
    have h1 := addR_len out ⟨at_, subI .i64 (x.getD i default).frm 1, b⟩
    refine ⟨hin, cond_intro (fun h => ⟨hin, PureW.mk (c17 _ _ (by omega)), hC _ (by rw [h]; rfl) (by omega)⟩) fun h => hC _ (by rw [h]; rfl) (by omega)⟩
  · rw [List.drop_of_length_le (geI hge)] at he
    have hcd : (bif decide ((x.foldl (rchS a b) ([], frm)).2 ≤ to) then addR' (x.foldl (rchS a b) ([], frm)).1 ⟨(x.foldl (rchS a b) ([], frm)).2, to, b⟩ else (x.foldl (rchS a b) ([], frm)).1) = (bif decide (at_ ≤ to) then addR' out ⟨at_, to, b⟩ else out) := by
      rw [he]; rfl
    rw [hcd]
    refine cond_intro (fun h => ⟨PureW.mk (c17 _ _ (by omega)), ?_⟩) fun h => ?_
    · rw [h]; exact ⟨_, RetLe.refl _ _⟩
    · rw [h]; exact ⟨_, RetLe.refl _ _⟩
end Go.Proofs.Ytpcbjkjgjoemaaa.S1
/- Plain law of changes and of chosen spans. -/
namespace Go.Proofs.Ytpcbjkjgjoemaaa.S1
open Go Go.Ab Go.Proofs
theorem refStep_dup (to : Int) (z : List Sp × Int × Str) (x y : Chg) (h : y.time = x.time) : refStep to (refStep to z x) y = refStep to z y := by
  unfold refStep
  rw [h]
  by_cases h1 : x.time > z.2.1 ∧ x.time ≤ to
  · simp only [if_pos h1, if_pos h1.2]
    rw [if_neg (show ¬ (x.time > x.time ∧ x.time ≤ to) by omega), if_neg (show ¬ (x.time > x.time ∧ x.time ≤ to) by omega)]
  · simp only [if_neg h1]
    by_cases h2 : x.time ≤ to
    · simp only [if_pos h2]
    · simp only [if_neg h2]
theorem refStep_stop (to : Int) : ∀ (l : List Chg) (z : List Sp × Int × Str), (∀ x ∈ l, to < x.time) → l.foldl (refStep to) z = z
  | [], _, _ => rfl
  | x :: r, z, h => by
    have hx := h x (List.mem_cons_self ..)
    have : refStep to z x = z := by
      unfold refStep
      rw [if_neg (by omega), if_neg (by omega), if_neg (by omega)]
    rw [List.foldl_cons, this]
    exact refStep_stop to r z fun y hy => h y (List.mem_cons_of_mem _ hy)
theorem srt_ge : ∀ {l : List Chg} {p : Chg}, srt (some p) l = true → ∀ x ∈ l, p.time ≤ x.time
  | [], _, _, _, h => by cases h
  | y :: r, p, h, x, hx => by
    simp only [srt, Bool.and_eq_true, Bool.not_eq_true', decide_eq_false_iff_not] at h
    rcases List.mem_cons.1 hx with rfl | hx
    · omega
    · have := srt_ge h.2 x hx; omega
theorem srt_tail : ∀ {l : List Chg} {p : Option Chg} {x : Chg}, srt p (x :: l) = true → srt (some x) l = true
  | l, p, x, h => by
    simp only [srt, Bool.and_eq_true] at h
    exact h.2
/-- The code's rounds and the reference's. -/
theorem run_ref (to : Int) : ∀ (l : List Chg) (p : Option Chg) (o r : List Sp) (at_ : Int) (v : Str), srt p l = true → (∀ x ∈ l, at_ < x.time) → o ≠ [] → (∀ x, lastTo o x = addR' r ⟨at_, x, v⟩) →
    lastTo (runL to l o) to = addR' (l.foldl (refStep to) (r, at_, v)).1 ⟨(l.foldl (refStep to) (r, at_, v)).2.1, to, (l.foldl (refStep to) (r, at_, v)).2.2⟩
  | [], _, o, r, at_, v, _, _, _, h => h to
  | x :: l, p, o, r, at_, v, hs, ha, hne, h => by
    have hs2 := srt_tail hs
    have hx := ha x (List.mem_cons_self ..)
    simp only [runL]
    by_cases hto : x.time ≤ to
    · rw [if_pos hto]
      have hst : refStep to (r, at_, v) x = (addR' r ⟨at_, subI .i64 x.time 1, v⟩, x.time, x.val) := by
        simp only [refStep]
        rw [if_pos ⟨hx, hto⟩, if_pos ⟨hx, hto⟩, if_pos hto]
      by_cases hd : l ≠ [] ∧ (l.getD 0 default).time = x.time
      · rw [if_pos hd]
        cases l with
        | nil => exact absurd rfl hd.1
        | cons y q =>
          have hy : y.time = x.time := hd.2
          rw [List.foldl_cons, List.foldl_cons, refStep_dup to _ x y hy, ← List.foldl_cons]
          exact run_ref to (y :: q) (some x) o r at_ v hs2 (fun z hz => ha z (List.mem_cons_of_mem _ hz)) hne h
      · rw [if_neg hd, List.foldl_cons, hst]
        refine run_ref to l (some x) _ _ _ _ hs2 (fun z hz => ?_) (addS_ne _ _ _) (add_step o r at_ x.time v x.val hne h)
        cases l with
        | nil => cases hz
        | cons y q =>
          have h1 := srt_ge hs2 y (List.mem_cons_self ..)
          have h2 : y.time ≠ x.time := fun e => hd ⟨by simp, e⟩
          rcases List.mem_cons.1 hz with rfl | hz
          · omega
          · have := srt_ge (srt_tail hs2) z hz; omega
    · rw [if_neg hto, refStep_stop to (x :: l) _ fun z hz => by
        rcases List.mem_cons.1 hz with rfl | hz
        · omega
        · have := srt_ge hs2 z hz; omega]
      exact h to
theorem pre_ref (frm to : Int) (hf : frm ≤ to) : ∀ (l : List Chg) (p : Option Chg) (v : Str), srt p l = true →
    lastTo (runL to (preV frm v l).2 [⟨frm, 0, (preV frm v l).1⟩]) to = addR' (l.foldl (refStep to) ([], frm, v)).1 ⟨(l.foldl (refStep to) ([], frm, v)).2.1, to, (l.foldl (refStep to) ([], frm, v)).2.2⟩
  | [], _, _, _ => rfl
  | x :: l, p, v, hs => by
    simp only [preV]
    by_cases hx : x.time ≤ frm
    · rw [if_pos hx, List.foldl_cons]
      have hst : refStep to ([], frm, v) x = ([], frm, x.val) := by
        simp only [refStep]
        rw [if_neg (by omega), if_neg (by omega), if_pos (by omega)]
      rw [hst]
      exact pre_ref frm to hf l (some x) x.val (srt_tail hs)
    · rw [if_neg hx]
      refine run_ref to (x :: l) p _ [] frm v hs (fun z hz => ?_) (by simp) fun _ => rfl
      rcases List.mem_cons.1 hz with rfl | hz
      · omega
      · have := srt_ge (srt_tail hs) z hz; omega
theorem fcR_rfcR (v : Str) (l : List Chg) (frm to : Int) : fcR v l frm to = rfcR v l frm to := by
  unfold fcR rfcR
  by_cases h : frm ≥ 0 ∧ frm ≤ to ∧ to ≤ 1099511627776
  · rw [if_pos h, if_pos h]
    by_cases hs : srt none l = true
    · rw [if_pos hs, if_pos hs, pre_ref frm to h.2.1 l none v hs]; rfl
    · rw [if_neg hs, if_neg hs]
  · rw [if_neg h, if_neg h]
/-! Chosen spans. -/
def rchE (b : Str) (to : Int) (z : List Sp × Int) : List Sp := bif decide (z.2 ≤ to) then addR' z.1 ⟨z.2, to, b⟩ else z.1
theorem rchE_le (b : Str) (to : Int) (r : List Sp) (at_ : Int) (h : at_ ≤ to) : rchE b to (r, at_) = addR' r ⟨at_, to, b⟩ := by
  show (bif decide (at_ ≤ to) then addR' r ⟨at_, to, b⟩ else r) = _
  rw [decide_eq_true h]; rfl
theorem rchE_gt (b : Str) (to : Int) (r : List Sp) (at_ : Int) (h : ¬ at_ ≤ to) : rchE b to (r, at_) = r := by
  show (bif decide (at_ ≤ to) then addR' r ⟨at_, to, b⟩ else r) = _
  rw [decide_eq_false h]; rfl
theorem choose_fold (a b : Str) (to : Int) (hto : to ≤ 1099511627776) : ∀ (x : List Iv) (at_ : Int) (o r : List Sp), Nm (at_ + 1) x → 0 ≤ at_ → at_ ≤ to → (∀ y ∈ x, y.to ≤ to) → o ≠ [] → (∀ z, lastTo o z = addR' r ⟨at_, z, b⟩) →
    lastTo (x.foldl (chS a b to) o) to = rchE b to (x.foldl (rchS a b) (r, at_))
  | [], at_, o, r, _, _, h1, _, _, h => by
    rw [List.foldl_nil, List.foldl_nil, rchE_le b to r at_ h1, h to]
  | y :: x, at_, o, r, ⟨n1, n2, n3, n4⟩, h0, h1, hb, hne, h => by
    have hy := hb y (List.mem_cons_self ..)
    have s1 := add_step o r at_ y.frm b a hne h
    have e1 : rchS a b (r, at_) y = (addR' (addR' r ⟨at_, subI .i64 y.frm 1, b⟩) ⟨y.frm, y.to, a⟩, y.to + 1) := by
      unfold rchS
      simp only
      rw [decide_eq_true (show y.frm > at_ by omega), add64 (by omega) (by omega)]; rfl
    rw [List.foldl_cons, List.foldl_cons, e1]
    unfold chS
    by_cases hl : y.to < to
    · rw [decide_eq_true hl, add64 (by omega) (by omega)]
      simp only [cond_true]
      have s2 := add_step _ _ y.frm (y.to + 1) a b (addS_ne _ _ _) s1
      rw [sub64 (a := y.to + 1) (by omega) (by omega), show y.to + 1 - 1 = y.to by omega] at s2
      exact choose_fold a b to hto x (y.to + 1) _ _ (by rw [show y.to + 1 + 1 = y.to + 2 by omega]; exact n4) (by omega) (by omega) (fun z hz => hb z (List.mem_cons_of_mem _ hz)) (addS_ne _ _ _) s2
    · have hx : x = [] := by
        cases x with
        | nil => rfl
        | cons z q =>
          have := hb z (by simp)
          have := n4.1
          have := n4.2.1
          omega
      subst hx
      rw [decide_eq_false hl]
      simp only [cond_false, List.foldl_nil]
      rw [rchE_gt _ _ _ _ (by omega), s1 to, show y.to = to by omega]
theorem chR_rchR (l : List Iv) (a b : Str) (frm to : Int) : chR l a b frm to = rchR l a b frm to := by
  unfold chR rchR
  by_cases h : frm ≥ 0 ∧ frm ≤ to ∧ to ≤ 1099511627776
  · rw [if_pos h, if_pos h, iclip_clipR]
    unfold rchW
    obtain ⟨g1, g2⟩ := clipR_spec l frm to
    generalize clipR l frm to = x at g1 g2 ⊢
    have hin : ∀ s, x.any (inP s) = true → frm ≤ s ∧ s ≤ to := fun s hs => by
      rw [g2 s, Bool.and_eq_true] at hs
      have h2 := hs.2
      by_cases hr : 0 ≤ s ∧ s ≤ 1099511627776
      · rw [any_inI hr, List.any_cons, List.any_nil, Bool.or_false, inP_iff] at h2
        exact h2
      · rw [inI_out hr] at h2; cases h2
    have hnm : ∀ {q : List Iv} {lo : Int}, Nm lo q → ∀ y ∈ q, y.frm ≤ y.to := by
      intro q
      induction q with
      | nil => intro lo _ y hy; cases hy
      | cons z q ih =>
        intro lo hn y hy
        rcases List.mem_cons.1 hy with rfl | hy
        · exact hn.2.1
        · exact ih hn.2.2.2 y hy
    have hel : ∀ y ∈ x, frm ≤ y.frm ∧ y.to ≤ to := fun y hy => by
      have hle := hnm g1 y hy
      exact ⟨(hin y.frm (List.any_eq_true.2 ⟨y, hy, inP_iff.2 ⟨Int.le_refl _, hle⟩⟩)).1, (hin y.to (List.any_eq_true.2 ⟨y, hy, inP_iff.2 ⟨hle, Int.le_refl _⟩⟩)).2⟩
    have hfr : x.any (inP frm) = inI l frm := by
      rw [g2 frm, any_inI (l := [⟨frm, to⟩]) ⟨by omega, by omega⟩]
      simp [inP_iff.2 (show (⟨frm, to⟩ : Iv).frm ≤ frm ∧ frm ≤ (⟨frm, to⟩ : Iv).to from ⟨Int.le_refl _, h.2.1⟩)]
    congr 1
    show _ = rchE b to (x.foldl (rchS a b) ([], frm))
    rw [← hfr]
    cases x with
    | nil =>
      simp only [List.any_nil, cond_false]
      exact choose_fold a b to h.2.2 [] frm _ [] trivial (by omega) h.2.1 (by simp) (by simp) fun _ => rfl
    | cons y q =>
      have hy := hel y (List.mem_cons_self ..)
      obtain ⟨n1, n2, n3, n4⟩ := g1
      by_cases hc : y.frm = frm
      · have : (y :: q).any (inP frm) = true := by rw [List.any_cons, inP_iff.2 (by omega)]; rfl
        rw [this]
        simp only [cond_true]
        have e0 : addS [(⟨frm, 0, a⟩ : Sp)] y.frm a = [⟨frm, 0, a⟩] := by
          have := addS_snoc [] ⟨frm, 0, a⟩ y.frm a
          rw [if_pos rfl] at this
          exact this
        have e1 : rchS a b ([], frm) y = ([⟨frm, y.to, a⟩], y.to + 1) := by
          unfold rchS
          simp only
          rw [decide_eq_false (show ¬ y.frm > frm by omega), add64 (by omega) (by omega), hc]; rfl
        rw [List.foldl_cons, List.foldl_cons, e1]
        unfold chS
        rw [e0]
        by_cases hl : y.to < to
        · rw [decide_eq_true hl, add64 (by omega) (by omega)]
          simp only [cond_true]
          have s2 := add_step [⟨frm, 0, a⟩] [] frm (y.to + 1) a b (by simp) fun _ => rfl
          rw [sub64 (a := y.to + 1) (by omega) (by omega), show y.to + 1 - 1 = y.to by omega] at s2
          exact choose_fold a b to h.2.2 q (y.to + 1) _ _ (by rw [show y.to + 1 + 1 = y.to + 2 by omega]; exact n4) (by omega) (by omega) (fun z hz => (hel z (List.mem_cons_of_mem _ hz)).2) (addS_ne _ _ _) s2
        · have hx : q = [] := by
            cases q with
            | nil => rfl
            | cons z q =>
              have := hel z (by simp)
              have := n4.1
              have := n4.2.1
              omega
          subst hx
          rw [decide_eq_false hl]
          simp only [cond_false, List.foldl_nil]
          rw [rchE_gt _ _ _ _ (by omega), show y.to = to by omega]; rfl
      · have : (y :: q).any (inP frm) = false := by
          rw [List.any_cons, inP_ff.2 (by omega), n4.out (by omega)]; rfl
        rw [this]
        simp only [cond_false]
        exact choose_fold a b to h.2.2 (y :: q) frm _ [] ⟨by omega, n2, n3, n4⟩ (by omega) h.2.1 (fun z hz => (hel z hz).2) (by simp) fun _ => rfl
  · rw [if_neg h, if_neg h]
end Go.Proofs.Ytpcbjkjgjoemaaa.S1
/- The law RunsMakes. -/
namespace Go.Proofs.Ytpcbjkjgjoemaaa.S1
open Go Go.Ab Go.Proofs
theorem F3 : OkF 3 Try.f3 := ⟨by kernel_rfl, by kernel_rfl, by kernel_rfl⟩
def lv3 : List (List Nat × List Nat) := [([1, 1, 0, 1, 0], [0, 1, 2, 3, 4, 5, 46, 47, 48])]
noncomputable def nMks  : List Nat → Nat → Option Ans := scrAt [([1, 0, 1, 0, 0], 0, Ans.pure [] (B true))]
theorem nMk (a b : Str) (c : List Chg) (q : List Iv) (frm to : Int) (K : D → Prop) : runS (En Try.f3) (fi Try.f3 K) (nMks ) lv3 200 [.code []] ⟨argSlots 0 [.str a, .str b, L c 2 Chg.d, L q 2 Iv.d, I frm, I to], .empty⟩ =
  (List.length a ≤ strM → ((!decide ((↑(List.length a) : Int) > 130)) = true → List.length b ≤ strM) → ((!bif decide ((↑(List.length a) : Int) > 130) then true else decide ((↑(List.length b) : Int) > 130)) = true → c.length ≤ lenM) → ((!bif bif decide ((↑(List.length a) : Int) > 130) then true else decide ((↑(List.length b) : Int) > 130) then true else decide ((↑c.length : Int) > 40)) = true → q.length ≤ lenM) → bif bif bif bif decide ((↑(List.length a) : Int) > 130) then true else decide ((↑(List.length b) : Int) > 130) then true else decide ((↑c.length : Int) > 40) then true else decide ((↑q.length : Int) > 24) then PureW PP 4 [] [] (B true) ∧ K (B true) else c.length ≤ lenM → At (En Try.f3) (fi Try.f3 K) [It.code [1, 1, 0, 1, 0], It.blk 0, It.code [1, 1, 1]] { sl := [(0, .str a), (1, .str b), (2, L c 2 Chg.d), (3, L q 2 Iv.d), (4, I frm), (5, I to), (46, L c 2 Chg.d), (47, I (↑c.length : Int)), (48, I 0)], h := Heap.empty : St }) := by kernel_rfl
def SMk (a b : Str) (c : List Chg) (q : List Iv) (frm to i : Int) : St := ⟨[(0, .str a), (1, .str b), (2, L c 2 Chg.d), (3, L q 2 Iv.d), (4, I frm), (5, I to), (46, L c 2 Chg.d), (47, I c.length), (48, I i)], .empty⟩
noncomputable def nMkas (a : Str) (b : Str) (c : List Chg) (q : List Iv) (frm : Int) (to : Int) : List Nat → Nat → Option Ans := scrAt [([1, 1, 0, 1, 0, 0, 1, 1, 0, 0, 1, 1, 0, 0], 0, Ans.pure [] (B true)), ([1, 1, 1, 0], 3, Ans.pure [.str a, I frm, I to] (.tup [L (fcR a [] frm to).fst 3 Sp.d, I (fcR a [] frm to).snd])), ([1, 1, 1, 1, 0], 3, Ans.pure [.str a, L [] 2 Chg.d, I frm, I to] (.tup [L (rfcR a [] frm to).fst 3 Sp.d, I (rfcR a [] frm to).snd])), ([1, 1, 1, 1, 1, 0], 4, Ans.pure [.str a, L c 2 Chg.d, I frm, I to] (.tup [L (fcR a c frm to).fst 3 Sp.d, I (fcR a c frm to).snd])), ([1, 1, 1, 1, 1, 1, 0], 4, Ans.pure [.str a, L c 2 Chg.d, I frm, I to] (.tup [L (rfcR a c frm to).fst 3 Sp.d, I (rfcR a c frm to).snd])), ([1, 1, 1, 1, 1, 1, 1, 0], 5, Ans.pure [L q 2 Iv.d, .str a, .str b, I frm, I to] (.tup [L (chR q a b frm to).fst 3 Sp.d, I (chR q a b frm to).snd])), ([1, 1, 1, 1, 1, 1, 1, 1, 0], 5, Ans.pure [L q 2 Iv.d, .str a, .str b, I frm, I to] (.tup [L (rchR q a b frm to).fst 3 Sp.d, I (rchR q a b frm to).snd])), ([1, 1, 1, 1, 1, 1, 1, 1, 1, 0], 6, Ans.pure [L (rfcR a [] frm to).fst 3 Sp.d, L (rfcR a [] frm to).fst 3 Sp.d] (B true)), ([1, 1, 1, 1, 1, 1, 1, 1, 1, 0], 16, Ans.pure [L (rfcR a c frm to).fst 3 Sp.d, L (rfcR a c frm to).fst 3 Sp.d] (B true)), ([1, 1, 1, 1, 1, 1, 1, 1, 1, 0], 26, Ans.pure [L (rchR q a b frm to).fst 3 Sp.d, L (rchR q a b frm to).fst 3 Sp.d] (B true)), ([1, 1, 1, 1, 1, 1, 1, 1, 1, 0], 29, Ans.pure [] (B true))]
theorem nMka (a b : Str) (c : List Chg) (q : List Iv) (frm to i : Int) (J : St → Prop) (K : D → Prop) : runS (En Try.f3) (fi Try.f3 K) (nMkas a b c q frm to) lv3 200 [.code [1, 1, 0, 1, 0, 0], stp [0, 1, 2, 3, 4, 5, 46, 47, 48] J, .blk 0, .code [1, 1, 1]] (SMk a b c q frm to i) =
  (bif decide (i < (↑c.length : Int)) then (0 ≤ i ∧ i < (↑c.length : Int)) ∧ True ∧ ((c.getD i.toNat default).val.length ≤ strM → bif decide ((↑(c.getD i.toNat default).val.length : Int) > 130) then PureW PP 4 [] [] (B true) ∧ K (B true) else J { sl := [(0, .str a), (1, .str b), (2, L c 2 Chg.d), (3, L q 2 Iv.d), (4, I frm), (5, I to), (46, L c 2 Chg.d), (47, I (↑c.length : Int)), (48, I (addI .i64 i 1))], h := Heap.empty : St })
 else
  PureW PP 5 [.str a, I frm, I to] [.str a, I frm, I to] (.tup [L (fcR a [] frm to).fst 3 Sp.d, I (fcR a [] frm to).snd]) ∧
    PureW PP 6 [.str a, .list 0 0 (fun _ => D.junk) .full, I frm, I to] [.str a, L [] 2 Chg.d, I frm, I to] (.tup [L (rfcR a [] frm to).fst 3 Sp.d, I (rfcR a [] frm to).snd]) ∧
      PureW PP 7 [.str a, L c 2 Chg.d, I frm, I to] [.str a, L c 2 Chg.d, I frm, I to] (.tup [L (fcR a c frm to).fst 3 Sp.d, I (fcR a c frm to).snd]) ∧
        PureW PP 6 [.str a, L c 2 Chg.d, I frm, I to] [.str a, L c 2 Chg.d, I frm, I to] (.tup [L (rfcR a c frm to).fst 3 Sp.d, I (rfcR a c frm to).snd]) ∧
          PureW PP 8 [L q 2 Iv.d, .str a, .str b, I frm, I to] [L q 2 Iv.d, .str a, .str b, I frm, I to] (.tup [L (chR q a b frm to).fst 3 Sp.d, I (chR q a b frm to).snd]) ∧ PureW PP 9 [L q 2 Iv.d, .str a, .str b, I frm, I to] [L q 2 Iv.d, .str a, .str b, I frm, I to] (.tup [L (rchR q a b frm to).fst 3 Sp.d, I (rchR q a b frm to).snd]) ∧ (((fcR a [] frm to).snd == (rfcR a [] frm to).snd) = true → PureW PP 10 [L (rfcR a [] frm to).fst 3 Sp.d, L (rfcR a [] frm to).fst 3 Sp.d] [L (rfcR a [] frm to).fst 3 Sp.d, L (rfcR a [] frm to).fst 3 Sp.d] (B true)) ∧ ((bif bif (fcR a [] frm to).snd == (rfcR a [] frm to).snd then true else false then (fcR a c frm to).snd == (rfcR a c frm to).snd else false) = true → PureW PP 10 [L (fcR a c frm to).fst 3 Sp.d, L (rfcR a c frm to).fst 3 Sp.d] [L (rfcR a c frm to).fst 3 Sp.d, L (rfcR a c frm to).fst 3 Sp.d] (B true)) ∧ ((bif bif bif bif (fcR a [] frm to).snd == (rfcR a [] frm to).snd then true else false then (fcR a c frm to).snd == (rfcR a c frm to).snd else false then true else false then (chR q a b frm to).snd == (rchR q a b frm to).snd else false) = true → PureW PP 10 [L (chR q a b frm to).fst 3 Sp.d, L (rchR q a b frm to).fst 3 Sp.d] [L (rchR q a b frm to).fst 3 Sp.d, L (rchR q a b frm to).fst 3 Sp.d] (B true)) ∧ ((bif bif bif bif bif (fcR a [] frm to).snd == (rfcR a [] frm to).snd then true else false then (fcR a c frm to).snd == (rfcR a c frm to).snd else false then true else false then (chR q a b frm to).snd == (rchR q a b frm to).snd else false then true else false) = true → PureW PP 4 [] [] (B true)) ∧ K (B (bif bif bif bif bif bif (fcR a [] frm to).snd == (rfcR a [] frm to).snd then true else false then (fcR a c frm to).snd == (rfcR a c frm to).snd else false then true else false then (chR q a b frm to).snd == (rchR q a b frm to).snd else false then true else false then true else false))) := by kernel_rfl
theorem c3 (a b : Str) (c : List Chg) (q : List Iv) (frm to : Int) : Pure PP 3 [.str a, .str b, L c 2 Chg.d, L q 2 Iv.d, I frm, I to] (B true) := by
  refine pu F3 (by kernel_rfl) (of_eq (nMk a b c q frm to _) fun _ _ _ _ => cond_intro (fun _ => ⟨PureW.mk c4, Wk.refl _⟩) fun h hlc => ?_)
  have hb : c.length ≤ 40 ∧ q.length ≤ 24 := by
    simp only [Bool.cond_true_left, Bool.or_eq_false_iff, decide_eq_false_iff_not] at h
    omega
  refine lp (fn := Try.f3) (fun i : Nat => i ≤ c.length) (fun i => SMk a b c q frm to i) (fun i => c.length - i) [0, 1, 2, 3, 4, 5, 46, 47, 48] (by kernel_rfl) (fun i hi => of_eq (nMka a b c q frm to i _ _) (cond_intro (fun hlt => ?_) fun _ => ?_)) 0 (Nat.zero_le _)
  · have hlt := ltI hlt
    rw [add1 hlt hlc]
    exact ⟨⟨by omega, by omega⟩, trivial, fun _ => cond_intro (fun _ => ⟨PureW.mk c4, Wk.refl _⟩) fun _ => Nx.mk (i + 1) (by omega) (by omega)⟩
  · rw [fcR_rfcR, fcR_rfcR, chR_rchR]
    have h1 := c5 a frm to
    rw [fcR_rfcR] at h1
    have h2 := c7 a c frm to (by omega)
    rw [fcR_rfcR] at h2
    have h3 := c8 q a b frm to (by omega)
    rw [chR_rchR] at h3
    refine ⟨PureW.mk h1, ⟨Wks.cons (Wk.refl _) (Wks.cons Wk.nilL (Wks.refl _)), c6 a [] frm to (by simp)⟩, PureW.mk h2, PureW.mk (c6 a c frm to (by omega)), PureW.mk h3, PureW.mk (c9 q a b frm to (by omega)), fun _ => PureW.mk (c10 _), fun _ => PureW.mk (c10 _), fun _ => PureW.mk (c10 _), fun _ => PureW.mk c4, ?_⟩
    simp only [beq_self_eq_true, cond_true]
    exact Wk.refl _
end Go.Proofs.Ytpcbjkjgjoemaaa.S1
