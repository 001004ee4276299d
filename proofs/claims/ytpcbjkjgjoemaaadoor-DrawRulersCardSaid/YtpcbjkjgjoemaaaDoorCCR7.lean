/- Rulers: the code's parts. -/
import Derived.Test.YtpcbjkjgjoemaaaDoorCCR6
import Derived.Shelf.Strconv.Itoa4
import Derived.Lib.AppendIntMem
import Derived.Lib.ItoaLen
import Derived.Test.YtpcbjkjgjoemaaaDoorRows
import Derived.LaidSub
import Derived.MakeChecks
import Derived.Lib.LaidTab
namespace Go.Proofs.YtpcbjkjgjoemaaaDoor.S1
open Go Go.Ab Go.Proofs
/-- At a block's head. -/
theorem at_blk [Lay] {E : Env} (hmix : E.P.follows .mixedOrders = true) {fin : St → Prop} {p : List Nat} {td : List It} {st : St} {c : Code} {i : Nat} (hs : sub E.root p = some (.block i c)) (h : At E fin (.code (p ++ [0]) :: .blk i :: td) st) : At E fin (.code p :: td) st :=
  at_run hmix (n := 1) (by simp only [run, hs]; exact h)
/-- A stop put between two parts; l: the slots that count there. -/
theorem at_cutK [Lay] {E : Env} {fin : St → Prop} (l : List Nat) {p q : List Nat} {td : List It} {st : St} {J : St → Prop} (h : At E fin (.code p :: stp l J :: td) st) (hJ : ∀ z, J z → At E fin (.code q :: td) z) : At E fin (.code p :: .code q :: td) st := by
  obtain ⟨c, hc, hw⟩ := h.it
  refine ⟨c, hc, hw.mono fun e z hz => ?_⟩
  cases e with
  | normal => exact (at_le (hJ _ hz) (keepSt_le _ l z)).it
  | ret => exact hz
  | exit i => exact hz
theorem F17 : OkF 17 Tryd.f17 := ⟨by kernel_rfl, by kernel_rfl, by kernel_rfl⟩
def lv17 : List (List Nat × List Nat) := [([1, 1, 1, 1, 1, 0, 1, 0], [0, 1, 2, 8, 9, 10])]
noncomputable def nRrs (a : Int) (st : Int) (co : Int) : List Nat → Nat → Option Ans := scrAt [([1, 0, 0], 9, Ans.pure [I st, I co] (B (szB st co))), ([1, 1, 0], 6, Ans.pure [I (addI .i64 a (mulI .i64 (subI .i64 co 1) st))] (.str (Lib.decDigits (addI .i64 a (mulI .i64 (subI .i64 co 1) st)).toNat)))]
theorem nRr [Lay] (a st co : Int) (K : D → Prop) : runS (En Tryd.f17) (fi Tryd.f17 K) (nRrs a st co) lv17 200 [.code []] ⟨argSlots 0 [I a, I st, I co], .empty⟩ =
  (((!bif decide (a < 0) then true else decide (a > 1099511627776)) = true → PureW PP 47 [I st, I co] [I st, I co] (B (szB st co))) ∧ bif bif bif decide (a < 0) then true else decide (a > 1099511627776) then true else !szB st co then K (.str { data := #[] : ByteArray }.data.toList) else PureW PP 48 [I (addI .i64 a (mulI .i64 (subI .i64 co 1) st))] [I (addI .i64 a (mulI .i64 (subI .i64 co 1) st))] (.str (Lib.decDigits (addI .i64 a (mulI .i64 (subI .i64 co 1) st)).toNat)) ∧ ((Lib.decDigits (addI .i64 a (mulI .i64 (subI .i64 co 1) st)).toNat).length ≤ strM → (10 : Int) ≠ 0 ∧ At (En Tryd.f17) (fi Tryd.f17 K) [It.code [1, 1, 1, 1, 1, 0, 1, 0], It.blk 0, It.code [1, 1, 1, 1, 1, 1]] { sl := [(0, I a), (1, I st), (2, I co), (8, I (mulI .i64 (addI .i64 (quoI .i64 (↑(Lib.decDigits (addI .i64 a (mulI .i64 (subI .i64 co 1) st)).toNat).length : Int) 10) 1) 10)), (9, .str { data := #[] : ByteArray }.data.toList), (10, I 0)], h := Heap.empty : St })) := by kernel_rfl
def SRr (a st co ev j : Int) (es : Str) : St := ⟨[(0, I a), (1, I st), (2, I co), (8, I ev), (9, .str es), (10, I j)], .empty⟩
def SRs (a st co ev j : Int) (es q : Str) : St := ⟨[(0, I a), (1, I st), (2, I co), (8, I ev), (9, .str es), (10, I j), (11, .str q)], .empty⟩
noncomputable def nRrAs  : List Nat → Nat → Option Ans := scrAt []
theorem nRrA [Lay] (a st co ev j : Int) (es : Str) (J J2 : St → Prop) (K : D → Prop) : runS (En Tryd.f17) (fi Tryd.f17 K) (nRrAs ) lv17 200 [.code [1, 1, 1, 1, 1, 0, 1, 0, 0, 0], stp [0, 1, 2, 8, 9, 10] J, stp [0, 1, 2, 8, 9, 10] J2, .blk 0, .code [1, 1, 1, 1, 1, 1]] (SRr a st co ev j es) =
  (bif decide (j < co) then J { sl := [(0, I a), (1, I st), (2, I co), (8, I ev), (9, .str es), (10, I j)], h := Heap.empty : St } else K (.str es)) := by kernel_rfl
noncomputable def nRrBs (a : Int) (st : Int) (j : Int) : List Nat → Nat → Option Ans := scrAt [([1, 1, 1, 1, 1, 0, 1, 0, 0, 1, 0, 0, 0], 5, Ans.pure [I (addI .i64 a (mulI .i64 j st))] (.str (Lib.decDigits (addI .i64 a (mulI .i64 j st)).toNat)))]
theorem nRrB [Lay] (a st co ev j : Int) (es : Str) (J J2 : St → Prop) (K : D → Prop) : runS (En Tryd.f17) (fi Tryd.f17 K) (nRrBs a st j) lv17 200 [.code [1, 1, 1, 1, 1, 0, 1, 0, 0, 1, 0, 0, 0], stp [0, 1, 2, 8, 9, 10, 11] J, .blk 1, .code [1, 1, 1, 1, 1, 0, 1, 0, 0, 1, 1], stp [0, 1, 2, 8, 9, 10] J2, .blk 0, .code [1, 1, 1, 1, 1, 1]] (SRr a st co ev j es) =
  (PureW PP 48 [I (addI .i64 a (mulI .i64 j st))] [I (addI .i64 a (mulI .i64 j st))] (.str (Lib.decDigits (addI .i64 a (mulI .i64 j st)).toNat)) ∧ J { sl := [(0, I a), (1, I st), (2, I co), (8, I ev), (9, .str es), (10, I j), (11, .str (Lib.decDigits (addI .i64 a (mulI .i64 j st)).toNat))], h := Heap.empty : St }) := by kernel_rfl
noncomputable def nRrCs  : List Nat → Nat → Option Ans := scrAt []
theorem nRrC [Lay] (a st co ev j : Int) (es : Str) (q : Str) (J J2 : St → Prop) (K : D → Prop) : runS (En Tryd.f17) (fi Tryd.f17 K) (nRrCs ) lv17 200 [.code [1, 1, 1, 1, 1, 0, 1, 0, 0, 1, 0, 0, 1, 0], stp [0, 1, 2, 8, 9, 10, 11] J, .blk 1, .code [1, 1, 1, 1, 1, 0, 1, 0, 0, 1, 1], stp [0, 1, 2, 8, 9, 10] J2, .blk 0, .code [1, 1, 1, 1, 1, 1]] (SRs a st co ev j es q) =
  (List.length q ≤ strM → bif decide (addI .i64 j (↑(List.length q) : Int) > co) then J { sl := [(0, I a), (1, I st), (2, I co), (8, I ev), (9, .str es), (10, I j), (11, .str { data := #[] : ByteArray }.data.toList)], h := Heap.empty : St } else J { sl := [(0, I a), (1, I st), (2, I co), (8, I ev), (9, .str es), (10, I j), (11, .str q)], h := Heap.empty : St }) := by kernel_rfl
noncomputable def nRrDs (ev : Int) (q : Str) : List Nat → Nat → Option Ans := scrAt [([1, 1, 1, 1, 1, 0, 1, 0, 0, 1, 0, 0, 1, 1, 0], 5, Ans.pure [I (subI .i64 ev (↑(List.length q) : Int))] (.str (blk (subI .i64 ev (↑(List.length q) : Int)).toNat)))]
theorem nRrD [Lay] (a st co ev j : Int) (es : Str) (q : Str) (J2 : St → Prop) (K : D → Prop) : runS (En Tryd.f17) (fi Tryd.f17 K) (nRrDs ev q) lv17 200 [.code [1, 1, 1, 1, 1, 0, 1, 0, 0, 1, 0, 0, 1, 1], .blk 1, .code [1, 1, 1, 1, 1, 0, 1, 0, 0, 1, 1], stp [0, 1, 2, 8, 9, 10] J2, .blk 0, .code [1, 1, 1, 1, 1, 1]] (SRs a st co ev j es q) =
  (List.length q ≤ strM → PureW PP 49 [I (subI .i64 ev (↑(List.length q) : Int))] [I (subI .i64 ev (↑(List.length q) : Int))] (.str (blk (subI .i64 ev (↑(List.length q) : Int)).toNat)) ∧ List.length q + List.length (blk (subI .i64 ev (↑(List.length q) : Int)).toNat) ≤ strM ∧ ((0 : Int) ≤ 0 ∧ (0 ≤ if subI .i64 co j < ev then subI .i64 co j else ev) ∧ (if subI .i64 co j < ev then subI .i64 co j else ev) ≤ (↑(q ++ blk (subI .i64 ev (↑(List.length q) : Int)).toNat).length : Int)) ∧ List.length es + (List.drop 0 (List.take (if subI .i64 co j < ev then subI .i64 co j else ev).toNat (q ++ blk (subI .i64 ev (↑(List.length q) : Int)).toNat))).length ≤ strM ∧ J2 { sl := [(0, I a), (1, I st), (2, I co), (8, I ev), (9, .str (es ++ List.drop 0 (List.take (if subI .i64 co j < ev then subI .i64 co j else ev).toNat (q ++ blk (subI .i64 ev (↑(List.length q) : Int)).toNat)))), (10, I (addI .i64 j ev))], h := Heap.empty : St }) := by kernel_rfl
theorem F16 : OkF 16 Tryd.f16 := ⟨by kernel_rfl, by kernel_rfl, by kernel_rfl⟩
def lv16 : List (List Nat × List Nat) := [([1, 1, 1, 1, 1, 0, 1, 0], [0, 1, 2, 8, 9, 10])]
noncomputable def nRus (a : Int) (st : Int) (co : Int) : List Nat → Nat → Option Ans := scrAt [([1, 0, 0], 9, Ans.pure [I st, I co] (B (szB st co))), ([1, 1, 0], 6, Ans.pure [I (addI .i64 a (mulI .i64 (subI .i64 co 1) st))] (.str (Lib.itoa (addI .i64 a (mulI .i64 (subI .i64 co 1) st)))))]
theorem nRu [Lay] (a st co : Int) (K : D → Heap → Prop) : runS (EnX [9] Tryd.f16) (fh Tryd.f16 K) (nRus a st co) lv16 200 [.code []] ⟨argSlots 0 [I a, I st, I co], .empty⟩ =
  (((!bif decide (a < 0) then true else decide (a > 1099511627776)) = true → PureW PP 44 [I st, I co] [I st, I co] (B (szB st co))) ∧ bif bif bif decide (a < 0) then true else decide (a > 1099511627776) then true else !szB st co then K (.str { data := #[] : ByteArray }.data.toList) Heap.empty else PureW PP 45 [I (addI .i64 a (mulI .i64 (subI .i64 co 1) st))] [I (addI .i64 a (mulI .i64 (subI .i64 co 1) st))] (.str (Lib.itoa (addI .i64 a (mulI .i64 (subI .i64 co 1) st)))) ∧ ((Lib.itoa (addI .i64 a (mulI .i64 (subI .i64 co 1) st))).length ≤ strM → (10 : Int) ≠ 0 ∧ True ∧ At (EnX [9] Tryd.f16) (fh Tryd.f16 K) [It.code [1, 1, 1, 1, 1, 0, 1, 0], It.blk 0, It.code [1, 1, 1, 1, 1, 1]] { sl := [(0, I a), (1, I st), (2, I co), (8, I (mulI .i64 (addI .i64 (quoI .i64 (↑(Lib.itoa (addI .i64 a (mulI .i64 (subI .i64 co 1) st))).length : Int) 10) 1) 10)), (9, D.bp 0 0), (10, I 0)], h := { box := upd (fun _ => none) 0 (some (Row.litT 57 [D.nilp, .list 0 0 (fun _ => D.junk) .full])), nl := 1, hw := fun _ => none, nt := 0, vw := fun _ => none : Heap } : St })) := by kernel_rfl
def SRu (a st co ev j : Int) (p : D) (es : Str) : St := ⟨[(0, I a), (1, I st), (2, I co), (8, I ev), (9, .bp 0 0), (10, I j)], hSb p es⟩
def SRv (a st co ev j : Int) (p : D) (es q : Str) : St := ⟨[(0, I a), (1, I st), (2, I co), (8, I ev), (9, .bp 0 0), (10, I j), (11, .str q)], hSb p es⟩
noncomputable def nRuAs (es : Str) : List Nat → Nat → Option Ans := scrAt [([1, 1, 1, 1, 1, 1, 0], 0, Ans.eff (.str es) h11)]
theorem nRuA [Lay] (a st co ev j : Int) (p : D) (es : Str) (J J2 : St → Prop) (K : D → Heap → Prop) : runS (EnX [9] Tryd.f16) (fh Tryd.f16 K) (nRuAs es) lv16 200 [.code [1, 1, 1, 1, 1, 0, 1, 0, 0, 0], stp [0, 1, 2, 8, 9, 10] J, stp [0, 1, 2, 8, 9, 10] J2, .blk 0, .code [1, 1, 1, 1, 1, 1]] (SRu a st co ev j p es) =
  (bif decide (j < co) then J { sl := [(0, I a), (1, I st), (2, I co), (8, I ev), (9, D.bp 0 0), (10, I j)], h := { box := upd (fun _ => none) 0 (some (Row.litT TB [p, D.bv TU 0 (List.length es)])), nl := 1, hw := upd (fun _ => none) 0 (some (List.length es)), nt := 1, vw := upd (fun _ => none) 0 (some (cv es encB)) : Heap } : St } else Does PP 23 [D.bp 0 0] { box := upd (fun _ => none) 0 (some (Row.litT TB [p, D.bv TU 0 (List.length es)])), nl := 1, hw := upd (fun _ => none) 0 (some (List.length es)), nt := 1, vw := upd (fun _ => none) 0 (some (cv es encB)) : Heap } (.str es) h11 ∧ K (.str es) { box := fun _ => none, nl := 1, hw := fun _ => none, nt := 1, vw := fun _ => none : Heap }) := by kernel_rfl
noncomputable def nRuBs (a : Int) (st : Int) (j : Int) : List Nat → Nat → Option Ans := scrAt [([1, 1, 1, 1, 1, 0, 1, 0, 0, 1, 0, 0, 0], 5, Ans.pure [I (addI .i64 a (mulI .i64 j st))] (.str (Lib.itoa (addI .i64 a (mulI .i64 j st)))))]
theorem nRuB [Lay] (a st co ev j : Int) (p : D) (es : Str) (J J2 : St → Prop) (K : D → Heap → Prop) : runS (EnX [9] Tryd.f16) (fh Tryd.f16 K) (nRuBs a st j) lv16 200 [.code [1, 1, 1, 1, 1, 0, 1, 0, 0, 1, 0, 0, 0], stp [0, 1, 2, 8, 9, 10, 11] J, .blk 1, .code [1, 1, 1, 1, 1, 0, 1, 0, 0, 1, 1], stp [0, 1, 2, 8, 9, 10] J2, .blk 0, .code [1, 1, 1, 1, 1, 1]] (SRu a st co ev j p es) =
  (PureW PP 45 [I (addI .i64 a (mulI .i64 j st))] [I (addI .i64 a (mulI .i64 j st))] (.str (Lib.itoa (addI .i64 a (mulI .i64 j st)))) ∧ J { sl := [(0, I a), (1, I st), (2, I co), (8, I ev), (9, D.bp 0 0), (10, I j), (11, .str (Lib.itoa (addI .i64 a (mulI .i64 j st))))], h := { box := upd (fun _ => none) 0 (some (Row.litT TB [p, D.bv TU 0 (List.length es)])), nl := 1, hw := upd (fun _ => none) 0 (some (List.length es)), nt := 1, vw := upd (fun _ => none) 0 (some (cv es encB)) : Heap } : St }) := by kernel_rfl
noncomputable def nRuCs  : List Nat → Nat → Option Ans := scrAt []
theorem nRuC [Lay] (a st co ev j : Int) (p : D) (es : Str) (q : Str) (J J2 : St → Prop) (K : D → Heap → Prop) : runS (EnX [9] Tryd.f16) (fh Tryd.f16 K) (nRuCs ) lv16 200 [.code [1, 1, 1, 1, 1, 0, 1, 0, 0, 1, 0, 0, 1, 0], stp [0, 1, 2, 8, 9, 10, 11] J, .blk 1, .code [1, 1, 1, 1, 1, 0, 1, 0, 0, 1, 1], stp [0, 1, 2, 8, 9, 10] J2, .blk 0, .code [1, 1, 1, 1, 1, 1]] (SRv a st co ev j p es q) =
  (List.length q ≤ strM → bif decide ((↑(List.length q) : Int) > subI .i64 co j) then J { sl := [(0, I a), (1, I st), (2, I co), (8, I ev), (9, D.bp 0 0), (10, I j), (11, .str { data := #[] : ByteArray }.data.toList)], h := { box := upd (fun _ => none) 0 (some (Row.litT TB [p, D.bv TU 0 (List.length es)])), nl := 1, hw := upd (fun _ => none) 0 (some (List.length es)), nt := 1, vw := upd (fun _ => none) 0 (some (cv es encB)) : Heap } : St } else J { sl := [(0, I a), (1, I st), (2, I co), (8, I ev), (9, D.bp 0 0), (10, I j), (11, .str q)], h := { box := upd (fun _ => none) 0 (some (Row.litT TB [p, D.bv TU 0 (List.length es)])), nl := 1, hw := upd (fun _ => none) 0 (some (List.length es)), nt := 1, vw := upd (fun _ => none) 0 (some (cv es encB)) : Heap } : St }) := by kernel_rfl
noncomputable def nRuDs (co : Int) (ev : Int) (j : Int) (es : Str) (q : Str) : List Nat → Nat → Option Ans := scrAt [([1, 1, 1, 1, 1, 0, 1, 0, 0, 1, 0, 0, 1, 1], 9, Ans.pure [.str { data := #[32] : ByteArray }.data.toList, I (subI .i64 (if subI .i64 co j < ev then subI .i64 co j else ev) (↑(List.length q) : Int))] (.str (Lib.repeatL { data := #[32] : ByteArray }.data.toList (subI .i64 (if subI .i64 co j < ev then subI .i64 co j else ev) (↑(List.length q) : Int)).toNat))), ([1, 1, 1, 1, 1, 0, 1, 0, 0, 1, 0, 0, 1, 1], 11, Ans.eff (.tup [I (↑(q ++ Lib.repeatL { data := #[32] : ByteArray }.data.toList (subI .i64 (if subI .i64 co j < ev then subI .i64 co j else ev) (↑(List.length q) : Int)).toNat).length : Int), D.nili]) (hSb (D.bp 0 0) (es ++ (q ++ Lib.repeatL { data := #[32] : ByteArray }.data.toList (subI .i64 (if subI .i64 co j < ev then subI .i64 co j else ev) (↑(List.length q) : Int)).toNat))))]
theorem nRuD [Lay] (a st co ev j : Int) (p : D) (es : Str) (q : Str) (J2 : St → Prop) (K : D → Heap → Prop) : runS (EnX [9] Tryd.f16) (fh Tryd.f16 K) (nRuDs co ev j es q) lv16 200 [.code [1, 1, 1, 1, 1, 0, 1, 0, 0, 1, 0, 0, 1, 1], .blk 1, .code [1, 1, 1, 1, 1, 0, 1, 0, 0, 1, 1], stp [0, 1, 2, 8, 9, 10] J2, .blk 0, .code [1, 1, 1, 1, 1, 1]] (SRv a st co ev j p es q) =
  (List.length q ≤ strM →
  PureW PP 39 [.str { data := #[32] : ByteArray }.data.toList, I (subI .i64 (if subI .i64 co j < ev then subI .i64 co j else ev) (↑(List.length q) : Int))] [.str { data := #[32] : ByteArray }.data.toList, I (subI .i64 (if subI .i64 co j < ev then subI .i64 co j else ev) (↑(List.length q) : Int))] (.str (Lib.repeatL { data := #[32] : ByteArray }.data.toList (subI .i64 (if subI .i64 co j < ev then subI .i64 co j else ev) (↑(List.length q) : Int)).toNat)) ∧
    List.length q + (Lib.repeatL { data := #[32] : ByteArray }.data.toList (subI .i64 (if subI .i64 co j < ev then subI .i64 co j else ev) (↑(List.length q) : Int)).toNat).length ≤ strM ∧
      Does PP 46 [D.bp 0 0, .str (q ++ Lib.repeatL { data := #[32] : ByteArray }.data.toList (subI .i64 (if subI .i64 co j < ev then subI .i64 co j else ev) (↑(List.length q) : Int)).toNat)] { box := upd (fun _ => none) 0 (some (Row.litT TB [p, D.bv TU 0 (List.length es)])), nl := 1, hw := upd (fun _ => none) 0 (some (List.length es)), nt := 1, vw := upd (fun _ => none) 0 (some (cv es encB)) : Heap } (.tup [I (↑(q ++ Lib.repeatL { data := #[32] : ByteArray }.data.toList (subI .i64 (if subI .i64 co j < ev then subI .i64 co j else ev) (↑(List.length q) : Int)).toNat).length : Int), D.nili]) (hSb (D.bp 0 0) (es ++ (q ++ Lib.repeatL { data := #[32] : ByteArray }.data.toList (subI .i64 (if subI .i64 co j < ev then subI .i64 co j else ev) (↑(List.length q) : Int)).toNat))) ∧ J2 { sl := [(0, I a), (1, I st), (2, I co), (8, I ev), (9, D.bp 0 0), (10, I (addI .i64 j ev))], h := { box := upd (fun _ => none) 0 (some (Row.litT TB [D.bp 0 0, D.bv TU 0 (List.length (es ++ (q ++ Lib.repeatL { data := #[32] : ByteArray }.data.toList (subI .i64 (if subI .i64 co j < ev then subI .i64 co j else ev) (↑(List.length q) : Int)).toNat)))])), nl := 1, hw := upd (fun _ => none) 0 (some (List.length (es ++ (q ++ Lib.repeatL { data := #[32] : ByteArray }.data.toList (subI .i64 (if subI .i64 co j < ev then subI .i64 co j else ev) (↑(List.length q) : Int)).toNat)))), nt := 1, vw := upd (fun _ => none) 0 (some (cv (es ++ (q ++ Lib.repeatL { data := #[32] : ByteArray }.data.toList (subI .i64 (if subI .i64 co j < ev then subI .i64 co j else ev) (↑(List.length q) : Int)).toNat)) encB)) : Heap } : St }) := by kernel_rfl
end Go.Proofs.YtpcbjkjgjoemaaaDoor.S1
/- Rulers: the plain form, and the reference's. -/
namespace Go.Proofs.YtpcbjkjgjoemaaaDoor.S1
open Go Go.Ab Go.Proofs
def isSeq : Option Code → Bool | some (.seq _ _) => true | _ => false
def isBlk : Option Code → Bool | some (.block i _) => Nat.beq i 1 | _ => false
theorem isSeq_ex {o : Option Code} (h : isSeq o = true) : ∃ a b, o = some (.seq a b) := by
  unfold isSeq at h
  split at h
  · exact ⟨_, _, rfl⟩
  · cases h
theorem isBlk_ex {o : Option Code} (h : isBlk o = true) : ∃ c, o = some (.block 1 c) := by
  unfold isBlk at h
  split at h
  · rw [Nat.eq_of_beq_eq_true h]; exact ⟨_, rfl⟩
  · cases h
/-- A loop; the round is shown place by place. -/
theorem lpK [Lay] {fn : Func} {cfg : Cfg} {fin : St → Prop} {α : Type} (I : α → Prop) (S : α → St) (μ : α → Nat) (l : List Nat) {p : List Nat} {td : List It} (hs : isLoop (sub (EnC cfg fn).root p) = true)
    (hr : ∀ x, I x → At (EnC cfg fn) fin (.code (p ++ [0]) :: stp l (Nx (EnC cfg fn).nt I S μ (μ x)) :: td) (S x)) (x : α) (hx : I x) : At (EnC cfg fn) fin (.code p :: td) (S x) := by
  have : ∃ c, sub (EnC cfg fn).root p = some (.loop c) := by
    unfold isLoop at hs
    split at hs
    · rename_i c h; exact ⟨c, h⟩
    · cases hs
  obtain ⟨c, hc⟩ := this
  exact at_loopK I S μ l hc hr x hx
/-- A round whose body is a test and a block of three parts, the second of which joins two ways. -/
theorem at_split [Lay] {E : Env} {fin : St → Prop} (hmix : E.P.follows .mixedOrders = true) (L : List Nat) {td : List It} {st : St} (la lb : List Nat) (J1 J2 J3 : St → Prop)
    (h0 : isSeq (sub E.root (L ++ [0])) = true) (h1 : isSeq (sub E.root (L ++ [0, 1])) = true) (hb : isBlk (sub E.root (L ++ [0, 1, 0])) = true) (h2 : isSeq (sub E.root (L ++ [0, 1, 0, 0])) = true) (h3 : isSeq (sub E.root (L ++ [0, 1, 0, 0, 1])) = true)
    (hA : At E fin (.code (L ++ [0, 0]) :: stp la J1 :: td) st)
    (hB : ∀ z, J1 z → At E fin (.code (L ++ [0, 1, 0, 0, 0]) :: stp lb J2 :: .blk 1 :: .code (L ++ [0, 1, 1]) :: td) z)
    (hC : ∀ z, J2 z → At E fin (.code (L ++ [0, 1, 0, 0, 1, 0]) :: stp lb J3 :: .blk 1 :: .code (L ++ [0, 1, 1]) :: td) z)
    (hD : ∀ z, J3 z → At E fin (.code (L ++ [0, 1, 0, 0, 1, 1]) :: .blk 1 :: .code (L ++ [0, 1, 1]) :: td) z) : At E fin (.code (L ++ [0]) :: td) st := by
  obtain ⟨_, _, h0⟩ := isSeq_ex h0
  obtain ⟨_, _, h1⟩ := isSeq_ex h1
  obtain ⟨_, hb⟩ := isBlk_ex hb
  obtain ⟨_, _, h2⟩ := isSeq_ex h2
  obtain ⟨_, _, h3⟩ := isSeq_ex h3
  refine at_seq hmix h0 ?_
  simp only [List.append_assoc, List.cons_append, List.nil_append]
  refine at_cutK la hA fun z hz => at_seq hmix h1 ?_
  simp only [List.append_assoc, List.cons_append, List.nil_append]
  refine at_blk hmix hb ?_
  simp only [List.append_assoc, List.cons_append, List.nil_append]
  refine at_seq hmix h2 ?_
  simp only [List.append_assoc, List.cons_append, List.nil_append]
  refine at_cutK lb (hB z hz) fun z hz => at_seq hmix h3 ?_
  simp only [List.append_assoc, List.cons_append, List.nil_append]
  exact at_cutK lb (hC z hz) hD
def pcR (a st co ev j : Nat) : Str :=
  let q := if co < j + (Lib.decDigits (a + j * st)).length then [] else Lib.decDigits (a + j * st)
  q ++ blk (min ev (co - j) - q.length)
def rulF (a st co ev : Nat) : Nat → Nat → Str
  | 0, _ => []
  | f + 1, j => if j < co then pcR a st co ev j ++ rulF a st co ev f (j + ev) else []
def evR (a st co : Nat) : Nat := ((Lib.decDigits (a + (co - 1) * st)).length / 10 + 1) * 10
def rulI (a st co : Int) : Str := if a < 0 ∨ a > 1099511627776 ∨ szB st co = false then [] else rulF a.toNat st.toNat co.toNat (evR a.toNat st.toNat co.toNat) co.toNat 0
theorem nDig_mono (u : Nat) : ∀ v, u ≤ v → Lib.nDigits u ≤ Lib.nDigits v := by
  induction u using Nat.strongRecOn with
  | _ u ih =>
    intro v h
    by_cases h1 : u < 10
    · rw [Lib.nDigits_small h1]; exact Lib.nDigits_pos v
    · rw [Lib.nDigits_big h1, Lib.nDigits_big (u := v) (by omega)]
      have := ih (u / 10) (by omega) (v / 10) (by omega)
      omega
theorem digs_le {a st co j : Nat} (hj : j < co) : (Lib.decDigits (a + j * st)).length ≤ evR a st co := by
  unfold evR
  have h1 : j * st ≤ (co - 1) * st := Nat.mul_le_mul_right _ (by omega)
  have h2 := nDig_mono (a + j * st) (a + (co - 1) * st) (by omega)
  rw [← Lib.decDigits_length, ← Lib.decDigits_length] at h2
  omega
theorem lin64 {a st j : Nat} (ha : a ≤ 1099511627776) (hs : st ≤ 1099511627776) (hj : j ≤ 200) : addI .i64 (a : Int) (mulI .i64 (j : Int) (st : Int)) = ((a + j * st : Nat) : Int) ∧ a + j * st ≤ 9223372036854775807 := by
  have h1 : j * st ≤ 200 * 1099511627776 := Nat.mul_le_mul hj hs
  have h2 : (j : Int) * (st : Int) = ((j * st : Nat) : Int) := (Int.natCast_mul _ _).symm
  rw [mul64 (by rw [h2]; omega) (by rw [h2]; omega), h2]
  generalize j * st = x at *
  refine ⟨?_, by omega⟩
  rw [add64 (by omega) (by omega)]; omega
theorem ev64 {n : Nat} (h : n ≤ 20) : mulI .i64 (addI .i64 (quoI .i64 (n : Int) 10) 1) 10 = (((n / 10 + 1) * 10 : Nat) : Int) := by
  rw [step_q n (by omega), add64 (by omega) (by omega), mul64 (by omega) (by omega)]; omega
theorem szB_spec {st co : Int} (h : szB st co = true) : ∃ s c : Nat, st = s ∧ co = c ∧ 1 ≤ s ∧ s ≤ 1099511627776 ∧ 1 ≤ c ∧ c ≤ 200 := by
  unfold szB at h
  have h := of_decide_eq_true h
  exact ⟨st.toNat, co.toNat, by omega, by omega, by omega, by omega, by omega, by omega⟩
end Go.Proofs.YtpcbjkjgjoemaaaDoor.S1
/- Rulers: the reference's. -/
namespace Go.Proofs.YtpcbjkjgjoemaaaDoor.S1
open Go Go.Ab Go.Proofs
theorem rul_bad (a st co : Int) : (bif bif bif decide (a < 0) then true else decide (a > 1099511627776) then true else !szB st co then true else false) = decide (a < 0 ∨ a > 1099511627776 ∨ szB st co = false) := by
  rw [Bool.eq_iff_iff]; simp [or_assoc]
theorem c17 [Lay] (a st co : Int) : Pure PP 17 [I a, I st, I co] (.str (rulI a st co)) := by
  refine pu F17 (by kernel_rfl) (of_eq (nRr a st co _) ⟨fun _ => PureW.mk (c47 _ _), cond_intro (fun h => ?_) fun h => ?_⟩)
  · have h : a < 0 ∨ a > 1099511627776 ∨ szB st co = false := by simpa [or_assoc] using h
    have : rulI a st co = [] := by unfold rulI; rw [if_pos h]
    rw [this]; exact Wk.refl _
  have h : ¬ (a < 0 ∨ a > 1099511627776 ∨ szB st co = false) := by
    simpa [or_assoc, and_assoc] using h
  have hr : rulI a st co = rulF a.toNat st.toNat co.toNat (evR a.toNat st.toNat co.toNat) co.toNat 0 := by unfold rulI; rw [if_neg h]
  rw [hr]
  obtain ⟨S, C, rfl, rfl, hs1, hs2, hc1, hc2⟩ := szB_spec (st := st) (co := co) (by cases hx : szB st co <;> simp_all)
  obtain ⟨A, rfl⟩ : ∃ A : Nat, a = A := ⟨a.toNat, by omega⟩
  simp only [Int.toNat_natCast]
  have hA : A ≤ 1099511627776 := by omega
  have hc' : subI .i64 (C : Int) 1 = ((C - 1 : Nat) : Int) := by rw [sub64 (by omega) (by omega)]; omega
  obtain ⟨e1, e2⟩ := lin64 hA hs2 (j := C - 1) (by omega)
  rw [hc', e1, Int.toNat_natCast]
  refine ⟨PureW.mk (c48 _ e2), fun _ => ⟨by decide, ?_⟩⟩
  have hd := dec_len _ e2
  rw [ev64 hd]
  have hev : ((((Lib.decDigits (A + (C - 1) * S)).length / 10 + 1) * 10 : Nat) : Int) = (evR A S C : Nat) := rfl
  rw [hev]
  have hev1 : 1 ≤ evR A S C := by unfold evR; omega
  have hev2 : evR A S C ≤ 30 := by unfold evR; omega
  have hdl : ∀ j, j < C → (Lib.decDigits (A + j * S)).length ≤ evR A S C := fun j hj => digs_le hj
  generalize evR A S C = ev at *
  refine lpK (fn := Tryd.f17) (fun z : Nat × Nat × Str => C ≤ z.2.1 + z.1 ∧ z.2.1 ≤ 100000 ∧ z.2.2.length ≤ 100000 + 100 * z.2.1 ∧ rulF A S C ev C 0 = z.2.2 ++ rulF A S C ev z.1 z.2.1) (fun z => SRr A S C ev z.2.1 z.2.2) (fun z => z.1) [0, 1, 2, 8, 9, 10] (by kernel_rfl) (fun z hz => ?_) (C, 0, []) ⟨by simp, by simp, by simp, rfl⟩
  obtain ⟨f, j, es⟩ := z
  obtain ⟨hf, hj, hes, he⟩ := hz
  simp only at hf hj hes he ⊢
  refine at_split hmix [1, 1, 1, 1, 1, 0, 1, 0] [0, 1, 2, 8, 9, 10] [0, 1, 2, 8, 9, 10, 11] (fun z => z = SRr A S C ev j es ∧ j < C) (fun z => z = SRs A S C ev j es (Lib.decDigits (A + j * S)) ∧ j < C)
    (fun z => z = SRs A S C ev j es (if C < j + (Lib.decDigits (A + j * S)).length then [] else Lib.decDigits (A + j * S)) ∧ j < C) (by kernel_rfl) (by kernel_rfl) (by kernel_rfl) (by kernel_rfl) (by kernel_rfl)
    (runS_sound hmix _ _ _ (of_eq (nRrA A S C ev j es _ _ _) (cond_intro (fun hlt => ⟨rfl, ltI hlt⟩) fun hge => ?_))) ?_ ?_ ?_
  · have hge := geI hge
    have : rulF A S C ev f j = [] := by
      cases f with
      | zero => rfl
      | succ f => rw [rulF, if_neg (by omega)]
    rw [this, List.append_nil] at he
    rw [he]; exact Wk.refl _
  · rintro _ ⟨rfl, hlt⟩
    obtain ⟨e3, e4⟩ := lin64 hA hs2 (j := j) (by omega)
    refine runS_sound hmix _ _ _ (of_eq (nRrB A S C ev j es _ _ _) ?_)
    rw [e3, Int.toNat_natCast]
    exact ⟨PureW.mk (c48 _ e4), rfl, hlt⟩
  · rintro _ ⟨rfl, hlt⟩
    have hl := hdl j hlt
    refine runS_sound hmix _ _ _ (of_eq (nRrC A S C ev j es _ _ _ _) fun _ => ?_)
    rw [add64 (by omega) (by omega)]
    refine cond_intro (fun hx => ⟨?_, hlt⟩) fun hx => ⟨?_, hlt⟩
    · have hx := of_decide_eq_true hx
      rw [if_pos (by omega)]; rfl
    · have hx := of_decide_eq_false hx
      rw [if_neg (by omega)]; rfl
  · rintro _ ⟨rfl, hlt⟩
    have hl := hdl j hlt
    obtain ⟨f, rfl⟩ : ∃ k, f = k + 1 := ⟨f - 1, by omega⟩
    rw [rulF, if_pos hlt] at he
    have hpc : pcR A S C ev j = (if C < j + (Lib.decDigits (A + j * S)).length then [] else Lib.decDigits (A + j * S)) ++ blk (min ev (C - j) - (if C < j + (Lib.decDigits (A + j * S)).length then [] else Lib.decDigits (A + j * S)).length) := rfl
    have hq : (if C < j + (Lib.decDigits (A + j * S)).length then [] else Lib.decDigits (A + j * S)).length ≤ min ev (C - j) := by
      split
      · simp
      · omega
    generalize (if C < j + (Lib.decDigits (A + j * S)).length then [] else Lib.decDigits (A + j * S)) = q at *
    refine runS_sound hmix _ _ _ (of_eq (nRrD A S C ev j es q _ _) fun _ => ?_)
    have h1 : subI .i64 (ev : Int) (q.length : Int) = ((ev - q.length : Nat) : Int) := by rw [sub64 (by omega) (by omega)]; omega
    have h2 : subI .i64 (C : Int) (j : Int) = ((C - j : Nat) : Int) := by rw [sub64 (by omega) (by omega)]; omega
    have h3 : (if ((C - j : Nat) : Int) < (ev : Int) then ((C - j : Nat) : Int) else (ev : Int)) = ((min ev (C - j) : Nat) : Int) := by split <;> omega
    have h4 : addI .i64 (j : Int) (ev : Int) = ((j + ev : Nat) : Int) := by rw [add64 (by omega) (by omega)]; omega
    rw [h1, h2, h3, h4]
    simp only [Int.toNat_natCast, List.drop_zero]
    have hb : ∀ n, (blk n).length = n := fun n => by unfold blk; simp
    have ht : (q ++ blk (ev - q.length)).take (min ev (C - j)) = q ++ blk (min ev (C - j) - q.length) := by
      rw [List.take_append, List.take_of_length_le hq]
      congr 1
      unfold blk
      rw [List.take_replicate]
      congr 1; omega
    rw [ht, ← hpc]
    have hpl : (pcR A S C ev j).length ≤ 30 := by rw [hpc, List.length_append, hb]; omega
    refine ⟨PureW.mk (c49 _ (by omega)), by rw [hb]; unfold strM; omega, ⟨by decide, by omega, by rw [List.length_append, hb]; omega⟩, by unfold strM; omega, ?_⟩
    refine Nx.of (f, j + ev, es ++ pcR A S C ev j) ⟨?_, ?_, ?_, ?_⟩ ?_ (StLe.refl _ _)
    · simp only; omega
    · simp only; omega
    · simp only [List.length_append]; omega
    · simp only; rw [he, List.append_assoc]
    · simp only; omega
end Go.Proofs.YtpcbjkjgjoemaaaDoor.S1
/- The least step, and the law's parts. -/
namespace Go.Proofs.YtpcbjkjgjoemaaaDoor.S1
open Go Go.Ab Go.Proofs
def colI (a b c : Int) : Int := if a < 0 ∨ a > b ∨ b > 1099511627776 ∨ szB 1 c = false then 0 else (b - a + c) / c
theorem F18 : OkF 18 Tryd.f18 := ⟨by kernel_rfl, by kernel_rfl, by kernel_rfl⟩
def lv18 : List (List Nat × List Nat) := []
noncomputable def nCos (c : Int) : List Nat → Nat → Option Ans := scrAt [([1, 0, 0], 13, Ans.pure [I 1, I c] (B (szB 1 c)))]
theorem nCo [Lay] (a b c : Int) (K : D → Prop) : runS (En Tryd.f18) (fi Tryd.f18 K) (nCos c) lv18 200 [.code []] ⟨argSlots 0 [I a, I b, I c], .empty⟩ =
  (((!bif bif decide (a < 0) then true else decide (a > b) then true else decide (b > 1099511627776)) = true → PureW PP 44 [I 1, I c] [I 1, I c] (B (szB 1 c))) ∧ bif bif bif bif decide (a < 0) then true else decide (a > b) then true else decide (b > 1099511627776) then true else !szB 1 c then K (I 0) else c ≠ 0 ∧ K (I (quoI .i64 (addI .i64 (subI .i64 b a) c) c))) := by kernel_rfl
theorem F19 : OkF 19 Tryd.f19 := ⟨by kernel_rfl, by kernel_rfl, by kernel_rfl⟩
def lv19 : List (List Nat × List Nat) := []
noncomputable def nCrs (c : Int) : List Nat → Nat → Option Ans := scrAt [([1, 0, 0], 13, Ans.pure [I 1, I c] (B (szB 1 c)))]
theorem nCr [Lay] (a b c : Int) (K : D → Prop) : runS (En Tryd.f19) (fi Tryd.f19 K) (nCrs c) lv19 200 [.code []] ⟨argSlots 0 [I a, I b, I c], .empty⟩ =
  (((!bif bif decide (a < 0) then true else decide (a > b) then true else decide (b > 1099511627776)) = true → PureW PP 47 [I 1, I c] [I 1, I c] (B (szB 1 c))) ∧ bif bif bif bif decide (a < 0) then true else decide (a > b) then true else decide (b > 1099511627776) then true else !szB 1 c then K (I 0) else c ≠ 0 ∧ K (I (quoI .i64 (subI .i64 (addI .i64 (addI .i64 (subI .i64 b a) 1) c) 1) c))) := by kernel_rfl
theorem F6 : OkF 6 Tryd.f6 := ⟨by kernel_rfl, by kernel_rfl, by kernel_rfl⟩
def lv6 : List (List Nat × List Nat) := []
noncomputable def nlRs (a : Int) (sp : Int) (til : Int) (co : Int) : List Nat → Nat → Option Ans := scrAt [([1, 0], 3, Ans.pure [I a, I sp, I co] (.str (rulI a sp co))), ([1, 0], 7, Ans.pure [I a, I sp, I co] (.str (rulI a sp co))), ([1, 0], 13, Ans.pure [I a, I til, I co] (I (colI a til co))), ([1, 0], 17, Ans.pure [I a, I til, I co] (I (colI a til co))), ([1, 0], 21, Ans.pure [] (B true))]
theorem nlR [Lay] (a sp til co : Int) (K : D → Prop) : runS (En Tryd.f6) (fi Tryd.f6 K) (nlRs a sp til co) lv6 200 [.code []] ⟨argSlots 0 [I a, I sp, I til, I co], .empty⟩ =
  (PureW PP 16 [I a, I sp, I co] [I a, I sp, I co] (.str (rulI a sp co)) ∧ PureW PP 17 [I a, I sp, I co] [I a, I sp, I co] (.str (rulI a sp co)) ∧ ((rulI a sp co == rulI a sp co) = true → PureW PP 18 [I a, I til, I co] [I a, I til, I co] (I (colI a til co))) ∧ ((rulI a sp co == rulI a sp co) = true → PureW PP 19 [I a, I til, I co] [I a, I til, I co] (I (colI a til co))) ∧ ((bif rulI a sp co == rulI a sp co then colI a til co == colI a til co else false) = true → PureW PP 7 [] [] (B true)) ∧ K (B (bif bif rulI a sp co == rulI a sp co then colI a til co == colI a til co else false then true else false))) := by kernel_rfl
end Go.Proofs.YtpcbjkjgjoemaaaDoor.S1
/- Words for contracts where cells of the library's tables lie as its text lays them. -/
namespace Go.Proofs
open Go.Shelf
def Tryd.ito_ren : Go.Shelf.Ren := ⟨fun | 171 => 45 | 243 => 72 | 246 => 84 | 283 => 89 | 284 => 90 | 285 => 91 | 286 => 92 | 129 => 98 | 317 => 97 | 318 => 99 | 319 => 100 | 320 => 101 | 337 => 103 | 338 => 104 | n => n, fun | 3 => 3 | 9 => 9 | 2 => 2 | 4 => 4 | 171 => 146 | 0 => 0 | 53 => 140 | 37 => 55 | 5 => 5 | 173 => 149 | 212 => 160 | 51 => 137 | 20 => 20 | 213 => 161 | 46 => 117 | 232 => 165 | 233 => 166 | n => n, fun | 17 => 3 | 18 => 4 | 19 => 5 | n => n⟩
theorem Tryd.ito : Go.Proofs.LaysM.n171 Tryd.prog Tryd.ito_ren := {
  mixed := by kernel_rfl
  f129 := Tryd.func98.trans (congrArg some (by kernel_rfl))
  f171 := Tryd.func45.trans (congrArg some (by kernel_rfl))
  f243 := Tryd.func72.trans (congrArg some (by kernel_rfl))
  f246 := Tryd.func84.trans (congrArg some (by kernel_rfl))
  f283 := Tryd.func89.trans (congrArg some (by kernel_rfl))
  f284 := Tryd.func90.trans (congrArg some (by kernel_rfl))
  f285 := Tryd.func91.trans (congrArg some (by kernel_rfl))
  f286 := Tryd.func92.trans (congrArg some (by kernel_rfl))
  f317 := Tryd.func97.trans (congrArg some (by kernel_rfl))
  f318 := Tryd.func99.trans (congrArg some (by kernel_rfl))
  f319 := Tryd.func100.trans (congrArg some (by kernel_rfl))
  f320 := Tryd.func101.trans (congrArg some (by kernel_rfl))
  f337 := Tryd.func103.trans (congrArg some (by kernel_rfl))
  f338 := Tryd.func104.trans (congrArg some (by kernel_rfl))
  t0 := Tryd.underlying0
  a0 := Tryd.isAgg0
  z0 := Tryd.sizeOf0
  v0 := Tryd.zeroValue0
  t2 := Tryd.underlying2
  a2 := Tryd.isAgg2
  z2 := Tryd.sizeOf2
  v2 := Tryd.zeroValue2
  t3 := Tryd.underlying3
  a3 := Tryd.isAgg3
  z3 := Tryd.sizeOf3
  v3 := Tryd.zeroValue3
  t4 := Tryd.underlying4
  a4 := Tryd.isAgg4
  z4 := Tryd.sizeOf4
  v4 := Tryd.zeroValue4
  t5 := Tryd.underlying5
  a5 := Tryd.isAgg5
  z5 := Tryd.sizeOf5
  v5 := Tryd.zeroValue5
  t9 := Tryd.underlying9
  a9 := Tryd.isAgg9
  z9 := Tryd.sizeOf9
  v9 := Tryd.zeroValue9
  t20 := Tryd.underlying20
  a20 := Tryd.isAgg20
  z20 := Tryd.sizeOf20
  v20 := Tryd.zeroValue20
  t37 := Tryd.underlying55
  a37 := Tryd.isAgg55
  z37 := Tryd.sizeOf55
  v37 := Tryd.zeroValue55
  t46 := Tryd.underlying117
  a46 := Tryd.isAgg117
  z46 := Tryd.sizeOf117
  v46 := Tryd.zeroValue117
  t51 := Tryd.underlying137
  a51 := Tryd.isAgg137
  z51 := Tryd.sizeOf137
  v51 := Tryd.zeroValue137
  t53 := Tryd.underlying140
  a53 := Tryd.isAgg140
  z53 := Tryd.sizeOf140
  v53 := Tryd.zeroValue140
  t171 := Tryd.underlying146
  a171 := Tryd.isAgg146
  z171 := Tryd.sizeOf146
  v171 := Tryd.zeroValue146
  t173 := Tryd.underlying149
  a173 := Tryd.isAgg149
  z173 := Tryd.sizeOf149
  v173 := Tryd.zeroValue149
  t212 := Tryd.underlying160
  a212 := Tryd.isAgg160
  z212 := Tryd.sizeOf160
  v212 := Tryd.zeroValue160
  t213 := Tryd.underlying161
  a213 := Tryd.isAgg161
  z213 := Tryd.sizeOf161
  t232 := Tryd.underlying165
  a232 := Tryd.isAgg165
  z232 := Tryd.sizeOf165
  v232 := Tryd.zeroValue165
  t233 := Tryd.underlying166
  a233 := Tryd.isAgg166
  z233 := Tryd.sizeOf166
  v233 := Tryd.zeroValue166
  g17 := by kernel_rfl
  g18 := by kernel_rfl
  g19 := by kernel_rfl
  i0 := by kernel_rfl
  i2 := by kernel_rfl
  i3 := by kernel_rfl
  i4 := by kernel_rfl
  i5 := by kernel_rfl
  i9 := by kernel_rfl
  i20 := by kernel_rfl
  i37 := by kernel_rfl
  i46 := by kernel_rfl
  i51 := by kernel_rfl
  i53 := by kernel_rfl
  i171 := by kernel_rfl
  i173 := by kernel_rfl
  i212 := by kernel_rfl
  i232 := by kernel_rfl
  i233 := by kernel_rfl
  m17 := by kernel_rfl
  m18 := by kernel_rfl
  m19 := by kernel_rfl }
end Go.Proofs
namespace Go.Proofs.YtpcbjkjgjoemaaaDoor.S1
open Go Go.Ab Go.Proofs
-- nolay
/-- Where the powers of ten lie. -/
noncomputable def gPow : Nat := (PP.globalNamed "internal/strconv.uint64pow10").getD 0
theorem gPow_eq : PP.globalNamed "internal/strconv.uint64pow10" = some gPow := by kernel_rfl
noncomputable def powRow : Array Value := (Lib.pow10Tab.map fun z => Value.int .u64 z).toArray
theorem powRow_size : powRow.size = 20 := by kernel_rfl
noncomputable abbrev LT10 : Lay where
  tab := fun a => if a.block = gPow ∧ a.spot = none then powRow[a.off]? else none
  row := fun b => if b = gPow then some powRow else none
  has := fun b cs h => by
    split at h
    · rename_i e
      cases h
      refine ⟨by rw [powRow_size]; omega, fun i hi => ⟨powRow[i], ?_⟩⟩
      rw [if_pos ⟨e, rfl⟩, Array.getElem?_eq_getElem hi]
    · cases h
theorem tabIs_of {g : G} {w : World} (h : @LayOk LT10 g w) : Lib.TabIs PP w "internal/strconv.uint64pow10" .u64 Lib.pow10Tab := by
  obtain ⟨T, fz, h1⟩ := h.2 gPow powRow (if_pos rfl)
  unfold Lib.TabIs World.var?
  rw [gPow_eq]
  simp only [Option.bind_some, h1]
  rfl
theorem layOk_of {g : G} {w : World} (h : Lib.TabIs PP w "internal/strconv.uint64pow10" .u64 Lib.pow10Tab) (hg : ∀ b cs T fz i v, w.heap[b]? = some (.cells cs T fz) → cs[i]? = some v → g.σ ⟨b, i, none⟩ = some v) : @LayOk LT10 g w := by
  have h1 : ∃ T fz, w.heap[gPow]? = some (.cells powRow T fz) := by
    unfold Lib.TabIs World.var? at h
    rw [gPow_eq] at h
    simp only [Option.bind_some] at h
    split at h
    · rename_i cs T fz e
      cases h
      exact ⟨T, fz, e⟩
    · cases h
  refine ⟨fun a v e => ?_, fun b cs e => ?_⟩
  · have e' : (if a.block = gPow ∧ a.spot = none then powRow[a.off]? else none) = some v := e
    split at e'
    · rename_i hc
      obtain ⟨T, fz, h2⟩ := h1
      have := hg gPow powRow T fz a.off v h2 e'
      have ha : a = ⟨gPow, a.off, none⟩ := by cases a; simp_all
      rw [ha]; exact this
    · cases e'
  · have e' : (if b = gPow then some powRow else none) = some cs := e
    split at e'
    · rename_i hc; cases e'; subst hc; exact h1
    · cases e'
end Go.Proofs.YtpcbjkjgjoemaaaDoor.S1
/- Numerals of the library and of the reference, where the powers of ten lie as the library's text lays them. -/
namespace Go.Proofs.YtpcbjkjgjoemaaaDoor.S1
open Go Go.Ab Go.Proofs
-- nolay
attribute [local instance] LT10
/-- A function of the library that only computes, and reads the laid tables. -/
theorem pureT {f : Nat} {args : List D} {v : D} (ok : Callable PP f) [da : DS args] [dv : DD v] (h : ∀ (g : G) (w : World) (vs : List Value), LayOk g w → Rs g args vs → ∃ x, R g v x ∧ Calls PP f vs.toArray w fun e w' => e = .returned x ∧ RowKit.Below w.heap.size w w') : Pure PP f args v :=
  ⟨ok, da.p, dv.p, fun g w vs hl sub hs => by
    obtain ⟨x, hx, hc⟩ := h g w vs hl hs
    refine hc.mono fun e w' ⟨he, hb⟩ => ⟨x, g.σ, he, R.mono ⟨fun _ _ h => h, fun _ _ h => h, fun _ k h => ⟨k, h, rfl, Nat.le_refl _, fun _ => rfl⟩⟩ _ _ hx, fun _ _ h => h, fun a y hy => ?_, fun _ _ h => .inl h, hb⟩
    obtain ⟨h1, h2⟩ := sub a y hy
    have hl : a.block < w.heap.size := World.block_lt_of_cell? w a h1
    exact ⟨(cell?_of_heap (hb.block _ hl)).trans h1, h2⟩⟩
theorem c45 (n : Int) (h0 : -9223372036854775808 ≤ n) (h1 : n ≤ 9223372036854775807) : Pure PP 45 [I n] (.str (Lib.itoa n)) := by
  refine pureT ⟨Tryd.f45, by kernel_rfl, by kernel_rfl, by kernel_rfl⟩ fun g w vs hl h => ?_
  simp only [Rs, R] at h
  obtain ⟨_, _, rfl, rfl, rfl⟩ := h
  refine ⟨.string ⟨(Lib.itoa n).toArray⟩, by simp only [R, true_and]; have := Lib.itoa_length_le n h0 h1; unfold strM; omega, ?_⟩
  exact (Any.strconv_Itoa Tryd.ito n h0 h1 w (tabIs_of hl)).mono fun e w' ⟨he, k, os, hw⟩ => ⟨he, by subst hw; exact Lib.below_grow _ _ (Nat.le_refl _) _ _⟩
end Go.Proofs.YtpcbjkjgjoemaaaDoor.S1
/- Rulers: the code's. -/
namespace Go.Proofs.YtpcbjkjgjoemaaaDoor.S1
open Go Go.Ab Go.Proofs
-- nolay
attribute [local instance] LT10
theorem pcR_len {a st co ev j : Nat} (hj : j < co) (hl : (Lib.decDigits (a + j * st)).length ≤ ev) : (pcR a st co ev j).length = min ev (co - j) := by
  have hb : ∀ n, (blk n).length = n := fun n => by unfold blk; simp
  unfold pcR
  simp only [List.length_append, hb]
  split
  · simp
  · omega
theorem cItoN (n : Nat) (h : n ≤ 9223372036854775807) : Pure PP 45 [I n] (.str (Lib.itoa (n : Int))) := c45 _ (by omega) (by omega)
theorem c16 (a st co : Int) : Pure PP 16 [I a, I st, I co] (.str (rulI a st co)) := by
  refine pr F16 (by kernel_rfl) (of_eq (nRu a st co _) ⟨fun _ => PureW.mk (c44 _ _), cond_intro (fun h => ?_) fun h => ?_⟩)
  · have h : a < 0 ∨ a > 1099511627776 ∨ szB st co = false := by simpa [or_assoc] using h
    have : rulI a st co = [] := by unfold rulI; rw [if_pos h]
    rw [this]; exact ⟨_, RetLe.refl _ _⟩
  have h : ¬ (a < 0 ∨ a > 1099511627776 ∨ szB st co = false) := by
    simpa [or_assoc, and_assoc] using h
  have hr : rulI a st co = rulF a.toNat st.toNat co.toNat (evR a.toNat st.toNat co.toNat) co.toNat 0 := by unfold rulI; rw [if_neg h]
  rw [hr]
  obtain ⟨S, C, rfl, rfl, hs1, hs2, hc1, hc2⟩ := szB_spec (st := st) (co := co) (by cases hx : szB st co <;> simp_all)
  obtain ⟨A, rfl⟩ : ∃ A : Nat, a = A := ⟨a.toNat, by omega⟩
  simp only [Int.toNat_natCast]
  have hA : A ≤ 1099511627776 := by omega
  have hc' : subI .i64 (C : Int) 1 = ((C - 1 : Nat) : Int) := by rw [sub64 (by omega) (by omega)]; omega
  obtain ⟨e1, e2⟩ := lin64 hA hs2 (j := C - 1) (by omega)
  rw [hc', e1]
  refine ⟨PureW.mk (cItoN _ e2), fun _ => ⟨by decide, trivial, ?_⟩⟩
  have hd := dec_len _ e2
  rw [Lib.itoa_nonneg, ev64 hd]
  have hev : ((((Lib.decDigits (A + (C - 1) * S)).length / 10 + 1) * 10 : Nat) : Int) = (evR A S C : Nat) := rfl
  rw [hev]
  have hev1 : 1 ≤ evR A S C := by unfold evR; omega
  have hev2 : evR A S C ≤ 30 := by unfold evR; omega
  have hdl : ∀ j, j < C → (Lib.decDigits (A + j * S)).length ≤ evR A S C := fun j hj => digs_le hj
  generalize evR A S C = ev at *
  refine at_le (st' := SRu A S C ev ((0 : Nat) : Int) .nilp []) ?_ ((StLe.idleBoxT _ 0 1 TU TB (cv ([] : Str) encB) rfl rfl).cast ?_)
  rotate_left
  · unfold SRu hSb
    simp only [hIdle, List.length_nil]
    rw [upd_upd]
    rfl
  refine lpK (fn := Tryd.f16) (fun z : Nat × Nat × D × Str => C ≤ z.2.1 + z.1 ∧ z.2.1 ≤ 100000 ∧ z.2.2.2.length ≤ 100000 + 100 * z.2.1 ∧ (z.2.2.1 = .nilp ∨ z.2.2.1 = .bp 0 0) ∧ (0 < z.2.1 → z.2.2.2 ≠ []) ∧ rulF A S C ev C 0 = z.2.2.2 ++ rulF A S C ev z.1 z.2.1) (fun z => SRu A S C ev z.2.1 z.2.2.1 z.2.2.2) (fun z => z.1) [0, 1, 2, 8, 9, 10] (by kernel_rfl) (fun z hz => ?_) (C, 0, .nilp, []) ⟨by simp, by simp, by simp, .inl rfl, fun h => absurd h (Nat.lt_irrefl _), rfl⟩
  obtain ⟨f, j, p, es⟩ := z
  obtain ⟨hf, hj, hes, hp, hnz, he⟩ := hz
  simp only at hf hj hes hp hnz he ⊢
  refine at_split hmix [1, 1, 1, 1, 1, 0, 1, 0] [0, 1, 2, 8, 9, 10] [0, 1, 2, 8, 9, 10, 11] (fun z => z = SRu A S C ev j p es ∧ j < C) (fun z => z = SRv A S C ev j p es (Lib.decDigits (A + j * S)) ∧ j < C)
    (fun z => z = SRv A S C ev j p es (if C < j + (Lib.decDigits (A + j * S)).length then [] else Lib.decDigits (A + j * S)) ∧ j < C) (by kernel_rfl) (by kernel_rfl) (by kernel_rfl) (by kernel_rfl) (by kernel_rfl)
    (runS_sound hmix _ _ _ (of_eq (nRuA A S C ev j p es _ _ _) (cond_intro (fun hlt => ⟨rfl, ltI hlt⟩) fun hge => ?_))) ?_ ?_ ?_
  · have hge := geI hge
    have : rulF A S C ev f j = [] := by
      cases f with
      | zero => rfl
      | succ f => rw [rulF, if_neg (by omega)]
    rw [this, List.append_nil] at he
    refine ⟨e23 p es (hnz (by omega)), _, RetLe.wk ?_ rfl⟩
    rw [he]; exact Wk.refl _
  · rintro _ ⟨rfl, hlt⟩
    obtain ⟨e3, e4⟩ := lin64 hA hs2 (j := j) (by omega)
    refine runS_sound hmix _ _ _ (of_eq (nRuB A S C ev j p es _ _ _) ?_)
    rw [e3]
    refine ⟨PureW.mk (cItoN _ e4), ?_, hlt⟩
    rw [Lib.itoa_nonneg]; rfl
  · rintro _ ⟨rfl, hlt⟩
    have hl := hdl j hlt
    refine runS_sound hmix _ _ _ (of_eq (nRuC A S C ev j p es _ _ _ _) fun _ => ?_)
    rw [sub64 (by omega) (by omega)]
    refine cond_intro (fun hx => ⟨?_, hlt⟩) fun hx => ⟨?_, hlt⟩
    · have hx := of_decide_eq_true hx
      rw [if_pos (by omega)]; rfl
    · have hx := of_decide_eq_false hx
      rw [if_neg (by omega)]; rfl
  · rintro _ ⟨rfl, hlt⟩
    have hl := hdl j hlt
    obtain ⟨f, rfl⟩ : ∃ k, f = k + 1 := ⟨f - 1, by omega⟩
    rw [rulF, if_pos hlt] at he
    have hpl := pcR_len hlt hl
    have hpc : pcR A S C ev j = (if C < j + (Lib.decDigits (A + j * S)).length then [] else Lib.decDigits (A + j * S)) ++ blk (min ev (C - j) - (if C < j + (Lib.decDigits (A + j * S)).length then [] else Lib.decDigits (A + j * S)).length) := rfl
    have hq : (if C < j + (Lib.decDigits (A + j * S)).length then [] else Lib.decDigits (A + j * S)).length ≤ min ev (C - j) := by
      split
      · simp
      · omega
    generalize (if C < j + (Lib.decDigits (A + j * S)).length then [] else Lib.decDigits (A + j * S)) = q at *
    refine runS_sound hmix _ _ _ (of_eq (nRuD A S C ev j p es q _ _) fun _ => ?_)
    have h2 : subI .i64 (C : Int) (j : Int) = ((C - j : Nat) : Int) := by rw [sub64 (by omega) (by omega)]; omega
    have h3 : (if ((C - j : Nat) : Int) < (ev : Int) then ((C - j : Nat) : Int) else (ev : Int)) = ((min ev (C - j) : Nat) : Int) := by split <;> omega
    have h1 : subI .i64 ((min ev (C - j) : Nat) : Int) (q.length : Int) = ((min ev (C - j) - q.length : Nat) : Int) := by rw [sub64 (by omega) (by omega)]; omega
    have h4 : addI .i64 (j : Int) (ev : Int) = ((j + ev : Nat) : Int) := by rw [add64 (by omega) (by omega)]; omega
    rw [h2, h3, h1, h4]
    simp only [Int.toNat_natCast]
    have hrp : ∀ n, Lib.repeatL ({ data := #[32] } : ByteArray).data.toList n = blk n := fun n => repL_blk n
    have hcr : PureW PP 39 [.str ({ data := #[32] } : ByteArray).data.toList, I ((min ev (C - j) - q.length : Nat) : Int)] [.str ({ data := #[32] } : ByteArray).data.toList, I ((min ev (C - j) - q.length : Nat) : Int)] (.str (Lib.repeatL ({ data := #[32] } : ByteArray).data.toList (min ev (C - j) - q.length))) :=
      PureW.mk (by have := cRepZ ({ data := #[32] } : ByteArray).data.toList ((min ev (C - j) - q.length : Nat) : Int) ⟨by omega, by omega⟩ (by rw [Int.toNat_natCast]; show 1 * _ ≤ _; omega); rw [Int.toNat_natCast] at this; exact this)
    refine ⟨hcr, ?_⟩
    rw [hrp, ← hpc]
    have hb : ∀ n, (blk n).length = n := fun n => by unfold blk; simp
    refine ⟨by rw [hb]; unfold strM; omega, e46 p hp es _ (by omega), ?_⟩
    refine Nx.of (f, j + ev, .bp 0 0, es ++ pcR A S C ev j) ⟨?_, ?_, ?_, .inr rfl, ?_, ?_⟩ ?_ (StLe.refl _ _)
    · simp only; omega
    · simp only; omega
    · simp only [List.length_append]; omega
    · intro _ h0
      have := congrArg List.length h0
      simp only [List.length_append, List.length_nil] at this
      omega
    · simp only; rw [he, List.append_assoc]
    · simp only; omega
end Go.Proofs.YtpcbjkjgjoemaaaDoor.S1
/- The least step, and the law on rulers. -/
namespace Go.Proofs.YtpcbjkjgjoemaaaDoor.S1
open Go Go.Ab Go.Proofs
-- nolay
attribute [local instance] LT10
theorem colI_quo {a b c : Int} (h : ¬ (a < 0 ∨ a > b ∨ b > 1099511627776 ∨ szB 1 c = false)) : colI a b c = quoI .i64 (b - a + c) c ∧ c ≠ 0 ∧ 0 ≤ a ∧ a ≤ b ∧ b ≤ 1099511627776 ∧ 1 ≤ c ∧ c ≤ 200 := by
  obtain ⟨s, d, _, rfl, _, _, h1, h2⟩ := szB_spec (st := 1) (co := c) (by cases hx : szB 1 c <;> simp_all)
  have ha : 0 ≤ a ∧ a ≤ b ∧ b ≤ 1099511627776 := by
    refine ⟨?_, ?_, ?_⟩ <;> (apply Classical.byContradiction; intro h0; apply h; omega)
  refine ⟨?_, by omega, ha.1, ha.2.1, ha.2.2, by omega, by omega⟩
  unfold colI quoI
  rw [if_neg h, Int.tdiv_eq_ediv_of_nonneg (by omega), IntWalk.i64_in]
  have h3 : 0 ≤ (b - a + (d : Int)) / (d : Int) := Int.ediv_nonneg (by omega) (by omega)
  have h4 : (b - a + (d : Int)) / (d : Int) ≤ b - a + (d : Int) := Int.ediv_le_self _ (by omega)
  exact ⟨by omega, by omega⟩
theorem c18 (a b c : Int) : Pure PP 18 [I a, I b, I c] (I (colI a b c)) := by
  refine pu F18 (by kernel_rfl) (of_eq (nCo a b c _) ⟨fun _ => PureW.mk (c44 _ _), cond_intro (fun h => ?_) fun h => ?_⟩)
  · have h : a < 0 ∨ a > b ∨ b > 1099511627776 ∨ szB 1 c = false := by simpa [or_assoc] using h
    have : colI a b c = 0 := by unfold colI; rw [if_pos h]
    rw [this]; exact Wk.refl _
  have h : ¬ (a < 0 ∨ a > b ∨ b > 1099511627776 ∨ szB 1 c = false) := by simpa [or_assoc, and_assoc] using h
  obtain ⟨e, h0, h1, h2, h3, h4, h5⟩ := colI_quo h
  rw [sub64 (by omega) (by omega), add64 (by omega) (by omega), ← e]
  exact ⟨h0, Wk.refl _⟩
theorem c19 (a b c : Int) : Pure PP 19 [I a, I b, I c] (I (colI a b c)) := by
  refine pu F19 (by kernel_rfl) (of_eq (nCr a b c _) ⟨fun _ => PureW.mk (c47 _ _), cond_intro (fun h => ?_) fun h => ?_⟩)
  · have h : a < 0 ∨ a > b ∨ b > 1099511627776 ∨ szB 1 c = false := by simpa [or_assoc] using h
    have : colI a b c = 0 := by unfold colI; rw [if_pos h]
    rw [this]; exact Wk.refl _
  have h : ¬ (a < 0 ∨ a > b ∨ b > 1099511627776 ∨ szB 1 c = false) := by simpa [or_assoc, and_assoc] using h
  obtain ⟨e, h0, h1, h2, h3, h4, h5⟩ := colI_quo h
  rw [sub64 (a := b) (by omega) (by omega), add64 (a := b - a) (by omega) (by omega), add64 (by omega) (by omega), sub64 (by omega) (by omega), show b - a + 1 + c - 1 = b - a + c by omega, ← e]
  exact ⟨h0, Wk.refl _⟩
theorem c6 (a sp til co : Int) : Pure PP 6 [I a, I sp, I til, I co] (B true) := by
  refine pu F6 (by kernel_rfl) (of_eq (nlR a sp til co _) ⟨PureW.mk (c16 _ _ _), PureW.mk (c17 _ _ _), fun _ => PureW.mk (c18 _ _ _), fun _ => PureW.mk (c19 _ _ _), fun _ => PureW.mk c7, ?_⟩)
  rw [beq_self_eq_true, beq_self_eq_true]; exact Wk.refl _
end Go.Proofs.YtpcbjkjgjoemaaaDoor.S1
/- The row's table of powers of ten. -/
namespace Go.Proofs.YtpcbjkjgjoemaaaDoor.S1
open Go Go.Ab Go.Proofs
-- nolay
theorem pow_filter : (Rows.drawRulersRow.laid.filter fun x => x.1 == "internal/strconv.uint64pow10") = [("internal/strconv.uint64pow10", Lib.tabData .u64 Lib.pow10Tab)] := by rfl
theorem layOk_row {W : World} (h : laidMetH PP Rows.drawRulersRow.laid W) : @LayOk LT10 (gw W) W := by
  rw [MakeChecks.laidMetH_plain _ _ _ (by kernel_rfl)] at h
  have h := h.filter fun x => x.1 == "internal/strconv.uint64pow10"
  rw [pow_filter] at h
  refine layOk_of (Lib.tabIs_of_head (t := 160) (e := 140) (n := 20) gPow_eq (by kernel_rfl) (by kernel_rfl) (by kernel_rfl) (by kernel_rfl) (by kernel_rfl) h) fun b cs T fz i v h1 h2 => ?_
  show W.cell? ⟨b, i, none⟩ = some v
  simp only [World.cell?, h1]
  exact h2
end Go.Proofs.YtpcbjkjgjoemaaaDoor.S1
