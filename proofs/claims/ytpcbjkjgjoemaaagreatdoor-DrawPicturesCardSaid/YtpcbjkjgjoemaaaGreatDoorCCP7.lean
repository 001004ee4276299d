/- Rulers: the code's parts. -/
import Derived.Test.YtpcbjkjgjoemaaaGreatDoorCCP6
import Derived.Shelf.Strconv.Itoa4
import Derived.Lib.AppendIntMem
import Derived.Lib.ItoaLen
namespace Go.Proofs.YtpcbjkjgjoemaaaGreatDoor.S1
open Go Go.Ab Go.Proofs
/-- At a block's head. -/
theorem at_blk [Lay] {E : Env} (hmix : E.P.follows .mixedOrders = true) {fin : St → Prop} {p : List Nat} {td : List It} {st : St} {c : Code} {i : Nat} (hs : sub E.root p = some (.block i c)) (h : At E fin (.code (p ++ [0]) :: .blk i :: td) st) : At E fin (.code p :: td) st :=
  at_run hmix (n := 1) (by simp only [run, hs]; exact h)
/-- A stop put between two parts; l: the slots that count there. -/
theorem at_cutK [Lay] {E : Env} {fin : St → Prop} (l : List Nat) {p q : List Nat} {td : List It} {st : St} {J : St → Prop} (h : At E fin (.code p :: stp l J :: td) st) (hJ : ∀ z, J z → At E fin (.code q :: td) z) : At E fin (.code p :: .code q :: td) st := by
  obtain ⟨c, hc, hw⟩ := h.it
  refine ⟨c, hc, hw.mono fun e z hz => ?_⟩
  cases e with
  | normal => exact (at_le (hJ _ hz) (keepSt_le _ l z)).it
  | ret => exact hz
  | exit i => exact hz
theorem F37 : OkF 37 Tryz.f37 := ⟨by kernel_rfl, by kernel_rfl, by kernel_rfl⟩
def lv37 : List (List Nat × List Nat) := [([1, 1, 1, 1, 1, 0, 1, 0], [0, 1, 2, 8, 9, 10])]
noncomputable def nRrs (a : Int) (st : Int) (co : Int) : List Nat → Nat → Option Ans := scrAt [([1, 0, 0], 9, Ans.pure [I st, I co] (B (szB st co))), ([1, 1, 0], 6, Ans.pure [I (addI .i64 a (mulI .i64 (subI .i64 co 1) st))] (.str (Lib.decDigits (addI .i64 a (mulI .i64 (subI .i64 co 1) st)).toNat)))]
theorem nRr [Lay] (a st co : Int) (K : D → Prop) : runS (En Tryz.f37) (fi Tryz.f37 K) (nRrs a st co) lv37 200 [.code []] ⟨argSlots 0 [I a, I st, I co], .empty⟩ =
  (((!bif decide (a < 0) then true else decide (a > 1099511627776)) = true → PureW PP 86 [I st, I co] [I st, I co] (B (szB st co))) ∧ bif bif bif decide (a < 0) then true else decide (a > 1099511627776) then true else !szB st co then K (.str { data := #[] : ByteArray }.data.toList) else PureW PP 87 [I (addI .i64 a (mulI .i64 (subI .i64 co 1) st))] [I (addI .i64 a (mulI .i64 (subI .i64 co 1) st))] (.str (Lib.decDigits (addI .i64 a (mulI .i64 (subI .i64 co 1) st)).toNat)) ∧ ((Lib.decDigits (addI .i64 a (mulI .i64 (subI .i64 co 1) st)).toNat).length ≤ strM → (10 : Int) ≠ 0 ∧ At (En Tryz.f37) (fi Tryz.f37 K) [It.code [1, 1, 1, 1, 1, 0, 1, 0], It.blk 0, It.code [1, 1, 1, 1, 1, 1]] { sl := [(0, I a), (1, I st), (2, I co), (8, I (mulI .i64 (addI .i64 (quoI .i64 (↑(Lib.decDigits (addI .i64 a (mulI .i64 (subI .i64 co 1) st)).toNat).length : Int) 10) 1) 10)), (9, .str { data := #[] : ByteArray }.data.toList), (10, I 0)], h := Heap.empty : St })) := by kernel_rfl
def SRr (a st co ev j : Int) (es : Str) : St := ⟨[(0, I a), (1, I st), (2, I co), (8, I ev), (9, .str es), (10, I j)], .empty⟩
def SRs (a st co ev j : Int) (es q : Str) : St := ⟨[(0, I a), (1, I st), (2, I co), (8, I ev), (9, .str es), (10, I j), (11, .str q)], .empty⟩
noncomputable def nRrAs  : List Nat → Nat → Option Ans := scrAt []
theorem nRrA [Lay] (a st co ev j : Int) (es : Str) (J J2 : St → Prop) (K : D → Prop) : runS (En Tryz.f37) (fi Tryz.f37 K) (nRrAs ) lv37 200 [.code [1, 1, 1, 1, 1, 0, 1, 0, 0, 0], stp [0, 1, 2, 8, 9, 10] J, stp [0, 1, 2, 8, 9, 10] J2, .blk 0, .code [1, 1, 1, 1, 1, 1]] (SRr a st co ev j es) =
  (bif decide (j < co) then J { sl := [(0, I a), (1, I st), (2, I co), (8, I ev), (9, .str es), (10, I j)], h := Heap.empty : St } else K (.str es)) := by kernel_rfl
noncomputable def nRrBs (a : Int) (st : Int) (j : Int) : List Nat → Nat → Option Ans := scrAt [([1, 1, 1, 1, 1, 0, 1, 0, 0, 1, 0, 0, 0], 5, Ans.pure [I (addI .i64 a (mulI .i64 j st))] (.str (Lib.decDigits (addI .i64 a (mulI .i64 j st)).toNat)))]
theorem nRrB [Lay] (a st co ev j : Int) (es : Str) (J J2 : St → Prop) (K : D → Prop) : runS (En Tryz.f37) (fi Tryz.f37 K) (nRrBs a st j) lv37 200 [.code [1, 1, 1, 1, 1, 0, 1, 0, 0, 1, 0, 0, 0], stp [0, 1, 2, 8, 9, 10, 11] J, .blk 1, .code [1, 1, 1, 1, 1, 0, 1, 0, 0, 1, 1], stp [0, 1, 2, 8, 9, 10] J2, .blk 0, .code [1, 1, 1, 1, 1, 1]] (SRr a st co ev j es) =
  (PureW PP 87 [I (addI .i64 a (mulI .i64 j st))] [I (addI .i64 a (mulI .i64 j st))] (.str (Lib.decDigits (addI .i64 a (mulI .i64 j st)).toNat)) ∧ J { sl := [(0, I a), (1, I st), (2, I co), (8, I ev), (9, .str es), (10, I j), (11, .str (Lib.decDigits (addI .i64 a (mulI .i64 j st)).toNat))], h := Heap.empty : St }) := by kernel_rfl
noncomputable def nRrCs  : List Nat → Nat → Option Ans := scrAt []
theorem nRrC [Lay] (a st co ev j : Int) (es : Str) (q : Str) (J J2 : St → Prop) (K : D → Prop) : runS (En Tryz.f37) (fi Tryz.f37 K) (nRrCs ) lv37 200 [.code [1, 1, 1, 1, 1, 0, 1, 0, 0, 1, 0, 0, 1, 0], stp [0, 1, 2, 8, 9, 10, 11] J, .blk 1, .code [1, 1, 1, 1, 1, 0, 1, 0, 0, 1, 1], stp [0, 1, 2, 8, 9, 10] J2, .blk 0, .code [1, 1, 1, 1, 1, 1]] (SRs a st co ev j es q) =
  (List.length q ≤ strM → bif decide (addI .i64 j (↑(List.length q) : Int) > co) then J { sl := [(0, I a), (1, I st), (2, I co), (8, I ev), (9, .str es), (10, I j), (11, .str { data := #[] : ByteArray }.data.toList)], h := Heap.empty : St } else J { sl := [(0, I a), (1, I st), (2, I co), (8, I ev), (9, .str es), (10, I j), (11, .str q)], h := Heap.empty : St }) := by kernel_rfl
noncomputable def nRrDs (ev : Int) (q : Str) : List Nat → Nat → Option Ans := scrAt [([1, 1, 1, 1, 1, 0, 1, 0, 0, 1, 0, 0, 1, 1, 0], 5, Ans.pure [I (subI .i64 ev (↑(List.length q) : Int))] (.str (blk (subI .i64 ev (↑(List.length q) : Int)).toNat)))]
theorem nRrD [Lay] (a st co ev j : Int) (es : Str) (q : Str) (J2 : St → Prop) (K : D → Prop) : runS (En Tryz.f37) (fi Tryz.f37 K) (nRrDs ev q) lv37 200 [.code [1, 1, 1, 1, 1, 0, 1, 0, 0, 1, 0, 0, 1, 1], .blk 1, .code [1, 1, 1, 1, 1, 0, 1, 0, 0, 1, 1], stp [0, 1, 2, 8, 9, 10] J2, .blk 0, .code [1, 1, 1, 1, 1, 1]] (SRs a st co ev j es q) =
  (List.length q ≤ strM → PureW PP 36 [I (subI .i64 ev (↑(List.length q) : Int))] [I (subI .i64 ev (↑(List.length q) : Int))] (.str (blk (subI .i64 ev (↑(List.length q) : Int)).toNat)) ∧ List.length q + List.length (blk (subI .i64 ev (↑(List.length q) : Int)).toNat) ≤ strM ∧ ((0 : Int) ≤ 0 ∧ (0 ≤ if subI .i64 co j < ev then subI .i64 co j else ev) ∧ (if subI .i64 co j < ev then subI .i64 co j else ev) ≤ (↑(q ++ blk (subI .i64 ev (↑(List.length q) : Int)).toNat).length : Int)) ∧ List.length es + (List.drop 0 (List.take (if subI .i64 co j < ev then subI .i64 co j else ev).toNat (q ++ blk (subI .i64 ev (↑(List.length q) : Int)).toNat))).length ≤ strM ∧ J2 { sl := [(0, I a), (1, I st), (2, I co), (8, I ev), (9, .str (es ++ List.drop 0 (List.take (if subI .i64 co j < ev then subI .i64 co j else ev).toNat (q ++ blk (subI .i64 ev (↑(List.length q) : Int)).toNat)))), (10, I (addI .i64 j ev))], h := Heap.empty : St }) := by kernel_rfl
theorem F34 : OkF 34 Tryz.f34 := ⟨by kernel_rfl, by kernel_rfl, by kernel_rfl⟩
def lv34 : List (List Nat × List Nat) := [([1, 1, 1, 1, 1, 0, 1, 0], [0, 1, 2, 8, 9, 10])]
noncomputable def nRus (a : Int) (st : Int) (co : Int) : List Nat → Nat → Option Ans := scrAt [([1, 0, 0], 9, Ans.pure [I st, I co] (B (szB st co))), ([1, 1, 0], 6, Ans.pure [I (addI .i64 a (mulI .i64 (subI .i64 co 1) st))] (.str (Lib.itoa (addI .i64 a (mulI .i64 (subI .i64 co 1) st)))))]
theorem nRu [Lay] (a st co : Int) (K : D → Heap → Prop) : runS (EnX [9] Tryz.f34) (fh Tryz.f34 K) (nRus a st co) lv34 200 [.code []] ⟨argSlots 0 [I a, I st, I co], .empty⟩ =
  (((!bif decide (a < 0) then true else decide (a > 1099511627776)) = true → PureW PP 78 [I st, I co] [I st, I co] (B (szB st co))) ∧ bif bif bif decide (a < 0) then true else decide (a > 1099511627776) then true else !szB st co then K (.str { data := #[] : ByteArray }.data.toList) Heap.empty else PureW PP 85 [I (addI .i64 a (mulI .i64 (subI .i64 co 1) st))] [I (addI .i64 a (mulI .i64 (subI .i64 co 1) st))] (.str (Lib.itoa (addI .i64 a (mulI .i64 (subI .i64 co 1) st)))) ∧ ((Lib.itoa (addI .i64 a (mulI .i64 (subI .i64 co 1) st))).length ≤ strM → (10 : Int) ≠ 0 ∧ True ∧ At (EnX [9] Tryz.f34) (fh Tryz.f34 K) [It.code [1, 1, 1, 1, 1, 0, 1, 0], It.blk 0, It.code [1, 1, 1, 1, 1, 1]] { sl := [(0, I a), (1, I st), (2, I co), (8, I (mulI .i64 (addI .i64 (quoI .i64 (↑(Lib.itoa (addI .i64 a (mulI .i64 (subI .i64 co 1) st))).length : Int) 10) 1) 10)), (9, D.bp 0 0), (10, I 0)], h := { box := upd (fun _ => none) 0 (some (Row.litT 93 [D.nilp, .list 0 0 (fun _ => D.junk) .full])), nl := 1, hw := fun _ => none, nt := 0, vw := fun _ => none : Heap } : St })) := by kernel_rfl
def SRu (a st co ev j : Int) (p : D) (es : Str) : St := ⟨[(0, I a), (1, I st), (2, I co), (8, I ev), (9, .bp 0 0), (10, I j)], hSb p es⟩
def SRv (a st co ev j : Int) (p : D) (es q : Str) : St := ⟨[(0, I a), (1, I st), (2, I co), (8, I ev), (9, .bp 0 0), (10, I j), (11, .str q)], hSb p es⟩
noncomputable def nRuAs (es : Str) : List Nat → Nat → Option Ans := scrAt [([1, 1, 1, 1, 1, 1, 0], 0, Ans.eff (.str es) h11)]
theorem nRuA [Lay] (a st co ev j : Int) (p : D) (es : Str) (J J2 : St → Prop) (K : D → Heap → Prop) : runS (EnX [9] Tryz.f34) (fh Tryz.f34 K) (nRuAs es) lv34 200 [.code [1, 1, 1, 1, 1, 0, 1, 0, 0, 0], stp [0, 1, 2, 8, 9, 10] J, stp [0, 1, 2, 8, 9, 10] J2, .blk 0, .code [1, 1, 1, 1, 1, 1]] (SRu a st co ev j p es) =
  (bif decide (j < co) then J { sl := [(0, I a), (1, I st), (2, I co), (8, I ev), (9, D.bp 0 0), (10, I j)], h := { box := upd (fun _ => none) 0 (some (Row.litT TB [p, D.bv TU 0 (List.length es)])), nl := 1, hw := upd (fun _ => none) 0 (some (List.length es)), nt := 1, vw := upd (fun _ => none) 0 (some (cv es encB)) : Heap } : St } else Does PP 50 [D.bp 0 0] { box := upd (fun _ => none) 0 (some (Row.litT TB [p, D.bv TU 0 (List.length es)])), nl := 1, hw := upd (fun _ => none) 0 (some (List.length es)), nt := 1, vw := upd (fun _ => none) 0 (some (cv es encB)) : Heap } (.str es) h11 ∧ K (.str es) { box := fun _ => none, nl := 1, hw := fun _ => none, nt := 1, vw := fun _ => none : Heap }) := by kernel_rfl
noncomputable def nRuBs (a : Int) (st : Int) (j : Int) : List Nat → Nat → Option Ans := scrAt [([1, 1, 1, 1, 1, 0, 1, 0, 0, 1, 0, 0, 0], 5, Ans.pure [I (addI .i64 a (mulI .i64 j st))] (.str (Lib.itoa (addI .i64 a (mulI .i64 j st)))))]
theorem nRuB [Lay] (a st co ev j : Int) (p : D) (es : Str) (J J2 : St → Prop) (K : D → Heap → Prop) : runS (EnX [9] Tryz.f34) (fh Tryz.f34 K) (nRuBs a st j) lv34 200 [.code [1, 1, 1, 1, 1, 0, 1, 0, 0, 1, 0, 0, 0], stp [0, 1, 2, 8, 9, 10, 11] J, .blk 1, .code [1, 1, 1, 1, 1, 0, 1, 0, 0, 1, 1], stp [0, 1, 2, 8, 9, 10] J2, .blk 0, .code [1, 1, 1, 1, 1, 1]] (SRu a st co ev j p es) =
  (PureW PP 85 [I (addI .i64 a (mulI .i64 j st))] [I (addI .i64 a (mulI .i64 j st))] (.str (Lib.itoa (addI .i64 a (mulI .i64 j st)))) ∧ J { sl := [(0, I a), (1, I st), (2, I co), (8, I ev), (9, D.bp 0 0), (10, I j), (11, .str (Lib.itoa (addI .i64 a (mulI .i64 j st))))], h := { box := upd (fun _ => none) 0 (some (Row.litT TB [p, D.bv TU 0 (List.length es)])), nl := 1, hw := upd (fun _ => none) 0 (some (List.length es)), nt := 1, vw := upd (fun _ => none) 0 (some (cv es encB)) : Heap } : St }) := by kernel_rfl
noncomputable def nRuCs  : List Nat → Nat → Option Ans := scrAt []
theorem nRuC [Lay] (a st co ev j : Int) (p : D) (es : Str) (q : Str) (J J2 : St → Prop) (K : D → Heap → Prop) : runS (EnX [9] Tryz.f34) (fh Tryz.f34 K) (nRuCs ) lv34 200 [.code [1, 1, 1, 1, 1, 0, 1, 0, 0, 1, 0, 0, 1, 0], stp [0, 1, 2, 8, 9, 10, 11] J, .blk 1, .code [1, 1, 1, 1, 1, 0, 1, 0, 0, 1, 1], stp [0, 1, 2, 8, 9, 10] J2, .blk 0, .code [1, 1, 1, 1, 1, 1]] (SRv a st co ev j p es q) =
  (List.length q ≤ strM → bif decide ((↑(List.length q) : Int) > subI .i64 co j) then J { sl := [(0, I a), (1, I st), (2, I co), (8, I ev), (9, D.bp 0 0), (10, I j), (11, .str { data := #[] : ByteArray }.data.toList)], h := { box := upd (fun _ => none) 0 (some (Row.litT TB [p, D.bv TU 0 (List.length es)])), nl := 1, hw := upd (fun _ => none) 0 (some (List.length es)), nt := 1, vw := upd (fun _ => none) 0 (some (cv es encB)) : Heap } : St } else J { sl := [(0, I a), (1, I st), (2, I co), (8, I ev), (9, D.bp 0 0), (10, I j), (11, .str q)], h := { box := upd (fun _ => none) 0 (some (Row.litT TB [p, D.bv TU 0 (List.length es)])), nl := 1, hw := upd (fun _ => none) 0 (some (List.length es)), nt := 1, vw := upd (fun _ => none) 0 (some (cv es encB)) : Heap } : St }) := by kernel_rfl
noncomputable def nRuDs (co : Int) (ev : Int) (j : Int) (es : Str) (q : Str) : List Nat → Nat → Option Ans := scrAt [([1, 1, 1, 1, 1, 0, 1, 0, 0, 1, 0, 0, 1, 1], 9, Ans.pure [.str { data := #[32] : ByteArray }.data.toList, I (subI .i64 (if subI .i64 co j < ev then subI .i64 co j else ev) (↑(List.length q) : Int))] (.str (Lib.repeatL { data := #[32] : ByteArray }.data.toList (subI .i64 (if subI .i64 co j < ev then subI .i64 co j else ev) (↑(List.length q) : Int)).toNat))), ([1, 1, 1, 1, 1, 0, 1, 0, 0, 1, 0, 0, 1, 1], 11, Ans.eff (.tup [I (↑(q ++ Lib.repeatL { data := #[32] : ByteArray }.data.toList (subI .i64 (if subI .i64 co j < ev then subI .i64 co j else ev) (↑(List.length q) : Int)).toNat).length : Int), D.nili]) (hSb (D.bp 0 0) (es ++ (q ++ Lib.repeatL { data := #[32] : ByteArray }.data.toList (subI .i64 (if subI .i64 co j < ev then subI .i64 co j else ev) (↑(List.length q) : Int)).toNat))))]
theorem nRuD [Lay] (a st co ev j : Int) (p : D) (es : Str) (q : Str) (J2 : St → Prop) (K : D → Heap → Prop) : runS (EnX [9] Tryz.f34) (fh Tryz.f34 K) (nRuDs co ev j es q) lv34 200 [.code [1, 1, 1, 1, 1, 0, 1, 0, 0, 1, 0, 0, 1, 1], .blk 1, .code [1, 1, 1, 1, 1, 0, 1, 0, 0, 1, 1], stp [0, 1, 2, 8, 9, 10] J2, .blk 0, .code [1, 1, 1, 1, 1, 1]] (SRv a st co ev j p es q) =
  (List.length q ≤ strM →
  PureW PP 33 [.str { data := #[32] : ByteArray }.data.toList, I (subI .i64 (if subI .i64 co j < ev then subI .i64 co j else ev) (↑(List.length q) : Int))] [.str { data := #[32] : ByteArray }.data.toList, I (subI .i64 (if subI .i64 co j < ev then subI .i64 co j else ev) (↑(List.length q) : Int))] (.str (Lib.repeatL { data := #[32] : ByteArray }.data.toList (subI .i64 (if subI .i64 co j < ev then subI .i64 co j else ev) (↑(List.length q) : Int)).toNat)) ∧
    List.length q + (Lib.repeatL { data := #[32] : ByteArray }.data.toList (subI .i64 (if subI .i64 co j < ev then subI .i64 co j else ev) (↑(List.length q) : Int)).toNat).length ≤ strM ∧
      Does PP 83 [D.bp 0 0, .str (q ++ Lib.repeatL { data := #[32] : ByteArray }.data.toList (subI .i64 (if subI .i64 co j < ev then subI .i64 co j else ev) (↑(List.length q) : Int)).toNat)] { box := upd (fun _ => none) 0 (some (Row.litT TB [p, D.bv TU 0 (List.length es)])), nl := 1, hw := upd (fun _ => none) 0 (some (List.length es)), nt := 1, vw := upd (fun _ => none) 0 (some (cv es encB)) : Heap } (.tup [I (↑(q ++ Lib.repeatL { data := #[32] : ByteArray }.data.toList (subI .i64 (if subI .i64 co j < ev then subI .i64 co j else ev) (↑(List.length q) : Int)).toNat).length : Int), D.nili]) (hSb (D.bp 0 0) (es ++ (q ++ Lib.repeatL { data := #[32] : ByteArray }.data.toList (subI .i64 (if subI .i64 co j < ev then subI .i64 co j else ev) (↑(List.length q) : Int)).toNat))) ∧ J2 { sl := [(0, I a), (1, I st), (2, I co), (8, I ev), (9, D.bp 0 0), (10, I (addI .i64 j ev))], h := { box := upd (fun _ => none) 0 (some (Row.litT TB [D.bp 0 0, D.bv TU 0 (List.length (es ++ (q ++ Lib.repeatL { data := #[32] : ByteArray }.data.toList (subI .i64 (if subI .i64 co j < ev then subI .i64 co j else ev) (↑(List.length q) : Int)).toNat)))])), nl := 1, hw := upd (fun _ => none) 0 (some (List.length (es ++ (q ++ Lib.repeatL { data := #[32] : ByteArray }.data.toList (subI .i64 (if subI .i64 co j < ev then subI .i64 co j else ev) (↑(List.length q) : Int)).toNat)))), nt := 1, vw := upd (fun _ => none) 0 (some (cv (es ++ (q ++ Lib.repeatL { data := #[32] : ByteArray }.data.toList (subI .i64 (if subI .i64 co j < ev then subI .i64 co j else ev) (↑(List.length q) : Int)).toNat)) encB)) : Heap } : St }) := by kernel_rfl
end Go.Proofs.YtpcbjkjgjoemaaaGreatDoor.S1
/- Rulers: the plain form, and the reference's. -/
namespace Go.Proofs.YtpcbjkjgjoemaaaGreatDoor.S1
open Go Go.Ab Go.Proofs
def isSeq : Option Code → Bool | some (.seq _ _) => true | _ => false
def isBlk : Option Code → Bool | some (.block i _) => Nat.beq i 1 | _ => false
theorem isSeq_ex {o : Option Code} (h : isSeq o = true) : ∃ a b, o = some (.seq a b) := by
  unfold isSeq at h
  split at h
  · exact ⟨_, _, rfl⟩
  · cases h
theorem isBlk_ex {o : Option Code} (h : isBlk o = true) : ∃ c, o = some (.block 1 c) := by
  unfold isBlk at h
  split at h
  · rw [Nat.eq_of_beq_eq_true h]; exact ⟨_, rfl⟩
  · cases h
/-- A loop; the round is shown place by place. -/
theorem lpK [Lay] {fn : Func} {cfg : Cfg} {fin : St → Prop} {α : Type} (I : α → Prop) (S : α → St) (μ : α → Nat) (l : List Nat) {p : List Nat} {td : List It} (hs : isLoop (sub (EnC cfg fn).root p) = true)
    (hr : ∀ x, I x → At (EnC cfg fn) fin (.code (p ++ [0]) :: stp l (Nx (EnC cfg fn).nt I S μ (μ x)) :: td) (S x)) (x : α) (hx : I x) : At (EnC cfg fn) fin (.code p :: td) (S x) := by
  have : ∃ c, sub (EnC cfg fn).root p = some (.loop c) := by
    unfold isLoop at hs
    split at hs
    · rename_i c h; exact ⟨c, h⟩
    · cases hs
  obtain ⟨c, hc⟩ := this
  exact at_loopK I S μ l hc hr x hx
/-- A round whose body is a test and a block of three parts, the second of which joins two ways. -/
theorem at_split [Lay] {E : Env} {fin : St → Prop} (hmix : E.P.follows .mixedOrders = true) (L : List Nat) {td : List It} {st : St} (la lb : List Nat) (J1 J2 J3 : St → Prop)
    (h0 : isSeq (sub E.root (L ++ [0])) = true) (h1 : isSeq (sub E.root (L ++ [0, 1])) = true) (hb : isBlk (sub E.root (L ++ [0, 1, 0])) = true) (h2 : isSeq (sub E.root (L ++ [0, 1, 0, 0])) = true) (h3 : isSeq (sub E.root (L ++ [0, 1, 0, 0, 1])) = true)
    (hA : At E fin (.code (L ++ [0, 0]) :: stp la J1 :: td) st)
    (hB : ∀ z, J1 z → At E fin (.code (L ++ [0, 1, 0, 0, 0]) :: stp lb J2 :: .blk 1 :: .code (L ++ [0, 1, 1]) :: td) z)
    (hC : ∀ z, J2 z → At E fin (.code (L ++ [0, 1, 0, 0, 1, 0]) :: stp lb J3 :: .blk 1 :: .code (L ++ [0, 1, 1]) :: td) z)
    (hD : ∀ z, J3 z → At E fin (.code (L ++ [0, 1, 0, 0, 1, 1]) :: .blk 1 :: .code (L ++ [0, 1, 1]) :: td) z) : At E fin (.code (L ++ [0]) :: td) st := by
  obtain ⟨_, _, h0⟩ := isSeq_ex h0
  obtain ⟨_, _, h1⟩ := isSeq_ex h1
  obtain ⟨_, hb⟩ := isBlk_ex hb
  obtain ⟨_, _, h2⟩ := isSeq_ex h2
  obtain ⟨_, _, h3⟩ := isSeq_ex h3
  refine at_seq hmix h0 ?_
  simp only [List.append_assoc, List.cons_append, List.nil_append]
  refine at_cutK la hA fun z hz => at_seq hmix h1 ?_
  simp only [List.append_assoc, List.cons_append, List.nil_append]
  refine at_blk hmix hb ?_
  simp only [List.append_assoc, List.cons_append, List.nil_append]
  refine at_seq hmix h2 ?_
  simp only [List.append_assoc, List.cons_append, List.nil_append]
  refine at_cutK lb (hB z hz) fun z hz => at_seq hmix h3 ?_
  simp only [List.append_assoc, List.cons_append, List.nil_append]
  exact at_cutK lb (hC z hz) hD
def pcR (a st co ev j : Nat) : Str :=
  let q := if co < j + (Lib.decDigits (a + j * st)).length then [] else Lib.decDigits (a + j * st)
  q ++ blk (min ev (co - j) - q.length)
def rulF (a st co ev : Nat) : Nat → Nat → Str
  | 0, _ => []
  | f + 1, j => if j < co then pcR a st co ev j ++ rulF a st co ev f (j + ev) else []
def evR (a st co : Nat) : Nat := ((Lib.decDigits (a + (co - 1) * st)).length / 10 + 1) * 10
def rulI (a st co : Int) : Str := if a < 0 ∨ a > 1099511627776 ∨ szB st co = false then [] else rulF a.toNat st.toNat co.toNat (evR a.toNat st.toNat co.toNat) co.toNat 0
theorem nDig_mono (u : Nat) : ∀ v, u ≤ v → Lib.nDigits u ≤ Lib.nDigits v := by
  induction u using Nat.strongRecOn with
  | _ u ih =>
    intro v h
    by_cases h1 : u < 10
    · rw [Lib.nDigits_small h1]; exact Lib.nDigits_pos v
    · rw [Lib.nDigits_big h1, Lib.nDigits_big (u := v) (by omega)]
      have := ih (u / 10) (by omega) (v / 10) (by omega)
      omega
theorem digs_le {a st co j : Nat} (hj : j < co) : (Lib.decDigits (a + j * st)).length ≤ evR a st co := by
  unfold evR
  have h1 : j * st ≤ (co - 1) * st := Nat.mul_le_mul_right _ (by omega)
  have h2 := nDig_mono (a + j * st) (a + (co - 1) * st) (by omega)
  rw [← Lib.decDigits_length, ← Lib.decDigits_length] at h2
  omega
theorem lin64 {a st j : Nat} (ha : a ≤ 1099511627776) (hs : st ≤ 1099511627776) (hj : j ≤ 200) : addI .i64 (a : Int) (mulI .i64 (j : Int) (st : Int)) = ((a + j * st : Nat) : Int) ∧ a + j * st ≤ 9223372036854775807 := by
  have h1 : j * st ≤ 200 * 1099511627776 := Nat.mul_le_mul hj hs
  have h2 : (j : Int) * (st : Int) = ((j * st : Nat) : Int) := (Int.natCast_mul _ _).symm
  rw [mul64 (by rw [h2]; omega) (by rw [h2]; omega), h2]
  generalize j * st = x at *
  refine ⟨?_, by omega⟩
  rw [add64 (by omega) (by omega)]; omega
theorem ev64 {n : Nat} (h : n ≤ 20) : mulI .i64 (addI .i64 (quoI .i64 (n : Int) 10) 1) 10 = (((n / 10 + 1) * 10 : Nat) : Int) := by
  rw [step_q n (by omega), add64 (by omega) (by omega), mul64 (by omega) (by omega)]; omega
theorem szB_spec {st co : Int} (h : szB st co = true) : ∃ s c : Nat, st = s ∧ co = c ∧ 1 ≤ s ∧ s ≤ 1099511627776 ∧ 1 ≤ c ∧ c ≤ 200 := by
  unfold szB at h
  have h := of_decide_eq_true h
  exact ⟨st.toNat, co.toNat, by omega, by omega, by omega, by omega, by omega, by omega⟩
end Go.Proofs.YtpcbjkjgjoemaaaGreatDoor.S1
/- Rulers: the reference's. -/
namespace Go.Proofs.YtpcbjkjgjoemaaaGreatDoor.S1
open Go Go.Ab Go.Proofs
theorem c37 [Lay] (a st co : Int) : Pure PP 37 [I a, I st, I co] (.str (rulI a st co)) := by
  refine pu F37 (by kernel_rfl) (of_eq (nRr a st co _) ⟨fun _ => PureW.mk (c86 _ _), cond_intro (fun h => ?_) fun h => ?_⟩)
  · have h : a < 0 ∨ a > 1099511627776 ∨ szB st co = false := by simpa [or_assoc] using h
    have : rulI a st co = [] := by unfold rulI; rw [if_pos h]
    rw [this]; exact Wk.refl _
  have h : ¬ (a < 0 ∨ a > 1099511627776 ∨ szB st co = false) := by
    simpa [or_assoc, and_assoc] using h
  have hr : rulI a st co = rulF a.toNat st.toNat co.toNat (evR a.toNat st.toNat co.toNat) co.toNat 0 := by unfold rulI; rw [if_neg h]
  rw [hr]
  obtain ⟨S, C, rfl, rfl, hs1, hs2, hc1, hc2⟩ := szB_spec (st := st) (co := co) (by cases hx : szB st co <;> simp_all)
  obtain ⟨A, rfl⟩ : ∃ A : Nat, a = A := ⟨a.toNat, by omega⟩
  simp only [Int.toNat_natCast]
  have hA : A ≤ 1099511627776 := by omega
  have hc' : subI .i64 (C : Int) 1 = ((C - 1 : Nat) : Int) := by rw [sub64 (by omega) (by omega)]; omega
  obtain ⟨e1, e2⟩ := lin64 hA hs2 (j := C - 1) (by omega)
  rw [hc', e1, Int.toNat_natCast]
  refine ⟨PureW.mk (c87 _ e2), fun _ => ⟨by decide, ?_⟩⟩
  have hd := dec_len _ e2
  rw [ev64 hd]
  have hev : ((((Lib.decDigits (A + (C - 1) * S)).length / 10 + 1) * 10 : Nat) : Int) = (evR A S C : Nat) := rfl
  rw [hev]
  have hev1 : 1 ≤ evR A S C := by unfold evR; omega
  have hev2 : evR A S C ≤ 30 := by unfold evR; omega
  have hdl : ∀ j, j < C → (Lib.decDigits (A + j * S)).length ≤ evR A S C := fun j hj => digs_le hj
  generalize evR A S C = ev at *
  refine lpK (fn := Tryz.f37) (fun z : Nat × Nat × Str => C ≤ z.2.1 + z.1 ∧ z.2.1 ≤ 100000 ∧ z.2.2.length ≤ 100000 + 100 * z.2.1 ∧ rulF A S C ev C 0 = z.2.2 ++ rulF A S C ev z.1 z.2.1) (fun z => SRr A S C ev z.2.1 z.2.2) (fun z => z.1) [0, 1, 2, 8, 9, 10] (by kernel_rfl) (fun z hz => ?_) (C, 0, []) ⟨by simp, by simp, by simp, rfl⟩
  obtain ⟨f, j, es⟩ := z
  obtain ⟨hf, hj, hes, he⟩ := hz
  simp only at hf hj hes he ⊢
  refine at_split hmix [1, 1, 1, 1, 1, 0, 1, 0] [0, 1, 2, 8, 9, 10] [0, 1, 2, 8, 9, 10, 11] (fun z => z = SRr A S C ev j es ∧ j < C) (fun z => z = SRs A S C ev j es (Lib.decDigits (A + j * S)) ∧ j < C)
    (fun z => z = SRs A S C ev j es (if C < j + (Lib.decDigits (A + j * S)).length then [] else Lib.decDigits (A + j * S)) ∧ j < C) (by kernel_rfl) (by kernel_rfl) (by kernel_rfl) (by kernel_rfl) (by kernel_rfl)
    (runS_sound hmix _ _ _ (of_eq (nRrA A S C ev j es _ _ _) (cond_intro (fun hlt => ⟨rfl, ltI hlt⟩) fun hge => ?_))) ?_ ?_ ?_
  · have hge := geI hge
    have : rulF A S C ev f j = [] := by
      cases f with
      | zero => rfl
      | succ f => rw [rulF, if_neg (by omega)]
    rw [this, List.append_nil] at he
    rw [he]; exact Wk.refl _
  · rintro _ ⟨rfl, hlt⟩
    obtain ⟨e3, e4⟩ := lin64 hA hs2 (j := j) (by omega)
    refine runS_sound hmix _ _ _ (of_eq (nRrB A S C ev j es _ _ _) ?_)
    rw [e3, Int.toNat_natCast]
    exact ⟨PureW.mk (c87 _ e4), rfl, hlt⟩
  · rintro _ ⟨rfl, hlt⟩
    have hl := hdl j hlt
    refine runS_sound hmix _ _ _ (of_eq (nRrC A S C ev j es _ _ _ _) fun _ => ?_)
    rw [add64 (by omega) (by omega)]
    refine cond_intro (fun hx => ⟨?_, hlt⟩) fun hx => ⟨?_, hlt⟩
    · have hx := of_decide_eq_true hx
      rw [if_pos (by omega)]; rfl
    · have hx := of_decide_eq_false hx
      rw [if_neg (by omega)]; rfl
  · rintro _ ⟨rfl, hlt⟩
    have hl := hdl j hlt
    obtain ⟨f, rfl⟩ : ∃ k, f = k + 1 := ⟨f - 1, by omega⟩
    rw [rulF, if_pos hlt] at he
    have hpc : pcR A S C ev j = (if C < j + (Lib.decDigits (A + j * S)).length then [] else Lib.decDigits (A + j * S)) ++ blk (min ev (C - j) - (if C < j + (Lib.decDigits (A + j * S)).length then [] else Lib.decDigits (A + j * S)).length) := rfl
    have hq : (if C < j + (Lib.decDigits (A + j * S)).length then [] else Lib.decDigits (A + j * S)).length ≤ min ev (C - j) := by
      split
      · simp
      · omega
    generalize (if C < j + (Lib.decDigits (A + j * S)).length then [] else Lib.decDigits (A + j * S)) = q at *
    refine runS_sound hmix _ _ _ (of_eq (nRrD A S C ev j es q _ _) fun _ => ?_)
    have h1 : subI .i64 (ev : Int) (q.length : Int) = ((ev - q.length : Nat) : Int) := by rw [sub64 (by omega) (by omega)]; omega
    have h2 : subI .i64 (C : Int) (j : Int) = ((C - j : Nat) : Int) := by rw [sub64 (by omega) (by omega)]; omega
    have h3 : (if ((C - j : Nat) : Int) < (ev : Int) then ((C - j : Nat) : Int) else (ev : Int)) = ((min ev (C - j) : Nat) : Int) := by split <;> omega
    have h4 : addI .i64 (j : Int) (ev : Int) = ((j + ev : Nat) : Int) := by rw [add64 (by omega) (by omega)]; omega
    rw [h1, h2, h3, h4]
    simp only [Int.toNat_natCast, List.drop_zero]
    have hb : ∀ n, (blk n).length = n := fun n => by unfold blk; simp
    have ht : (q ++ blk (ev - q.length)).take (min ev (C - j)) = q ++ blk (min ev (C - j) - q.length) := by
      rw [List.take_append, List.take_of_length_le hq]
      congr 1
      unfold blk
      rw [List.take_replicate]
      congr 1; omega
    rw [ht, ← hpc]
    have hpl : (pcR A S C ev j).length ≤ 30 := by rw [hpc, List.length_append, hb]; omega
    refine ⟨PureW.mk (c36 _ (by omega)), by rw [hb]; unfold strM; omega, ⟨by decide, by omega, by rw [List.length_append, hb]; omega⟩, by unfold strM; omega, ?_⟩
    refine Nx.of (f, j + ev, es ++ pcR A S C ev j) ⟨?_, ?_, ?_, ?_⟩ ?_ (StLe.refl _ _)
    · simp only; omega
    · simp only; omega
    · simp only [List.length_append]; omega
    · simp only; rw [he, List.append_assoc]
    · simp only; omega
end Go.Proofs.YtpcbjkjgjoemaaaGreatDoor.S1
/- Words for contracts where cells of the library's tables lie as its text lays them. -/
namespace Go.Proofs
open Go.Shelf
def Tryz.ito_ren : Go.Shelf.Ren := ⟨fun | 171 => 85 | 243 => 137 | 246 => 199 | 283 => 229 | 284 => 230 | 285 => 231 | 286 => 232 | 129 => 188 | 317 => 255 | 318 => 256 | 319 => 257 | 320 => 258 | 337 => 269 | 338 => 270 | n => n, fun | 3 => 3 | 9 => 9 | 2 => 2 | 4 => 4 | 171 => 286 | 0 => 0 | 53 => 146 | 37 => 91 | 5 => 5 | 173 => 288 | 212 => 310 | 51 => 206 | 20 => 20 | 213 => 311 | 46 => 130 | 232 => 318 | 233 => 319 | n => n, fun | 17 => 5 | 18 => 6 | 19 => 7 | n => n⟩
theorem Tryz.ito : Go.Proofs.LaysM.n171 Tryz.prog Tryz.ito_ren := {
  mixed := by kernel_rfl
  f129 := Tryz.func188.trans (congrArg some (by kernel_rfl))
  f171 := Tryz.func85.trans (congrArg some (by kernel_rfl))
  f243 := Tryz.func137.trans (congrArg some (by kernel_rfl))
  f246 := Tryz.func199.trans (congrArg some (by kernel_rfl))
  f283 := Tryz.func229.trans (congrArg some (by kernel_rfl))
  f284 := Tryz.func230.trans (congrArg some (by kernel_rfl))
  f285 := Tryz.func231.trans (congrArg some (by kernel_rfl))
  f286 := Tryz.func232.trans (congrArg some (by kernel_rfl))
  f317 := Tryz.func255.trans (congrArg some (by kernel_rfl))
  f318 := Tryz.func256.trans (congrArg some (by kernel_rfl))
  f319 := Tryz.func257.trans (congrArg some (by kernel_rfl))
  f320 := Tryz.func258.trans (congrArg some (by kernel_rfl))
  f337 := Tryz.func269.trans (congrArg some (by kernel_rfl))
  f338 := Tryz.func270.trans (congrArg some (by kernel_rfl))
  t0 := Tryz.underlying0
  a0 := Tryz.isAgg0
  z0 := Tryz.sizeOf0
  v0 := Tryz.zeroValue0
  t2 := Tryz.underlying2
  a2 := Tryz.isAgg2
  z2 := Tryz.sizeOf2
  v2 := Tryz.zeroValue2
  t3 := Tryz.underlying3
  a3 := Tryz.isAgg3
  z3 := Tryz.sizeOf3
  v3 := Tryz.zeroValue3
  t4 := Tryz.underlying4
  a4 := Tryz.isAgg4
  z4 := Tryz.sizeOf4
  v4 := Tryz.zeroValue4
  t5 := Tryz.underlying5
  a5 := Tryz.isAgg5
  z5 := Tryz.sizeOf5
  v5 := Tryz.zeroValue5
  t9 := Tryz.underlying9
  a9 := Tryz.isAgg9
  z9 := Tryz.sizeOf9
  v9 := Tryz.zeroValue9
  t20 := Tryz.underlying20
  a20 := Tryz.isAgg20
  z20 := Tryz.sizeOf20
  v20 := Tryz.zeroValue20
  t37 := Tryz.underlying91
  a37 := Tryz.isAgg91
  z37 := Tryz.sizeOf91
  v37 := Tryz.zeroValue91
  t46 := Tryz.underlying130
  a46 := Tryz.isAgg130
  z46 := Tryz.sizeOf130
  v46 := Tryz.zeroValue130
  t51 := Tryz.underlying206
  a51 := Tryz.isAgg206
  z51 := Tryz.sizeOf206
  v51 := Tryz.zeroValue206
  t53 := Tryz.underlying146
  a53 := Tryz.isAgg146
  z53 := Tryz.sizeOf146
  v53 := Tryz.zeroValue146
  t171 := Tryz.underlying286
  a171 := Tryz.isAgg286
  z171 := Tryz.sizeOf286
  v171 := Tryz.zeroValue286
  t173 := Tryz.underlying288
  a173 := Tryz.isAgg288
  z173 := Tryz.sizeOf288
  v173 := Tryz.zeroValue288
  t212 := Tryz.underlying310
  a212 := Tryz.isAgg310
  z212 := Tryz.sizeOf310
  v212 := Tryz.zeroValue310
  t213 := Tryz.underlying311
  a213 := Tryz.isAgg311
  z213 := Tryz.sizeOf311
  t232 := Tryz.underlying318
  a232 := Tryz.isAgg318
  z232 := Tryz.sizeOf318
  v232 := Tryz.zeroValue318
  t233 := Tryz.underlying319
  a233 := Tryz.isAgg319
  z233 := Tryz.sizeOf319
  v233 := Tryz.zeroValue319
  g17 := by kernel_rfl
  g18 := by kernel_rfl
  g19 := by kernel_rfl
  i0 := by kernel_rfl
  i2 := by kernel_rfl
  i3 := by kernel_rfl
  i4 := by kernel_rfl
  i5 := by kernel_rfl
  i9 := by kernel_rfl
  i20 := by kernel_rfl
  i37 := by kernel_rfl
  i46 := by kernel_rfl
  i51 := by kernel_rfl
  i53 := by kernel_rfl
  i171 := by kernel_rfl
  i173 := by kernel_rfl
  i212 := by kernel_rfl
  i232 := by kernel_rfl
  i233 := by kernel_rfl
  m17 := by kernel_rfl
  m18 := by kernel_rfl
  m19 := by kernel_rfl }
end Go.Proofs
namespace Go.Proofs.YtpcbjkjgjoemaaaGreatDoor.S1
open Go Go.Ab Go.Proofs
-- nolay
/-- Where the powers of ten lie. -/
noncomputable def gPow : Nat := (PP.globalNamed "internal/strconv.uint64pow10").getD 0
theorem gPow_eq : PP.globalNamed "internal/strconv.uint64pow10" = some gPow := by kernel_rfl
noncomputable def powRow : Array Value := (Lib.pow10Tab.map fun z => Value.int .u64 z).toArray
theorem powRow_size : powRow.size = 20 := by kernel_rfl
noncomputable abbrev LT10 : Lay where
  tab := fun a => if a.block = gPow ∧ a.spot = none then powRow[a.off]? else none
  row := fun b => if b = gPow then some powRow else none
  has := fun b cs h => by
    split at h
    · rename_i e
      cases h
      refine ⟨by rw [powRow_size]; omega, fun i hi => ⟨powRow[i], ?_⟩⟩
      rw [if_pos ⟨e, rfl⟩, Array.getElem?_eq_getElem hi]
    · cases h
theorem tabIs_of {g : G} {w : World} (h : @LayOk LT10 g w) : Lib.TabIs PP w "internal/strconv.uint64pow10" .u64 Lib.pow10Tab := by
  obtain ⟨T, fz, h1⟩ := h.2 gPow powRow (if_pos rfl)
  unfold Lib.TabIs World.var?
  rw [gPow_eq]
  simp only [Option.bind_some, h1]
  rfl
theorem layOk_of {g : G} {w : World} (h : Lib.TabIs PP w "internal/strconv.uint64pow10" .u64 Lib.pow10Tab) (hg : ∀ b cs T fz i v, w.heap[b]? = some (.cells cs T fz) → cs[i]? = some v → g.σ ⟨b, i, none⟩ = some v) : @LayOk LT10 g w := by
  have h1 : ∃ T fz, w.heap[gPow]? = some (.cells powRow T fz) := by
    unfold Lib.TabIs World.var? at h
    rw [gPow_eq] at h
    simp only [Option.bind_some] at h
    split at h
    · rename_i cs T fz e
      cases h
      exact ⟨T, fz, e⟩
    · cases h
  refine ⟨fun a v e => ?_, fun b cs e => ?_⟩
  · have e' : (if a.block = gPow ∧ a.spot = none then powRow[a.off]? else none) = some v := e
    split at e'
    · rename_i hc
      obtain ⟨T, fz, h2⟩ := h1
      have := hg gPow powRow T fz a.off v h2 e'
      have ha : a = ⟨gPow, a.off, none⟩ := by cases a; simp_all
      rw [ha]; exact this
    · cases e'
  · have e' : (if b = gPow then some powRow else none) = some cs := e
    split at e'
    · rename_i hc; cases e'; subst hc; exact h1
    · cases e'
end Go.Proofs.YtpcbjkjgjoemaaaGreatDoor.S1
/- Numerals of the library and of the reference, where the powers of ten lie as the library's text lays them. -/
namespace Go.Proofs.YtpcbjkjgjoemaaaGreatDoor.S1
open Go Go.Ab Go.Proofs
-- nolay
attribute [local instance] LT10
/-- A function of the library that only computes, and reads the laid tables. -/
theorem pureT {f : Nat} {args : List D} {v : D} (ok : Callable PP f) [da : DS args] [dv : DD v] (h : ∀ (g : G) (w : World) (vs : List Value), LayOk g w → Rs g args vs → ∃ x, R g v x ∧ Calls PP f vs.toArray w fun e w' => e = .returned x ∧ RowKit.Below w.heap.size w w') : Pure PP f args v :=
  ⟨ok, da.p, dv.p, fun g w vs hl sub hs => by
    obtain ⟨x, hx, hc⟩ := h g w vs hl hs
    refine hc.mono fun e w' ⟨he, hb⟩ => ⟨x, g.σ, he, R.mono ⟨fun _ _ h => h, fun _ _ h => h, fun _ k h => ⟨k, h, rfl, Nat.le_refl _, fun _ => rfl⟩⟩ _ _ hx, fun _ _ h => h, fun a y hy => ?_, fun _ _ h => .inl h, hb⟩
    obtain ⟨h1, h2⟩ := sub a y hy
    have hl : a.block < w.heap.size := World.block_lt_of_cell? w a h1
    exact ⟨(cell?_of_heap (hb.block _ hl)).trans h1, h2⟩⟩
theorem c85 (n : Int) (h0 : -9223372036854775808 ≤ n) (h1 : n ≤ 9223372036854775807) : Pure PP 85 [I n] (.str (Lib.itoa n)) := by
  refine pureT ⟨Tryz.f85, by kernel_rfl, by kernel_rfl, by kernel_rfl⟩ fun g w vs hl h => ?_
  simp only [Rs, R] at h
  obtain ⟨_, _, rfl, rfl, rfl⟩ := h
  refine ⟨.string ⟨(Lib.itoa n).toArray⟩, by simp only [R, true_and]; have := Lib.itoa_length_le n h0 h1; unfold strM; omega, ?_⟩
  exact (Any.strconv_Itoa Tryz.ito n h0 h1 w (tabIs_of hl)).mono fun e w' ⟨he, k, os, hw⟩ => ⟨he, by subst hw; exact Lib.below_grow _ _ (Nat.le_refl _) _ _⟩
end Go.Proofs.YtpcbjkjgjoemaaaGreatDoor.S1
/- Rulers: the code's. -/
namespace Go.Proofs.YtpcbjkjgjoemaaaGreatDoor.S1
open Go Go.Ab Go.Proofs
-- nolay
attribute [local instance] LT10
theorem pcR_len {a st co ev j : Nat} (hj : j < co) (hl : (Lib.decDigits (a + j * st)).length ≤ ev) : (pcR a st co ev j).length = min ev (co - j) := by
  have hb : ∀ n, (blk n).length = n := fun n => by unfold blk; simp
  unfold pcR
  simp only [List.length_append, hb]
  split
  · simp
  · omega
theorem cItoN (n : Nat) (h : n ≤ 9223372036854775807) : Pure PP 85 [I n] (.str (Lib.itoa (n : Int))) := c85 _ (by omega) (by omega)
theorem c34 (a st co : Int) : Pure PP 34 [I a, I st, I co] (.str (rulI a st co)) := by
  refine pr F34 (by kernel_rfl) (of_eq (nRu a st co _) ⟨fun _ => PureW.mk (c78 _ _), cond_intro (fun h => ?_) fun h => ?_⟩)
  · have h : a < 0 ∨ a > 1099511627776 ∨ szB st co = false := by simpa [or_assoc] using h
    have : rulI a st co = [] := by unfold rulI; rw [if_pos h]
    rw [this]; exact ⟨_, RetLe.refl _ _⟩
  have h : ¬ (a < 0 ∨ a > 1099511627776 ∨ szB st co = false) := by
    simpa [or_assoc, and_assoc] using h
  have hr : rulI a st co = rulF a.toNat st.toNat co.toNat (evR a.toNat st.toNat co.toNat) co.toNat 0 := by unfold rulI; rw [if_neg h]
  rw [hr]
  obtain ⟨S, C, rfl, rfl, hs1, hs2, hc1, hc2⟩ := szB_spec (st := st) (co := co) (by cases hx : szB st co <;> simp_all)
  obtain ⟨A, rfl⟩ : ∃ A : Nat, a = A := ⟨a.toNat, by omega⟩
  simp only [Int.toNat_natCast]
  have hA : A ≤ 1099511627776 := by omega
  have hc' : subI .i64 (C : Int) 1 = ((C - 1 : Nat) : Int) := by rw [sub64 (by omega) (by omega)]; omega
  obtain ⟨e1, e2⟩ := lin64 hA hs2 (j := C - 1) (by omega)
  rw [hc', e1]
  refine ⟨PureW.mk (cItoN _ e2), fun _ => ⟨by decide, trivial, ?_⟩⟩
  have hd := dec_len _ e2
  rw [Lib.itoa_nonneg, ev64 hd]
  have hev : ((((Lib.decDigits (A + (C - 1) * S)).length / 10 + 1) * 10 : Nat) : Int) = (evR A S C : Nat) := rfl
  rw [hev]
  have hev1 : 1 ≤ evR A S C := by unfold evR; omega
  have hev2 : evR A S C ≤ 30 := by unfold evR; omega
  have hdl : ∀ j, j < C → (Lib.decDigits (A + j * S)).length ≤ evR A S C := fun j hj => digs_le hj
  generalize evR A S C = ev at *
  refine at_le (st' := SRu A S C ev ((0 : Nat) : Int) .nilp []) ?_ ((StLe.idleBoxT _ 0 1 TU TB (cv ([] : Str) encB) rfl rfl).cast ?_)
  rotate_left
  · unfold SRu hSb
    simp only [hIdle, List.length_nil]
    rw [upd_upd]
    rfl
  refine lpK (fn := Tryz.f34) (fun z : Nat × Nat × D × Str => C ≤ z.2.1 + z.1 ∧ z.2.1 ≤ 100000 ∧ z.2.2.2.length ≤ 100000 + 100 * z.2.1 ∧ (z.2.2.1 = .nilp ∨ z.2.2.1 = .bp 0 0) ∧ (0 < z.2.1 → z.2.2.2 ≠ []) ∧ rulF A S C ev C 0 = z.2.2.2 ++ rulF A S C ev z.1 z.2.1) (fun z => SRu A S C ev z.2.1 z.2.2.1 z.2.2.2) (fun z => z.1) [0, 1, 2, 8, 9, 10] (by kernel_rfl) (fun z hz => ?_) (C, 0, .nilp, []) ⟨by simp, by simp, by simp, .inl rfl, fun h => absurd h (Nat.lt_irrefl _), rfl⟩
  obtain ⟨f, j, p, es⟩ := z
  obtain ⟨hf, hj, hes, hp, hnz, he⟩ := hz
  simp only at hf hj hes hp hnz he ⊢
  refine at_split hmix [1, 1, 1, 1, 1, 0, 1, 0] [0, 1, 2, 8, 9, 10] [0, 1, 2, 8, 9, 10, 11] (fun z => z = SRu A S C ev j p es ∧ j < C) (fun z => z = SRv A S C ev j p es (Lib.decDigits (A + j * S)) ∧ j < C)
    (fun z => z = SRv A S C ev j p es (if C < j + (Lib.decDigits (A + j * S)).length then [] else Lib.decDigits (A + j * S)) ∧ j < C) (by kernel_rfl) (by kernel_rfl) (by kernel_rfl) (by kernel_rfl) (by kernel_rfl)
    (runS_sound hmix _ _ _ (of_eq (nRuA A S C ev j p es _ _ _) (cond_intro (fun hlt => ⟨rfl, ltI hlt⟩) fun hge => ?_))) ?_ ?_ ?_
  · have hge := geI hge
    have : rulF A S C ev f j = [] := by
      cases f with
      | zero => rfl
      | succ f => rw [rulF, if_neg (by omega)]
    rw [this, List.append_nil] at he
    refine ⟨e50 p es (hnz (by omega)), _, RetLe.wk ?_ rfl⟩
    rw [he]; exact Wk.refl _
  · rintro _ ⟨rfl, hlt⟩
    obtain ⟨e3, e4⟩ := lin64 hA hs2 (j := j) (by omega)
    refine runS_sound hmix _ _ _ (of_eq (nRuB A S C ev j p es _ _ _) ?_)
    rw [e3]
    refine ⟨PureW.mk (cItoN _ e4), ?_, hlt⟩
    rw [Lib.itoa_nonneg]; rfl
  · rintro _ ⟨rfl, hlt⟩
    have hl := hdl j hlt
    refine runS_sound hmix _ _ _ (of_eq (nRuC A S C ev j p es _ _ _ _) fun _ => ?_)
    rw [sub64 (by omega) (by omega)]
    refine cond_intro (fun hx => ⟨?_, hlt⟩) fun hx => ⟨?_, hlt⟩
    · have hx := of_decide_eq_true hx
      rw [if_pos (by omega)]; rfl
    · have hx := of_decide_eq_false hx
      rw [if_neg (by omega)]; rfl
  · rintro _ ⟨rfl, hlt⟩
    have hl := hdl j hlt
    obtain ⟨f, rfl⟩ : ∃ k, f = k + 1 := ⟨f - 1, by omega⟩
    rw [rulF, if_pos hlt] at he
    have hpl := pcR_len hlt hl
    have hpc : pcR A S C ev j = (if C < j + (Lib.decDigits (A + j * S)).length then [] else Lib.decDigits (A + j * S)) ++ blk (min ev (C - j) - (if C < j + (Lib.decDigits (A + j * S)).length then [] else Lib.decDigits (A + j * S)).length) := rfl
    have hq : (if C < j + (Lib.decDigits (A + j * S)).length then [] else Lib.decDigits (A + j * S)).length ≤ min ev (C - j) := by
      split
      · simp
      · omega
    generalize (if C < j + (Lib.decDigits (A + j * S)).length then [] else Lib.decDigits (A + j * S)) = q at *
    refine runS_sound hmix _ _ _ (of_eq (nRuD A S C ev j p es q _ _) fun _ => ?_)
    have h2 : subI .i64 (C : Int) (j : Int) = ((C - j : Nat) : Int) := by rw [sub64 (by omega) (by omega)]; omega
    have h3 : (if ((C - j : Nat) : Int) < (ev : Int) then ((C - j : Nat) : Int) else (ev : Int)) = ((min ev (C - j) : Nat) : Int) := by split <;> omega
    have h1 : subI .i64 ((min ev (C - j) : Nat) : Int) (q.length : Int) = ((min ev (C - j) - q.length : Nat) : Int) := by rw [sub64 (by omega) (by omega)]; omega
    have h4 : addI .i64 (j : Int) (ev : Int) = ((j + ev : Nat) : Int) := by rw [add64 (by omega) (by omega)]; omega
    rw [h2, h3, h1, h4]
    simp only [Int.toNat_natCast]
    have hrp : ∀ n, Lib.repeatL ({ data := #[32] } : ByteArray).data.toList n = blk n := fun n => repL_blk n
    have hcr : PureW PP 33 [.str ({ data := #[32] } : ByteArray).data.toList, I ((min ev (C - j) - q.length : Nat) : Int)] [.str ({ data := #[32] } : ByteArray).data.toList, I ((min ev (C - j) - q.length : Nat) : Int)] (.str (Lib.repeatL ({ data := #[32] } : ByteArray).data.toList (min ev (C - j) - q.length))) :=
      PureW.mk (by have := cRepZ ({ data := #[32] } : ByteArray).data.toList ((min ev (C - j) - q.length : Nat) : Int) ⟨by omega, by omega⟩ (by rw [Int.toNat_natCast]; show 1 * _ ≤ _; omega); rw [Int.toNat_natCast] at this; exact this)
    refine ⟨hcr, ?_⟩
    rw [hrp, ← hpc]
    have hb : ∀ n, (blk n).length = n := fun n => by unfold blk; simp
    refine ⟨by rw [hb]; unfold strM; omega, e83 p hp es _ (by omega), ?_⟩
    refine Nx.of (f, j + ev, .bp 0 0, es ++ pcR A S C ev j) ⟨?_, ?_, ?_, .inr rfl, ?_, ?_⟩ ?_ (StLe.refl _ _)
    · simp only; omega
    · simp only; omega
    · simp only [List.length_append]; omega
    · intro _ h0
      have := congrArg List.length h0
      simp only [List.length_append, List.length_nil] at this
      omega
    · simp only; rw [he, List.append_assoc]
    · simp only; omega
end Go.Proofs.YtpcbjkjgjoemaaaGreatDoor.S1
/- Pictures: lists of texts compared; the code's parts (begun). -/
namespace Go.Proofs.YtpcbjkjgjoemaaaGreatDoor.S1
open Go Go.Ab Go.Proofs
theorem F15 : OkF 15 Tryz.f15 := ⟨by kernel_rfl, by kernel_rfl, by kernel_rfl⟩
def lv15 : List (List Nat × List Nat) := [([1, 1, 0, 1, 0], [0, 1, 5])]
noncomputable def nq16s  : List Nat → Nat → Option Ans := scrAt []
theorem nq16 [Lay] (p q : List Str) (K : D → Prop) : runS (En Tryz.f15) (fi Tryz.f15 K) (nq16s ) lv15 200 [.code []] ⟨argSlots 0 [L p 1 D.str, L q 1 D.str], .empty⟩ =
  (p.length ≤ lenM → q.length ≤ lenM → bif (↑p.length : Int) != (↑q.length : Int) then K (B false) else At (En Tryz.f15) (fi Tryz.f15 K) [It.code [1, 1, 0, 1, 0], It.blk 0, It.code [1, 1, 1]] { sl := [(0, L p 1 .str), (1, L q 1 .str), (5, I 0)], h := Heap.empty : St }) := by kernel_rfl
def Sq16 (p q : List Str) (i : Int) : St := ⟨[(0, L p 1 D.str), (1, L q 1 D.str), (5, I i)], .empty⟩
noncomputable def nq16as  : List Nat → Nat → Option Ans := scrAt []
theorem nq16a [Lay] (p q : List Str) (i : Int) (J : St → Prop) (K : D → Prop) : runS (En Tryz.f15) (fi Tryz.f15 K) (nq16as ) lv15 200 [.code [1, 1, 0, 1, 0, 0], stp [0, 1, 5] J, .blk 0, .code [1, 1, 1]] (Sq16 p q i) =
  (p.length ≤ lenM → bif decide (i < (↑p.length : Int)) then (0 ≤ i ∧ i < (↑p.length : Int)) ∧ (0 ≤ i ∧ i < (↑q.length : Int)) ∧ bif !p.getD i.toNat default == q.getD i.toNat default then K (B false) else J { sl := [(0, L p 1 .str), (1, L q 1 .str), (5, I (addI .i64 i 1))], h := Heap.empty : St } else K (B true)) := by kernel_rfl
theorem c15 [Lay] (p q : List Str) : Pure PP 15 [L p 1 D.str, L q 1 D.str] (B (decide (p = q))) := by
  refine pu F15 (by kernel_rfl) (of_eq (nq16 p q _) fun hl1 hl2 => cond_intro (fun h => ?_) fun h => ?_)
  · have h : ¬ (p.length : Int) = (q.length : Int) := by simpa using h
    have h : p.length ≠ q.length := by omega
    rw [decide_eq_false (fun e => h (by rw [e]))]; exact Wk.refl _
  have h : (p.length : Int) = (q.length : Int) := by simpa using h
  have h : p.length = q.length := by omega
  have hm : p.length ≤ 9223372036854775807 := hl1
  refine lp (fn := Tryz.f15) (fun i : Nat => i ≤ p.length ∧ decide (p = q) = decide (p.drop i = q.drop i)) (fun i => Sq16 p q i) (fun i => p.length - i) [0, 1, 5] (by kernel_rfl) (fun i hi => of_eq (nq16a p q i _ _) fun _ => ?_) 0 ⟨Nat.zero_le _, rfl⟩
  obtain ⟨hi, he⟩ := hi
  refine cond_intro (fun hlt => ?_) fun hge => ?_
  · have hlt := ltI hlt
    rw [drop_cons p i hlt, drop_cons q i (by omega)] at he
    refine ⟨⟨by omega, by omega⟩, ⟨by omega, by omega⟩, ?_⟩
    rw [Int.toNat_natCast]
    refine cond_intro (fun hne => ?_) fun heq => ?_
    · have hne : ¬ p.getD i default = q.getD i default := by simpa using hne
      rw [he, decide_eq_false (fun e => hne (List.cons.inj e).1)]; exact Wk.refl _
    · have heq : p.getD i default = q.getD i default := by simpa using heq
      rw [add64 (by omega) (by omega)]
      refine Nx.of (i + 1) ⟨by omega, ?_⟩ (by omega) (StLe.refl _ _)
      rw [he, heq]; simp
  · have hge := geI hge
    rw [he, List.drop_of_length_le (by omega), List.drop_of_length_le (by omega)]
    exact Wk.refl _
end Go.Proofs.YtpcbjkjgjoemaaaGreatDoor.S1
/- Pictures: the reference's parts. -/
namespace Go.Proofs.YtpcbjkjgjoemaaaGreatDoor.S1
open Go Go.Ab Go.Proofs
theorem F14 : OkF 14 Tryz.f14 := ⟨by kernel_rfl, by kernel_rfl, by kernel_rfl⟩
def lv14 : List (List Nat × List Nat) := [([1, 1, 1, 0, 1, 0], [1, 2, 3, 4, 5, 13, 14]), ([1, 1, 1, 1, 1, 0, 1, 0], [1, 2, 3, 4, 5, 13, 15, 16])]
noncomputable def nPrs (w : Wv) (ls : List Ln) (a : Int) (sp : Int) (co : Int) : List Nat → Nat → Option Ans := scrAt [([1, 0, 0], 5, Ans.pure [w.d, L ls 3 Ln.d, I a, I sp, I co] (I (chkF w ls a sp co)))]
theorem nPr [Lay] (w : Wv) (ls : List Ln) (a sp co : Int) (K : D → Heap → Prop) : runS (En Tryz.f14) (fh Tryz.f14 K) (nPrs w ls a sp co) lv14 200 [.code []] ⟨argSlots 0 [w.d, L ls 3 Ln.d, I a, I sp, I co], .empty⟩ =
  (PureW PP 35 [w.d, L ls 3 Ln.d, I a, I sp, I co] [w.d, L ls 3 Ln.d, I a, I sp, I co] (I (chkF w ls a sp co)) ∧ bif chkF w ls a sp co != 0 then K (.tup [.list 0 0 (fun _ => D.junk) .full, I (chkF w ls a sp co)]) Heap.empty else At (En Tryz.f14) (fh Tryz.f14 K) [It.code [1, 1, 1, 0, 1, 0], It.blk 0, It.code [1, 1, 1, 1]] { sl := [(1, L ls 3 Ln.d), (2, I a), (3, I sp), (4, I co), (5, .own [L w.sig 3 Sig.d, L w.gap 2 Iv.d, I w.fin]), (13, I 0), (14, I 0)], h := Heap.empty : St }) := by kernel_rfl
def SPr (w : Wv) (ls : List Ln) (a sp co wd i : Int) : St := ⟨[(1, L ls 3 Ln.d), (2, I a), (3, I sp), (4, I co), (5, .own [L w.sig 3 Sig.d, L w.gap 2 Iv.d, I w.fin]), (13, I wd), (14, I i)], .empty⟩
noncomputable def nPras (a : Int) (sp : Int) (co : Int) (wd : Int) : List Nat → Nat → Option Ans := scrAt [([1, 1, 1, 1, 0], 2, Ans.pure [I (addI .i64 wd 1)] (.str (blk (addI .i64 wd 1).toNat))), ([1, 1, 1, 1, 0], 6, Ans.pure [I a, I sp, I co] (.str (rulI a sp co)))]
theorem nPra [Lay] (w : Wv) (ls : List Ln) (a sp co wd i : Int) (J : St → Prop) (K : D → Heap → Prop) : runS (En Tryz.f14) (fh Tryz.f14 K) (nPras a sp co wd) lv14 200 [.code [1, 1, 1, 0, 1, 0, 0], stp [1, 2, 3, 4, 5, 13, 14] J, .blk 0, .code [1, 1, 1, 1]] (SPr w ls a sp co wd i) =
  (ls.length ≤ lenM → bif decide (i < (↑ls.length : Int)) then (0 ≤ i ∧ i < (↑ls.length : Int)) ∧ (List.length (ls.getD i.toNat default).lab ≤ strM → J { sl := [(1, L ls 3 Ln.d), (2, I a), (3, I sp), (4, I co), (5, .own [L w.sig 3 Sig.d, L w.gap 2 Iv.d, I w.fin]), (13, I (if (↑(List.length (ls.getD i.toNat default).lab) : Int) > wd then (↑(List.length (ls.getD i.toNat default).lab) : Int) else wd)), (14, I (addI .i64 i 1))], h := Heap.empty : St }) else PureW PP 36 [I (addI .i64 wd 1)] [I (addI .i64 wd 1)] (.str (blk (addI .i64 wd 1).toNat)) ∧ PureW PP 37 [I a, I sp, I co] [I a, I sp, I co] (.str (rulI a sp co)) ∧ List.length (blk (addI .i64 wd 1).toNat) + List.length (rulI a sp co) ≤ strM ∧ At (En Tryz.f14) (fh Tryz.f14 K) [It.code [1, 1, 1, 1, 1, 0, 1, 0], It.blk 2, It.code [1, 1, 1, 1, 1, 1]] { sl := [(1, L ls 3 Ln.d), (2, I a), (3, I sp), (4, I co), (5, .own [L w.sig 3 Sig.d, L w.gap 2 Iv.d, I w.fin]), (13, I wd), (15, .list 1 1 (strL [.str (blk (addI .i64 wd 1).toNat ++ rulI a sp co)]) .full), (16, I 0)], h := Heap.empty : St }) := by kernel_rfl
def SPs (w : Wv) (ls : List Ln) (a sp co wd i : Int) (es : List Str) : St := ⟨[(1, L ls 3 Ln.d), (2, I a), (3, I sp), (4, I co), (5, .own [L w.sig 3 Sig.d, L w.gap 2 Iv.d, I w.fin]), (13, I wd), (15, LT es 1 D.str 0), (16, I i)], hN es.length 1⟩
noncomputable def nPrcs (w : Wv) (ls : List Ln) (a : Int) (sp : Int) (co : Int) (wd : Int) (i : Int) : List Nat → Nat → Option Ans := scrAt [([1, 1, 1, 1, 1, 0, 1, 0, 0, 1, 0, 0], 15, Ans.pure [I (addI .i64 (subI .i64 wd (↑(List.length (ls.getD i.toNat default).lab) : Int)) 1)] (.str (blk (addI .i64 (subI .i64 wd (↑(List.length (ls.getD i.toNat default).lab) : Int)) 1).toNat))), ([1, 1, 1, 1, 1, 0, 1, 0, 0, 1, 0, 0], 25, Ans.pure [w.d, (ls.getD i.toNat default).d, I a, I sp, I co] (.str (lineS (sigOf w (ls.getD i.toNat default).sig) a sp co w.fin (ls.getD i.toNat default).base)))]
theorem nPrc [Lay] (w : Wv) (ls : List Ln) (a sp co wd i : Int) (es : List Str) (J : St → Prop) (K : D → Heap → Prop) : runS (En Tryz.f14) (fh Tryz.f14 K) (nPrcs w ls a sp co wd i) lv14 200 [.code [1, 1, 1, 1, 1, 0, 1, 0, 0], stp [1, 2, 3, 4, 5, 13, 15, 16] J, .blk 2, .code [1, 1, 1, 1, 1, 1]] (SPs w ls a sp co wd i es) =
  (ls.length ≤ lenM →
  bif decide (i < (↑ls.length : Int)) then
    (0 ≤ i ∧ i < (↑ls.length : Int)) ∧
      (0 ≤ i ∧ i < (↑ls.length : Int)) ∧ (List.length (ls.getD i.toNat default).lab ≤ strM → PureW PP 36 [I (addI .i64 (subI .i64 wd (↑(List.length (ls.getD i.toNat default).lab) : Int)) 1)] [I (addI .i64 (subI .i64 wd (↑(List.length (ls.getD i.toNat default).lab) : Int)) 1)] (.str (blk (addI .i64 (subI .i64 wd (↑(List.length (ls.getD i.toNat default).lab) : Int)) 1).toNat)) ∧ List.length (ls.getD i.toNat default).lab + List.length (blk (addI .i64 (subI .i64 wd (↑(List.length (ls.getD i.toNat default).lab) : Int)) 1).toNat) ≤ strM ∧ (0 ≤ i ∧ i < (↑ls.length : Int)) ∧ PureW PP 38 [w.d, (ls.getD i.toNat default).d, I a, I sp, I co] [w.d, (ls.getD i.toNat default).d, I a, I sp, I co] (.str (lineS (sigOf w (ls.getD i.toNat default).sig) a sp co w.fin (ls.getD i.toNat default).base)) ∧ ((ls.getD i.toNat default).lab ++ blk (addI .i64 (subI .i64 wd (↑(List.length (ls.getD i.toNat default).lab) : Int)) 1).toNat).length + List.length (lineS (sigOf w (ls.getD i.toNat default).sig) a sp co w.fin (ls.getD i.toNat default).base) ≤ strM ∧ (upd (fun _ => none) 0 (some es.length) 0 = some es.length ∧ (es.length + 1) * 16 ≤ roomM) ∧ J { sl := [(1, L ls 3 Ln.d), (2, I a), (3, I sp), (4, I co), (5, .own [L w.sig 3 Sig.d, L w.gap 2 Iv.d, I w.fin]), (13, I wd), (15, .list (es.length + 1) 1 (catG es.length (fun i => .str (es.getD i default)) (strL [.str ((ls.getD i.toNat default).lab ++ blk (addI .i64 (subI .i64 wd (↑(List.length (ls.getD i.toNat default).lab) : Int)) 1).toNat ++ lineS (sigOf w (ls.getD i.toNat default).sig) a sp co w.fin (ls.getD i.toNat default).base)])) (.tok 0 1)), (16, I (addI .i64 i 1))], h := { box := fun _ => none, nl := 0, hw := upd (upd (fun _ => none) 0 (some es.length)) 0 (some (es.length + 1)), nt := 1, vw := fun _ => none : Heap } : St })
  else K (.tup [.list es.length 1 (fun i => .str (es.getD i default)) (.tok 0 1), I 0]) { box := fun _ => none, nl := 0, hw := upd (fun _ => none) 0 (some es.length), nt := 1, vw := fun _ => none : Heap }) := by kernel_rfl
def SPt (w : Wv) (ls : List Ln) (a sp co wd i : Int) (x : Str) : St := ⟨[(1, L ls 3 Ln.d), (2, I a), (3, I sp), (4, I co), (5, .own [L w.sig 3 Sig.d, L w.gap 2 Iv.d, I w.fin]), (13, I wd), (15, .list 1 1 (strL [.str x]) .full), (16, I i)], .empty⟩
noncomputable def nPrds (w : Wv) (ls : List Ln) (a : Int) (sp : Int) (co : Int) (wd : Int) (i : Int) : List Nat → Nat → Option Ans := scrAt [([1, 1, 1, 1, 1, 0, 1, 0, 0, 1, 0, 0], 15, Ans.pure [I (addI .i64 (subI .i64 wd (↑(List.length (ls.getD i.toNat default).lab) : Int)) 1)] (.str (blk (addI .i64 (subI .i64 wd (↑(List.length (ls.getD i.toNat default).lab) : Int)) 1).toNat))), ([1, 1, 1, 1, 1, 0, 1, 0, 0, 1, 0, 0], 25, Ans.pure [w.d, (ls.getD i.toNat default).d, I a, I sp, I co] (.str (lineS (sigOf w (ls.getD i.toNat default).sig) a sp co w.fin (ls.getD i.toNat default).base)))]
theorem nPrd [Lay] (w : Wv) (ls : List Ln) (a sp co wd i : Int) (x : Str) (J : St → Prop) (K : D → Heap → Prop) : runS (En Tryz.f14) (fh Tryz.f14 K) (nPrds w ls a sp co wd i) lv14 200 [.code [1, 1, 1, 1, 1, 0, 1, 0, 0], stp [1, 2, 3, 4, 5, 13, 15, 16] J, .blk 2, .code [1, 1, 1, 1, 1, 1]] (SPt w ls a sp co wd i x) =
  (ls.length ≤ lenM →
  bif decide (i < (↑ls.length : Int)) then (0 ≤ i ∧ i < (↑ls.length : Int)) ∧ (0 ≤ i ∧ i < (↑ls.length : Int)) ∧ (List.length (ls.getD i.toNat default).lab ≤ strM → PureW PP 36 [I (addI .i64 (subI .i64 wd (↑(List.length (ls.getD i.toNat default).lab) : Int)) 1)] [I (addI .i64 (subI .i64 wd (↑(List.length (ls.getD i.toNat default).lab) : Int)) 1)] (.str (blk (addI .i64 (subI .i64 wd (↑(List.length (ls.getD i.toNat default).lab) : Int)) 1).toNat)) ∧ List.length (ls.getD i.toNat default).lab + List.length (blk (addI .i64 (subI .i64 wd (↑(List.length (ls.getD i.toNat default).lab) : Int)) 1).toNat) ≤ strM ∧ (0 ≤ i ∧ i < (↑ls.length : Int)) ∧ PureW PP 38 [w.d, (ls.getD i.toNat default).d, I a, I sp, I co] [w.d, (ls.getD i.toNat default).d, I a, I sp, I co] (.str (lineS (sigOf w (ls.getD i.toNat default).sig) a sp co w.fin (ls.getD i.toNat default).base)) ∧ ((ls.getD i.toNat default).lab ++ blk (addI .i64 (subI .i64 wd (↑(List.length (ls.getD i.toNat default).lab) : Int)) 1).toNat).length + List.length (lineS (sigOf w (ls.getD i.toNat default).sig) a sp co w.fin (ls.getD i.toNat default).base) ≤ strM ∧ 32 ≤ roomM ∧ J { sl := [(1, L ls 3 Ln.d), (2, I a), (3, I sp), (4, I co), (5, .own [L w.sig 3 Sig.d, L w.gap 2 Iv.d, I w.fin]), (13, I wd), (15, .list 2 1 (catG 1 (strL [.str x]) (strL [.str ((ls.getD i.toNat default).lab ++ blk (addI .i64 (subI .i64 wd (↑(List.length (ls.getD i.toNat default).lab) : Int)) 1).toNat ++ lineS (sigOf w (ls.getD i.toNat default).sig) a sp co w.fin (ls.getD i.toNat default).base)])) (.tok 0 1)), (16, I (addI .i64 i 1))], h := { box := fun _ => none, nl := 0, hw := upd (fun _ => none) 0 (some 2), nt := 1, vw := fun _ => none : Heap } : St })
  else K (.tup [.list 1 1 (strL [.str x]) .full, I 0]) Heap.empty) := by kernel_rfl
end Go.Proofs.YtpcbjkjgjoemaaaGreatDoor.S1
/- Pictures: the plain form. -/
namespace Go.Proofs.YtpcbjkjgjoemaaaGreatDoor.S1
open Go Go.Ab Go.Proofs
/-- The longest label. -/
def wdR : List Ln → Nat → Nat
  | [], n => n
  | l :: ls, n => wdR ls (max n l.lab.length)
def rowR (w : Wv) (a sp co : Int) (wd : Nat) (l : Ln) : Str := l.lab ++ blk (wd - l.lab.length + 1) ++ lineS (sigOf w l.sig) a sp co w.fin l.base
def picR (w : Wv) (ls : List Ln) (a sp co : Int) : List Str × Int :=
  if chkF w ls a sp co ≠ 0 then ([], chkF w ls a sp co) else ((blk (wdR ls 0 + 1) ++ rulI a sp co) :: ls.map (rowR w a sp co (wdR ls 0)), 0)
theorem wdR_ge : ∀ (ls : List Ln) (n : Nat), n ≤ wdR ls n ∧ ∀ l ∈ ls, l.lab.length ≤ wdR ls n
  | [], n => ⟨Nat.le_refl _, fun _ h => by cases h⟩
  | x :: ls, n => by
    obtain ⟨h1, h2⟩ := wdR_ge ls (max n x.lab.length)
    rw [wdR]
    refine ⟨by omega, fun l hl => ?_⟩
    rcases List.mem_cons.1 hl with rfl | hl
    · omega
    · exact h2 l hl
theorem wdR_le : ∀ (ls : List Ln) (n m : Nat), n ≤ m → (∀ l ∈ ls, l.lab.length ≤ m) → wdR ls n ≤ m
  | [], _, _, h, _ => h
  | x :: ls, n, m, h, hl => by
    rw [wdR]
    exact wdR_le ls _ m (by have := hl x (List.mem_cons_self ..); omega) fun l h => hl l (List.mem_cons_of_mem _ h)
end Go.Proofs.YtpcbjkjgjoemaaaGreatDoor.S1
/- Pictures: the reference's Picture. -/
namespace Go.Proofs.YtpcbjkjgjoemaaaGreatDoor.S1
open Go Go.Ab Go.Proofs
theorem chkRs_ok {w : Wv} {ls : List Ln} {a stp cols : Int} (h : chkR w ls a stp cols = 0) : szB stp cols = true ∧ (1 ≤ stp ∧ stp ≤ 1099511627776) ∧ (1 ≤ cols ∧ cols ≤ 200) ∧ ls.length ≤ 64 ∧ (∀ l ∈ ls, lnB l = true ∧ l.lab.length ≤ 64) ∧ 0 ≤ a ∧ a ≤ w.fin := by
  unfold chkR at h
  by_cases h1 : szB stp cols = false ∨ ls.length > 64
  · rw [if_pos h1] at h; cases h
  rw [if_neg h1] at h
  have h2 : szB stp cols = true := by
    cases hb : szB stp cols with
    | true => rfl
    | false => exact absurd (.inl hb) h1
  by_cases h3 : ls.all lnB = false
  · rw [if_pos h3] at h; cases h
  rw [if_neg h3] at h
  by_cases h4 : a < 0 ∨ a > w.fin
  · rw [if_pos h4] at h; cases h
  have h5 : 1 ≤ stp ∧ stp ≤ 1099511627776 ∧ 1 ≤ cols ∧ cols ≤ 200 := by unfold szB at h2; exact of_decide_eq_true h2
  have h6 : ls.all lnB = true := by simpa using h3
  refine ⟨h2, ⟨h5.1, h5.2.1⟩, h5.2.2, by have := (not_or.1 h1).2; omega, fun l hl => ?_, by omega, by omega⟩
  have h7 := List.all_eq_true.1 h6 l hl
  refine ⟨h7, ?_⟩
  unfold lnB at h7
  simp only [Bool.and_eq_true, decide_eq_true_eq] at h7
  exact h7.2.2.2
theorem chkF_ok {w : Wv} {ls : List Ln} {a stp cols : Int} (h : chkF w ls a stp cols = 0) : chkR w ls a stp cols = 0 ∧ ∀ l ∈ ls, 0 ≤ l.sig ∧ l.sig < (w.sig.length : Int) := by
  unfold chkF at h
  by_cases h0 : chkR w ls a stp cols ≠ 0
  · rw [if_pos h0] at h; exact absurd h h0
  rw [if_neg h0] at h
  refine ⟨by omega, fun l hl => ?_⟩
  by_cases h1 : ls.all (fun l => decide (0 ≤ l.sig ∧ l.sig < (w.sig.length : Int))) = true
  · exact of_decide_eq_true (List.all_eq_true.1 h1 l hl)
  · rw [if_neg h1] at h; cases h
theorem blk_len (n : Nat) : (blk n).length = n := by unfold blk; simp
theorem lineS_len (q : Sig) (a sp cols fin base : Int) : (lineS q a sp cols fin base).length = cols.toNat := by
  have := nCol_le sp fin cols.toNat a
  unfold lineS
  rw [List.length_append, blk_len, lineC_len]; omega
theorem rulF_len {a st co ev : Nat} (he : 1 ≤ ev) (hd : ∀ j, j < co → (Lib.decDigits (a + j * st)).length ≤ ev) : ∀ (f j : Nat), co ≤ j + f → (rulF a st co ev f j).length = co - j
  | 0, j, h => by rw [rulF]; simp; omega
  | f + 1, j, h => by
    rw [rulF]
    by_cases hj : j < co
    · rw [if_pos hj, List.length_append, pcR_len hj (hd j hj), rulF_len he hd f (j + ev) (by omega)]; omega
    · rw [if_neg hj]; simp; omega
theorem rulI_len {a sp co : Int} (hz : szB sp co = true) (h0 : 0 ≤ a) (h1 : a ≤ 1099511627776) : (rulI a sp co).length = co.toNat := by
  have hc : ¬ (a < 0 ∨ a > 1099511627776 ∨ szB sp co = false) := by
    rw [hz]; simp; omega
  unfold rulI
  rw [if_neg hc, rulF_len (by unfold evR; omega) (fun j hj => digs_le hj) _ _ (by omega)]; omega
theorem rowR_len (w : Wv) (a sp co : Int) (wd : Nat) (l : Ln) (h : l.lab.length ≤ wd) : (rowR w a sp co wd l).length = wd + 1 + co.toNat := by
  unfold rowR
  rw [List.length_append, List.length_append, blk_len, lineS_len]; omega
theorem picR_bad {w : Wv} {ls : List Ln} {a sp co : Int} (h : chkF w ls a sp co ≠ 0) : picR w ls a sp co = ([], chkF w ls a sp co) := by unfold picR; rw [if_pos h]
theorem picR_ok {w : Wv} {ls : List Ln} {a sp co : Int} (h : chkF w ls a sp co = 0) : picR w ls a sp co = ((blk (wdR ls 0 + 1) ++ rulI a sp co) :: ls.map (rowR w a sp co (wdR ls 0)), 0) := by unfold picR; rw [if_neg (by omega)]
def SP2 (w : Wv) (ls : List Ln) (a sp co : Int) (wd : Nat) (x : Str) : Nat → St
  | 0 => SPt w ls a sp co wd 0 x
  | k + 1 => SPs w ls a sp co wd ((k + 1 : Nat) : Int) (x :: (ls.take (k + 1)).map (rowR w a sp co wd))
theorem wd_max (n m : Nat) : (if (m : Int) > (n : Int) then (m : Int) else (n : Int)) = ((max n m : Nat) : Int) := by
  split <;> omega
theorem c14 [Lay] (w : Wv) (hw : SmD w) (ls : List Ln) (a sp co : Int) : Pure PP 14 [w.d, L ls 3 Ln.d, I a, I sp, I co] (.tup [L (picR w ls a sp co).1 1 D.str, I (picR w ls a sp co).2]) := by
  refine pr F14 (by kernel_rfl) (of_eq (nPr w ls a sp co _) ⟨PureW.mk (c35 w ls a sp co), cond_intro (fun h => ?_) fun h => ?_⟩)
  · have h : chkF w ls a sp co ≠ 0 := by simpa using h
    rw [picR_bad h]
    exact ⟨_, RetLe.wk (Wk.tup (Wks.cons Wk.nilL (Wks.refl _))) rfl⟩
  have h : chkF w ls a sp co = 0 := by simpa using h
  obtain ⟨h1, hsg⟩ := chkF_ok h
  obtain ⟨hz, hs, hc, hl64, hlab, ha0, ha1⟩ := chkRs_ok h1
  have hfin := hw.ok.fin
  rw [picR_ok h]
  have hwd := wdR_le ls 0 64 (by omega) fun l hl => (hlab l hl).2
  have hge := (wdR_ge ls 0).2
  have hrl := rulI_len hz ha0 (show a ≤ 1099511627776 by omega)
  refine lp (fn := Tryz.f14) (fun z : Nat × Nat => z.1 ≤ ls.length ∧ z.2 ≤ 64 ∧ wdR ls 0 = wdR (ls.drop z.1) z.2) (fun z => SPr w ls a sp co (z.2 : Nat) (z.1 : Nat)) (fun z => ls.length - z.1) [1, 2, 3, 4, 5, 13, 14] (by kernel_rfl) (fun z hz => of_eq (nPra w ls a sp co (z.2 : Nat) (z.1 : Nat) _ _) fun hl => ?_) (0, 0) ⟨Nat.zero_le _, Nat.zero_le _, rfl⟩
  obtain ⟨i, wd⟩ := z
  obtain ⟨hi, hw64, he⟩ := hz
  simp only at hi hw64 he ⊢
  refine cond_intro (fun hlt => ?_) fun hge1 => ?_
  · have hlt := ltI hlt
    rw [drop_cons _ _ hlt, wdR] at he
    have hm : ls.getD i default ∈ ls := by
      rw [List.getD_eq_getElem?_getD, List.getElem?_eq_getElem hlt]; exact List.getElem_mem hlt
    have := (hlab _ hm).2
    rw [add1 hlt hl, Int.toNat_natCast, wd_max]
    exact ⟨⟨by omega, by omega⟩, fun _ => Nx.mk (i + 1, max wd (ls.getD i default).lab.length) ⟨hlt, by simp only; omega, he⟩ (by simp only; omega)⟩
  rw [List.drop_of_length_le (geI hge1), wdR] at he
  rw [he] at hwd hge ⊢
  have hw1 : addI .i64 (wd : Int) 1 = ((wd + 1 : Nat) : Int) := by rw [add64 (by omega) (by omega)]; omega
  rw [hw1, Int.toNat_natCast]
  refine ⟨PureW.mk (by have := c36 ((wd + 1 : Nat) : Int) (by omega); rw [Int.toNat_natCast] at this; exact this), PureW.mk (c37 a sp co), by rw [blk_len, hrl]; unfold strM; omega, ?_⟩
  generalize hX : blk (wd + 1) ++ rulI a sp co = X
  refine lpK (fn := Tryz.f14) (fun i : Nat => i ≤ ls.length) (fun i => SP2 w ls a sp co wd X i) (fun i => ls.length - i) [1, 2, 3, 4, 5, 13, 15, 16] (by kernel_rfl) (fun i hi => ?_) 0 (Nat.zero_le _)
  -- a line
  have hln : ∀ i, i < ls.length → ∃ l, ls.getD i default = l ∧ l ∈ ls ∧ addI .i64 (subI .i64 (wd : Int) (l.lab.length : Int)) 1 = ((wd - l.lab.length + 1 : Nat) : Int) ∧ l.lab.length ≤ 64 ∧
      Pure PP 38 [w.d, l.d, I a, I sp, I co] (.str (lineS (sigOf w l.sig) a sp co w.fin l.base)) := fun i hlt => by
    have hm : ls.getD i default ∈ ls := by
      rw [List.getD_eq_getElem?_getD, List.getElem?_eq_getElem hlt]; exact List.getElem_mem hlt
    have h1 := hge _ hm
    have h2 := (hlab _ hm).2
    refine ⟨_, rfl, hm, ?_, h2, c38 w hw _ (hsg _ hm) a sp co ⟨ha0, ha1, hfin.2, hs.1, hs.2, hc.1, hc.2⟩⟩
    rw [sub64 (by omega) (by omega), add64 (by omega) (by omega)]; omega
  have hbl : ∀ n : Nat, n ≤ 1000 → Pure PP 36 [I (n : Int)] (.str (blk n)) := fun n h => by
    have := c36 (n : Int) (by omega); rw [Int.toNat_natCast] at this; exact this
  rcases i with _ | k
  · refine runS_sound hmix _ _ _ (of_eq (nPrd w ls a sp co wd 0 X _ _) fun hl => cond_intro (fun hlt => ?_) fun hge2 => ?_)
    · have hlt : 0 < ls.length := by have := of_decide_eq_true hlt; omega
      obtain ⟨l, e, hm, e1, h2, cl⟩ := hln 0 hlt
      rw [show (0 : Int).toNat = 0 from rfl, e, e1, Int.toNat_natCast]
      refine ⟨⟨by omega, by omega⟩, ⟨by omega, by omega⟩, fun _ => ⟨PureW.mk (hbl _ (by omega)), by rw [blk_len]; unfold strM; omega, ⟨by omega, by omega⟩, PureW.mk cl, by rw [List.length_append, blk_len, lineS_len]; unfold strM; omega, by unfold roomM; omega, Nx.of 1 hlt (by omega) ?_⟩⟩
      have e3 : ls.take 1 = [l] := by
        cases ls with
        | nil => simp at hlt
        | cons y r => rw [← e]; rfl
      have e4 : SP2 w ls a sp co wd X 1 = SPs w ls a sp co wd 1 (X :: ([l] : List Ln).map (rowR w a sp co wd)) := by
        show SPs w ls a sp co wd ((0 + 1 : Nat) : Int) (X :: (ls.take 1).map (rowR w a sp co wd)) = _
        rw [e3]; rfl
      rw [e4]
      refine (StLe.set 15 rfl (Wk.app (a := [X]) (b := [rowR w a sp co wd l]) (sz := 1) (enc := D.str) (own' := .tok 0 1) rfl rfl ?_ (.inr rfl)) rfl rfl).trans (StLe.heap (by rfl))
      intro i hi
      cases i with
      | zero => rfl
      | succ i => simp at hi
    · have hge2 : ls = [] := List.eq_nil_of_length_eq_zero (by have := of_decide_eq_false hge2; omega)
      subst hge2
      exact ⟨_, RetLe.wk (Wk.tup (Wks.cons (Wk.strL rfl rfl) (Wks.refl _))) rfl⟩
  · have hle : (X :: (ls.take (k + 1)).map (rowR w a sp co wd)).length = k + 2 := by
      rw [List.length_cons, List.length_map, List.length_take]; omega
    refine runS_sound hmix _ _ _ (of_eq (nPrc w ls a sp co wd ((k + 1 : Nat) : Int) (X :: (ls.take (k + 1)).map (rowR w a sp co wd)) _ _) fun hl => cond_intro (fun hlt => ?_) fun hge2 => ?_)
    · have hlt := ltI hlt
      obtain ⟨l, e, hm, e1, h2, cl⟩ := hln (k + 1) hlt
      rw [add1 hlt hl, Int.toNat_natCast, e, e1, Int.toNat_natCast]
      refine ⟨⟨by omega, by omega⟩, ⟨by omega, by omega⟩, fun _ => ⟨PureW.mk (hbl _ (by omega)), by rw [blk_len]; unfold strM; omega, ⟨by omega, by omega⟩, PureW.mk cl, by rw [List.length_append, blk_len, lineS_len]; unfold strM; omega, ⟨upd_same _ _ _, by rw [hle]; unfold roomM; omega⟩, Nx.of (k + 2) hlt (by omega) ?_⟩⟩
      have e4 : SP2 w ls a sp co wd X (k + 2) = SPs w ls a sp co wd ((k + 2 : Nat) : Int) ((X :: (ls.take (k + 1)).map (rowR w a sp co wd)) ++ [rowR w a sp co wd l]) := by
        show SPs w ls a sp co wd ((k + 1 + 1 : Nat) : Int) (X :: (ls.take (k + 1 + 1)).map (rowR w a sp co wd)) = _
        rw [take_snoc _ _ hlt, List.map_append, e]; rfl
      rw [e4]
      exact (StLe.set 15 rfl (Wk.snocStr (x := rowR w a sp co wd l)) rfl rfl).trans (StLe.heap (by simp [hN, upd_upd]))
    · have hge2 := geI hge2
      rw [List.take_of_length_le hge2]
      exact ⟨_, RetLe.wk (Wk.tup (Wks.cons Wk.tokL (Wks.refl _))) rfl⟩
end Go.Proofs.YtpcbjkjgjoemaaaGreatDoor.S1
/- Pictures: the code's parts. -/
namespace Go.Proofs.YtpcbjkjgjoemaaaGreatDoor.S1
open Go Go.Ab Go.Proofs
-- nolay
attribute [local instance] LT10
theorem F12 : OkF 12 Tryz.f12 := ⟨by kernel_rfl, by kernel_rfl, by kernel_rfl⟩
def lv12 : List (List Nat × List Nat) := [([1, 1, 1, 0, 1, 0], [0, 1, 2, 3, 4, 13, 30, 31, 32]), ([1, 1, 1, 1, 1, 0, 1, 0], [0, 2, 3, 4, 13, 16, 51, 52, 53])]
noncomputable def nDPs (w : Wv) (c : Int) (ls : List Ln) (a : Int) (sp : Int) (co : Int) : List Nat → Nat → Option Ans := scrAt [([1, 0, 0], 5, Ans.eff (I (chkR w ls a sp co)) (hM w (-1) c))]
theorem nDP (w : Wv) (c : Int) (ls : List Ln) (a sp co : Int) (K : D → Heap → Prop) : runS (En Tryz.f12) (fh Tryz.f12 K) (nDPs w c ls a sp co) lv12 200 [.code []] ⟨argSlots 0 [memD, L ls 3 Ln.d, I a, I sp, I co], hM w (-1) c⟩ =
  (Does PP 32 [D.iface 33 (D.bp 0 0), L ls 3 Ln.d, I a, I sp, I co] { box := upd (fun _ => none) 0 (some (Row.lit [L w.sig 3 Sig.d, L w.gap 2 Iv.d, I w.fin, I (-1), I c])), nl := 1, hw := fun _ => none, nt := 0, vw := fun _ => none : Heap } (I (chkR w ls a sp co)) (hM w (-1) c) ∧ bif chkR w ls a sp co != 0 then K (.tup [.list 0 0 (fun _ => D.junk) .full, I (chkR w ls a sp co)]) { box := upd (fun _ => none) 0 (some (Row.lit [L w.sig 3 Sig.d, L w.gap 2 Iv.d, I w.fin, I (-1), I c])), nl := 1, hw := fun _ => none, nt := 0, vw := fun _ => none : Heap } else ls.length ≤ lenM → At (En Tryz.f12) (fh Tryz.f12 K) [It.code [1, 1, 1, 0, 1, 0], It.blk 0, It.code [1, 1, 1, 1]] { sl := [(0, memD), (1, L ls 3 Ln.d), (2, I a), (3, I sp), (4, I co), (13, I 0), (30, L ls 3 Ln.d), (31, I (↑ls.length : Int)), (32, I 0)], h := { box := upd (fun _ => none) 0 (some (Row.lit [L w.sig 3 Sig.d, L w.gap 2 Iv.d, I w.fin, I (-1), I c])), nl := 1, hw := fun _ => none, nt := 0, vw := fun _ => none : Heap } : St }) := by kernel_rfl
def hMT (w : Wv) (lim c : Int) (n : Nat) : Heap := ⟨upd (fun _ => none) 0 (some (.lit [L w.sig 3 Sig.d, L w.gap 2 Iv.d, I w.fin, I lim, I c])), 1, upd (fun _ => none) 0 (some n), 1, fun _ => none⟩
def SDr (w : Wv) (c : Int) (ls : List Ln) (a sp co wd i : Int) : St := ⟨[(0, memD), (1, L ls 3 Ln.d), (2, I a), (3, I sp), (4, I co), (13, I wd), (30, L ls 3 Ln.d), (31, I ls.length), (32, I i)], hM w (-1) c⟩
noncomputable def nDPas (a : Int) (sp : Int) (co : Int) (wd : Int) : List Nat → Nat → Option Ans := scrAt [([1, 1, 1, 1, 0], 2, Ans.pure [.str { data := #[32] : ByteArray }.data.toList, I (addI .i64 wd 1)] (.str (Lib.repeatL { data := #[32] : ByteArray }.data.toList (addI .i64 wd 1).toNat))), ([1, 1, 1, 1, 0], 6, Ans.pure [I a, I sp, I co] (.str (rulI a sp co)))]
theorem nDPa (w : Wv) (c : Int) (ls : List Ln) (a sp co wd i : Int) (J : St → Prop) (K : D → Heap → Prop) : runS (En Tryz.f12) (fh Tryz.f12 K) (nDPas a sp co wd) lv12 200 [.code [1, 1, 1, 0, 1, 0, 0], stp [0, 1, 2, 3, 4, 13, 30, 31, 32] J, .blk 0, .code [1, 1, 1, 1]] (SDr w c ls a sp co wd i) =
  (bif decide (i < (↑ls.length : Int)) then (0 ≤ i ∧ i < (↑ls.length : Int)) ∧ True ∧ (List.length (ls.getD i.toNat default).lab ≤ strM → J { sl := [(0, memD), (1, L ls 3 Ln.d), (2, I a), (3, I sp), (4, I co), (13, I (if (↑(List.length (ls.getD i.toNat default).lab) : Int) > wd then (↑(List.length (ls.getD i.toNat default).lab) : Int) else wd)), (30, L ls 3 Ln.d), (31, I (↑ls.length : Int)), (32, I (addI .i64 i 1))], h := { box := upd (fun _ => none) 0 (some (Row.lit [L w.sig 3 Sig.d, L w.gap 2 Iv.d, I w.fin, I (-1), I c])), nl := 1, hw := fun _ => none, nt := 0, vw := fun _ => none : Heap } : St }) else PureW PP 33 [.str { data := #[32] : ByteArray }.data.toList, I (addI .i64 wd 1)] [.str { data := #[32] : ByteArray }.data.toList, I (addI .i64 wd 1)] (.str (Lib.repeatL { data := #[32] : ByteArray }.data.toList (addI .i64 wd 1).toNat)) ∧ PureW PP 34 [I a, I sp, I co] [I a, I sp, I co] (.str (rulI a sp co)) ∧ (Lib.repeatL { data := #[32] : ByteArray }.data.toList (addI .i64 wd 1).toNat).length + List.length (rulI a sp co) ≤ strM ∧ (ls.length ≤ lenM → At (En Tryz.f12) (fh Tryz.f12 K) [It.code [1, 1, 1, 1, 1, 0, 1, 0], It.blk 2, It.code [1, 1, 1, 1, 1, 1]] { sl := [(0, memD), (2, I a), (3, I sp), (4, I co), (13, I wd), (16, .list 1 1 (strL [.str (Lib.repeatL { data := #[32] : ByteArray }.data.toList (addI .i64 wd 1).toNat ++ rulI a sp co)]) .full), (51, L ls 3 Ln.d), (52, I (↑ls.length : Int)), (53, I 0)], h := { box := upd (fun _ => none) 0 (some (Row.lit [L w.sig 3 Sig.d, L w.gap 2 Iv.d, I w.fin, I (-1), I c])), nl := 1, hw := fun _ => none, nt := 0, vw := fun _ => none : Heap } : St })) := by kernel_rfl
def SDs (w : Wv) (c : Int) (ls : List Ln) (a sp co wd i : Int) (es : List Str) : St := ⟨[(0, memD), (2, I a), (3, I sp), (4, I co), (13, I wd), (16, LT es 1 D.str 0), (51, L ls 3 Ln.d), (52, I ls.length), (53, I i)], hMT w (-1) c es.length⟩
noncomputable def nDPcs (w : Wv) (c : Int) (ls : List Ln) (a : Int) (sp : Int) (co : Int) (wd : Int) (i : Int) (es : List Str) : List Nat → Nat → Option Ans := scrAt [([1, 1, 1, 1, 1, 0, 1, 0, 0, 1, 1, 0, 0, 1, 0], 5, Ans.eff (ren (rnm [0] 1) (rnm [] 1) (.tup [.str (lnR w (ls.getD i.toNat default) a sp co).fst, I (lnR w (ls.getD i.toNat default) a sp co).snd])) (frameH [0] [] { box := upd (fun _ => none) 0 (some (Row.lit [L w.sig 3 Sig.d, L w.gap 2 Iv.d, I w.fin, I (-1), I c])), nl := 1, hw := upd (fun _ => none) 0 (some es.length), nt := 1, vw := fun _ => none : Heap } (hM w (-1) (lnN w (ls.getD i.toNat default) a sp co c)))), ([1, 1, 1, 1, 1, 0, 1, 0, 0, 1, 1, 0, 0, 1, 1, 1], 9, Ans.pure [.str { data := #[32] : ByteArray }.data.toList, I (subI .i64 (addI .i64 wd 1) (↑(List.length (ls.getD i.toNat default).lab) : Int))] (.str (Lib.repeatL { data := #[32] : ByteArray }.data.toList (subI .i64 (addI .i64 wd 1) (↑(List.length (ls.getD i.toNat default).lab) : Int)).toNat)))]
theorem nDPc (w : Wv) (c : Int) (ls : List Ln) (a sp co wd i : Int) (es : List Str) (J : St → Prop) (K : D → Heap → Prop) : runS (En Tryz.f12) (fh Tryz.f12 K) (nDPcs w c ls a sp co wd i es) lv12 200 [.code [1, 1, 1, 1, 1, 0, 1, 0, 0], stp [0, 2, 3, 4, 13, 16, 51, 52, 53] J, .blk 2, .code [1, 1, 1, 1, 1, 1]] (SDs w c ls a sp co wd i es) =
  (bif decide (i < (↑ls.length : Int)) then
  (0 ≤ i ∧ i < (↑ls.length : Int)) ∧
    True ∧
      Does PP 31 [D.iface 33 (D.bp 0 0), .agg [I (ls.getD i.toNat default).sig, .str (ls.getD i.toNat default).lab, I (ls.getD i.toNat default).base], I a, I sp, I co] { box := upd (fun _ => none) 0 (some (Row.lit [L w.sig 3 Sig.d, L w.gap 2 Iv.d, I w.fin, I (-1), I c])), nl := 1, hw := upd (fun _ => none) 0 (some es.length), nt := 1, vw := fun _ => none : Heap } (ren (rnm [0] 1) (rnm [] 1) (.tup [.str (lnR w (ls.getD i.toNat default) a sp co).fst, I (lnR w (ls.getD i.toNat default) a sp co).snd])) (frameH [0] [] { box := upd (fun _ => none) 0 (some (Row.lit [L w.sig 3 Sig.d, L w.gap 2 Iv.d, I w.fin, I (-1), I c])), nl := 1, hw := upd (fun _ => none) 0 (some es.length), nt := 1, vw := fun _ => none : Heap } (hM w (-1) (lnN w (ls.getD i.toNat default) a sp co c))) ∧
        bif (lnR w (ls.getD i.toNat default) a sp co).snd != 0 then K (.tup [.list 0 0 (fun _ => D.junk) .full, I (lnR w (ls.getD i.toNat default) a sp co).snd]) { box := upd (upd (fun _ => none) 0 (some (Row.lit [L w.sig 3 Sig.d, L w.gap 2 Iv.d, I w.fin, I (-1), I c]))) 0 (some (Row.lit [L w.sig 3 Sig.d, L w.gap 2 Iv.d, I w.fin, I (-1), I (lnN w (ls.getD i.toNat default) a sp co c)])), nl := 1, hw := upd (fun _ => none) 0 (some es.length), nt := 1, vw := fun _ => none : Heap }
        else
          List.length (ls.getD i.toNat default).lab ≤ strM →
            PureW PP 33 [.str { data := #[32] : ByteArray }.data.toList, I (subI .i64 (addI .i64 wd 1) (↑(List.length (ls.getD i.toNat default).lab) : Int))] [.str { data := #[32] : ByteArray }.data.toList, I (subI .i64 (addI .i64 wd 1) (↑(List.length (ls.getD i.toNat default).lab) : Int))] (.str (Lib.repeatL { data := #[32] : ByteArray }.data.toList (subI .i64 (addI .i64 wd 1) (↑(List.length (ls.getD i.toNat default).lab) : Int)).toNat)) ∧
              List.length (ls.getD i.toNat default).lab + (Lib.repeatL { data := #[32] : ByteArray }.data.toList (subI .i64 (addI .i64 wd 1) (↑(List.length (ls.getD i.toNat default).lab) : Int)).toNat).length ≤ strM ∧ ((ls.getD i.toNat default).lab ++ Lib.repeatL { data := #[32] : ByteArray }.data.toList (subI .i64 (addI .i64 wd 1) (↑(List.length (ls.getD i.toNat default).lab) : Int)).toNat).length + List.length (lnR w (ls.getD i.toNat default) a sp co).fst ≤ strM ∧ (updN (upd (fun _ => none) 0 (some es.length)) (rnm [] 1) (fun _ => none) 0 0 = some es.length ∧ (es.length + 1) * 16 ≤ roomM) ∧ J { sl := [(0, memD), (2, I a), (3, I sp), (4, I co), (13, I wd), (16, .list (es.length + 1) 1 (catG es.length (fun i => .str (es.getD i default)) (strL [.str ((ls.getD i.toNat default).lab ++ Lib.repeatL { data := #[32] : ByteArray }.data.toList (subI .i64 (addI .i64 wd 1) (↑(List.length (ls.getD i.toNat default).lab) : Int)).toNat ++ (lnR w (ls.getD i.toNat default) a sp co).fst)])) (.tok 0 1)), (51, L ls 3 Ln.d), (52, I (↑ls.length : Int)), (53, I (addI .i64 i 1))], h := { box := upd (upd (fun _ => none) 0 (some (Row.lit [L w.sig 3 Sig.d, L w.gap 2 Iv.d, I w.fin, I (-1), I c]))) 0 (some (Row.lit [L w.sig 3 Sig.d, L w.gap 2 Iv.d, I w.fin, I (-1), I (lnN w (ls.getD i.toNat default) a sp co c)])), nl := 1, hw := upd (upd (fun _ => none) 0 (some es.length)) 0 (some (es.length + 1)), nt := 1, vw := fun _ => none : Heap } : St }
 else K (.tup [.list es.length 1 (fun i => .str (es.getD i default)) (.tok 0 1), I 0]) { box := upd (fun _ => none) 0 (some (Row.lit [L w.sig 3 Sig.d, L w.gap 2 Iv.d, I w.fin, I (-1), I c])), nl := 1, hw := upd (fun _ => none) 0 (some es.length), nt := 1, vw := fun _ => none : Heap }) := by kernel_rfl
def SDt (w : Wv) (c : Int) (ls : List Ln) (a sp co wd i : Int) (x : Str) : St := ⟨[(0, memD), (2, I a), (3, I sp), (4, I co), (13, I wd), (16, .list 1 1 (strL [.str x]) .full), (51, L ls 3 Ln.d), (52, I ls.length), (53, I i)], hM w (-1) c⟩
noncomputable def nDPds (w : Wv) (c : Int) (ls : List Ln) (a : Int) (sp : Int) (co : Int) (wd : Int) (i : Int) : List Nat → Nat → Option Ans := scrAt [([1, 1, 1, 1, 1, 0, 1, 0, 0, 1, 1, 0, 0, 1, 0], 5, Ans.eff (.tup [.str (lnR w (ls.getD i.toNat default) a sp co).fst, I (lnR w (ls.getD i.toNat default) a sp co).snd]) (hM w (-1) (lnN w (ls.getD i.toNat default) a sp co c))), ([1, 1, 1, 1, 1, 0, 1, 0, 0, 1, 1, 0, 0, 1, 1, 1], 9, Ans.pure [.str { data := #[32] : ByteArray }.data.toList, I (subI .i64 (addI .i64 wd 1) (↑(List.length (ls.getD i.toNat default).lab) : Int))] (.str (Lib.repeatL { data := #[32] : ByteArray }.data.toList (subI .i64 (addI .i64 wd 1) (↑(List.length (ls.getD i.toNat default).lab) : Int)).toNat)))]
theorem nDPd (w : Wv) (c : Int) (ls : List Ln) (a sp co wd i : Int) (x : Str) (J : St → Prop) (K : D → Heap → Prop) : runS (En Tryz.f12) (fh Tryz.f12 K) (nDPds w c ls a sp co wd i) lv12 200 [.code [1, 1, 1, 1, 1, 0, 1, 0, 0], stp [0, 2, 3, 4, 13, 16, 51, 52, 53] J, .blk 2, .code [1, 1, 1, 1, 1, 1]] (SDt w c ls a sp co wd i x) =
  (bif decide (i < (↑ls.length : Int)) then
  (0 ≤ i ∧ i < (↑ls.length : Int)) ∧
    True ∧
      Does PP 31 [D.iface 33 (D.bp 0 0), .agg [I (ls.getD i.toNat default).sig, .str (ls.getD i.toNat default).lab, I (ls.getD i.toNat default).base], I a, I sp, I co] { box := upd (fun _ => none) 0 (some (Row.lit [L w.sig 3 Sig.d, L w.gap 2 Iv.d, I w.fin, I (-1), I c])), nl := 1, hw := fun _ => none, nt := 0, vw := fun _ => none : Heap } (.tup [.str (lnR w (ls.getD i.toNat default) a sp co).fst, I (lnR w (ls.getD i.toNat default) a sp co).snd]) (hM w (-1) (lnN w (ls.getD i.toNat default) a sp co c)) ∧
        bif (lnR w (ls.getD i.toNat default) a sp co).snd != 0 then K (.tup [.list 0 0 (fun _ => D.junk) .full, I (lnR w (ls.getD i.toNat default) a sp co).snd]) { box := upd (fun _ => none) 0 (some (Row.lit [L w.sig 3 Sig.d, L w.gap 2 Iv.d, I w.fin, I (-1), I (lnN w (ls.getD i.toNat default) a sp co c)])), nl := 1, hw := fun _ => none, nt := 0, vw := fun _ => none : Heap }
        else List.length (ls.getD i.toNat default).lab ≤ strM → PureW PP 33 [.str { data := #[32] : ByteArray }.data.toList, I (subI .i64 (addI .i64 wd 1) (↑(List.length (ls.getD i.toNat default).lab) : Int))] [.str { data := #[32] : ByteArray }.data.toList, I (subI .i64 (addI .i64 wd 1) (↑(List.length (ls.getD i.toNat default).lab) : Int))] (.str (Lib.repeatL { data := #[32] : ByteArray }.data.toList (subI .i64 (addI .i64 wd 1) (↑(List.length (ls.getD i.toNat default).lab) : Int)).toNat)) ∧ List.length (ls.getD i.toNat default).lab + (Lib.repeatL { data := #[32] : ByteArray }.data.toList (subI .i64 (addI .i64 wd 1) (↑(List.length (ls.getD i.toNat default).lab) : Int)).toNat).length ≤ strM ∧ ((ls.getD i.toNat default).lab ++ Lib.repeatL { data := #[32] : ByteArray }.data.toList (subI .i64 (addI .i64 wd 1) (↑(List.length (ls.getD i.toNat default).lab) : Int)).toNat).length + List.length (lnR w (ls.getD i.toNat default) a sp co).fst ≤ strM ∧ 32 ≤ roomM ∧ J { sl := [(0, memD), (2, I a), (3, I sp), (4, I co), (13, I wd), (16, .list 2 1 (catG 1 (strL [.str x]) (strL [.str ((ls.getD i.toNat default).lab ++ Lib.repeatL { data := #[32] : ByteArray }.data.toList (subI .i64 (addI .i64 wd 1) (↑(List.length (ls.getD i.toNat default).lab) : Int)).toNat ++ (lnR w (ls.getD i.toNat default) a sp co).fst)])) (.tok 0 1)), (51, L ls 3 Ln.d), (52, I (↑ls.length : Int)), (53, I (addI .i64 i 1))], h := { box := upd (fun _ => none) 0 (some (Row.lit [L w.sig 3 Sig.d, L w.gap 2 Iv.d, I w.fin, I (-1), I (lnN w (ls.getD i.toNat default) a sp co c)])), nl := 1, hw := upd (fun _ => none) 0 (some 2), nt := 1, vw := fun _ => none : Heap } : St }
 else K (.tup [.list 1 1 (strL [.str x]) .full, I 0]) { box := upd (fun _ => none) 0 (some (Row.lit [L w.sig 3 Sig.d, L w.gap 2 Iv.d, I w.fin, I (-1), I c])), nl := 1, hw := fun _ => none, nt := 0, vw := fun _ => none : Heap }) := by kernel_rfl
end Go.Proofs.YtpcbjkjgjoemaaaGreatDoor.S1
/- Pictures: the code's Picture. -/
namespace Go.Proofs.YtpcbjkjgjoemaaaGreatDoor.S1
open Go Go.Ab Go.Proofs
-- nolay
attribute [local instance] LT10
theorem chkR_one {w : Wv} {ls : List Ln} {a sp co : Int} (h : chkR w ls a sp co = 0) {l : Ln} (hl : l ∈ ls) : chkR w [l] a sp co = 0 := by
  obtain ⟨hz, hs, hc, h64, hlab, h0, h1⟩ := chkRs_ok h
  unfold chkR
  rw [if_neg (by rw [hz]; simp), if_neg (by simp [(hlab l hl).1]), if_neg (by omega)]
/-- What is left of the heap. -/
def hMq : Heap := ⟨fun _ => none, 1, fun _ => none, 1, fun _ => none⟩
theorem heapLe_q {h : Heap} (hn : h.nl ≤ 1) (ht : h.nt ≤ 1) : HeapLe h hMq := ⟨fun _ _ e => (by cases e), hn, fun _ _ e => (by cases e), ht, fun _ _ e => (by cases e), fun _ _ => rfl⟩
theorem row_str (w : Wv) (a sp co : Int) (wd : Nat) (l : Ln) (h : l.lab.length ≤ 64) (h1 : wd ≤ 64) (h2 : co ≤ 200) : (l.lab ++ blk (wd - l.lab.length + 1)).length + (lineS (sigOf w l.sig) a sp co w.fin l.base).length ≤ strM := by
  rw [List.length_append, blk_len, lineS_len]; unfold strM; omega
def SD2 (w : Wv) (ls : List Ln) (a sp co : Int) (wd : Nat) (x : Str) (c : Int) : Nat → St
  | 0 => SDt w c ls a sp co wd 0 x
  | k + 1 => SDs w c ls a sp co wd ((k + 1 : Nat) : Int) (x :: (ls.take (k + 1)).map (rowR w a sp co wd))
theorem e12 (w : Wv) (hw : SmD w) (c : Int) (hc : 0 ≤ c ∧ c ≤ 100000) (ls : List Ln) (a sp co : Int) : Does PP 12 [memD, L ls 3 Ln.d, I a, I sp, I co] (hM w (-1) c) (.tup [L (picR w ls a sp co).1 1 D.str, I (picR w ls a sp co).2]) hMq := by
  refine du F12 (by kernel_rfl) (of_eq (nDP w c ls a sp co _) ⟨e32 w (-1) c ls a sp co, cond_intro (fun h => ?_) fun h => fun hlm => ?_⟩)
  · have h : chkR w ls a sp co ≠ 0 := by simpa using h
    have hF : chkF w ls a sp co = chkR w ls a sp co := by unfold chkF; rw [if_pos h]
    rw [picR_bad (by rw [hF]; exact h), hF]
    exact RetLe.of (Wk.tup (Wks.cons Wk.nilL (Wks.refl _))) (heapLe_q (Nat.le_refl _) (Nat.zero_le _))
  have h1 : chkR w ls a sp co = 0 := by simpa using h
  obtain ⟨hz, hs, hcc, hl64, hlab, ha0, ha1⟩ := chkRs_ok h1
  have hfin := hw.ok.fin
  have hwd := wdR_le ls 0 64 (by omega) fun l hl => (hlab l hl).2
  have hge := (wdR_ge ls 0).2
  have hrl := rulI_len hz ha0 (show a ≤ 1099511627776 by omega)
  have hrp : ∀ n, Lib.repeatL ({ data := #[32] } : ByteArray).data.toList n = blk n := fun n => repL_blk n
  have hcr : ∀ n : Nat, n ≤ 1000 → PureW PP 33 [.str ({ data := #[32] } : ByteArray).data.toList, I (n : Int)] [.str ({ data := #[32] } : ByteArray).data.toList, I (n : Int)] (.str (Lib.repeatL ({ data := #[32] } : ByteArray).data.toList n)) := fun n hn =>
    PureW.mk (by have := cRepZ ({ data := #[32] } : ByteArray).data.toList (n : Int) ⟨by omega, by omega⟩ (by rw [Int.toNat_natCast]; show 1 * _ ≤ _; omega); rw [Int.toNat_natCast] at this; exact this)
  refine lp (fn := Tryz.f12) (fun z : Nat × Nat => z.1 ≤ ls.length ∧ z.2 ≤ 64 ∧ wdR ls 0 = wdR (ls.drop z.1) z.2) (fun z => SDr w c ls a sp co (z.2 : Nat) (z.1 : Nat)) (fun z => ls.length - z.1) [0, 1, 2, 3, 4, 13, 30, 31, 32] (by kernel_rfl) (fun z hz => of_eq (nDPa w c ls a sp co (z.2 : Nat) (z.1 : Nat) _ _) ?_) (0, 0) ⟨Nat.zero_le _, Nat.zero_le _, rfl⟩
  obtain ⟨i, wd⟩ := z
  obtain ⟨hi, hw64, he⟩ := hz
  simp only at hi hw64 he ⊢
  refine cond_intro (fun hlt => ?_) fun hge1 => ?_
  · have hlt := ltI hlt
    rw [drop_cons _ _ hlt, wdR] at he
    have hm : ls.getD i default ∈ ls := by
      rw [List.getD_eq_getElem?_getD, List.getElem?_eq_getElem hlt]; exact List.getElem_mem hlt
    have := (hlab _ hm).2
    rw [add1 hlt hlm, Int.toNat_natCast, wd_max]
    exact ⟨⟨by omega, by omega⟩, trivial, fun _ => Nx.mk (i + 1, max wd (ls.getD i default).lab.length) ⟨hlt, by simp only; omega, he⟩ (by simp only; omega)⟩
  rw [List.drop_of_length_le (geI hge1), wdR] at he
  rw [he] at hwd hge
  have hw1 : addI .i64 (wd : Int) 1 = ((wd + 1 : Nat) : Int) := by rw [add64 (by omega) (by omega)]; omega
  have hb := blk_len
  rw [hw1, Int.toNat_natCast, hrp]
  refine ⟨by have := hcr (wd + 1) (by omega); rw [hrp] at this; exact this, PureW.mk (c34 a sp co), by rw [hb, hrl]; unfold strM; omega, fun _ => ?_⟩
  generalize hX : blk (wd + 1) ++ rulI a sp co = X
  refine lpK (fn := Tryz.f12) (fun z : Nat × Int => z.1 ≤ ls.length ∧ 0 ≤ z.2 ∧ z.2 ≤ 100000 + 100 * z.1 ∧ ∀ l ∈ ls.take z.1, 0 ≤ l.sig ∧ l.sig < (w.sig.length : Int)) (fun z => SD2 w ls a sp co wd X z.2 z.1) (fun z => ls.length - z.1) [0, 2, 3, 4, 13, 16, 51, 52, 53] (by kernel_rfl) (fun z hz => ?_) (0, c) ⟨Nat.zero_le _, hc.1, by simp only; omega, by simp⟩
  obtain ⟨i, c⟩ := z
  obtain ⟨hi, hc0, hc1, hsg⟩ := hz
  simp only at hi hc0 hc1 hsg ⊢
  have hc8 : 0 ≤ c ∧ c ≤ 800000 := by omega
  -- a line
  have hln : i < ls.length → ∃ l, ls.getD i default = l ∧ l ∈ ls ∧ subI .i64 (addI .i64 (wd : Int) 1) (l.lab.length : Int) = ((wd - l.lab.length + 1 : Nat) : Int) ∧ l.lab.length ≤ 64 ∧
      ((0 ≤ l.sig ∧ l.sig < (w.sig.length : Int) ∧ lnR w l a sp co = (lineS (sigOf w l.sig) a sp co w.fin l.base, 0) ∧ 0 ≤ lnN w l a sp co c ∧ lnN w l a sp co c ≤ c + 100 ∧ ∀ l' ∈ ls.take (i + 1), 0 ≤ l'.sig ∧ l'.sig < (w.sig.length : Int)) ∨ (chkF w ls a sp co = 2 ∧ lnR w l a sp co = ([], 2))) := fun hlt => by
    have hm : ls.getD i default ∈ ls := by
      rw [List.getD_eq_getElem?_getD, List.getElem?_eq_getElem hlt]; exact List.getElem_mem hlt
    have hts := take_snoc ls i hlt
    have k1 := hge _ hm
    have k2 := (hlab _ hm).2
    have k3 := chkR_one h1 hm
    generalize ls.getD i default = l at *
    refine ⟨_, rfl, hm, ?_, k2, ?_⟩
    · rw [hw1, sub64 (by omega) (by omega)]; omega
    by_cases hv : 0 ≤ l.sig ∧ l.sig < (w.sig.length : Int)
    · left
      have hN : lnN w l a sp co c = (if (sigOf w l.sig).kind = 3 then c + 2 else c + 1 + ofN w l.sig a (lastC a sp co w.fin)) := by
        unfold lnN; rw [if_neg (by omega), if_pos hv]
      obtain ⟨hq1, _, _⟩ := hw.ok.at hv
      have hof : 0 ≤ ofN w l.sig a (lastC a sp co w.fin) ∧ ofN w l.sig a (lastC a sp co w.fin) ≤ 23 := by
        have := List.length_filter_le (fun x : Chg => decide (x.time > a) && decide (x.time ≤ lastC a sp co w.fin)) (sigOf w l.sig).chg
        unfold ofN cut; omega
      refine ⟨hv.1, hv.2, ?_, ?_, ?_, ?_⟩
      · unfold lnR; rw [if_neg (by omega), if_pos hv]
      · rw [hN]; split <;> omega
      · rw [hN]; split <;> omega
      · intro l' hl'
        rw [hts] at hl'
        rcases List.mem_append.1 hl' with hl' | hl'
        · exact hsg l' hl'
        · rw [List.mem_singleton.1 hl']; exact hv
    · right
      refine ⟨?_, by unfold lnR; rw [if_neg (by omega), if_neg hv]⟩
      unfold chkF
      rw [if_neg (by omega), if_neg]
      intro hall
      exact hv (of_decide_eq_true (List.all_eq_true.1 hall l hm))
  have hbad : chkF w ls a sp co = 2 → ∀ (f : Nat → D) (H : Heap), H.nl ≤ 1 → H.nt ≤ 1 → RetLe (.tup [.list 0 0 f .full, I 2]) H (.tup [L (picR w ls a sp co).1 1 D.str, I (picR w ls a sp co).2]) hMq := fun hF f H n1 n2 => by
    rw [picR_bad (by rw [hF]; decide), hF]
    exact RetLe.of (Wk.tup (Wks.cons Wk.nilL (Wks.refl _))) (heapLe_q n1 n2)
  have hgood : ls.length ≤ i → picR w ls a sp co = (X :: ls.map (rowR w a sp co wd), 0) := fun hle => by
    rw [List.take_of_length_le hle] at hsg
    have hF : chkF w ls a sp co = 0 := by
      unfold chkF
      rw [if_neg (by omega), if_pos]
      exact List.all_eq_true.2 fun l hl => decide_eq_true (hsg l hl)
    rw [picR_ok hF, he, hX]
  rcases i with _ | k
  · refine runS_sound hmix _ _ _ (of_eq (nDPd w c ls a sp co wd 0 X _ _) (cond_intro (fun hlt => ?_) fun hge2 => ?_))
    · have hlt : 0 < ls.length := by have := of_decide_eq_true hlt; omega
      obtain ⟨l, e, hm, e1, h2, hr⟩ := hln hlt
      rw [show (0 : Int).toNat = 0 from rfl, e, e1, Int.toNat_natCast]
      refine ⟨⟨by omega, by omega⟩, trivial, e31 w hw c hc8 l a sp co, ?_⟩
      rcases hr with ⟨v1, v2, hR, n1, n2, hall⟩ | ⟨hF, hR⟩
      · rw [hR]
        refine cond_intro (fun h => by simp at h) fun _ => fun _ => ?_
        simp only [hrp]
        refine ⟨by have := hcr (wd - l.lab.length + 1) (by omega); rw [hrp] at this; exact this, by rw [hb]; unfold strM; omega, row_str w a sp co wd l h2 hw64 hcc.2, by unfold roomM; omega, Nx.of (1, lnN w l a sp co c) ⟨hlt, n1, by simp only; omega, hall⟩ (by simp only; omega) ?_⟩
        have e3 : ls.take 1 = [l] := by
          cases ls with
          | nil => simp at hlt
          | cons y r => rw [← e]; rfl
        have e4 : SD2 w ls a sp co wd X (lnN w l a sp co c) 1 = SDs w (lnN w l a sp co c) ls a sp co wd 1 (X :: ([l] : List Ln).map (rowR w a sp co wd)) := by
          show SDs w (lnN w l a sp co c) ls a sp co wd ((0 + 1 : Nat) : Int) (X :: (ls.take 1).map (rowR w a sp co wd)) = _
          rw [e3]; rfl
        simp only
        rw [e4]
        refine (StLe.set 16 rfl (Wk.app (a := [X]) (b := [rowR w a sp co wd l]) (sz := 1) (enc := D.str) (own' := .tok 0 1) rfl rfl ?_ (.inr rfl)) rfl rfl).trans (StLe.heap (by rfl))
        intro i hi
        cases i with
        | zero => rfl
        | succ i => simp at hi
      · rw [hR]
        refine cond_intro (fun _ => ?_) fun h => by simp at h
        exact hbad hF _ _ (Nat.le_refl _) (Nat.zero_le _)
    · have hge2 : ls.length ≤ 0 := by have := of_decide_eq_false hge2; omega
      rw [hgood hge2]
      have hnil : ls = [] := List.eq_nil_of_length_eq_zero (by omega)
      rw [hnil]
      exact RetLe.of (Wk.tup (Wks.cons (Wk.strL rfl rfl) (Wks.refl _))) (heapLe_q (Nat.le_refl _) (Nat.zero_le _))
  · have hle : (X :: (ls.take (k + 1)).map (rowR w a sp co wd)).length = k + 2 := by
      rw [List.length_cons, List.length_map, List.length_take]; omega
    refine runS_sound hmix _ _ _ (of_eq (nDPc w c ls a sp co wd ((k + 1 : Nat) : Int) (X :: (ls.take (k + 1)).map (rowR w a sp co wd)) _ _) (cond_intro (fun hlt => ?_) fun hge2 => ?_))
    · have hlt := ltI hlt
      obtain ⟨l, e, hm, e1, h2, hr⟩ := hln hlt
      rw [add1 hlt hlm, Int.toNat_natCast, e, e1, Int.toNat_natCast]
      refine ⟨⟨by omega, by omega⟩, trivial, fr (e31 w hw c hc8 l a sp co) [0] [], ?_⟩
      rcases hr with ⟨v1, v2, hR, n1, n2, hall⟩ | ⟨hF, hR⟩
      · rw [hR]
        refine cond_intro (fun h => by simp at h) fun _ => fun _ => ?_
        simp only [hrp]
        refine ⟨by have := hcr (wd - l.lab.length + 1) (by omega); rw [hrp] at this; exact this, by rw [hb]; unfold strM; omega, row_str w a sp co wd l h2 hw64 hcc.2, ⟨rfl, by rw [hle]; unfold roomM; omega⟩, Nx.of (k + 2, lnN w l a sp co c) ⟨hlt, n1, by simp only; omega, hall⟩ (by simp only; omega) ?_⟩
        have e4 : SD2 w ls a sp co wd X (lnN w l a sp co c) (k + 2) = SDs w (lnN w l a sp co c) ls a sp co wd ((k + 2 : Nat) : Int) ((X :: (ls.take (k + 1)).map (rowR w a sp co wd)) ++ [rowR w a sp co wd l]) := by
          show SDs w (lnN w l a sp co c) ls a sp co wd ((k + 1 + 1 : Nat) : Int) (X :: (ls.take (k + 1 + 1)).map (rowR w a sp co wd)) = _
          rw [take_snoc _ _ hlt, List.map_append, e]; rfl
        simp only
        rw [e4]
        exact (StLe.set 16 rfl (Wk.snocStr (x := rowR w a sp co wd l)) rfl rfl).trans (StLe.heap (hp_eq (fun k => by rcases k with _ | k <;> rfl) (by simp [upd_upd]) rfl))
      · rw [hR]
        refine cond_intro (fun _ => ?_) fun h => by simp at h
        exact hbad hF _ _ (Nat.le_refl _) (Nat.le_refl _)
    · have hge2 := geI hge2
      rw [hgood hge2, List.take_of_length_le hge2]
      exact RetLe.of (Wk.tup (Wks.cons Wk.tokL (Wks.refl _))) (heapLe_q (Nat.le_refl _) (Nat.le_refl _))
end Go.Proofs.YtpcbjkjgjoemaaaGreatDoor.S1
/- Pictures: the law. -/
namespace Go.Proofs.YtpcbjkjgjoemaaaGreatDoor.S1
open Go Go.Ab Go.Proofs
-- nolay
attribute [local instance] LT10
theorem F3 : OkF 3 Tryz.f3 := ⟨by kernel_rfl, by kernel_rfl, by kernel_rfl⟩
def lv3 : List (List Nat × List Nat) := [([1, 1, 1, 1, 1, 0, 1, 0], [11, 51, 52, 53])]
noncomputable def nlPs (w : Wv) (ls : List Ln) (a : Int) (sp : Int) (co : Int) : List Nat → Nat → Option Ans := scrAt [([1, 0, 0], 2, Ans.pure [w.d, L ls 3 Ln.d] (B (shB w ls))), ([1, 0, 1, 0, 0], 0, Ans.pure [] (B true)), ([1, 1, 0], 1, Ans.eff (D.bp 0 0) (hM w (-1) 0)), ([1, 1, 0], 7, Ans.eff (.tup [L (picR w ls a sp co).fst 1 .str, I (picR w ls a sp co).snd]) hMq), ([1, 1, 1, 0], 5, Ans.pure [w.d, L ls 3 Ln.d, I a, I sp, I co] (.tup [L (picR w ls a sp co).fst 1 .str, I (picR w ls a sp co).snd])), ([1, 1, 1, 1, 0, 0], 6, Ans.pure [L (picR w ls a sp co).fst 1 .str, L (picR w ls a sp co).fst 1 .str] (B (decide ((picR w ls a sp co).fst = (picR w ls a sp co).fst))))]
theorem nlP (w : Wv) (ls : List Ln) (a sp co : Int) (K : D → Heap → Prop) : runS (En Tryz.f3) (fh Tryz.f3 K) (nlPs w ls a sp co) lv3 200 [.code []] ⟨argSlots 0 [w.d, L ls 3 Ln.d, I a, I sp, I co], .empty⟩ =
  (PureW PP 10 [w.d, L ls 3 Ln.d] [w.d, L ls 3 Ln.d] (B (shB w ls)) ∧
  bif !shB w ls then PureW PP 11 [] [] (B true) ∧ K (B true) Heap.empty else Does PP 13 [.agg [L w.sig 3 Sig.d, L w.gap 2 Iv.d, I w.fin]] Heap.empty (D.bp 0 0) (hM w (-1) 0) ∧ Does PP 12 [D.iface 33 (D.bp 0 0), L ls 3 Ln.d, I a, I sp, I co] { box := upd (fun _ => none) 0 (some (Row.lit [L w.sig 3 Sig.d, L w.gap 2 Iv.d, I w.fin, I (-1), I 0])), nl := 1, hw := fun _ => none, nt := 0, vw := fun _ => none : Heap } (.tup [L (picR w ls a sp co).fst 1 .str, I (picR w ls a sp co).snd]) hMq ∧ PureW PP 14 [w.d, L ls 3 Ln.d, I a, I sp, I co] [w.d, L ls 3 Ln.d, I a, I sp, I co] (.tup [L (picR w ls a sp co).fst 1 .str, I (picR w ls a sp co).snd]) ∧ ((!(picR w ls a sp co).snd != (picR w ls a sp co).snd) = true → PureW PP 15 [L (picR w ls a sp co).fst 1 .str, L (picR w ls a sp co).fst 1 .str] [L (picR w ls a sp co).fst 1 .str, L (picR w ls a sp co).fst 1 .str] (B (decide ((picR w ls a sp co).fst = (picR w ls a sp co).fst)))) ∧ bif bif (picR w ls a sp co).snd != (picR w ls a sp co).snd then true else !decide ((picR w ls a sp co).fst = (picR w ls a sp co).fst) then K (B false) { box := fun _ => none, nl := 1, hw := fun _ => none, nt := 1, vw := fun _ => none : Heap } else (picR w ls a sp co).fst.length ≤ lenM → At (En Tryz.f3) (fh Tryz.f3 K) [It.code [1, 1, 1, 1, 1, 0, 1, 0], It.blk 0, It.code [1, 1, 1, 1, 1, 1]] { sl := [(11, L (picR w ls a sp co).fst 1 .str), (51, L (picR w ls a sp co).fst 1 .str), (52, I (↑(picR w ls a sp co).fst.length : Int)), (53, I 0)], h := { box := fun _ => none, nl := 1, hw := fun _ => none, nt := 1, vw := fun _ => none : Heap } : St }) := by kernel_rfl
def SLp (es : List Str) (i : Int) : St := ⟨[(11, L es 1 D.str), (51, L es 1 D.str), (52, I es.length), (53, I i)], hMq⟩
noncomputable def nlPas  : List Nat → Nat → Option Ans := scrAt [([1, 1, 1, 1, 1, 1, 0], 0, Ans.pure [] (B true))]
theorem nlPa (es : List Str) (i : Int) (J : St → Prop) (K : D → Heap → Prop) : runS (En Tryz.f3) (fh Tryz.f3 K) (nlPas ) lv3 200 [.code [1, 1, 1, 1, 1, 0, 1, 0, 0], stp [11, 51, 52, 53] J, .blk 0, .code [1, 1, 1, 1, 1, 1]] (SLp es i) =
  (bif decide (i < (↑es.length : Int)) then (0 ≤ i ∧ i < (↑es.length : Int)) ∧ (List.length (es.getD i.toNat default) ≤ strM → ((0 : Int) ≤ 0 ∧ 0 < (↑es.length : Int)) ∧ (List.length (es.getD 0 default) ≤ strM → bif (↑(List.length (es.getD i.toNat default)) : Int) != (↑(List.length (es.getD 0 default)) : Int) then K (B false) { box := fun _ => none, nl := 1, hw := fun _ => none, nt := 1, vw := fun _ => none : Heap } else J { sl := [(11, L es 1 .str), (51, L es 1 .str), (52, I (↑es.length : Int)), (53, I (addI .i64 i 1))], h := { box := fun _ => none, nl := 1, hw := fun _ => none, nt := 1, vw := fun _ => none : Heap } : St })) else PureW PP 11 [] [] (B true) ∧ K (B true) { box := fun _ => none, nl := 1, hw := fun _ => none, nt := 1, vw := fun _ => none : Heap }) := by kernel_rfl
theorem picR_same (w : Wv) (hw : SmD w) (ls : List Ln) (a sp co : Int) : ∃ n, ∀ x ∈ (picR w ls a sp co).1, x.length = n := by
  by_cases h : chkF w ls a sp co = 0
  · rw [picR_ok h]
    obtain ⟨h1, _⟩ := chkF_ok h
    obtain ⟨hz, hs, hcc, hl64, hlab, ha0, ha1⟩ := chkRs_ok h1
    have hfin := hw.ok.fin
    have hge := (wdR_ge ls 0).2
    have hrl := rulI_len hz ha0 (show a ≤ 1099511627776 by omega)
    refine ⟨wdR ls 0 + 1 + co.toNat, fun x hx => ?_⟩
    rcases List.mem_cons.1 hx with rfl | hx
    · rw [List.length_append, blk_len, hrl]
    · obtain ⟨l, hl, rfl⟩ := List.mem_map.1 hx
      exact rowR_len w a sp co _ l (hge l hl)
  · rw [picR_bad h]
    exact ⟨0, fun x hx => by cases hx⟩
theorem c3 (w : Wv) (ls : List Ln) (a sp co : Int) : Pure PP 3 [w.d, L ls 3 Ln.d, I a, I sp, I co] (B true) := by
  refine pr F3 (by kernel_rfl) (of_eq (nlP w ls a sp co _) ⟨PureW.mk (c10 w ls), cond_intro (fun _ => ⟨PureW.mk c11, _, RetLe.refl _ _⟩) fun h => ?_⟩)
  have hw : SmD w := by
    cases hb : smB w with
    | true => exact smB_D hb
    | false => unfold shB at h; rw [hb, Bool.false_and, Bool.and_false] at h; cases h
  obtain ⟨n, hn⟩ := picR_same w hw ls a sp co
  refine ⟨e13 w, e12 w hw 0 (by decide) ls a sp co, PureW.mk (c14 w hw ls a sp co), fun _ => PureW.mk (c15 _ _), ?_⟩
  generalize (picR w ls a sp co).1 = es at hn ⊢
  refine cond_intro (fun h => ?_) fun _ => fun hlm => ?_
  · simp at h
  refine lp (fn := Tryz.f3) (fun i : Nat => i ≤ es.length) (fun i => SLp es i) (fun i => es.length - i) [11, 51, 52, 53] (by kernel_rfl) (fun i hi => of_eq (nlPa es i _ _) (cond_intro (fun hlt => ?_) fun hge => ?_)) 0 (Nat.zero_le _)
  · have hlt := ltI hlt
    have hm : ∀ i, i < es.length → (es.getD i default).length = n := fun i hi => hn _ (by rw [List.getD_eq_getElem?_getD, List.getElem?_eq_getElem hi]; exact List.getElem_mem hi)
    rw [add1 hlt hlm, Int.toNat_natCast, hm i hlt, hm 0 (by omega)]
    refine ⟨⟨by omega, by omega⟩, fun _ => ⟨⟨by omega, by omega⟩, fun _ => cond_intro (fun h => by simp at h) fun _ => Nx.mk (i + 1) hlt (by omega)⟩⟩
  · exact ⟨PureW.mk c11, _, RetLe.refl _ _⟩
end Go.Proofs.YtpcbjkjgjoemaaaGreatDoor.S1
