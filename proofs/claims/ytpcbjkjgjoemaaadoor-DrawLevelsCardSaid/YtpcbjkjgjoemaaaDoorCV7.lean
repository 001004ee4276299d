/- The law on levels drawn: its parts. -/
import Derived.Test.YtpcbjkjgjoemaaaDoorCV6
namespace Go.Proofs.YtpcbjkjgjoemaaaDoor.S1
open Go Go.Ab Go.Proofs
theorem cValY (q : Sig) (t : Int) (hw : q.width ≤ 1000000) : Pure PP 15 [q.d, I t] (.str (sigAt q t)) := c15 q t hw
theorem F5 : OkF 5 Tryd.f5 := ⟨by kernel_rfl, by kernel_rfl, by kernel_rfl⟩
def lv5 : List (List Nat × List Nat) := [([1, 1, 1, 1, 1, 1, 1, 0, 1, 0], [2, 3, 5, 11, 12, 14, 79, 80]), ([1, 1, 1, 1, 1, 1, 1, 0, 1, 0, 0, 1, 1, 0, 0, 1, 1, 0, 1, 0], [2, 3, 5, 11, 12, 14, 15, 16, 17, 79, 80]), ([1, 1, 1, 1, 1, 1, 1, 0, 1, 0, 0, 1, 1, 0, 0, 1, 1, 0, 1, 0, 0, 1, 0, 0, 1, 1, 1, 0], [2, 3, 5, 11, 12, 14, 15, 16, 17, 79, 80, 131, 132, 133])]
noncomputable def lvDA : List (List Nat × List Nat) := [([1, 1, 1, 1, 1, 1], [2, 3, 4, 5, 11, 12])]
noncomputable def nDvAs (w : Wv) (sg : Int) (a : Int) (sp : Int) (cols : Int) : List Nat → Nat → Option Ans := scrAt [([1, 0, 0], 1, Ans.pure [w.d] (B (smB w))), ([1, 0, 1, 0, 0], 0, Ans.pure [] (B true)), ([1, 1, 1, 0], 1, Ans.eff (D.bp 0 0) (hM w (-1) 0)), ([1, 1, 1, 0], 8, Ans.eff (.tup [.str (lnR w { sig := sg, lab := { data := #[] : ByteArray }.data.toList, base := 0 : Ln } a sp cols).fst, I (lnR w { sig := sg, lab := { data := #[] : ByteArray }.data.toList, base := 0 : Ln } a sp cols).snd]) (hM w (-1) (lnN w { sig := sg, lab := { data := #[] : ByteArray }.data.toList, base := 0 : Ln } a sp cols 0))), ([1, 1, 1, 1, 0, 1, 0, 0], 3, Ans.pure [] (B true))]
theorem nDvA (w : Wv) (sg a sp cols : Int) (K : D → Heap → Prop) : runS (En Tryd.f5) (fh Tryd.f5 K) (nDvAs w sg a sp cols) lvDA 200 [.code []] ⟨argSlots 0 [w.d, I sg, I a, I sp, I cols], .empty⟩ =
  (PureW PP 14 [w.d] [w.d] (B (smB w)) ∧
  (((!bif !smB w then true else decide (sg < 0)) = true → w.sig.length ≤ lenM) →
    bif bif bif bif bif bif !smB w then true else decide (sg < 0) then true else decide (sg ≥ (↑w.sig.length : Int)) then true else decide (sp < 1) then true else decide (sp > 20) then true else decide (cols > 40) then PureW PP 7 [] [] (B true) ∧ K (B true) Heap.empty
    else
      (0 ≤ sg ∧ sg < (↑w.sig.length : Int)) ∧
        True ∧
          Does PP 12 [.agg [L w.sig 3 Sig.d, L w.gap 2 Iv.d, I w.fin]] Heap.empty (D.bp 0 0) (hM w (-1) 0) ∧
            Does PP 11 [D.iface 36 (D.bp 0 0), .agg [I sg, .str { data := #[] : ByteArray }.data.toList, I 0], I a, I sp, I cols] { box := upd (fun _ => none) 0 (some (Row.lit [L w.sig 3 Sig.d, L w.gap 2 Iv.d, I w.fin, I (-1), I 0])), nl := 1, hw := fun _ => none, nt := 0, vw := fun _ => none : Heap } (.tup [.str (lnR w { sig := sg, lab := { data := #[] : ByteArray }.data.toList, base := 0 : Ln } a sp cols).fst, I (lnR w { sig := sg, lab := { data := #[] : ByteArray }.data.toList, base := 0 : Ln } a sp cols).snd]) (hM w (-1) (lnN w { sig := sg, lab := { data := #[] : ByteArray }.data.toList, base := 0 : Ln } a sp cols 0)) ∧
              bif (lnR w { sig := sg, lab := { data := #[] : ByteArray }.data.toList, base := 0 : Ln } a sp cols).snd != 0 then (((lnR w { sig := sg, lab := { data := #[] : ByteArray }.data.toList, base := 0 : Ln } a sp cols).fst == { data := #[] : ByteArray }.data.toList) = true → PureW PP 7 [] [] (B true)) ∧ K (B (bif (lnR w { sig := sg, lab := { data := #[] : ByteArray }.data.toList, base := 0 : Ln } a sp cols).fst == { data := #[] : ByteArray }.data.toList then true else false)) { box := upd (fun _ => none) 0 (some (Row.lit [L w.sig 3 Sig.d, L w.gap 2 Iv.d, I w.fin, I (-1), I (lnN w { sig := sg, lab := { data := #[] : ByteArray }.data.toList, base := 0 : Ln } a sp cols 0)])), nl := 1, hw := fun _ => none, nt := 0, vw := fun _ => none : Heap }
              else List.length (lnR w { sig := sg, lab := { data := #[] : ByteArray }.data.toList, base := 0 : Ln } a sp cols).fst ≤ strM → bif (↑(List.length (lnR w { sig := sg, lab := { data := #[] : ByteArray }.data.toList, base := 0 : Ln } a sp cols).fst) : Int) != cols then K (B false) { box := upd (fun _ => none) 0 (some (Row.lit [L w.sig 3 Sig.d, L w.gap 2 Iv.d, I w.fin, I (-1), I (lnN w { sig := sg, lab := { data := #[] : ByteArray }.data.toList, base := 0 : Ln } a sp cols 0)])), nl := 1, hw := fun _ => none, nt := 0, vw := fun _ => none : Heap } else At (En Tryd.f5) (fh Tryd.f5 K) [It.code [1, 1, 1, 1, 1, 1]] { sl := [(2, I a), (3, I sp), (4, I cols), (5, .own [L w.sig 3 Sig.d, L w.gap 2 Iv.d, I w.fin]), (11, .own [I (w.sig.getD sg.toNat default).kind, I (w.sig.getD sg.toNat default).width, L (w.sig.getD sg.toNat default).chg 2 Chg.d]), (12, .str (lnR w { sig := sg, lab := { data := #[] : ByteArray }.data.toList, base := 0 : Ln } a sp cols).fst)], h := { box := upd (fun _ => none) 0 (some (Row.lit [L w.sig 3 Sig.d, L w.gap 2 Iv.d, I w.fin, I (-1), I (lnN w { sig := sg, lab := { data := #[] : ByteArray }.data.toList, base := 0 : Ln } a sp cols 0)])), nl := 1, hw := fun _ => none, nt := 0, vw := fun _ => none : Heap } : St })) := by kernel_rfl
def hK : Heap := ⟨fun _ => none, 1, fun _ => none, 0, fun _ => none⟩
noncomputable def nDvBs  : List Nat → Nat → Option Ans := scrAt []
theorem nDvB (w : Wv) (q : Sig) (a sp cols : Int) (T : Str) (K : D → Heap → Prop) : runS (En Tryd.f5) (fh Tryd.f5 K) (nDvBs ) lv5 200 [.code [1, 1, 1, 1, 1, 1]] ⟨[(2, I a), (3, I sp), (4, I cols), (5, .own [L w.sig 3 Sig.d, L w.gap 2 Iv.d, I w.fin]), (11, .own [I q.kind, I q.width, L q.chg 2 Chg.d]), (12, .str T)], hK⟩ =
  (True ∧ True ∧ True ∧ True ∧ True ∧ At (En Tryd.f5) (fh Tryd.f5 K) [It.code [1, 1, 1, 1, 1, 1, 1, 0, 1, 0], It.blk 0, It.code [1, 1, 1, 1, 1, 1, 1, 1]] { sl := [(2, I a), (3, I sp), (5, .own [L w.sig 3 Sig.d, L w.gap 2 Iv.d, I w.fin]), (11, .own [I q.kind, I q.width, L q.chg 2 Chg.d]), (12, .str T), (14, D.mp 1), (79, I cols), (80, I 0)], h := { box := upd (upd (upd (upd (upd (fun _ => none) 1 (some (Row.map (some IntKind.u8) (fun x => false) (mvNew (ofVal (Value.string { data := #[] : ByteArray })))))) 1 (some (Row.map (some IntKind.u8) (updK (fun x => false) [KA.i 95] true) (MV.s (updK (fun x => []) [KA.i 95] { data := #[48] : ByteArray }.data.toList))))) 1 (some (Row.map (some IntKind.u8) (updK (updK (fun x => false) [KA.i 95] true) [KA.i 45] true) (MV.s (updK (updK (fun x => []) [KA.i 95] { data := #[48] : ByteArray }.data.toList) [KA.i 45] { data := #[49] : ByteArray }.data.toList))))) 1 (some (Row.map (some IntKind.u8) (updK (updK (updK (fun x => false) [KA.i 95] true) [KA.i 45] true) [KA.i 120] true) (MV.s (updK (updK (updK (fun x => []) [KA.i 95] { data := #[48] : ByteArray }.data.toList) [KA.i 45] { data := #[49] : ByteArray }.data.toList) [KA.i 120] { data := #[120] : ByteArray }.data.toList))))) 1 (some (Row.map (some IntKind.u8) (updK (updK (updK (updK (fun x => false) [KA.i 95] true) [KA.i 45] true) [KA.i 120] true) [KA.i 122] true) (MV.s (updK (updK (updK (updK (fun x => []) [KA.i 95] { data := #[48] : ByteArray }.data.toList) [KA.i 45] { data := #[49] : ByteArray }.data.toList) [KA.i 120] { data := #[120] : ByteArray }.data.toList) [KA.i 122] { data := #[122] : ByteArray }.data.toList)))), nl := 2, hw := fun _ => none, nt := 0, vw := fun _ => none : Heap } : St }) := by kernel_rfl
def lvHas : MKey → Bool := updK (updK (updK (updK (fun _ => false) [KA.i 95] true) [KA.i 45] true) [KA.i 120] true) [KA.i 122] true
def lvVal : MKey → Str := updK (updK (updK (updK (fun _ => []) [KA.i 95] [48]) [KA.i 45] [49]) [KA.i 120] [120]) [KA.i 122] [122]
def hLv : Heap := ⟨upd (fun _ => none) 1 (some (.map (some .u8) lvHas (.s lvVal))), 2, fun _ => none, 0, fun _ => none⟩
def SDv (w : Wv) (q : Sig) (a sp cols : Int) (T : Str) (j : Int) : St := ⟨[(2, I a), (3, I sp), (5, .own [L w.sig 3 Sig.d, L w.gap 2 Iv.d, I w.fin]), (11, .own [I q.kind, I q.width, L q.chg 2 Chg.d]), (12, .str T), (14, .mp 1), (79, I cols), (80, I j)], hLv⟩
noncomputable def nDvCs  : List Nat → Nat → Option Ans := scrAt [([1, 1, 1, 1, 1, 1, 1, 1, 0], 0, Ans.pure [] (B true))]
theorem nDvC (w : Wv) (q : Sig) (a sp cols : Int) (T : Str) (j : Int) (J : St → Prop) (K : D → Heap → Prop) : runS (En Tryd.f5) (fh Tryd.f5 K) (nDvCs ) lv5 200 [.code [1, 1, 1, 1, 1, 1, 1, 0, 1, 0, 0], stp [2, 3, 5, 11, 12, 14, 79, 80] J, .blk 0, .code [1, 1, 1, 1, 1, 1, 1, 1]] (SDv w q a sp cols T j) =
  (bif decide (j < cols) then At (En Tryd.f5) (fh Tryd.f5 K) [It.code [1, 1, 1, 1, 1, 1, 1, 0, 1, 0, 0, 1, 1, 0, 0, 1, 1, 0, 1, 0], It.blk 2, It.code [1, 1, 1, 1, 1, 1, 1, 0, 1, 0, 0, 1, 1, 0, 0, 1, 1, 1], It.blk 1, It.code [1, 1, 1, 1, 1, 1, 1, 0, 1, 0, 0, 1, 1, 1], stp [2, 3, 5, 11, 12, 14, 79, 80] J, It.blk 0, It.code [1, 1, 1, 1, 1, 1, 1, 1]] { sl := [(2, I a), (3, I sp), (5, .own [L w.sig 3 Sig.d, L w.gap 2 Iv.d, I w.fin]), (11, .own [I q.kind, I q.width, L q.chg 2 Chg.d]), (12, .str T), (14, D.mp 1), (15, I j), (16, I 0), (17, I (addI .i64 a (mulI .i64 j sp))), (79, I cols), (80, I j)], h := { box := upd (fun _ => none) 1 (some (Row.map (some IntKind.u8) lvHas (MV.s lvVal))), nl := 2, hw := fun _ => none, nt := 0, vw := fun _ => none : Heap } : St } else PureW PP 7 [] [] (B true) ∧ K (B true) { box := upd (fun _ => none) 1 (some (Row.map (some IntKind.u8) lvHas (MV.s lvVal))), nl := 2, hw := fun _ => none, nt := 0, vw := fun _ => none : Heap }) := by kernel_rfl
def SDv2 (w : Wv) (q : Sig) (a sp cols : Int) (T : Str) (j n t : Int) : St := ⟨[(2, I a), (3, I sp), (5, .own [L w.sig 3 Sig.d, L w.gap 2 Iv.d, I w.fin]), (11, .own [I q.kind, I q.width, L q.chg 2 Chg.d]), (12, .str T), (14, .mp 1), (15, I j), (16, I n), (17, I t), (79, I cols), (80, I j)], hLv⟩
noncomputable def nDvDs (q : Sig) (t : Int) : List Nat → Nat → Option Ans := scrAt [([1, 1, 1, 1, 1, 1, 1, 0, 1, 0, 0, 1, 1, 0, 0, 1, 1, 0, 1, 0, 0, 1, 0, 0, 1, 0, 0], 14, Ans.pure [q.d, I t] (.str (sigAt q t)))]
theorem nDvD (w : Wv) (q : Sig) (a sp cols : Int) (T : Str) (j n t : Int) (J J2 : St → Prop) (K : D → Heap → Prop) : runS (En Tryd.f5) (fh Tryd.f5 K) (nDvDs q t) lv5 200 [.code [1, 1, 1, 1, 1, 1, 1, 0, 1, 0, 0, 1, 1, 0, 0, 1, 1, 0, 1, 0, 0], stp [2, 3, 5, 11, 12, 14, 15, 16, 17, 79, 80] J, .blk 2, .code [1, 1, 1, 1, 1, 1, 1, 0, 1, 0, 0, 1, 1, 0, 0, 1, 1, 1], .blk 1, .code [1, 1, 1, 1, 1, 1, 1, 0, 1, 0, 0, 1, 1, 1], stp [2, 3, 5, 11, 12, 14, 79, 80] J2, .blk 0, .code [1, 1, 1, 1, 1, 1, 1, 1]] (SDv2 w q a sp cols T j n t) =
  (bif bif decide (t < addI .i64 a (mulI .i64 (addI .i64 j 1) sp)) then decide (t ≤ w.fin) else false then (0 ≤ j ∧ j < (↑(List.length T) : Int)) ∧ ((bif bif q.kind == 0 then q.width == 1 else false then lvHas [KA.i (↑(List.getD T j.toNat 0).toNat : Int)] else false) = true → PureW PP 15 [q.d, I t] [q.d, I t] (.str (sigAt q t))) ∧ bif bif bif bif q.kind == 0 then q.width == 1 else false then lvHas [KA.i (↑(List.getD T j.toNat 0).toNat : Int)] else false then !sigAt q t == lvVal [KA.i (↑(List.getD T j.toNat 0).toNat : Int)] else false then K (B false) { box := upd (fun _ => none) 1 (some (Row.map (some IntKind.u8) lvHas (MV.s lvVal))), nl := 2, hw := fun _ => none, nt := 0, vw := fun _ => none : Heap } else q.chg.length ≤ lenM → At (En Tryd.f5) (fh Tryd.f5 K) [It.code [1, 1, 1, 1, 1, 1, 1, 0, 1, 0, 0, 1, 1, 0, 0, 1, 1, 0, 1, 0, 0, 1, 0, 0, 1, 1, 1, 0], It.blk 4, It.blk 3, It.code [1, 1, 1, 1, 1, 1, 1, 0, 1, 0, 0, 1, 1, 0, 0, 1, 1, 0, 1, 0, 0, 1, 1], stp [2, 3, 5, 11, 12, 14, 15, 16, 17, 79, 80] J, It.blk 2, It.code [1, 1, 1, 1, 1, 1, 1, 0, 1, 0, 0, 1, 1, 0, 0, 1, 1, 1], It.blk 1, It.code [1, 1, 1, 1, 1, 1, 1, 0, 1, 0, 0, 1, 1, 1], stp [2, 3, 5, 11, 12, 14, 79, 80] J2, It.blk 0, It.code [1, 1, 1, 1, 1, 1, 1, 1]] { sl := [(2, I a), (3, I sp), (5, .own [L w.sig 3 Sig.d, L w.gap 2 Iv.d, I w.fin]), (11, .own [I q.kind, I q.width, L q.chg 2 Chg.d]), (12, .str T), (14, D.mp 1), (15, I j), (16, I n), (17, I t), (79, I cols), (80, I j), (131, L q.chg 2 Chg.d), (132, I (↑q.chg.length : Int)), (133, I 0)], h := { box := upd (fun _ => none) 1 (some (Row.map (some IntKind.u8) lvHas (MV.s lvVal))), nl := 2, hw := fun _ => none, nt := 0, vw := fun _ => none : Heap } : St }
 else ((bif q.kind == 3 then decide (addI .i64 a (mulI .i64 j sp) ≤ w.fin) else false) = true → 0 ≤ j ∧ j < (↑(List.length T) : Int)) ∧ ((bif q.kind == 3 then decide (addI .i64 a (mulI .i64 j sp) ≤ w.fin) else false) = true → (0 ≤ if 2 < n then 2 else n) ∧ (if 2 < n then 2 else n) < (↑3 : Int)) ∧ bif bif bif q.kind == 3 then decide (addI .i64 a (mulI .i64 j sp) ≤ w.fin) else false then (↑(List.getD T j.toNat 0).toNat : Int) != (↑({ data := #[46, 33, 35] : ByteArray }.data.toList.getD (if 2 < n then 2 else n).toNat 0).toNat : Int) else false then K (B false) { box := upd (fun _ => none) 1 (some (Row.map (some IntKind.u8) lvHas (MV.s lvVal))), nl := 2, hw := fun _ => none, nt := 0, vw := fun _ => none : Heap } else J2 { sl := [(2, I a), (3, I sp), (5, .own [L w.sig 3 Sig.d, L w.gap 2 Iv.d, I w.fin]), (11, .own [I q.kind, I q.width, L q.chg 2 Chg.d]), (12, .str T), (14, D.mp 1), (79, I cols), (80, I (addI .i64 j 1))], h := { box := upd (fun _ => none) 1 (some (Row.map (some IntKind.u8) lvHas (MV.s lvVal))), nl := 2, hw := fun _ => none, nt := 0, vw := fun _ => none : Heap } : St }) := by kernel_rfl
def SDv3 (w : Wv) (q : Sig) (a sp cols : Int) (T : Str) (j n t : Int) (ls : List Chg) (i : Int) : St := ⟨[(2, I a), (3, I sp), (5, .own [L w.sig 3 Sig.d, L w.gap 2 Iv.d, I w.fin]), (11, .own [I q.kind, I q.width, L q.chg 2 Chg.d]), (12, .str T), (14, .mp 1), (15, I j), (16, I n), (17, I t), (79, I cols), (80, I j), (131, L ls 2 Chg.d), (132, I ls.length), (133, I i)], hLv⟩
noncomputable def nDvEs  : List Nat → Nat → Option Ans := scrAt []
theorem nDvE (w : Wv) (q : Sig) (a sp cols : Int) (T : Str) (j n t : Int) (ls : List Chg) (i : Int) (J J2 J3 : St → Prop) (K : D → Heap → Prop) : runS (En Tryd.f5) (fh Tryd.f5 K) (nDvEs ) lv5 200 [.code [1, 1, 1, 1, 1, 1, 1, 0, 1, 0, 0, 1, 1, 0, 0, 1, 1, 0, 1, 0, 0, 1, 0, 0, 1, 1, 1, 0, 0], stp [2, 3, 5, 11, 12, 14, 15, 16, 17, 79, 80, 131, 132, 133] J, .blk 4, .blk 3, .code [1, 1, 1, 1, 1, 1, 1, 0, 1, 0, 0, 1, 1, 0, 0, 1, 1, 0, 1, 0, 0, 1, 1], stp [2, 3, 5, 11, 12, 14, 15, 16, 17, 79, 80] J2, .blk 2, .code [1, 1, 1, 1, 1, 1, 1, 0, 1, 0, 0, 1, 1, 0, 0, 1, 1, 1], .blk 1, .code [1, 1, 1, 1, 1, 1, 1, 0, 1, 0, 0, 1, 1, 1], stp [2, 3, 5, 11, 12, 14, 79, 80] J3, .blk 0, .code [1, 1, 1, 1, 1, 1, 1, 1]] (SDv3 w q a sp cols T j n t ls i) =
  (bif decide (i < (↑ls.length : Int)) then (0 ≤ i ∧ i < (↑ls.length : Int)) ∧ True ∧ bif (ls.getD i.toNat default).time == t then J { sl := [(2, I a), (3, I sp), (5, .own [L w.sig 3 Sig.d, L w.gap 2 Iv.d, I w.fin]), (11, .own [I q.kind, I q.width, L q.chg 2 Chg.d]), (12, .str T), (14, D.mp 1), (15, I j), (16, I (addI .i64 n 1)), (17, I t), (79, I cols), (80, I j), (131, L ls 2 Chg.d), (132, I (↑ls.length : Int)), (133, I (addI .i64 i 1))], h := { box := upd (fun _ => none) 1 (some (Row.map (some IntKind.u8) lvHas (MV.s lvVal))), nl := 2, hw := fun _ => none, nt := 0, vw := fun _ => none : Heap } : St } else J { sl := [(2, I a), (3, I sp), (5, .own [L w.sig 3 Sig.d, L w.gap 2 Iv.d, I w.fin]), (11, .own [I q.kind, I q.width, L q.chg 2 Chg.d]), (12, .str T), (14, D.mp 1), (15, I j), (16, I n), (17, I t), (79, I cols), (80, I j), (131, L ls 2 Chg.d), (132, I (↑ls.length : Int)), (133, I (addI .i64 i 1))], h := { box := upd (fun _ => none) 1 (some (Row.map (some IntKind.u8) lvHas (MV.s lvVal))), nl := 2, hw := fun _ => none, nt := 0, vw := fun _ => none : Heap } : St }
 else J2 { sl := [(2, I a), (3, I sp), (5, .own [L w.sig 3 Sig.d, L w.gap 2 Iv.d, I w.fin]), (11, .own [I q.kind, I q.width, L q.chg 2 Chg.d]), (12, .str T), (14, D.mp 1), (15, I j), (16, I n), (17, I (addI .i64 t 1)), (79, I cols), (80, I j)], h := { box := upd (fun _ => none) 1 (some (Row.map (some IntKind.u8) lvHas (MV.s lvVal))), nl := 2, hw := fun _ => none, nt := 0, vw := fun _ => none : Heap } : St }) := by kernel_rfl
end Go.Proofs.YtpcbjkjgjoemaaaDoor.S1
/- The law on levels drawn. -/
namespace Go.Proofs.YtpcbjkjgjoemaaaDoor.S1
open Go Go.Ab Go.Proofs
theorem lnR_ok {w : Wv} {l : Ln} {a sp cols : Int} (h : (lnR w l a sp cols).2 = 0) : chkR w [l] a sp cols = 0 ∧ (0 ≤ l.sig ∧ l.sig < (w.sig.length : Int)) ∧ (lnR w l a sp cols).1 = lineS (sigOf w l.sig) a sp cols w.fin l.base := by
  unfold lnR at h ⊢
  by_cases h0 : chkR w [l] a sp cols ≠ 0
  · rw [if_pos h0] at h; exact absurd h h0
  rw [if_neg h0] at h ⊢
  by_cases hs : 0 ≤ l.sig ∧ l.sig < (w.sig.length : Int)
  · rw [if_pos hs]; exact ⟨by omega, hs, rfl⟩
  · rw [if_neg hs] at h; cases h
theorem lnR_err {w : Wv} {l : Ln} {a sp cols : Int} (h : (lnR w l a sp cols).2 ≠ 0) : (lnR w l a sp cols).1 = [] := by
  unfold lnR at h ⊢
  by_cases h0 : chkR w [l] a sp cols ≠ 0
  · rw [if_pos h0]
  rw [if_neg h0] at h ⊢
  by_cases hs : 0 ≤ l.sig ∧ l.sig < (w.sig.length : Int)
  · rw [if_pos hs] at h; exact absurd rfl h
  · rw [if_neg hs]
theorem nCol_lt {sp fin a : Int} {k j : Nat} (h1 : 1 ≤ sp) (hj : j < k) (hx : a + (j : Int) * sp ≤ fin) : j < nCol sp fin k a := by
  rcases nCol_end sp fin k a with h | h
  · omega
  · rcases Nat.lt_or_ge j (nCol sp fin k a) with h2 | h2
    · exact h2
    · have : (nCol sp fin k a : Int) * sp ≤ (j : Int) * sp := Int.mul_le_mul_of_nonneg_right (by omega) (by omega)
      omega
theorem lineS_len (q : Sig) (a sp cols fin base : Int) : (lineS q a sp cols fin base).length = cols.toNat := by
  unfold lineS blk
  rw [List.length_append, List.length_replicate, lineC_len]
  have := nCol_le sp fin cols.toNat a
  omega
theorem lineS_get (q : Sig) (a sp cols fin base : Int) {j : Nat} (hj : j < nCol sp fin cols.toNat a) : (lineS q a sp cols fin base).getD j 0 = (lineC q a sp cols fin base).getD j default := by
  unfold lineS
  rw [← lineC_len q a sp cols fin base] at hj
  rw [List.getD_eq_getElem?_getD, List.getElem?_append_left hj, List.getD_eq_getElem?_getD, List.getElem?_eq_getElem hj]
  rfl
theorem lv_has {v : Str} (h : v = [48] ∨ v = [49] ∨ v = [120] ∨ v = [122]) : lvVal [KA.i ((lvl v).toNat : Int)] = v := by
  rcases h with rfl | rfl | rfl | rfl <;> rfl
theorem lv_bit {x y : Str} {n : Nat} (h : lvHas [KA.i ((bitC x y n).toNat : Int)] = true) : n = 0 ∧ bitC x y n = lvl x := by
  unfold bitC at h ⊢
  by_cases h1 : 1 < n
  · rw [if_pos h1] at h; exact absurd h (by decide +kernel)
  rw [if_neg h1] at h ⊢
  by_cases h0 : n = 0
  · rw [if_pos h0]; exact ⟨h0, rfl⟩
  rw [if_neg h0] at h
  split at h
  · exact absurd h (by decide +kernel)
  · split at h
    · exact absurd h (by decide +kernel)
    · exact absurd h (by decide +kernel)
/-- The changes at a time. -/
def cE (l : List Chg) (t : Int) : Nat := (l.filter fun x => x.time == t).length
theorem cE_cons (x : Chg) (r : List Chg) (t : Int) : cE (x :: r) t = (if x.time = t then 1 else 0) + cE r t := by
  unfold cE
  rw [List.filter_cons]
  by_cases h : x.time = t
  · rw [if_pos h, if_pos (by simpa using h), List.length_cons]; omega
  · rw [if_neg h, if_neg (by simpa using h)]; omega
theorem cntR_step (x t : Int) (h : x ≤ t) : ∀ l : List Chg, cntR l x t = cntR l x (t - 1) + cE l t
  | [] => rfl
  | y :: r => by
    rw [cntR_cons, cntR_cons, cE_cons, cntR_step x t h r]
    by_cases h1 : y.time = t
    · rw [if_pos (by omega), if_neg (by omega), if_pos h1]; omega
    · by_cases h2 : y.time ≥ x ∧ y.time ≤ t
      · rw [if_pos h2, if_pos (by omega), if_neg h1]; omega
      · rw [if_neg h2, if_neg (by omega), if_neg h1]; omega
theorem cntR_self (l : List Chg) (x : Int) : cntR l x (x - 1) = 0 := by
  unfold cntR
  rw [List.filter_eq_nil_iff.2 fun y _ => by simp; omega]; rfl
theorem hK_le {w : Wv} {lim c : Int} : HeapLe (hM w lim c) hK := ⟨fun l row e => (by cases e), Nat.le_refl _, fun t n e => (by cases e), Nat.le_refl _, fun t n e => (by cases e), fun _ _ => rfl⟩
theorem c5 (w : Wv) (sg a sp cols : Int) : Pure PP 5 [w.d, I sg, I a, I sp, I cols] (B true) := by
  refine pr F5 (by kernel_rfl) (of_eq (nDvA w sg a sp cols _) ⟨PureW.mk (c14 w), fun _ => cond_intro (fun _ => ⟨PureW.mk c7, _, RetLe.refl _ _⟩) fun h => ?_⟩)
  simp only [Bool.cond_true_left, Bool.or_eq_false_iff, decide_eq_false_iff_not, Bool.not_eq_false'] at h
  obtain ⟨⟨⟨⟨⟨h1, h2⟩, h3⟩, h4⟩, h5⟩, h6⟩ := h
  have hw := smB_D h1
  have hs : 0 ≤ sg ∧ sg < (w.sig.length : Int) := ⟨by omega, by omega⟩
  have e0 : ({ data := #[] : ByteArray }.data.toList : Str) = [] := rfl
  rw [e0]
  refine ⟨hs, trivial, e12 w, e11 w hw 0 (by decide) ⟨sg, [], 0⟩ a sp cols, cond_intro (fun h7 => ?_) fun h7 => fun hlm => ?_⟩
  · have h7 : (lnR w ⟨sg, [], 0⟩ a sp cols).2 ≠ 0 := by simpa using h7
    rw [lnR_err h7]
    exact ⟨fun _ => PureW.mk c7, _, RetLe.refl _ _⟩
  have h7 : (lnR w ⟨sg, [], 0⟩ a sp cols).2 = 0 := by simpa using h7
  obtain ⟨hck, _, hT⟩ := lnR_ok h7
  obtain ⟨_, g1, g2, _, g3, g4⟩ := chkR_ok hck
  have hfin := hw.ok.fin
  have hd : DrB a sp cols w.fin := ⟨g3, g4, hfin.2, g1.1, g1.2, g2.1, g2.2⟩
  simp only at hT
  rw [hT] at hlm ⊢
  have hTl := lineS_len (sigOf w sg) a sp cols w.fin 0
  refine cond_intro (fun h8 => ?_) fun _ => ?_
  · exfalso
    have h8 : ((lineS (sigOf w sg) a sp cols w.fin 0).length : Int) ≠ cols := by simpa using h8
    omega
  have hsg : w.sig.getD sg.toNat default = sigOf w sg := rfl
  rw [hsg]
  have hm := sigMem hs
  have hget := fun (j : Nat) hj => lineS_get (sigOf w sg) a sp cols w.fin 0 (j := j) hj
  have hlc : lineC (sigOf w sg) a sp cols w.fin 0 = lineC (sigOf w sg) a sp cols w.fin 0 := rfl
  generalize hTT : lineS (sigOf w sg) a sp cols w.fin 0 = T at *
  generalize sigOf w sg = q at *
  refine at_le (st' := ⟨[(2, I a), (3, I sp), (4, I cols), (5, .own [L w.sig 3 Sig.d, L w.gap 2 Iv.d, I w.fin]), (11, .own [I q.kind, I q.width, L q.chg 2 Chg.d]), (12, .str T)], hK⟩) ?_ (StLe.heapLe (hK_le (w := w) (lim := -1)))
  refine runS_sound hmix _ _ _ (of_eq (nDvB w q a sp cols T _) ⟨trivial, trivial, trivial, trivial, trivial, ?_⟩)
  refine at_le (st' := SDv w q a sp cols T (0 : Nat)) ?_ (StLe.heap (hp_eq (fun k => by rcases k with _ | _ | k <;> rfl) rfl rfl))
  obtain ⟨hq1, hq2, hq3⟩ := hw.ok.sig q hm
  refine lp (fn := Tryd.f5) (fun j : Nat => j ≤ cols.toNat) (fun j => SDv w q a sp cols T j) (fun j => cols.toNat - j) [2, 3, 5, 11, 12, 14, 79, 80] (by kernel_rfl) (fun j hj => of_eq (nDvC w q a sp cols T j _ _) (cond_intro (fun hlt => ?_) fun _ => ⟨PureW.mk c7, _, RetLe.refl _ _⟩)) 0 (Nat.zero_le _)
  have hlt : (j : Int) < cols := of_decide_eq_true hlt
  obtain ⟨m1, m2, m3⟩ := hd.col (j := j) (by omega)
  obtain ⟨n1, n2, n3⟩ := hd.col (j := j + 1) (by omega)
  rw [m3]
  have hxs : a + ((j + 1 : Nat) : Int) * sp = a + (j : Int) * sp + sp := by rw [mulS]; omega
  have hin : a + (j : Int) * sp ≤ w.fin → j < nCol sp w.fin cols.toNat a := fun h => nCol_lt g1.1 (by omega) h
  have hj1 : addI .i64 (j : Int) 1 = ((j + 1 : Nat) : Int) := by rw [add64 (by omega) (by omega)]; rfl
  have hjc : ((j + 1 : Nat) : Int) * sp ≤ cols * sp := Int.mul_le_mul_of_nonneg_right (by omega) (by omega)
  rw [mulS] at hjc
  have hbit : a + (j : Int) * sp ≤ w.fin → q.kind = 0 → q.width = 1 → T.getD j 0 = bitCh (sigAt q a) (cut q.chg a (lastC a sp cols w.fin)) (a + (j : Int) * sp) (hiC (a + (j : Int) * sp) sp w.fin) := fun h k0 k1 => by
    rw [hget j (hin h)]
    unfold lineC
    rw [if_neg (by omega), if_pos ⟨k0, k1⟩]
    exact colS_get (fun x => bitCh (sigAt q a) (cut q.chg a (lastC a sp cols w.fin)) x (hiC x sp w.fin)) sp w.fin cols.toNat a j (hin h)
  have hev : a + (j : Int) * sp ≤ w.fin → q.kind = 3 → T.getD j 0 = evCh (cntR q.chg (a + (j : Int) * sp) (hiC (a + (j : Int) * sp) sp w.fin)) := fun h k3 => by
    rw [hget j (hin h)]
    unfold lineC
    rw [if_pos k3]
    have e := colS_get (fun x => evCh (cntR (inR q.chg a (lastC a sp cols w.fin)) x (hiC x sp w.fin))) sp w.fin cols.toNat a j (hin h)
    unfold evS
    rw [e]
    congr 1
    unfold cntR inR
    rw [List.filter_filter]
    congr 1
    refine List.filter_congr fun z _ => ?_
    rw [Bool.eq_iff_iff]
    simp only [Bool.and_eq_true, decide_eq_true_eq]
    unfold hiC lastC
    omega
  have hhi : a + (j : Int) * sp ≤ w.fin → hiC (a + (j : Int) * sp) sp w.fin ≤ lastC a sp cols w.fin := fun h => by unfold hiC lastC; omega
  have hax0 : a ≤ a + (j : Int) * sp ∧ a + (j : Int) * sp ≤ 230000000000000 := ⟨by omega, by omega⟩
  generalize hxx : a + (j : Int) * sp = x at *
  refine at_le (st' := SDv2 w q a sp cols T j ((0 : Nat) : Int) (x + ((0 : Nat) : Int))) ?_ ((StLe.refl _ _).cast (by rw [show x + ((0 : Nat) : Int) = x by simp]; rfl))
  refine lp (fn := Tryd.f5) (fun z : Nat × Nat => (z.1 = 0 ∨ x + (z.1 : Int) - 1 ≤ hiC x sp w.fin) ∧ z.2 = cntR q.chg x (x + (z.1 : Int) - 1) ∧ z.2 ≤ 1000 ∧ z.1 ≤ 1099511627778) (fun z => SDv2 w q a sp cols T j z.2 (x + (z.1 : Int))) (fun z => (sp + 1 - (z.1 : Int)).toNat) [2, 3, 5, 11, 12, 14, 15, 16, 17, 79, 80] (by kernel_rfl) (fun z hz => of_eq (nDvD w q a sp cols T j z.2 (x + (z.1 : Int)) _ _ _) ?_) (0, 0) ⟨.inl rfl, by simp only; rw [show x + ((0 : Nat) : Int) - 1 = x - 1 by omega, cntR_self], by omega, by omega⟩
  obtain ⟨d, n⟩ := z
  obtain ⟨z1, z2, z3, z4⟩ := hz
  simp only at z1 z2 z3 z4 ⊢
  rw [hj1, n3, hxs, m3, Int.toNat_natCast]
  have hcc : (bif decide (x + (d : Int) < x + sp) then decide (x + (d : Int) ≤ w.fin) else false) = decide (x + (d : Int) ≤ hiC x sp w.fin) := by
    rw [Bool.eq_iff_iff]; simp; unfold hiC; omega
  rw [hcc]
  refine cond_intro (fun h8 => ?_) fun h8 => ?_
  · have h8 := of_decide_eq_true h8
    have hxf : x ≤ w.fin := by unfold hiC at h8; omega
    have hdl : (d : Int) ≤ sp - 1 := by unfold hiC at h8; omega
    refine ⟨⟨by omega, by omega⟩, fun _ => PureW.mk (cValY q _ (by omega)), ?_⟩
    have hgood : (bif bif bif q.kind == 0 then q.width == 1 else false then lvHas [KA.i ((T.getD j 0).toNat : Int)] else false then !sigAt q (x + (d : Int)) == lvVal [KA.i ((T.getD j 0).toNat : Int)] else false) = false := by
      by_cases k0 : q.kind = 0 ∧ q.width = 1
      rotate_left
      · have : (bif q.kind == 0 then q.width == 1 else false) = false := by
          cases h : (bif q.kind == 0 then q.width == 1 else false) with
          | false => rfl
          | true => exact absurd (by simpa using h) k0
        rw [this]; rfl
      rw [hbit hxf k0.1 k0.2]
      cases hh : lvHas [KA.i ((bitCh (sigAt q a) (cut q.chg a (lastC a sp cols w.fin)) x (hiC x sp w.fin)).toNat : Int)] with
      | false => simp
      | true =>
        have hk3 : q.kind ≠ 3 := by omega
        have hax : a ≤ x := by omega
        have hl := hhi hxf
        obtain ⟨_, _, _, _, hci, _, _⟩ := hq3.cut3 (show a ≤ lastC a sp cols w.fin by omega)
        have ex : curV (sigAt q a) (cut q.chg a (lastC a sp cols w.fin)) (nLe (cut q.chg a (lastC a sp cols w.fin)) x) = sigAt q x := by
          rw [← curV_valAt hci, sigAt_cut hw hm hk3 hax (by omega)]
        have et : curV (sigAt q a) (cut q.chg a (lastC a sp cols w.fin)) (nLe (cut q.chg a (lastC a sp cols w.fin)) (x + (d : Int))) = sigAt q (x + (d : Int)) := by
          rw [← curV_valAt hci, sigAt_cut hw hm hk3 (by omega) (by omega)]
        unfold bitCh at hh ⊢
        obtain ⟨b1, b2⟩ := lv_bit hh
        have mo1 := nLe_mono (cut q.chg a (lastC a sp cols w.fin)) (show x ≤ x + (d : Int) by omega)
        have mo2 := nLe_mono (cut q.chg a (lastC a sp cols w.fin)) h8
        have hn : nLe (cut q.chg a (lastC a sp cols w.fin)) (x + (d : Int)) = nLe (cut q.chg a (lastC a sp cols w.fin)) x := by omega
        rw [hn, ex] at et
        rw [b2, ex, lv_has (hw.bitAt hm k0.1 k0.2 x), ← et]
        simp
    rw [hgood]
    refine cond_intro (fun h => by cases h) fun _ => fun hql => ?_
    refine lp (fn := Tryd.f5) (fun y : Nat × Nat => y.1 ≤ q.chg.length ∧ y.2 + cE (q.chg.drop y.1) (x + (d : Int)) = n + cE q.chg (x + (d : Int)) ∧ y.2 ≤ 1000 + y.1) (fun y => SDv3 w q a sp cols T j y.2 (x + (d : Int)) q.chg y.1) (fun y => q.chg.length - y.1) [2, 3, 5, 11, 12, 14, 15, 16, 17, 79, 80, 131, 132, 133] (by kernel_rfl) (fun y hy => of_eq (nDvE w q a sp cols T j y.2 (x + (d : Int)) q.chg y.1 _ _ _ _) ?_) (0, n) ⟨Nat.zero_le _, by simp, by omega⟩
    obtain ⟨i, m⟩ := y
    obtain ⟨y1, y2, y3⟩ := hy
    simp only at y1 y2 y3 ⊢
    refine cond_intro (fun hlt2 => ?_) fun hge2 => ?_
    · have hlt2 := ltI hlt2
      rw [add1 hlt2 hql, Int.toNat_natCast]
      rw [drop_cons _ _ hlt2, cE_cons] at y2
      generalize q.chg.getD i default = c at y2 ⊢
      refine ⟨⟨by omega, by omega⟩, trivial, cond_intro (fun h9 => ?_) fun h9 => ?_⟩
      · have h9 : c.time = x + (d : Int) := by simpa using h9
        rw [if_pos h9] at y2
        have hm1 : addI .i64 (m : Int) 1 = ((m + 1 : Nat) : Int) := by rw [add64 (by omega) (by omega)]; rfl
        rw [hm1]
        exact Nx.mk (i + 1, m + 1) ⟨hlt2, by simp only; omega, by simp only; omega⟩ (by simp only; omega)
      · have h9 : ¬ c.time = x + (d : Int) := by simpa using h9
        rw [if_neg h9] at y2
        exact Nx.mk (i + 1, m) ⟨hlt2, by simp only; omega, by simp only; omega⟩ (by simp only; omega)
    · rw [List.drop_of_length_le (geI hge2)] at y2
      have y2 : m = n + cE q.chg (x + (d : Int)) := by unfold cE at y2 ⊢; simpa using y2
      have hst := cntR_step x (x + (d : Int)) (by omega) q.chg
      have hcl : cntR q.chg x (x + (d : Int)) ≤ q.chg.length := List.length_filter_le _ _
      have ht1 : addI .i64 (x + (d : Int)) 1 = x + ((d + 1 : Nat) : Int) := by rw [add64 (by omega) (by omega)]; omega
      rw [ht1]
      refine Nx.mk (d + 1, m) ⟨.inr (by simp only; omega), ?_, by simp only; omega, by simp only; omega⟩ ?_
      · simp only
        rw [show x + ((d + 1 : Nat) : Int) - 1 = x + (d : Int) by omega]
        omega
      · simp only; unfold hiC at h8; omega
  · have h8 := of_decide_eq_false h8
    have hce : (bif q.kind == 3 then decide (x ≤ w.fin) else false) = decide (q.kind = 3 ∧ x ≤ w.fin) := by
      rw [Bool.eq_iff_iff]; simp
    rw [hce]
    refine ⟨fun _ => ⟨by omega, by omega⟩, fun _ => by constructor <;> split <;> omega, ?_⟩
    rw [evCh_get]
    have hgood : (bif decide (q.kind = 3 ∧ x ≤ w.fin) then ((T.getD j 0).toNat : Int) != ((evCh n).toNat : Int) else false) = false := by
      by_cases hk : q.kind = 3 ∧ x ≤ w.fin
      · have hnn : n = cntR q.chg x (hiC x sp w.fin) := by
          rw [z2]
          congr 1
          unfold hiC at h8 z1 ⊢
          omega
        rw [decide_eq_true hk, hev hk.2 hk.1, ← hnn]
        simp
      · rw [decide_eq_false hk]; rfl
    rw [hgood]
    refine cond_intro (fun h => by cases h) fun _ => ?_
    exact Nx.mk (j + 1) (by omega) (by omega)
end Go.Proofs.YtpcbjkjgjoemaaaDoor.S1
