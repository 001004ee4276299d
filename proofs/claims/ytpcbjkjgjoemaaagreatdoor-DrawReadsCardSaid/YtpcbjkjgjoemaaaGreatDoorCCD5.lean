/- Lines: a bus. -/
import Derived.Test.YtpcbjkjgjoemaaaGreatDoorCCD4
namespace Go.Proofs.YtpcbjkjgjoemaaaGreatDoor.S1
open Go Go.Ab Go.Proofs
theorem F75 : OkF 75 Tryz.f75 := ⟨by kernel_rfl, by kernel_rfl, by kernel_rfl⟩
def lv75 : List (List Nat × List Nat) := [([1, 1, 1, 1, 0, 1, 0, 1, 0, 1, 0, 1, 0], [4, 7, 8, 9, 10, 11, 12, 13])]
abbrev txD (k : Int) (n : Ln) : D := .clo 76 [.ep [I k], .ep [I n.sig, .str n.lab, I n.base]]
abbrev flD (k : Int) (n : Ln) (l : List Sp) : D := .clo 131 [.bp 2 0, .bp 0 0, .ep [txD k n], .ep [L l 3 Sp.d], .bp 1 0]
/-- Before the loop. -/
def hU3 (a : D) (es : Str) (i q : Int) : Heap := ⟨upd (upd (upd (fun _ => none) 0 (some (.litT TB [a, .bv TU 0 es.length]))) 1 (some (.lit [I i]))) 2 (some (.lit [I q])), 3, upd (fun _ => none) 0 (some es.length), 1, upd (fun _ => none) 0 (some (cv es encB))⟩
noncomputable def lvUA : List (List Nat × List Nat) := [([1, 1, 1, 0], [3, 4, 5, 7, 8, 9])]
noncomputable def nBuAs  : List Nat → Nat → Option Ans := scrAt []
theorem nBuA [Lay] (a b c d : Int) (l : List Sp) (k : Int) (n : Ln) (K : D → Heap → Prop) : runS (EnX [7, 8, 9] Tryz.f75) (fh Tryz.f75 K) (nBuAs ) lvUA 200 [.code []] ⟨argSlots 0 [.agg [I a, I b, I c, I d], L l 3 Sp.d, .clo 76 [.ep [I k], .ep [I n.sig, .str n.lab, I n.base]]], .empty⟩ =
  (True ∧ True ∧ True ∧ True ∧ True ∧ At (EnX [7, 8, 9] Tryz.f75) (fh Tryz.f75 K) [It.code [1, 1, 1, 0], It.code [1, 1, 1, 1]] { sl := [(3, .own [I a, I b, I c, I d]), (4, .own [L l 3 Sp.d]), (5, .own [D.clo 76 [D.ep [I k], D.ep [I n.sig, .str n.lab, I n.base]]]), (7, D.bp 0 0), (8, D.bp 1 0), (9, D.bp 2 0)], h := { box := upd (upd (upd (upd (upd (fun _ => none) 0 (some (Row.litT 93 [D.nilp, .list 0 0 (fun _ => D.junk) .full]))) 1 (some (Row.lit [I 0]))) 2 (some (Row.lit [I 0]))) 1 (some (Row.lit [I 0]))) 2 (some (Row.lit [I 0])), nl := 3, hw := fun _ => none, nt := 0, vw := fun _ => none : Heap } : St }) := by kernel_rfl
noncomputable def nBuBs  : List Nat → Nat → Option Ans := scrAt []
theorem nBuB [Lay] (a b c d : Int) (l : List Sp) (k : Int) (n : Ln) (es : Str) (i q : Int) (K : D → Heap → Prop) : runS (EnX [7, 8, 9] Tryz.f75) (fh Tryz.f75 K) (nBuBs ) nolv 200 [.code [1, 1, 1, 0], .code [1, 1, 1, 1]] ⟨[(3, .own [I a, I b, I c, I d]), (4, .ep [L l 3 Sp.d]), (5, .ep [txD k n]), (7, .bp 0 0), (8, .bp 1 0), (9, .bp 2 0)], hU3 .nilp es i q⟩ =
  (True ∧ At (EnX [7, 8, 9] Tryz.f75) (fh Tryz.f75 K) [It.code [1, 1, 1, 1, 0, 1, 0], It.blk 0, It.code [1, 1, 1, 1, 1]] { sl := [(16, D.mv 127 [.agg [I a, I b, I c, I d]]), (15, .agg [I a, I b, I c, I d]), (10, .own [D.clo 131 [D.bp 2 0, D.bp 0 0, D.ep [txD k n], D.ep [L l 3 Sp.d], D.bp 1 0]]), (14, D.clo 131 [D.bp 2 0, D.bp 0 0, D.ep [txD k n], D.ep [L l 3 Sp.d], D.bp 1 0]), (3, .own [I a, I b, I c, I d]), (4, D.ep [L l 3 Sp.d]), (5, D.ep [txD k n]), (7, D.bp 0 0), (8, D.bp 1 0), (9, D.bp 2 0)], h := { box := upd (upd (upd (fun _ => none) 0 (some (Row.litT TB [D.nilp, D.bv TU 0 (List.length es)]))) 1 (some (Row.lit [I i]))) 2 (some (Row.lit [I q])), nl := 3, hw := upd (fun _ => none) 0 (some (List.length es)), nt := 1, vw := upd (fun _ => none) 0 (some (cv es encB)) : Heap } : St }) := by kernel_rfl
noncomputable def nBu0s  : List Nat → Nat → Option Ans := scrAt []
theorem nBu0 [Lay] (l : List Sp) (k : Int) (n : Ln) (a : D) (es : Str) (i q x y z : Int) (J : St → Prop) (K : St → Prop) : runS (EnX [7, 8, 9] Tryz.f75) K (nBu0s ) lv75 200 [.code [1, 1, 1, 1, 0, 1, 0, 0], .stop J] ⟨[(4, .ep [L l 3 Sp.d]), (7, .bp 0 0), (8, .bp 1 0), (9, .bp 2 0), (10, .ep [flD k n l]), (17, .agg [I x, I y, I z])], hU a es i q⟩ =
  (True ∧ J { sl := [(11, .own [I x, I y, I z]), (4, D.ep [L l 3 Sp.d]), (7, D.bp 0 0), (8, D.bp 1 0), (9, D.bp 2 0), (10, D.ep [flD k n l]), (17, .agg [I x, I y, I z])], h := { box := upd (upd (upd (fun _ => none) 0 (some (Row.litT TB [a, D.bv TU 0 (List.length es)]))) 1 (some (Row.lit [I i]))) 2 (some (Row.lit [I q])), nl := 4, hw := upd (fun _ => none) 0 (some (List.length es)), nt := 1, vw := upd (fun _ => none) 0 (some (cv es encB)) : Heap } : St }) := by kernel_rfl
noncomputable def nBu1s  : List Nat → Nat → Option Ans := scrAt []
theorem nBu1 [Lay] (l : List Sp) (k : Int) (n : Ln) (a : D) (es : Str) (i q x y z : Int) (J : St → Prop) (K : St → Prop) : runS (EnX [7, 8, 9] Tryz.f75) K (nBu1s ) lv75 200 [.code [1, 1, 1, 1, 0, 1, 0, 1], .stop J] ⟨[(4, .ep [L l 3 Sp.d]), (7, .bp 0 0), (8, .bp 1 0), (9, .bp 2 0), (10, .ep [flD k n l]), (11, .own [I x, I y, I z])], hU a es i q⟩ =
  (At (EnX [7, 8, 9] Tryz.f75) K [It.code [1, 1, 1, 1, 0, 1, 0, 1, 0, 1, 0, 1, 0], It.blk 2, It.code [1, 1, 1, 1, 0, 1, 0, 1, 0, 1, 1], It.blk 1, It.stop J] { sl := [(4, D.ep [L l 3 Sp.d]), (7, D.bp 0 0), (8, D.bp 1 0), (9, D.bp 2 0), (10, D.ep [flD k n l]), (11, .own [I x, I y, I z]), (12, I 0), (13, I i)], h := { box := upd (upd (upd (fun _ => none) 0 (some (Row.litT TB [a, D.bv TU 0 (List.length es)]))) 1 (some (Row.lit [I i]))) 2 (some (Row.lit [I q])), nl := 4, hw := upd (fun _ => none) 0 (some (List.length es)), nt := 1, vw := upd (fun _ => none) 0 (some (cv es encB)) : Heap } : St }) := by kernel_rfl
def SBu (l : List Sp) (k : Int) (n : Ln) (a : D) (es : Str) (i q x y z m j : Int) : St := ⟨[(4, .ep [L l 3 Sp.d]), (7, .bp 0 0), (8, .bp 1 0), (9, .bp 2 0), (10, .ep [flD k n l]), (11, .own [I x, I y, I z]), (12, I m), (13, I j)], hU a es i q⟩
noncomputable def lvU2 : List (List Nat × List Nat) := lv75 ++ [([1, 1, 1, 1, 0, 1, 0, 1, 0, 1, 1, 1, 1, 1], [7, 12])]
noncomputable def nBu2s (l : List Sp) (k : Int) (n : Ln) (a : D) (es : Str) (i : Int) (q : Int) : List Nat → Nat → Option Ans := scrAt [([1, 1, 1, 1, 0, 1, 0, 1, 0, 1, 1, 1, 0], 1, Ans.eff (.tup []) (hU (flA a q) (es ++ flT k n.base l i q) i 0))]
theorem nBu2 [Lay] (l : List Sp) (k : Int) (n : Ln) (a : D) (es : Str) (i q x y z m j : Int) (J J2 : St → Prop) (K : St → Prop) : runS (EnX [7, 8, 9] Tryz.f75) K (nBu2s l k n a es i q) lvU2 200 [.code [1, 1, 1, 1, 0, 1, 0, 1, 0, 1, 0, 1, 0, 0], stp [4, 7, 8, 9, 10, 11, 12, 13] J, .blk 2, .code [1, 1, 1, 1, 0, 1, 0, 1, 0, 1, 1], .blk 1, .stop J2] (SBu l k n a es i q x y z m j) =
  (l.length ≤ lenM →
  (decide (addI .i64 j 1 < (↑l.length : Int)) = true → 0 ≤ addI .i64 j 1 ∧ addI .i64 j 1 < (↑l.length : Int)) ∧
    bif bif decide (addI .i64 j 1 < (↑l.length : Int)) then decide ((l.getD (addI .i64 j 1).toNat default).frm ≤ z) else false then J { sl := [(4, D.ep [L l 3 Sp.d]), (7, D.bp 0 0), (8, D.bp 1 0), (9, D.bp 2 0), (10, D.ep [flD k n l]), (11, .own [I x, I y, I z]), (12, I (addI .i64 m 1)), (13, I (addI .i64 j 1))], h := { box := upd (upd (upd (fun _ => none) 0 (some (Row.litT TB [a, D.bv TU 0 (List.length es)]))) 1 (some (Row.lit [I i]))) 2 (some (Row.lit [I q])), nl := 4, hw := upd (fun _ => none) 0 (some (List.length es)), nt := 1, vw := upd (fun _ => none) 0 (some (cv es encB)) : Heap } : St }
    else
      bif m == 0 then True ∧ J2 { sl := [(42, I (addI .i64 q 1)), (41, I q), (40, B (m == 0)), (39, I m), (34, B (bif decide (addI .i64 j 1 < (↑l.length : Int)) then decide ((l.getD (addI .i64 j 1).toNat default).frm ≤ z) else false)), (24, B (decide (addI .i64 j 1 < (↑l.length : Int)))), (23, B (decide (addI .i64 j 1 < (↑l.length : Int)))), (22, I (↑l.length : Int)), (21, L l 3 Sp.d), (20, I (addI .i64 j 1)), (19, I j), (4, D.ep [L l 3 Sp.d]), (7, D.bp 0 0), (8, D.bp 1 0), (9, D.bp 2 0), (10, D.ep [flD k n l]), (11, .own [I x, I y, I z]), (12, I m), (13, I j)], h := { box := upd (upd (upd (upd (fun _ => none) 0 (some (Row.litT TB [a, D.bv TU 0 (List.length es)]))) 1 (some (Row.lit [I i]))) 2 (some (Row.lit [I q]))) 2 (some (Row.lit [I (addI .i64 q 1)])), nl := 4, hw := upd (fun _ => none) 0 (some (List.length es)), nt := 1, vw := upd (fun _ => none) 0 (some (cv es encB)) : Heap } : St }
      else Does PP 131 [D.bp 2 0, D.bp 0 0, D.ep [txD k n], D.ep [L l 3 Sp.d], D.bp 1 0] { box := upd (upd (upd (fun _ => none) 0 (some (Row.litT TB [a, D.bv TU 0 (List.length es)]))) 1 (some (Row.lit [I i]))) 2 (some (Row.lit [I q])), nl := 4, hw := upd (fun _ => none) 0 (some (List.length es)), nt := 1, vw := upd (fun _ => none) 0 (some (cv es encB)) : Heap } (.tup []) (hU (flA a q) (es ++ flT k n.base l i q) i 0) ∧ True ∧ At (EnX [7, 8, 9] Tryz.f75) K [It.code [1, 1, 1, 1, 0, 1, 0, 1, 0, 1, 1, 1, 1, 1], It.blk 1, It.stop J2] { sl := [(7, D.bp 0 0), (12, I m)], h := { box := upd (upd (upd (upd (fun _ => none) 0 (some (Row.litT TB [flA a q, D.bv TU 0 (List.length (es ++ flT k n.base l i q))]))) 1 (some (Row.lit [I i]))) 2 (some (Row.lit [I 0]))) 1 (some (Row.lit [I (addI .i64 i m)])), nl := 4, hw := upd (fun _ => none) 0 (some (List.length (es ++ flT k n.base l i q))), nt := 1, vw := upd (fun _ => none) 0 (some (cv (es ++ flT k n.base l i q) encB)) : Heap } : St }) := by kernel_rfl
noncomputable def nBu3s (es : Str) (i : Int) (q : Int) (m : Int) : List Nat → Nat → Option Ans := scrAt [([1, 1, 1, 1, 0, 1, 0, 1, 0, 1, 1, 1, 1, 1], 4, Ans.eff D.nili (hU (D.bp 0 0) (es ++ [{ data := #[124, 35] : ByteArray }.data.toList.getD (subI .i64 (if 2 < m then 2 else m) 1).toNat 0]) i q))]
theorem nBu3 [Lay] (a : D) (es : Str) (i q m : Int) (J2 : St → Prop) (K : St → Prop) : runS (EnX [7, 8, 9] Tryz.f75) K (nBu3s es i q m) lv75 200 [.code [1, 1, 1, 1, 0, 1, 0, 1, 0, 1, 1, 1, 1, 1], .blk 1, .stop J2] ⟨[(7, .bp 0 0), (12, I m)], hU a es i q⟩ =
  ((0 ≤ subI .i64 (if 2 < m then 2 else m) 1 ∧ subI .i64 (if 2 < m then 2 else m) 1 < (↑2 : Int)) ∧ Does PP 48 [D.bp 0 0, D.int IntKind.u8 (↑({ data := #[124, 35] : ByteArray }.data.toList.getD (subI .i64 (if 2 < m then 2 else m) 1).toNat 0).toNat : Int)] { box := upd (upd (upd (fun _ => none) 0 (some (Row.litT TB [a, D.bv TU 0 (List.length es)]))) 1 (some (Row.lit [I i]))) 2 (some (Row.lit [I q])), nl := 4, hw := upd (fun _ => none) 0 (some (List.length es)), nt := 1, vw := upd (fun _ => none) 0 (some (cv es encB)) : Heap } D.nili (hU (D.bp 0 0) (es ++ [{ data := #[124, 35] : ByteArray }.data.toList.getD (subI .i64 (if 2 < m then 2 else m) 1).toNat 0]) i q) ∧ J2 { sl := [(52, D.nili), (51, D.int IntKind.u8 (↑({ data := #[124, 35] : ByteArray }.data.toList.getD (subI .i64 (if 2 < m then 2 else m) 1).toNat 0).toNat : Int)), (50, I (subI .i64 (if 2 < m then 2 else m) 1)), (49, I (if 2 < m then 2 else m)), (48, I m), (7, D.bp 0 0), (12, I m)], h := { box := upd (upd (upd (fun _ => none) 0 (some (Row.litT TB [D.bp 0 0, D.bv TU 0 (List.length (es ++ [{ data := #[124, 35] : ByteArray }.data.toList.getD (subI .i64 (if 2 < m then 2 else m) 1).toNat 0]))]))) 1 (some (Row.lit [I i]))) 2 (some (Row.lit [I q])), nl := 4, hw := upd (fun _ => none) 0 (some (List.length (es ++ [{ data := #[124, 35] : ByteArray }.data.toList.getD (subI .i64 (if 2 < m then 2 else m) 1).toNat 0]))), nt := 1, vw := upd (fun _ => none) 0 (some (cv (es ++ [{ data := #[124, 35] : ByteArray }.data.toList.getD (subI .i64 (if 2 < m then 2 else m) 1).toNat 0]) encB)) : Heap } : St }) := by kernel_rfl
noncomputable def nBuZs (l : List Sp) (k : Int) (n : Ln) (a : D) (es : Str) (i : Int) (q : Int) : List Nat → Nat → Option Ans := scrAt [([1, 1, 1, 1, 1, 0], 1, Ans.eff (.tup []) (hU (flA a q) (es ++ flT k n.base l i q) i 0)), ([1, 1, 1, 1, 1, 1, 0], 0, Ans.eff (.str (es ++ flT k n.base l i q)) (hUz i 0))]
theorem nBuZ [Lay] (l : List Sp) (k : Int) (n : Ln) (a : D) (es : Str) (i q : Int) (K : D → Heap → Prop) : runS (EnX [7, 8, 9] Tryz.f75) (fh Tryz.f75 K) (nBuZs l k n a es i q) lv75 200 [.code [1, 1, 1, 1, 1]] ⟨[(7, .bp 0 0), (10, .ep [flD k n l])], hU a es i q⟩ =
  (Does PP 131 [D.bp 2 0, D.bp 0 0, D.ep [txD k n], D.ep [L l 3 Sp.d], D.bp 1 0] { box := upd (upd (upd (fun _ => none) 0 (some (Row.litT TB [a, D.bv TU 0 (List.length es)]))) 1 (some (Row.lit [I i]))) 2 (some (Row.lit [I q])), nl := 4, hw := upd (fun _ => none) 0 (some (List.length es)), nt := 1, vw := upd (fun _ => none) 0 (some (cv es encB)) : Heap } (.tup []) (hU (flA a q) (es ++ flT k n.base l i q) i 0) ∧ Does PP 50 [D.bp 0 0] { box := upd (upd (upd (fun _ => none) 0 (some (Row.litT TB [flA a q, D.bv TU 0 (List.length (es ++ flT k n.base l i q))]))) 1 (some (Row.lit [I i]))) 2 (some (Row.lit [I 0])), nl := 4, hw := upd (fun _ => none) 0 (some (List.length (es ++ flT k n.base l i q))), nt := 1, vw := upd (fun _ => none) 0 (some (cv (es ++ flT k n.base l i q) encB)) : Heap } (.str (es ++ flT k n.base l i q)) (hUz i 0) ∧ K (.str (es ++ flT k n.base l i q)) { box := upd (upd (fun _ => none) 1 (some (Row.lit [I i]))) 2 (some (Row.lit [I 0])), nl := 4, hw := fun _ => none, nt := 1, vw := fun _ => none : Heap }) := by kernel_rfl
noncomputable abbrev buE : Env := EnX [7, 8, 9] Tryz.f75
abbrev buP : List Nat := [1, 1, 1, 1, 0, 1, 0]
abbrev buSl (k : Int) (n : Ln) (l : List Sp) : Slots := [(4, .ep [L l 3 Sp.d]), (7, .bp 0 0), (8, .bp 1 0), (9, .bp 2 0), (10, .ep [flD k n l])]
noncomputable abbrev buQ (k : Int) (n : Ln) (l : List Sp) : RecD := recAt buE buP (buSl k n l)
/-- In a round, with the loop's record. -/
def hUL (a : D) (es : Str) (i q : Int) (r : RecD) : Heap := ⟨upd (upd (upd (upd (fun _ => none) 0 (some (.litT TB [a, .bv TU 0 es.length]))) 1 (some (.lit [I i]))) 2 (some (.lit [I q]))) 3 (some (.loop r none)), 4, upd (fun _ => none) 0 (some es.length), 1, upd (fun _ => none) 0 (some (cv es encB))⟩
theorem hUL_off {a : D} {es : Str} {i q : Int} {r : RecD} : hOff (hUL a es i q r) 3 = hU a es i q := by
  have : upd (hUL a es i q r).box 3 none = (hU a es i q).box := by
    funext k; rcases k with _ | _ | _ | _ | k <;> rfl
  unfold hOff
  rw [this]; rfl
/-- A column: what has been written, the quiet columns that wait. -/
def busStep (tx : Str → Str) (v : Str) (c : List Chg) (x y : Int) (p : Str × Nat) : Str × Nat :=
  if nLe c y - nLe c (x - 1) = 0 then (p.1, p.2 + 1) else (p.1 ++ flS tx v c (nLe c (x - 1)) p.2 ++ [busCh (nLe c y - nLe c (x - 1))], 0)
def busSt (tx : Str → Str) (v : Str) (c : List Chg) (stp fin frm : Int) : Nat → Str × Nat
  | 0 => ([], 0)
  | j + 1 => busStep tx v c (frm + (j : Int) * stp) (hiC (frm + (j : Int) * stp) stp fin) (busSt tx v c stp fin frm j)
theorem flS_len (tx : Str → Str) (v : Str) (c : List Chg) (i q : Nat) : (flS tx v c i q).length = q := by
  unfold flS
  split
  · rename_i h; exact fitS_len _ h
  · simp; omega
theorem busSt_len (tx : Str → Str) (v : Str) (c : List Chg) (stp fin frm : Int) : ∀ j : Nat, (busSt tx v c stp fin frm j).1.length + (busSt tx v c stp fin frm j).2 = j
  | 0 => rfl
  | j + 1 => by
    have ih := busSt_len tx v c stp fin frm j
    rw [busSt, busStep]
    split
    · simp only; omega
    · simp only [List.length_append, flS_len, List.length_singleton]; omega
theorem busSt_busS (tx : Str → Str) (v : Str) {c : List Chg} {stp fin frm : Int} (h1 : 1 ≤ stp) (hlf : ∀ x ∈ c, x.time ≤ fin) (h0 : nLe c (frm - 1) = 0) (K : Nat) : ∀ j : Nat, j ≤ nCol stp fin K frm →
    busS tx v c stp fin K frm 0 0 = (busSt tx v c stp fin frm j).1 ++ busS tx v c stp fin (K - j) (frm + (j : Int) * stp) (nLe c (frm + (j : Int) * stp - 1)) (busSt tx v c stp fin frm j).2
  | 0, _ => by
    have : frm + ((0 : Nat) : Int) * stp = frm := by simp
    rw [this, h0]; rfl
  | j + 1, h => by
    rw [busSt_busS tx v h1 hlf h0 K j (by omega)]
    have hin := nCol_in stp fin K frm j (by omega)
    have hle := nCol_le stp fin K frm
    obtain ⟨m, hm⟩ : ∃ m, K - j = m + 1 := ⟨K - j - 1, by omega⟩
    have hm2 : K - (j + 1) = m := by omega
    rw [hm, hm2, busS, if_neg (by omega)]
    have hx : frm + ((j + 1 : Nat) : Int) * stp = frm + (j : Int) * stp + stp := by rw [mulS]; omega
    have hn : nLe c (frm + ((j + 1 : Nat) : Int) * stp - 1) = nLe c (hiC (frm + (j : Int) * stp) stp fin) := by
      rw [hx]
      by_cases hb : frm + (j : Int) * stp + stp - 1 ≤ fin
      · have : hiC (frm + (j : Int) * stp) stp fin = frm + (j : Int) * stp + stp - 1 := by unfold hiC; omega
        rw [this]
      · have : hiC (frm + (j : Int) * stp) stp fin = fin := by unfold hiC; omega
        rw [this, nLe_all hlf, nLe_all fun x hx => by have := hlf x hx; omega]
    rw [hn, hx, busSt, busStep]
    by_cases hz : nLe c (hiC (frm + (j : Int) * stp) stp fin) - nLe c (frm + (j : Int) * stp - 1) = 0
    · rw [if_pos hz, if_pos hz]
      have hmm := nLe_mono c (show frm + (j : Int) * stp - 1 ≤ hiC (frm + (j : Int) * stp) stp fin by unfold hiC; omega)
      rw [show nLe c (hiC (frm + (j : Int) * stp) stp fin) = nLe c (frm + (j : Int) * stp - 1) by omega]
    · rw [if_neg hz, if_neg hz]
      simp [List.append_assoc]
theorem aOf_fl (k : Int) (n : Ln) (l : List Sp) (es : Str) (i : Int) (q : Nat) : flA (aOf es) q = aOf (es ++ flT k n.base l i q) := by
  unfold flA flT
  by_cases h : 0 < (q : Int)
  · rw [if_pos h, if_pos h]
    unfold aOf
    rw [if_neg]
    intro h0
    have := fitS_len (txF k n.base (l.getD i.toNat default).val) (n := (q : Int).toNat) (by omega)
    rw [(List.append_eq_nil_iff.1 h0).2] at this
    simp only [List.length_nil] at this
    omega
  · rw [if_neg h, if_neg h, List.append_nil]
theorem buY [Lay] {c : List Chg} {frm til : Int} (hi : Inc frm c) (v : Str) (hlen : c.length ≤ 900) (k : Int) (n : Ln) (hcv : ∀ i, i ≤ c.length → (curV v c i).length ≤ 1000000 ∧ (txF k n.base (curV v c i)).length ≤ 1000000) (j x y : Int) (p : Str × Nat) (hes : p.1.length ≤ 300) (hq : p.2 ≤ 300) (hxy : x ≤ y) (K : D → Heap → Prop)
    (hk : K (.bool true) (hUL (aOf (busStep (txF k n.base) v c x y p).1) (busStep (txF k n.base) v c x y p).1 (nLe c y : Nat) ((busStep (txF k n.base) v c x y p).2 : Nat) (buQ k n (spS frm v til c)))) :
    CallY PP 3 [.agg [I j, I x, I y]] (hUL (aOf p.1) p.1 (nLe c (x - 1) : Nat) (p.2 : Nat) (buQ k n (spS frm v til c))) K := by
  refine callY_of (E := buE) (p := buP) (sl := buSl k n (spS frm v til c)) (by kernel_rfl) rfl (by kernel_rfl) (by kernel_rfl) ?_
  rw [hUL_off]
  generalize hl : spS frm v til c = l at *
  have hll : l.length = c.length + 1 := by rw [← hl, spS_len]
  obtain ⟨es, q⟩ := p
  simp only at hes hq hk ⊢
  refine at_le (st' := ⟨[(4, .ep [L l 3 Sp.d]), (7, .bp 0 0), (8, .bp 1 0), (9, .bp 2 0), (10, .ep [flD k n l]), (17, .agg [I j, I x, I y])], hU (aOf es) es (nLe c (x - 1) : Nat) (q : Nat)⟩) (runS_sound hmix _ _ _ (of_eq (nBu0 l k n (aOf es) es _ q j x y _ _) ⟨trivial, ?_⟩)) (keepSt_le _ [4, 7, 8, 9, 10, 17] _)
  refine at_le (st' := ⟨[(4, .ep [L l 3 Sp.d]), (7, .bp 0 0), (8, .bp 1 0), (9, .bp 2 0), (10, .ep [flD k n l]), (11, .own [I j, I x, I y])], hU (aOf es) es (nLe c (x - 1) : Nat) (q : Nat)⟩) ?_ (keepSt_le _ [4, 7, 8, 9, 10, 11] _)
  refine runS_sound hmix _ _ _ (of_eq (nBu1 l k n (aOf es) es _ q j x y _ _) ?_)
  have hm1 := nLe_mono c (show x - 1 ≤ y by omega)
  have hly := nLe_le c y
  refine lp (fn := Tryz.f75) (fun z : Nat × Nat => nLe c (x - 1) ≤ z.1 ∧ z.1 ≤ nLe c y ∧ z.2 = z.1 - nLe c (x - 1)) (fun z => SBu l k n (aOf es) es (nLe c (x - 1) : Nat) q j x y z.2 z.1) (fun z => nLe c y - z.1) [4, 7, 8, 9, 10, 11, 12, 13] (by kernel_rfl) (fun z hz => of_eq (nBu2 l k n (aOf es) es (nLe c (x - 1) : Nat) q j x y z.2 z.1 _ _ _) fun hlm => ?_) (nLe c (x - 1), 0) ⟨Nat.le_refl _, hm1, by simp⟩
  obtain ⟨i, m⟩ := z
  obtain ⟨h1, h2, h3⟩ := hz
  simp only at h1 h2 h3 ⊢
  rw [add64 (a := (i : Int)) (b := 1) (by omega) (by omega), show ((i : Int) + 1) = ((i + 1 : Nat) : Int) from rfl, Int.toNat_natCast]
  have hfr := sp_frm hi v (til := til) (y := y) i
  rw [hl] at hfr
  have hc : (bif decide (((i + 1 : Nat) : Int) < (l.length : Int)) then decide ((l.getD (i + 1) default).frm ≤ y) else false) = decide (i < nLe c y) := by
    rw [Bool.eq_iff_iff, decide_eq_true_iff, ← hfr]
    by_cases hlt : i + 1 < l.length
    · rw [decide_eq_true (show ((i + 1 : Nat) : Int) < (l.length : Int) by omega)]; simp [hlt]
    · rw [decide_eq_false (show ¬ ((i + 1 : Nat) : Int) < (l.length : Int) by omega)]; simp [hlt]
  rw [hc]
  refine ⟨fun h => ⟨by omega, of_decide_eq_true h⟩, cond_intro (fun h => ?_) fun h => ?_⟩
  · have h := of_decide_eq_true h
    have hn1 : addI .i64 (m : Int) 1 = ((m + 1 : Nat) : Int) := by rw [add64 (by omega) (by omega)]; rfl
    rw [hn1]
    exact Nx.mk (i + 1, m + 1) ⟨by simp only; omega, h, by simp only; omega⟩ (by simp only; omega)
  have h := of_decide_eq_false h
  have hie : i = nLe c y := by omega
  subst hie
  have hv1 := sp_val (frm := frm) (til := til) v (c := c) (i := nLe c (x - 1)) (by omega)
  rw [hl] at hv1
  have hfl : flT k n.base l (nLe c (x - 1) : Nat) (q : Nat) = flS (txF k n.base) v c (nLe c (x - 1)) q := by
    unfold flT flS
    rw [Int.toNat_natCast, Int.toNat_natCast, hv1]
    by_cases h0 : 0 < q
    · rw [if_pos h0, if_pos (by omega)]
    · rw [if_neg h0, if_neg (by omega)]
  unfold busStep at hk
  simp only at hk
  refine cond_intro (fun h0 => ⟨trivial, ?_⟩) fun h0 => ?_
  · have h0 : m = 0 := by simpa using h0
    have hn1 : addI .i64 (q : Int) 1 = ((q + 1 : Nat) : Int) := by rw [add64 (by omega) (by omega)]; rfl
    have hz : nLe c y - nLe c (x - 1) = 0 := by omega
    rw [if_pos hz] at hk
    simp only at hk
    rw [hn1, upd_upd, show nLe c (x - 1) = nLe c y by omega]
    exact hk
  have h0 : ¬ m = 0 := by simpa using h0
  have hz : ¬ nLe c y - nLe c (x - 1) = 0 := by omega
  rw [if_neg hz] at hk
  simp only at hk
  obtain ⟨b1, b2⟩ := hcv (nLe c (x - 1)) (by omega)
  refine ⟨e131 (aOf es) (aOf_or es) es (nLe c (x - 1) : Nat) q k n l ⟨by omega, by omega⟩ (by omega) (by omega) (by rw [Int.toNat_natCast, hv1]; exact b1) (by rw [Int.toNat_natCast, hv1]; exact b2), trivial, ?_⟩
  rw [aOf_fl k n l es (nLe c (x - 1) : Nat) q, hfl]
  generalize hE : es ++ flS (txF k n.base) v c (nLe c (x - 1)) q = E
  have hEl : E.length ≤ 600 := by rw [← hE, List.length_append, flS_len]; omega
  have hadd : addI .i64 (nLe c (x - 1) : Int) (m : Int) = ((nLe c y : Nat) : Int) := by rw [add64 (by omega) (by omega)]; omega
  refine at_le (st' := ⟨[(7, .bp 0 0), (12, I m)], hU (aOf E) E (nLe c y : Nat) 0⟩) ?_ (StLe.heap (hp_eq (fun k => by rcases k with _ | _ | _ | k <;> first | rfl | (rw [hadd]; rfl)) rfl rfl))
  refine runS_sound hmix _ _ _ (of_eq (nBu3 (aOf E) E (nLe c y : Nat) 0 m _ _) ?_)
  have hsub : subI .i64 (if 2 < (m : Int) then 2 else (m : Int)) 1 = if m = 1 then 0 else 1 := by
    by_cases h5 : m = 1
    · subst h5; rfl
    · rw [if_neg h5]
      by_cases h6 : 2 < (m : Int)
      · rw [if_pos h6]; rfl
      · have : m = 2 := by omega
        subst this; rfl
  have hch : ({ data := #[124, 35] : ByteArray }.data.toList.getD (subI .i64 (if 2 < (m : Int) then 2 else (m : Int)) 1).toNat 0) = busCh m := by
    rw [hsub]
    unfold busCh
    by_cases h5 : m = 1
    · rw [if_pos h5, if_pos h5]; rfl
    · rw [if_neg h5, if_neg h5]; rfl
  rw [hch]
  refine ⟨by rw [hsub]; constructor <;> split <;> decide, eWBU (aOf E) (aOf_or E) E _ _ _ (by omega), ?_⟩
  have hmz : nLe c y - nLe c (x - 1) = m := by omega
  rw [hE, hmz, aOf_snoc] at hk
  exact hk
theorem c75 [Lay] (frm stp cols fin : Int) (h1 : 0 ≤ frm ∧ frm ≤ fin) (h2 : 1 ≤ stp ∧ stp ≤ 1099511627776) (h3 : 1 ≤ cols ∧ cols ≤ 200) (h4 : fin ≤ 1099511627776) (v : Str) (c : List Chg) (hlen : c.length ≤ 900) (hi : Inc frm c) (hlf : ∀ x ∈ c, x.time ≤ lastC frm stp cols fin)
    (k : Int) (n : Ln) (hcv : ∀ i, i ≤ c.length → (curV v c i).length ≤ 1000000 ∧ (txF k n.base (curV v c i)).length ≤ 1000000) :
    Pure PP 75 [.agg [I frm, I stp, I cols, I fin], L (spS frm v (lastC frm stp cols fin) c) 3 Sp.d, .clo 76 [.ep [I k], .ep [I n.sig, .str n.lab, I n.base]]] (.str (busS (txF k n.base) v c stp fin cols.toNat frm 0 0)) := by
  have hlf2 : ∀ x ∈ c, x.time ≤ fin := fun x hx => by have := hlf x hx; unfold lastC at this; omega
  have h00 : nLe c (frm - 1) = 0 := nLe_zero fun x hx => by have := hi.gt x hx; omega
  refine pr F75 (by kernel_rfl) (of_eq (nBuA frm stp cols fin (spS frm v (lastC frm stp cols fin) c) k n _) ⟨trivial, trivial, trivial, trivial, trivial, ?_⟩)
  refine at_le (st' := ⟨[(3, .own [I frm, I stp, I cols, I fin]), (4, .ep [L (spS frm v (lastC frm stp cols fin) c) 3 Sp.d]), (5, .ep [txD k n]), (7, .bp 0 0), (8, .bp 1 0), (9, .bp 2 0)], hU3 .nilp [] 0 0⟩) ?_
    ((((StLe.layOwn 4 rfl (by kernel_rfl)).trans (StLe.layOwn 5 rfl (by kernel_rfl))).trans (StLe.idleBoxT _ 0 1 TU TB (cv ([] : Str) encB) rfl rfl)).trans (StLe.heap (hp_eq (fun k => by rcases k with _ | _ | _ | k <;> rfl) rfl rfl)))
  refine runS_sound hmix _ _ _ (of_eq (nBuB frm stp cols fin (spS frm v (lastC frm stp cols fin) c) k n [] 0 0 _) ⟨trivial, ?_⟩)
  refine at_le (st' := ⟨[(4, .ep [L (spS frm v (lastC frm stp cols fin) c) 3 Sp.d]), (7, .bp 0 0), (8, .bp 1 0), (9, .bp 2 0), (10, .ep [flD k n (spS frm v (lastC frm stp cols fin) c)]), (16, .mv 127 [.agg [I frm, I stp, I cols, I fin]])], hU3 .nilp [] 0 0⟩) ?_
    ((StLe.layOwn 10 rfl (by kernel_rfl)).trans (keepSt_le _ [4, 7, 8, 9, 10, 16] _))
  refine at_rangeM (E := buE) (p := buP) (by kernel_rfl) (f := 127) (first := [.agg [I frm, I stp, I cols, I fin]]) (by kernel_rfl) [4, 7, 8, 9, 10] ?_
  generalize hm : nCol stp fin cols.toNat frm = m
  have hmle := nCol_le stp fin cols.toNat frm
  generalize htx : txF k n.base = tx at *
  have hS := busSt_busS tx v (frm := frm) h2.1 hlf2 h00 cols.toNat m (by omega)
  have hall := allCall frm stp cols fin 3 (fun j => hUL (aOf (busSt tx v c stp fin frm j).1) (busSt tx v c stp fin frm j).1 (nLe c (frm + (j : Int) * stp - 1) : Nat) ((busSt tx v c stp fin frm j).2 : Nat) (buQ k n (spS frm v (lastC frm stp cols fin) c))) ⟨h1.1, by omega⟩ h2 ⟨by omega, h3.2⟩ ⟨by omega, h4⟩ (fun j K hj hK => by
    have hin := nCol_in stp fin cols.toNat frm j hj
    rw [hm] at hj
    have hjc : ((j + 1 : Nat) : Int) * stp ≤ cols * stp := Int.mul_le_mul_of_nonneg_right (by omega) (by omega)
    rw [mulS] at hjc
    have hbl := busSt_len tx v c stp fin frm j
    refine buY hi v hlen k n (by rw [htx]; exact hcv) _ _ _ (busSt tx v c stp fin frm j) (by omega) (by omega) (by unfold hiC; omega) K ?_
    rw [htx]
    have hn : nLe c (frm + ((j + 1 : Nat) : Int) * stp - 1) = nLe c (hiC (frm + (j : Int) * stp) stp fin) := by
      rw [mulS]
      by_cases hb : frm + (j : Int) * stp + stp - 1 ≤ fin
      · have : hiC (frm + (j : Int) * stp) stp fin = frm + ((j : Int) * stp + stp) - 1 := by unfold hiC; omega
        rw [this]
      · have : hiC (frm + (j : Int) * stp) stp fin = fin := by unfold hiC; omega
        rw [this, nLe_all hlf2, nLe_all fun x hx => by have := hlf2 x hx; omega]
    simp only [hn] at hK
    exact hK)
  rw [hm] at hall
  have e0 : hUL (aOf (busSt tx v c stp fin frm 0).1) (busSt tx v c stp fin frm 0).1 (nLe c (frm + ((0 : Nat) : Int) * stp - 1) : Nat) ((busSt tx v c stp fin frm 0).2 : Nat) (buQ k n (spS frm v (lastC frm stp cols fin) c)) = hUL .nilp [] 0 0 (buQ k n (spS frm v (lastC frm stp cols fin) c)) := by
    have : nLe c (frm + ((0 : Nat) : Int) * stp - 1) = 0 := by simp; exact h00
    rw [this]; rfl
  simp only [e0] at hall
  refine CallA.mono hall fun _ h hh => .inl ?_
  subst hh
  refine ⟨rfl, ?_⟩
  have hbl := busSt_len tx v c stp fin frm m
  have hm0 : 0 < m := by
    rw [← hm]
    rcases nCol_end stp fin cols.toNat frm with h | h
    · omega
    · rcases Nat.eq_zero_or_pos (nCol stp fin cols.toNat frm) with h0 | h0
      · rw [h0] at h; simp at h; omega
      · exact h0
  have hend : busS tx v c stp fin (cols.toNat - m) (frm + (m : Int) * stp) (nLe c (frm + (m : Int) * stp - 1)) (busSt tx v c stp fin frm m).2 = flS tx v c (nLe c (frm + (m : Int) * stp - 1)) (busSt tx v c stp fin frm m).2 := by
    rcases nCol_end stp fin cols.toNat frm with h | h
    · rw [show cols.toNat - m = 0 by omega, busS]
    · rw [hm] at h
      cases hk : cols.toNat - m with
      | zero => rw [busS]
      | succ r => rw [busS, if_pos h]
  rw [hend] at hS
  rw [hS]
  generalize busSt tx v c stp fin frm m = z at hbl ⊢
  obtain ⟨es, q⟩ := z
  simp only at hbl ⊢
  generalize hii : nLe c (frm + (m : Int) * stp - 1) = i
  have hic : i ≤ c.length := by rw [← hii]; exact nLe_le _ _
  have hv1 := sp_val (frm := frm) (til := lastC frm stp cols fin) v (c := c) (i := i) hic
  obtain ⟨b1, b2⟩ := hcv i hic
  generalize hl : spS frm v (lastC frm stp cols fin) c = l at hv1 ⊢
  have hll : l.length = c.length + 1 := by rw [← hl, spS_len]
  have hfl : flT k n.base l (i : Nat) (q : Nat) = flS tx v c i q := by
    unfold flT flS
    rw [Int.toNat_natCast, Int.toNat_natCast, hv1, htx]
    by_cases h0 : 0 < q
    · rw [if_pos h0, if_pos (by omega)]
    · rw [if_neg h0, if_neg (by omega)]
  have hne : es ++ flS tx v c i q ≠ [] := by
    intro h0
    have h1 := congrArg List.length h0
    rw [List.length_append, flS_len] at h1
    simp only [List.length_nil] at h1
    omega
  refine (at_le (st' := ⟨[(7, .bp 0 0), (10, .ep [flD k n l])], hU (aOf es) es (i : Nat) (q : Nat)⟩) (runS_sound hmix _ _ _ (of_eq (nBuZ l k n (aOf es) es (i : Nat) (q : Nat) _) ?_)) ?_).it
  · rw [← hfl] at hne ⊢
    refine ⟨e131 (aOf es) (aOf_or es) es (i : Nat) q k n l ⟨by omega, by omega⟩ (by omega) (by omega) (by rw [Int.toNat_natCast, hv1]; exact b1) (by rw [Int.toNat_natCast, hv1, htx]; exact b2), ?_, _, RetLe.wk (Wk.refl _) rfl⟩
    exact eStrU _ (flA_or (aOf_or es) _) _ _ _ hne
  · show StLe _ ⟨_, hOff (hUL (aOf es) es (i : Nat) (q : Nat) (buQ k n l)) 3⟩ _
    rw [hUL_off]
    exact keepSt_le _ [7, 10] _
end Go.Proofs.YtpcbjkjgjoemaaaGreatDoor.S1
/- Lines: the source's window; the arguments' check. -/
namespace Go.Proofs.YtpcbjkjgjoemaaaGreatDoor.S1
open Go Go.Ab Go.Proofs
theorem F293 : OkF 293 Tryz.f293 := ⟨by kernel_rfl, by kernel_rfl, by kernel_rfl⟩
def lv293 : List (List Nat × List Nat) := [([1, 1, 1, 1, 0, 1, 0], [2, 3, 11, 44, 45, 46])]
noncomputable def nWis (w : Wv) (lim : Int) (c : Int) (sig : Int) : List Nat → Nat → Option Ans := scrAt [([1, 0, 0], 2, Ans.eff (I (callR w lim c sig)) (hM w lim (addI .i64 c 1)))]
theorem nWi [Lay] (w : Wv) (lim c sig a b : Int) (K : D → Heap → Prop) : runS (En Tryz.f293) (fh Tryz.f293 K) (nWis w lim c sig) lv293 200 [.code []] ⟨argSlots 0 [.bp 0 0, I sig, I a, I b], hM w lim c⟩ =
  (Does PP 294 [D.bp 0 0, I sig] { box := upd (fun _ => none) 0 (some (Row.lit [L w.sig 3 Sig.d, L w.gap 2 Iv.d, I w.fin, I lim, I c])), nl := 1, hw := fun _ => none, nt := 0, vw := fun _ => none : Heap } (I (callR w lim c sig)) (hM w lim (addI .i64 c 1)) ∧ bif callR w lim c sig != 0 then K (.tup [.list 0 0 (fun _ => D.junk) .full, I (callR w lim c sig)]) { box := upd (fun _ => none) 0 (some (Row.lit [L w.sig 3 Sig.d, L w.gap 2 Iv.d, I w.fin, I lim, I (addI .i64 c 1)])), nl := 1, hw := fun _ => none, nt := 0, vw := fun _ => none : Heap } else bif bif bif decide (a < 0) then true else decide (a > b) then true else decide (b > w.fin) then K (.tup [.list 0 0 (fun _ => D.junk) .full, I 2]) { box := upd (fun _ => none) 0 (some (Row.lit [L w.sig 3 Sig.d, L w.gap 2 Iv.d, I w.fin, I lim, I (addI .i64 c 1)])), nl := 1, hw := fun _ => none, nt := 0, vw := fun _ => none : Heap } else (0 ≤ sig ∧ sig < (↑w.sig.length : Int)) ∧ ((w.sig.getD sig.toNat default).chg.length ≤ lenM → At (En Tryz.f293) (fh Tryz.f293 K) [It.code [1, 1, 1, 1, 0, 1, 0], It.blk 0, It.code [1, 1, 1, 1, 1]] { sl := [(2, I a), (3, I b), (11, .list 0 0 (fun _ => D.junk) .full), (44, L (w.sig.getD sig.toNat default).chg 2 Chg.d), (45, I (↑(w.sig.getD sig.toNat default).chg.length : Int)), (46, I 0)], h := { box := upd (fun _ => none) 0 (some (Row.lit [L w.sig 3 Sig.d, L w.gap 2 Iv.d, I w.fin, I lim, I (addI .i64 c 1)])), nl := 1, hw := fun _ => none, nt := 0, vw := fun _ => none : Heap } : St })) := by kernel_rfl
def SWi (w : Wv) (lim c a b : Int) (out ls : List Chg) (i : Int) : St := ⟨[(2, I a), (3, I b), (11, LT out 2 Chg.d 0), (44, L ls 2 Chg.d), (45, I ls.length), (46, I i)], hT (hM w lim c) out.length⟩
noncomputable def nWias  : List Nat → Nat → Option Ans := scrAt []
theorem nWia [Lay] (w : Wv) (lim c a b : Int) (out ls : List Chg) (i : Int) (J : St → Prop) (K : D → Heap → Prop) : runS (En Tryz.f293) (fh Tryz.f293 K) (nWias ) lv293 200 [.code [1, 1, 1, 1, 0, 1, 0, 0], stp [2, 3, 11, 44, 45, 46] J, .blk 0, .code [1, 1, 1, 1, 1]] (SWi w lim c a b out ls i) =
  (bif decide (i < (↑ls.length : Int)) then (0 ≤ i ∧ i < (↑ls.length : Int)) ∧ True ∧ bif bif decide ((ls.getD i.toNat default).time ≥ a) then decide ((ls.getD i.toNat default).time ≤ b) else false then (upd (fun _ => none) 0 (some out.length) 0 = some out.length ∧ (out.length + 1) * 24 ≤ roomM) ∧ J { sl := [(2, I a), (3, I b), (11, .list (out.length + 1) 2 (catG out.length (fun i => (out.getD i default).d) (litG [.agg [I (ls.getD i.toNat default).time, .str (ls.getD i.toNat default).val]])) (.tok 0 2)), (44, L ls 2 Chg.d), (45, I (↑ls.length : Int)), (46, I (addI .i64 i 1))], h := { box := upd (fun _ => none) 0 (some (Row.lit [L w.sig 3 Sig.d, L w.gap 2 Iv.d, I w.fin, I lim, I c])), nl := 1, hw := upd (upd (fun _ => none) 0 (some out.length)) 0 (some (out.length + 1)), nt := 1, vw := fun _ => none : Heap } : St } else J { sl := [(2, I a), (3, I b), (11, .list out.length 2 (fun i => (out.getD i default).d) (.tok 0 2)), (44, L ls 2 Chg.d), (45, I (↑ls.length : Int)), (46, I (addI .i64 i 1))], h := { box := upd (fun _ => none) 0 (some (Row.lit [L w.sig 3 Sig.d, L w.gap 2 Iv.d, I w.fin, I lim, I c])), nl := 1, hw := upd (fun _ => none) 0 (some out.length), nt := 1, vw := fun _ => none : Heap } : St } else K (.tup [.list out.length 2 (fun i => (out.getD i default).d) (.tok 0 2), I 0]) { box := upd (fun _ => none) 0 (some (Row.lit [L w.sig 3 Sig.d, L w.gap 2 Iv.d, I w.fin, I lim, I c])), nl := 1, hw := upd (fun _ => none) 0 (some out.length), nt := 1, vw := fun _ => none : Heap }) := by kernel_rfl
theorem F32 : OkF 32 Tryz.f32 := ⟨by kernel_rfl, by kernel_rfl, by kernel_rfl⟩
def lv32 : List (List Nat × List Nat) := [([1, 1, 0, 1, 0], [0, 2, 22, 23, 24])]
noncomputable def nCks (stp : Int) (cols : Int) : List Nat → Nat → Option Ans := scrAt [([1, 0, 0], 2, Ans.pure [I stp, I cols] (B (szB stp cols)))]
theorem nCk [Lay] (w : Wv) (lim c : Int) (ls : List Ln) (a stp cols : Int) (K : D → Heap → Prop) : runS (En Tryz.f32) (fh Tryz.f32 K) (nCks stp cols) lv32 200 [.code []] ⟨argSlots 0 [memD, L ls 3 Ln.d, I a, I stp, I cols], hM w lim c⟩ =
  (PureW PP 78 [I stp, I cols] [I stp, I cols] (B (szB stp cols)) ∧ (((!!szB stp cols) = true → ls.length ≤ lenM) → bif bif !szB stp cols then true else decide ((↑ls.length : Int) > 64) then K (I 1) { box := upd (fun _ => none) 0 (some (Row.lit [L w.sig 3 Sig.d, L w.gap 2 Iv.d, I w.fin, I lim, I c])), nl := 1, hw := fun _ => none, nt := 0, vw := fun _ => none : Heap } else ls.length ≤ lenM → At (En Tryz.f32) (fh Tryz.f32 K) [It.code [1, 1, 0, 1, 0], It.blk 0, It.code [1, 1, 1]] { sl := [(0, memD), (2, I a), (22, L ls 3 Ln.d), (23, I (↑ls.length : Int)), (24, I 0)], h := { box := upd (fun _ => none) 0 (some (Row.lit [L w.sig 3 Sig.d, L w.gap 2 Iv.d, I w.fin, I lim, I c])), nl := 1, hw := fun _ => none, nt := 0, vw := fun _ => none : Heap } : St })) := by kernel_rfl
def SCk (w : Wv) (lim c : Int) (ls : List Ln) (a : Int) (i : Int) : St := ⟨[(0, memD), (2, I a), (22, L ls 3 Ln.d), (23, I ls.length), (24, I i)], hM w lim c⟩
noncomputable def nCkas (w : Wv) (lim : Int) (c : Int) (ls : List Ln) (i : Int) : List Nat → Nat → Option Ans := scrAt [([1, 1, 0, 1, 0, 0, 1, 1, 0, 0, 1, 0], 1, Ans.pure [(ls.getD i.toNat default).d] (B (lnB (ls.getD i.toNat default)))), ([1, 1, 1, 0, 0], 5, Ans.eff (I w.fin) (hM w lim c))]
theorem nCka [Lay] (w : Wv) (lim c : Int) (ls : List Ln) (a : Int) (i : Int) (J : St → Prop) (K : D → Heap → Prop) : runS (En Tryz.f32) (fh Tryz.f32 K) (nCkas w lim c ls i) lv32 200 [.code [1, 1, 0, 1, 0, 0], stp [0, 2, 22, 23, 24] J, .blk 0, .code [1, 1, 1]] (SCk w lim c ls a i) =
  (bif decide (i < (↑ls.length : Int)) then (0 ≤ i ∧ i < (↑ls.length : Int)) ∧ True ∧ PureW PP 79 [(ls.getD i.toNat default).d] [(ls.getD i.toNat default).d] (B (lnB (ls.getD i.toNat default))) ∧ bif !lnB (ls.getD i.toNat default) then K (I 1) { box := upd (fun _ => none) 0 (some (Row.lit [L w.sig 3 Sig.d, L w.gap 2 Iv.d, I w.fin, I lim, I c])), nl := 1, hw := fun _ => none, nt := 0, vw := fun _ => none : Heap } else J { sl := [(0, memD), (2, I a), (22, L ls 3 Ln.d), (23, I (↑ls.length : Int)), (24, I (addI .i64 i 1))], h := { box := upd (fun _ => none) 0 (some (Row.lit [L w.sig 3 Sig.d, L w.gap 2 Iv.d, I w.fin, I lim, I c])), nl := 1, hw := fun _ => none, nt := 0, vw := fun _ => none : Heap } : St }
 else bif !decide (a < 0) then Does PP 289 [D.bp 0 0] { box := upd (fun _ => none) 0 (some (Row.lit [L w.sig 3 Sig.d, L w.gap 2 Iv.d, I w.fin, I lim, I c])), nl := 1, hw := fun _ => none, nt := 0, vw := fun _ => none : Heap } (I w.fin) (hM w lim c) ∧ bif bif decide (a < 0) then true else decide (a > w.fin) then K (I 2) { box := upd (fun _ => none) 0 (some (Row.lit [L w.sig 3 Sig.d, L w.gap 2 Iv.d, I w.fin, I lim, I c])), nl := 1, hw := fun _ => none, nt := 0, vw := fun _ => none : Heap } else K (I 0) { box := upd (fun _ => none) 0 (some (Row.lit [L w.sig 3 Sig.d, L w.gap 2 Iv.d, I w.fin, I lim, I c])), nl := 1, hw := fun _ => none, nt := 0, vw := fun _ => none : Heap } else bif bif decide (a < 0) then true else decide (a > w.fin) then K (I 2) { box := upd (fun _ => none) 0 (some (Row.lit [L w.sig 3 Sig.d, L w.gap 2 Iv.d, I w.fin, I lim, I c])), nl := 1, hw := fun _ => none, nt := 0, vw := fun _ => none : Heap } else K (I 0) { box := upd (fun _ => none) 0 (some (Row.lit [L w.sig 3 Sig.d, L w.gap 2 Iv.d, I w.fin, I lim, I c])), nl := 1, hw := fun _ => none, nt := 0, vw := fun _ => none : Heap }) := by kernel_rfl
theorem hM_low (w : Wv) (lim c : Int) (nl nt : Nat) : LowH 1 0 ⟨(hM w lim c).box, nl, fun _ => none, nt, fun _ => none⟩ := by
  refine ⟨fun k row e => ?_, fun t n e => (by cases e), fun _ _ => rfl, fun t n f e => (by cases e)⟩
  rcases k with _ | k
  · cases e
    exact ⟨by omega, ⟨fun i _ => (inferInstance : DD (Sig.d (w.sig.getD i default))).p, fun i _ => (inferInstance : DD (Iv.d (w.gap.getD i default))).p, trivial, trivial, trivial, trivial⟩, rfl⟩
  · cases e
theorem forgetM [Lay] {f : Nat} {args : List D} {v : D} {w : Wv} {lim c c' : Int} {nl nt : Nat} (h : Does PP f args (hM w lim c) v ⟨(hM w lim c').box, nl, fun _ => none, nt, fun _ => none⟩) (h0 : RenOk v) (hv : ren (fbF 1 nl) (fbF 0 nt) v = v) : Does PP f args (hM w lim c) v (hM w lim c') :=
  Does.forget h (hM_low w lim c' nl nt) h0 hv
theorem heapM1 {w : Wv} {lim c : Int} {h : Heap} {nl nt : Nat} (hb : h.box 0 = some (memR w lim c)) (hn : h.nl ≤ nl) (ht : h.nt ≤ nt) : HeapLe h ⟨(hM w lim c).box, nl, fun _ => none, nt, fun _ => none⟩ := by
  refine ⟨fun l row' e => ?_, hn, fun t n e => (by cases e), ht, fun t n e => (by cases e), fun _ _ => rfl⟩
  rcases l with _ | l
  · cases e; exact ⟨_, hb, RowLe.refl _⟩
  · cases e
theorem eOfM [Lay] (w : Wv) (hq : ∀ q ∈ w.sig, q.chg.length ≤ 900 ∧ q.width ≤ 1000000 ∧ Inc (-1) q.chg) (lim c sig frm til : Int) : Does PP 73 [.iface 33 (.bp 0 0), I sig, I frm, I til] (hM w lim c) (.tup [L (ofR w lim c sig frm til).1 3 Sp.d, I (ofR w lim c sig frm til).2.1]) (hM w lim (ofR w lim c sig frm til).2.2) :=
  forgetM (nl := 4) (nt := 1) (e73 hq c) ⟨fun i _ => (inferInstance : DD (Sp.d ((ofR w lim c sig frm til).1.getD i default))).p, trivial, trivial⟩ rfl
/-- The changes from a to b. -/
def inR (l : List Chg) (a b : Int) : List Chg := l.filter fun x => decide (x.time ≥ a) && decide (x.time ≤ b)
def winR (w : Wv) (lim c sig a b : Int) : List Chg × Int := if callR w lim c sig ≠ 0 then ([], callR w lim c sig) else if a < 0 ∨ a > b ∨ b > w.fin then ([], 2) else (inR (sigOf w sig).chg a b, 0)
theorem e293 [Lay] (w : Wv) (hq : ∀ q ∈ w.sig, q.chg.length ≤ 900 ∧ q.width ≤ 1000000 ∧ Inc (-1) q.chg) (lim c sig a b : Int) : Does PP 293 [.bp 0 0, I sig, I a, I b] (hM w lim c) (.tup [L (winR w lim c sig a b).1 2 Chg.d, I (winR w lim c sig a b).2]) (hM w lim (addI .i64 c 1)) := by
  refine forgetM (nl := 1) (nt := 1) ?_ ⟨fun i _ => (inferInstance : DD (Chg.d ((winR w lim c sig a b).1.getD i default))).p, trivial, trivial⟩ rfl
  refine du F293 (by kernel_rfl) (of_eq (nWi w lim c sig a b _) ⟨e294 _ _ _ _, cond_intro (fun h => ?_) fun h => ?_⟩)
  · have h : callR w lim c sig ≠ 0 := by simpa using h
    rw [winR, if_pos h]
    exact RetLe.of (Wk.tup (Wks.cons Wk.nilL (Wks.refl _))) (heapM1 rfl (Nat.le_refl _) (Nat.zero_le _))
  have hc := callR_in h
  have h0 : ¬ callR w lim c sig ≠ 0 := by simpa using h
  rw [winR, if_neg h0]
  have hcc : (bif bif decide (a < 0) then true else decide (a > b) then true else decide (b > w.fin)) = decide (a < 0 ∨ a > b ∨ b > w.fin) := by
    rw [Bool.eq_iff_iff]; simp [or_assoc]
  rw [hcc]
  refine cond_intro (fun h1 => ?_) fun h1 => ⟨⟨hc.2.1, hc.2.2⟩, fun hl => ?_⟩
  · rw [if_pos (of_decide_eq_true h1)]
    exact RetLe.of (Wk.tup (Wks.cons Wk.nilL (Wks.refl _))) (heapM1 rfl (Nat.le_refl _) (Nat.zero_le _))
  rw [if_neg (of_decide_eq_false h1)]
  have hlq : (sigOf w sig).chg.length ≤ 900 := by
    refine (hq _ ?_).1
    have : sig.toNat < w.sig.length := by omega
    unfold sigOf
    rw [List.getD_eq_getElem?_getD, List.getElem?_eq_getElem this]
    exact List.getElem_mem this
  change (sigOf w sig).chg.length ≤ lenM at hl
  refine at_le (st' := SWi w lim (addI .i64 c 1) a b [] (sigOf w sig).chg (0 : Nat)) ?_ ((StLe.tok0 (α := Chg) (enc := Chg.d) _ 11 2 rfl).cast rfl)
  generalize (sigOf w sig).chg = ls at hl hlq ⊢
  refine lp (fn := Tryz.f293) (fun z : Nat × List Chg => z.1 ≤ ls.length ∧ z.2.length ≤ z.1 ∧ inR ls a b = z.2 ++ inR (ls.drop z.1) a b) (fun z => SWi w lim (addI .i64 c 1) a b z.2 ls z.1) (fun z => ls.length - z.1) [2, 3, 11, 44, 45, 46] (by kernel_rfl) (fun z hz => of_eq (nWia w lim (addI .i64 c 1) a b z.2 ls z.1 _ _) ?_) (0, []) ⟨Nat.zero_le _, Nat.le_refl _, rfl⟩
  obtain ⟨i, out⟩ := z
  obtain ⟨hi, ho, he⟩ := hz
  simp only at hi ho he ⊢
  refine cond_intro (fun hlt => ?_) fun hge => ?_
  · have hlt := ltI hlt
    rw [add1 hlt hl, Int.toNat_natCast]
    rw [drop_cons _ _ hlt] at he
    unfold inR at he
    rw [List.filter_cons] at he
    generalize ls.getD i default = x at he ⊢
    refine ⟨⟨by omega, by omega⟩, trivial, cond_intro (fun h2 => ⟨⟨upd_same _ _ _, by unfold roomM; omega⟩, ?_⟩) fun h2 => ?_⟩
    · have h2 : (decide (x.time ≥ a) && decide (x.time ≤ b)) = true := by simpa using h2
      rw [if_pos h2] at he
      refine Nx.of (i + 1, out ++ [x]) ⟨hlt, by simp only [List.length_append, List.length_singleton]; omega, by simp only; unfold inR; rw [he, List.append_assoc]; rfl⟩ (by simp only; omega) ?_
      refine (StLe.set 11 rfl (Wk.snoc (x := x) (enc := Chg.d) (t := 0)) rfl rfl).cast ?_
      unfold SWi hT
      rw [List.length_append, List.length_singleton, upd_upd]
      rfl
    · have h2 : ¬ (decide (x.time ≥ a) && decide (x.time ≤ b)) = true := by
        intro h3; rw [Bool.and_eq_true] at h3; rw [h3.1, h3.2] at h2; cases h2
      rw [if_neg h2] at he
      exact Nx.mk (i + 1, out) ⟨hlt, by simp only; omega, by simp only; exact he⟩ (by simp only; omega)
  · rw [List.drop_of_length_le (geI hge)] at he
    have he : inR ls a b = out := by rw [he]; simp [inR]
    rw [he]
    exact RetLe.of (Wk.tup (Wks.cons Wk.tokL (Wks.refl _))) (heapM1 rfl (Nat.le_refl _) (Nat.le_refl _))
def chkR (w : Wv) (ls : List Ln) (a stp cols : Int) : Int := if szB stp cols = false ∨ ls.length > 64 then 1 else if ls.all lnB = false then 1 else if a < 0 ∨ a > w.fin then 2 else 0
theorem e32 [Lay] (w : Wv) (lim c : Int) (ls : List Ln) (a stp cols : Int) : Does PP 32 [.iface 33 (.bp 0 0), L ls 3 Ln.d, I a, I stp, I cols] (hM w lim c) (I (chkR w ls a stp cols)) (hM w lim c) := by
  refine du F32 (by kernel_rfl) (of_eq (nCk w lim c ls a stp cols _) ⟨PureW.mk (c78 _ _), fun _ => ?_⟩)
  have hcc : (bif !szB stp cols then true else decide ((ls.length : Int) > 64)) = decide (szB stp cols = false ∨ ls.length > 64) := by
    rw [Bool.eq_iff_iff]; cases szB stp cols <;> simp; omega
  rw [hcc]
  unfold chkR
  refine cond_intro (fun h => ?_) fun h => fun hl => ?_
  · rw [if_pos (of_decide_eq_true h)]; exact RetLe.refl _ _
  rw [if_neg (of_decide_eq_false h)]
  refine lp (fn := Tryz.f32) (fun i : Nat => i ≤ ls.length ∧ ls.all lnB = (ls.drop i).all lnB) (fun i => SCk w lim c ls a i) (fun i => ls.length - i) [0, 2, 22, 23, 24] (by kernel_rfl) (fun i hi => of_eq (nCka w lim c ls a i _ _) (cond_intro (fun hlt => ?_) fun hge => ?_)) 0 ⟨Nat.zero_le _, rfl⟩
  · have hlt := ltI hlt
    obtain ⟨_, he⟩ := hi
    rw [add1 hlt hl, Int.toNat_natCast]
    rw [all_drop hlt] at he
    refine ⟨⟨by omega, by omega⟩, trivial, PureW.mk (c79 _), cond_intro (fun h2 => ?_) fun h2 => ?_⟩
    · have h2 : lnB (ls.getD i default) = false := by simpa using h2
      rw [he, h2, Bool.false_and, if_pos rfl]; exact RetLe.refl _ _
    · have h2 : lnB (ls.getD i default) = true := by simpa using h2
      exact Nx.mk (i + 1) ⟨hlt, by rw [he, h2]; rfl⟩ (by omega)
  · rw [hi.2, List.drop_of_length_le (geI hge), if_neg (by simp)]
    have hca : (bif decide (a < 0) then true else decide (a > w.fin)) = decide (a < 0 ∨ a > w.fin) := by
      rw [Bool.eq_iff_iff]; simp
    rw [hca]
    refine cond_intro (fun _ => ⟨e289 w lim c, ?_⟩) fun _ => ?_
    · refine cond_intro (fun h => ?_) fun h => ?_
      · rw [if_pos (of_decide_eq_true h)]; exact RetLe.refl _ _
      · rw [if_neg (of_decide_eq_false h)]; exact RetLe.refl _ _
    · refine cond_intro (fun h => ?_) fun h => ?_
      · rw [if_pos (of_decide_eq_true h)]; exact RetLe.refl _ _
      · rw [if_neg (of_decide_eq_false h)]; exact RetLe.refl _ _
end Go.Proofs.YtpcbjkjgjoemaaaGreatDoor.S1
/- Small waves: what their signals are; plain laws. -/
namespace Go.Proofs.YtpcbjkjgjoemaaaGreatDoor.S1
open Go Go.Ab Go.Proofs
/-- What a small wave's signals are. -/
structure SmD (w : Wv) : Prop where
  ok : SmOk w
  knd : ∀ q ∈ w.sig, 0 ≤ q.kind ∧ q.kind ≤ 3 ∧ (q.kind = 0 → 1 ≤ q.width ∧ q.width ≤ 64) ∧ (q.kind ≠ 0 → q.width = 0)
  dif : ∀ q ∈ w.sig, q.kind ≠ 3 → Dif (ini q) q.chg
  vl : ∀ q ∈ w.sig, ∀ x ∈ q.chg, vlOk q x.val = true ∧ 0 ≤ x.time ∧ x.time ≤ w.fin
theorem chgBad_no {w : Wv} {q : Sig} {p : Option Chg} {b : Str} {x : Chg} (h : chgBad w q p b x = false) : 0 ≤ x.time ∧ x.time ≤ w.fin ∧ vlOk q x.val = true ∧ (q.kind ≠ 3 → b ≠ x.val) := by
  unfold chgBad at h
  simp only [Bool.cond_eq_ite] at h
  by_cases h1 : x.time < 0
  · simp [h1] at h
  by_cases h2 : x.time > w.fin
  · simp [h1, h2] at h
  refine ⟨by omega, by omega, ?_, fun hk hb => ?_⟩
  · cases hv : vlOk q x.val with
    | true => rfl
    | false =>
      rw [hv] at h
      simp only [h1, h2, decide_false, Bool.false_eq_true, if_false, Bool.not_false, if_true, ite_self] at h
      cases h
  · subst hb
    have e1 : (q.kind != 3) = true := by simpa using hk
    have e2 : (x.val == x.val) = true := by simp
    rw [e1, e2] at h
    simp only [if_true, ite_self] at h
    cases h
theorem chgOk_all {w : Wv} {q : Sig} : ∀ {l : List Chg} {p : Option Chg} {b : Str}, chgOk w q p b l = true → (q.kind ≠ 3 → Dif b l) ∧ ∀ x ∈ l, vlOk q x.val = true ∧ 0 ≤ x.time ∧ x.time ≤ w.fin
  | [], _, _, _ => ⟨fun _ => trivial, fun _ h => by cases h⟩
  | x :: r, p, b, h => by
    simp only [chgOk, Bool.and_eq_true, Bool.not_eq_true'] at h
    obtain ⟨i1, i2⟩ := chgOk_all h.2
    obtain ⟨a1, a2, a3, a4⟩ := chgBad_no h.1
    refine ⟨fun hk => ⟨a4 hk, i1 hk⟩, fun y hy => ?_⟩
    rcases List.mem_cons.1 hy with rfl | hy
    · exact ⟨a3, a1, a2⟩
    · exact i2 y hy
theorem sigBad_more {q : Sig} (h : sigBad q = false) : 0 ≤ q.kind ∧ q.kind ≤ 3 ∧ (q.kind = 0 → 1 ≤ q.width ∧ q.width ≤ 64) ∧ (q.kind ≠ 0 → q.width = 0) := by
  obtain ⟨_, _, h3, h4⟩ := sigBad_width h
  unfold sigBad at h
  simp only [Bool.cond_eq_ite] at h
  refine ⟨h3, h4, fun hk => ?_, fun hk => ?_⟩
  · by_cases h5 : q.width < 1
    · simp [hk, h5] at h
    · by_cases h6 : q.width > 64
      · simp [hk, h5, h6] at h
      · omega
  · by_cases h5 : q.width = 0
    · exact h5
    · simp [hk, h5] at h
theorem smB_D {w : Wv} (h : smB w = true) : SmD w := by
  refine ⟨smB_ok h, fun q hq => ?_, fun q hq => ?_, fun q hq => ?_⟩ <;>
  · unfold smB at h
    simp only [Bool.and_eq_true] at h
    have := List.all_eq_true.1 h.2.1 q hq
    unfold sigOk at this
    simp only [Bool.and_eq_true, Bool.not_eq_true'] at this
    first
      | exact sigBad_more this.1
      | exact (chgOk_all this.2).1
      | exact (chgOk_all this.2).2
theorem ini_len {q : Sig} (h : q.width ≤ 64) : (ini q).length ≤ 64 := by
  unfold ini
  split
  · simp
  · split
    · rw [List.length_replicate]; omega
    · simp
theorem vlOk_len {q : Sig} {v : Str} (h : vlOk q v = true) (hw : q.width ≤ 64) : v.length ≤ 64 := by
  unfold vlOk at h
  cases h3 : (q.kind == 3) with
  | true => rw [h3] at h; simp at h; rw [h]; simp
  | false =>
    rw [h3] at h
    cases h0 : (q.kind == 0) with
    | true => rw [h0] at h; simp at h; omega
    | false => rw [h0] at h; simp at h; omega
theorem valAt_mem : ∀ (l : List Chg) (v : Str) (t : Int), valAt v l t = v ∨ ∃ x ∈ l, valAt v l t = x.val ∧ x.time ≤ t
  | [], _, _ => .inl rfl
  | x :: r, v, t => by
    rw [valAt_cons]
    by_cases h : x.time ≤ t
    · rw [decide_eq_true h, cond_true]
      rcases valAt_mem r x.val t with e | ⟨y, hy, e⟩
      · exact .inr ⟨x, List.mem_cons_self .., e, h⟩
      · exact .inr ⟨y, List.mem_cons_of_mem _ hy, e⟩
    · rw [decide_eq_false h, cond_false]
      rcases valAt_mem r v t with e | ⟨y, hy, e⟩
      · exact .inl e
      · exact .inr ⟨y, List.mem_cons_of_mem _ hy, e⟩
theorem sigMem {w : Wv} {sig : Int} (hs : 0 ≤ sig ∧ sig < (w.sig.length : Int)) : sigOf w sig ∈ w.sig := by
  have : sig.toNat < w.sig.length := by omega
  unfold sigOf
  rw [List.getD_eq_getElem?_getD, List.getElem?_eq_getElem this]
  exact List.getElem_mem this
theorem SmD.inc {w : Wv} (h : SmD w) {q : Sig} (hq : q ∈ w.sig) : Inc (-1) q.chg := (h.ok.sig q hq).2.2
theorem SmD.vlen {w : Wv} (h : SmD w) {q : Sig} (hq : q ∈ w.sig) : ∀ x ∈ q.chg, x.val.length ≤ 64 := fun x hx => vlOk_len (h.vl q hq x hx).1 (h.ok.sig q hq).2.1
theorem SmD.atLen {w : Wv} (h : SmD w) {q : Sig} (hq : q ∈ w.sig) (t : Int) : (sigAt q t).length ≤ 64 := by
  have hi := ini_len (h.ok.sig q hq).2.1
  unfold sigAt
  split
  · exact hi
  · rcases valAt_mem q.chg (ini q) t with e | ⟨x, hx, e, _⟩
    · rw [e]; exact hi
    · rw [e]; exact h.vlen hq x hx
theorem cut_sub {l : List Chg} {a b : Int} {x : Chg} (h : x ∈ cut l a b) : x ∈ l := (List.mem_filter.1 h).1
theorem SmD.curLen {w : Wv} (h : SmD w) {q : Sig} (hq : q ∈ w.sig) (a b : Int) (i : Nat) (hi : i ≤ (cut q.chg a b).length) : (curV (sigAt q a) (cut q.chg a b) i).length ≤ 64 := by
  cases i with
  | zero => exact h.atLen hq a
  | succ i =>
    refine h.vlen hq _ (cut_sub (a := a) (b := b) ?_)
    rw [List.getD_eq_getElem?_getD, List.getElem?_eq_getElem (by omega)]
    exact List.getElem_mem (by omega)
theorem difCut {w : Wv} (h : SmD w) {q : Sig} (hq : q ∈ w.sig) (hk : q.kind ≠ 3) {a til : Int} (h1 : a ≤ til) : Dif (sigAt q a) (cut q.chg a til) := by
  obtain ⟨x, y, e, hx, _, _, hy⟩ := (h.inc hq).cut3 h1
  have hd := h.dif q hq hk
  rw [e] at hd
  have hd2 := (hd.app hx).left
  have hv : valAt (ini q) x a = sigAt q a := by
    unfold sigAt
    rw [if_neg hk]
    conv => rhs; rw [e]
    unfold valAt
    rw [List.foldl_append]
    have hin := (h.inc hq)
    rw [e] at hin
    generalize List.foldl (fun v x => bif decide (x.time ≤ a) then x.val else v) (ini q) x = v0
    have hgt : ∀ z ∈ cut q.chg a til ++ y, a < z.time := fun z hz => by
      rcases List.mem_append.1 hz with hz | hz
      · have := (List.mem_filter.1 hz).2; simp at this; omega
      · have := hy z hz; omega
    exact (valAt_gt _ v0 a hgt).symm
  rw [← hv]; exact hd2
theorem hexG_len : ∀ (m : Nat) (q : Str), (hexG m q).length = m + 1
  | 0, _ => rfl
  | m + 1, q => by rw [hexG, List.length_cons, hexG_len m]
theorem hexT_len (q : Str) : (hexT q).length ≤ q.length := by
  unfold hexT
  split
  · simp
  · rename_i h
    have := List.length_pos_iff.2 h
    rw [hexG_len]; omega
theorem numR_len (q : Str) (base : Int) (hd : ∀ q : Str, q.all bit01 = true → (decR q).length ≤ q.length + 1) : (numR q base).length ≤ 200 := by
  unfold numR
  split
  · simp
  · rename_i h
    have hl : q.length ≤ 128 := by
      rcases Nat.lt_or_ge 128 q.length with h1 | h1
      · exact absurd (.inr (.inl h1)) h
      · exact h1
    split
    · omega
    · split
      · have := hexT_len q; omega
      · split
        · split
          · simp
          · split
            · rename_i h2; have := hd q h2; omega
            · simp
        · simp
/-- Of a small wave, from any number of calls. -/
theorem ofR_c {w : Wv} (hw : SmD w) {sig frm til : Int} (a : Ask w sig frm til) {c : Int} (hc : 0 ≤ c ∧ c ≤ 900000) : ofR w (-1) c sig frm til = (spS frm (sigAt (sigOf w sig) frm) til (cut (sigOf w sig).chg frm til), 0, c + ofN w sig frm til) := by
  have hs := a.hsig
  obtain ⟨q1, _, q3⟩ := hw.ok.at hs
  have hm := sigMem hs
  have hsp : codeL (sigAt (sigOf w sig) frm) (cut (sigOf w sig).chg frm til) frm til = spS frm (sigAt (sigOf w sig) frm) til (cut (sigOf w sig).chg frm til) := codeL_sp (difCut hw hm a.hkind a.hle) fun x hx => by
    have h1 := (hw.vl _ hm x (cut_sub hx)).2
    have := hw.ok.fin
    omega
  have e1 : addI .i64 c 1 = c + 1 := add64 (by omega) (by omega)
  have e2 : addI .i64 (c + 1) 1 = c + 2 := by rw [add64 (by omega) (by omega)]; omega
  unfold ofR
  have := a.hfrm
  have := a.hle
  have := a.hto
  rw [if_neg (by omega), callR_ok hs, e1, callR_ok hs, e2, over_eq (by omega) (by omega), over_eq (by omega) (by omega), if_neg a.hkind]
  obtain ⟨_, _, _, e3⟩ := q3.aft frm
  have hl := aft_len (sigOf w sig).chg frm
  have ih := itR_plain til (-1) (aft (sigOf w sig).chg frm) frm (c + 2) [⟨frm, 0, sigAt (sigOf w sig) frm⟩] e3 (by omega) (by omega)
  rw [cut_aft] at ih
  unfold ofN
  rw [decide_eq_false (by omega), decide_eq_false (by omega)]
  simp only [cond_false, ne_eq, not_true_eq_false, if_false]
  rw [ih.1 (by omega)]
  simp only [not_true_eq_false, if_false]
  rw [← hsp]
  unfold codeL
  congr 2
  omega
end Go.Proofs.YtpcbjkjgjoemaaaGreatDoor.S1
/- Lines: the code's Line, in parts. -/
namespace Go.Proofs.YtpcbjkjgjoemaaaGreatDoor.S1
open Go Go.Ab Go.Proofs
theorem clastZ [Lay] (frm stp cols fin : Int) (h : 0 ≤ frm ∧ frm ≤ fin ∧ fin ≤ 1099511627776 ∧ szB stp cols = true) : Pure PP 71 [.agg [I frm, I stp, I cols, I fin]] (I (lastC frm stp cols fin)) := by
  have hs : 1 ≤ stp ∧ stp ≤ 1099511627776 ∧ 1 ≤ cols ∧ cols ≤ 200 := by have := h.2.2.2; unfold szB at this; exact of_decide_eq_true this
  exact c71 frm stp cols fin ⟨h.1, by omega⟩ ⟨by omega, hs.2.1⟩ ⟨by omega, hs.2.2.2⟩
/-- The value and the changes behind spans. -/
def spV (es : List Sp) : Str := (es.getD 0 default).val
def spC (es : List Sp) : List Chg := es.tail.map fun q => ⟨q.frm, q.val⟩
theorem spV_sp : ∀ (f : Int) (v : Str) (z : Int) (c : List Chg), spV (spS f v z c) = v
  | _, _, _, [] => rfl
  | _, _, _, _ :: _ => rfl
theorem sp_map : ∀ (f : Int) (v : Str) (z : Int) (c : List Chg), (spS f v z c).map (fun q => (⟨q.frm, q.val⟩ : Chg)) = ⟨f, v⟩ :: c
  | _, _, _, [] => rfl
  | f, v, z, x :: r => by rw [spS, List.map_cons, sp_map x.time x.val z r]
theorem spC_sp (f : Int) (v : Str) (z : Int) (c : List Chg) : spC (spS f v z c) = c := by
  have h := congrArg List.tail (sp_map f v z c)
  rw [← List.map_tail] at h
  exact h
/-- What a line's columns want. -/
structure ColOk (frm stp cols fin : Int) (v : Str) (c : List Chg) : Prop where
  h1 : 0 ≤ frm ∧ frm ≤ fin
  h2 : 1 ≤ stp ∧ stp ≤ 1099511627776
  h3 : 1 ≤ cols ∧ cols ≤ 200
  h4 : fin ≤ 1099511627776
  hlen : c.length ≤ 900
  hi : Inc frm c
  hlf : ∀ x ∈ c, x.time ≤ lastC frm stp cols fin
theorem cbitX [Lay] (frm stp cols fin : Int) (es : List Sp) (h : ∃ v c, es = spS frm v (lastC frm stp cols fin) c ∧ ColOk frm stp cols fin v c) : Pure PP 74 [.agg [I frm, I stp, I cols, I fin], L es 3 Sp.d] (.str (bitS (spV es) (spC es) stp fin cols.toNat frm)) := by
  obtain ⟨v, c, rfl, o⟩ := h
  rw [spV_sp, spC_sp]
  exact c74 frm stp cols fin o.h1 o.h2 o.h3 o.h4 v c o.hlen o.hi o.hlf
theorem cbusX [Lay] (frm stp cols fin : Int) (es : List Sp) (k : Int) (n : Ln) (h : ∃ v c, es = spS frm v (lastC frm stp cols fin) c ∧ ColOk frm stp cols fin v c ∧ ∀ i, i ≤ c.length → (curV v c i).length ≤ 1000000 ∧ (txF k n.base (curV v c i)).length ≤ 1000000) :
    Pure PP 75 [.agg [I frm, I stp, I cols, I fin], L es 3 Sp.d, .clo 76 [.ep [I k], .ep [I n.sig, .str n.lab, I n.base]]] (.str (busS (txF k n.base) (spV es) (spC es) stp fin cols.toNat frm 0 0)) := by
  obtain ⟨v, c, rfl, o, hcv⟩ := h
  rw [spV_sp, spC_sp]
  exact c75 frm stp cols fin o.h1 o.h2 o.h3 o.h4 v c o.hlen o.hi o.hlf k n hcv
theorem Does.args [Lay] {f : Nat} {args args' : List D} {h h' : Heap} {v : D} (c : Does PP f args' h v h') (hw : Wks args args') : Does PP f args h v h' := fun K hk => ⟨(c K hk).ok, fun g U w vs i hs => (c K hk).calls g U w vs i (hw g vs hs)⟩
theorem echk1 [Lay] (w : Wv) (lim c : Int) (sg : Int) (lb : Str) (bs : Int) (a stp cols : Int) : Does PP 32 [.iface 33 (.bp 0 0), .list 1 3 (litG [.agg [I sg, .str lb, I bs]]) .full, I a, I stp, I cols] (hM w lim c) (I (chkR w [⟨sg, lb, bs⟩] a stp cols)) (hM w lim c) :=
  Does.args (e32 w lim c [⟨sg, lb, bs⟩] a stp cols) (Wks.cons (Wk.refl _) (Wks.cons (Wk.litL rfl rfl) (Wks.refl _)))
theorem F31 : OkF 31 Tryz.f31 := ⟨by kernel_rfl, by kernel_rfl, by kernel_rfl⟩
noncomputable def lvL1 : List (List Nat × List Nat) := [([1, 1, 1], [0, 2, 3, 4, 6, 13, 14, 15])]
noncomputable def lvL2 : List (List Nat × List Nat) := [([1, 1, 1, 1, 1, 1, 0, 1, 0, 1, 1], [4, 16, 18]), ([1, 1, 1, 1, 1, 1, 0, 1, 1, 1, 1], [4, 6, 13, 14, 16, 19])]
noncomputable def lvL3 : List (List Nat × List Nat) := [([1, 1, 1, 1, 1, 1, 0, 1, 1, 1, 1, 1, 1], [4, 6, 13, 16, 19])]
noncomputable def nDL1s (w : Wv) (lim : Int) (c : Int) (l : Ln) (a : Int) (stp : Int) (cols : Int) : List Nat → Nat → Option Ans := scrAt [([1, 0, 0], 6, Ans.eff (I (chkR w [l] a stp cols)) (hM w lim c)), ([1, 1, 0], 3, Ans.eff (.tup [I (kindR w lim c l.sig).fst, I (kindR w lim c l.sig).snd.fst, I (kindR w lim c l.sig).snd.snd]) (hM w lim (addI .i64 c 1)))]
theorem nDL1 [Lay] (w : Wv) (lim c : Int) (l : Ln) (a stp cols : Int) (K : D → Heap → Prop) : runS (En Tryz.f31) (fh Tryz.f31 K) (nDL1s w lim c l a stp cols) lvL1 200 [.code []] ⟨argSlots 0 [memD, l.d, I a, I stp, I cols], hM w lim c⟩ =
  (Does PP 32 [D.iface 33 (D.bp 0 0), .list 1 3 (litG [.agg [I l.sig, .str l.lab, I l.base]]) .full, I a, I stp, I cols] { box := upd (fun _ => none) 0 (some (Row.lit [L w.sig 3 Sig.d, L w.gap 2 Iv.d, I w.fin, I lim, I c])), nl := 1, hw := fun _ => none, nt := 0, vw := fun _ => none : Heap } (I (chkR w [l] a stp cols)) (hM w lim c) ∧ bif chkR w [l] a stp cols != 0 then K (.tup [.str { data := #[] : ByteArray }.data.toList, I (chkR w [l] a stp cols)]) { box := upd (fun _ => none) 0 (some (Row.lit [L w.sig 3 Sig.d, L w.gap 2 Iv.d, I w.fin, I lim, I c])), nl := 1, hw := fun _ => none, nt := 0, vw := fun _ => none : Heap } else Does PP 290 [D.bp 0 0, I l.sig] { box := upd (fun _ => none) 0 (some (Row.lit [L w.sig 3 Sig.d, L w.gap 2 Iv.d, I w.fin, I lim, I c])), nl := 1, hw := fun _ => none, nt := 0, vw := fun _ => none : Heap } (.tup [I (kindR w lim c l.sig).fst, I (kindR w lim c l.sig).snd.fst, I (kindR w lim c l.sig).snd.snd]) (hM w lim (addI .i64 c 1)) ∧ True ∧ At (En Tryz.f31) (fh Tryz.f31 K) [It.code [1, 1, 1]] { sl := [(0, memD), (2, I a), (3, I stp), (4, I cols), (6, .own [I l.sig, .str l.lab, I l.base]), (13, .own [I (kindR w lim c l.sig).fst]), (14, I (kindR w lim c l.sig).snd.fst), (15, I (kindR w lim c l.sig).snd.snd)], h := { box := upd (fun _ => none) 0 (some (Row.lit [L w.sig 3 Sig.d, L w.gap 2 Iv.d, I w.fin, I lim, I (addI .i64 c 1)])), nl := 1, hw := fun _ => none, nt := 0, vw := fun _ => none : Heap } : St }) := by kernel_rfl
noncomputable def nDL2s (w : Wv) (lim : Int) (c : Int) (l : Ln) (a : Int) (stp : Int) (cols : Int) : List Nat → Nat → Option Ans := scrAt [([1, 1, 1, 1, 0], 4, Ans.eff (I w.fin) (hM w lim c)), ([1, 1, 1, 1, 1, 1, 0, 1, 0, 1, 0, 0], 5, Ans.pure [.agg [I a, I stp, I cols, I w.fin]] (I (lastC a stp cols w.fin))), ([1, 1, 1, 1, 1, 1, 0, 1, 0, 1, 0, 0], 9, Ans.eff (.tup [L (winR w lim c l.sig a (lastC a stp cols w.fin)).fst 2 Chg.d, I (winR w lim c l.sig a (lastC a stp cols w.fin)).snd]) (hM w lim (addI .i64 c 1))), ([1, 1, 1, 1, 1, 1, 0, 1, 1, 1, 0, 0], 5, Ans.pure [.agg [I a, I stp, I cols, I w.fin]] (I (lastC a stp cols w.fin))), ([1, 1, 1, 1, 1, 1, 0, 1, 1, 1, 0, 0], 6, Ans.eff (.tup [L (ofR w lim c l.sig a (lastC a stp cols w.fin)).fst 3 Sp.d, I (ofR w lim c l.sig a (lastC a stp cols w.fin)).snd.fst]) (hM w lim (ofR w lim c l.sig a (lastC a stp cols w.fin)).snd.snd))]
theorem nDL2 [Lay] (w : Wv) (lim c : Int) (l : Ln) (a stp cols k wd e : Int) (K : D → Heap → Prop) : runS (En Tryz.f31) (fh Tryz.f31 K) (nDL2s w lim c l a stp cols) lvL2 200 [.code [1, 1, 1]] ⟨[(0, memD), (2, I a), (3, I stp), (4, I cols), (6, .own [I l.sig, .str l.lab, I l.base]), (13, .own [I k]), (14, I wd), (15, I e)], hM w lim c⟩ =
  (bif e != 0 then K (.tup [.str { data := #[] : ByteArray }.data.toList, I e]) { box := upd (fun _ => none) 0 (some (Row.lit [L w.sig 3 Sig.d, L w.gap 2 Iv.d, I w.fin, I lim, I c])), nl := 1, hw := fun _ => none, nt := 0, vw := fun _ => none : Heap }
 else
  Does PP 289 [D.bp 0 0] { box := upd (fun _ => none) 0 (some (Row.lit [L w.sig 3 Sig.d, L w.gap 2 Iv.d, I w.fin, I lim, I c])), nl := 1, hw := fun _ => none, nt := 0, vw := fun _ => none : Heap } (I w.fin) (hM w lim c) ∧
    True ∧
      bif k == 3 then PureW PP 71 [.agg [I a, I stp, I cols, I w.fin]] [.agg [I a, I stp, I cols, I w.fin]] (I (lastC a stp cols w.fin)) ∧ Does PP 293 [D.bp 0 0, I l.sig, I a, I (lastC a stp cols w.fin)] { box := upd (fun _ => none) 0 (some (Row.lit [L w.sig 3 Sig.d, L w.gap 2 Iv.d, I w.fin, I lim, I c])), nl := 1, hw := fun _ => none, nt := 0, vw := fun _ => none : Heap } (.tup [L (winR w lim c l.sig a (lastC a stp cols w.fin)).fst 2 Chg.d, I (winR w lim c l.sig a (lastC a stp cols w.fin)).snd]) (hM w lim (addI .i64 c 1)) ∧ bif (winR w lim c l.sig a (lastC a stp cols w.fin)).snd != 0 then K (.tup [.str { data := #[] : ByteArray }.data.toList, I (winR w lim c l.sig a (lastC a stp cols w.fin)).snd]) { box := upd (fun _ => none) 0 (some (Row.lit [L w.sig 3 Sig.d, L w.gap 2 Iv.d, I w.fin, I lim, I (addI .i64 c 1)])), nl := 1, hw := fun _ => none, nt := 0, vw := fun _ => none : Heap } else At (En Tryz.f31) (fh Tryz.f31 K) [It.code [1, 1, 1, 1, 1, 1, 0, 1, 0, 1, 1], It.code [1, 1, 1, 1, 1, 1, 1]] { sl := [(4, I cols), (16, .own [I a, I stp, I cols, I w.fin]), (18, L (winR w lim c l.sig a (lastC a stp cols w.fin)).fst 2 Chg.d)], h := { box := upd (fun _ => none) 0 (some (Row.lit [L w.sig 3 Sig.d, L w.gap 2 Iv.d, I w.fin, I lim, I (addI .i64 c 1)])), nl := 1, hw := fun _ => none, nt := 0, vw := fun _ => none : Heap } : St }
      else PureW PP 71 [.agg [I a, I stp, I cols, I w.fin]] [.agg [I a, I stp, I cols, I w.fin]] (I (lastC a stp cols w.fin)) ∧ Does PP 73 [D.iface 33 (D.bp 0 0), I l.sig, I a, I (lastC a stp cols w.fin)] { box := upd (fun _ => none) 0 (some (Row.lit [L w.sig 3 Sig.d, L w.gap 2 Iv.d, I w.fin, I lim, I c])), nl := 1, hw := fun _ => none, nt := 0, vw := fun _ => none : Heap } (.tup [L (ofR w lim c l.sig a (lastC a stp cols w.fin)).fst 3 Sp.d, I (ofR w lim c l.sig a (lastC a stp cols w.fin)).snd.fst]) (hM w lim (ofR w lim c l.sig a (lastC a stp cols w.fin)).snd.snd) ∧ bif (ofR w lim c l.sig a (lastC a stp cols w.fin)).snd.fst != 0 then K (.tup [.str { data := #[] : ByteArray }.data.toList, I (ofR w lim c l.sig a (lastC a stp cols w.fin)).snd.fst]) { box := upd (fun _ => none) 0 (some (Row.lit [L w.sig 3 Sig.d, L w.gap 2 Iv.d, I w.fin, I lim, I (ofR w lim c l.sig a (lastC a stp cols w.fin)).snd.snd])), nl := 1, hw := fun _ => none, nt := 0, vw := fun _ => none : Heap } else At (En Tryz.f31) (fh Tryz.f31 K) [It.code [1, 1, 1, 1, 1, 1, 0, 1, 1, 1, 1], It.code [1, 1, 1, 1, 1, 1, 1]] { sl := [(4, I cols), (6, .own [I l.sig, .str l.lab, I l.base]), (13, .own [I k]), (14, I wd), (16, .own [I a, I stp, I cols, I w.fin]), (19, L (ofR w lim c l.sig a (lastC a stp cols w.fin)).fst 3 Sp.d)], h := { box := upd (fun _ => none) 0 (some (Row.lit [L w.sig 3 Sig.d, L w.gap 2 Iv.d, I w.fin, I lim, I (ofR w lim c l.sig a (lastC a stp cols w.fin)).snd.snd])), nl := 1, hw := fun _ => none, nt := 0, vw := fun _ => none : Heap } : St }) := by kernel_rfl
noncomputable def nDL3s (a : Int) (stp : Int) (cols : Int) (fin : Int) (ls : List Chg) : List Nat → Nat → Option Ans := scrAt [([1, 1, 1, 1, 1, 1, 0, 1, 0, 1, 1], 2, Ans.pure [.agg [I a, I stp, I cols, I fin], L ls 2 Chg.d] (.str (evS ls stp fin cols.toNat a))), ([1, 1, 1, 1, 1, 1, 1, 0], 5, Ans.pure [.str { data := #[32] : ByteArray }.data.toList, I (subI .i64 cols (↑(List.length (evS ls stp fin cols.toNat a)) : Int))] (.str (Lib.repeatL { data := #[32] : ByteArray }.data.toList (subI .i64 cols (↑(List.length (evS ls stp fin cols.toNat a)) : Int)).toNat)))]
theorem nDL3 [Lay] (w : Wv) (lim c : Int) (a stp cols fin : Int) (ls : List Chg) (K : D → Heap → Prop) : runS (En Tryz.f31) (fh Tryz.f31 K) (nDL3s a stp cols fin ls) nolv 200 [.code [1, 1, 1, 1, 1, 1, 0, 1, 0, 1, 1], .code [1, 1, 1, 1, 1, 1, 1]] ⟨[(4, I cols), (16, .own [I a, I stp, I cols, I fin]), (18, L ls 2 Chg.d)], hM w lim c⟩ =
  (PureW PP 72 [.agg [I a, I stp, I cols, I fin], L ls 2 Chg.d] [.agg [I a, I stp, I cols, I fin], L ls 2 Chg.d] (.str (evS ls stp fin cols.toNat a)) ∧ (List.length (evS ls stp fin cols.toNat a) ≤ strM → PureW PP 33 [.str { data := #[32] : ByteArray }.data.toList, I (subI .i64 cols (↑(List.length (evS ls stp fin cols.toNat a)) : Int))] [.str { data := #[32] : ByteArray }.data.toList, I (subI .i64 cols (↑(List.length (evS ls stp fin cols.toNat a)) : Int))] (.str (Lib.repeatL { data := #[32] : ByteArray }.data.toList (subI .i64 cols (↑(List.length (evS ls stp fin cols.toNat a)) : Int)).toNat)) ∧ List.length (evS ls stp fin cols.toNat a) + (Lib.repeatL { data := #[32] : ByteArray }.data.toList (subI .i64 cols (↑(List.length (evS ls stp fin cols.toNat a)) : Int)).toNat).length ≤ strM ∧ K (.tup [.str (evS ls stp fin cols.toNat a ++ Lib.repeatL { data := #[32] : ByteArray }.data.toList (subI .i64 cols (↑(List.length (evS ls stp fin cols.toNat a)) : Int)).toNat), I 0]) { box := upd (fun _ => none) 0 (some (Row.lit [L w.sig 3 Sig.d, L w.gap 2 Iv.d, I w.fin, I lim, I c])), nl := 1, hw := fun _ => none, nt := 0, vw := fun _ => none : Heap })) := by kernel_rfl
noncomputable def nDL4s (a : Int) (stp : Int) (cols : Int) (fin : Int) (es : List Sp) : List Nat → Nat → Option Ans := scrAt [([1, 1, 1, 1, 1, 1, 0, 1, 1, 1, 1, 1, 0], 2, Ans.pure [.agg [I a, I stp, I cols, I fin], L es 3 Sp.d] (.str (bitS (spV es) (spC es) stp fin cols.toNat a))), ([1, 1, 1, 1, 1, 1, 1, 0], 5, Ans.pure [.str { data := #[32] : ByteArray }.data.toList, I (subI .i64 cols (↑(List.length (bitS (spV es) (spC es) stp fin cols.toNat a)) : Int))] (.str (Lib.repeatL { data := #[32] : ByteArray }.data.toList (subI .i64 cols (↑(List.length (bitS (spV es) (spC es) stp fin cols.toNat a)) : Int)).toNat)))]
theorem nDL4 [Lay] (w : Wv) (lim c : Int) (l : Ln) (a stp cols fin k wd : Int) (es : List Sp) (K : D → Heap → Prop) : runS (En Tryz.f31) (fh Tryz.f31 K) (nDL4s a stp cols fin es) lvL3 200 [.code [1, 1, 1, 1, 1, 1, 0, 1, 1, 1, 1], .code [1, 1, 1, 1, 1, 1, 1]] ⟨[(4, I cols), (6, .own [I l.sig, .str l.lab, I l.base]), (13, .own [I k]), (14, I wd), (16, .own [I a, I stp, I cols, I fin]), (19, L es 3 Sp.d)], hM w lim c⟩ =
  (bif bif k == 0 then wd == 1 else false then PureW PP 74 [.agg [I a, I stp, I cols, I fin], L es 3 Sp.d] [.agg [I a, I stp, I cols, I fin], L es 3 Sp.d] (.str (bitS (spV es) (spC es) stp fin cols.toNat a)) ∧ (List.length (bitS (spV es) (spC es) stp fin cols.toNat a) ≤ strM → PureW PP 33 [.str { data := #[32] : ByteArray }.data.toList, I (subI .i64 cols (↑(List.length (bitS (spV es) (spC es) stp fin cols.toNat a)) : Int))] [.str { data := #[32] : ByteArray }.data.toList, I (subI .i64 cols (↑(List.length (bitS (spV es) (spC es) stp fin cols.toNat a)) : Int))] (.str (Lib.repeatL { data := #[32] : ByteArray }.data.toList (subI .i64 cols (↑(List.length (bitS (spV es) (spC es) stp fin cols.toNat a)) : Int)).toNat)) ∧ List.length (bitS (spV es) (spC es) stp fin cols.toNat a) + (Lib.repeatL { data := #[32] : ByteArray }.data.toList (subI .i64 cols (↑(List.length (bitS (spV es) (spC es) stp fin cols.toNat a)) : Int)).toNat).length ≤ strM ∧ K (.tup [.str (bitS (spV es) (spC es) stp fin cols.toNat a ++ Lib.repeatL { data := #[32] : ByteArray }.data.toList (subI .i64 cols (↑(List.length (bitS (spV es) (spC es) stp fin cols.toNat a)) : Int)).toNat), I 0]) { box := upd (fun _ => none) 0 (some (Row.lit [L w.sig 3 Sig.d, L w.gap 2 Iv.d, I w.fin, I lim, I c])), nl := 1, hw := fun _ => none, nt := 0, vw := fun _ => none : Heap })
 else At (En Tryz.f31) (fh Tryz.f31 K) [It.code [1, 1, 1, 1, 1, 1, 0, 1, 1, 1, 1, 1, 1], It.code [1, 1, 1, 1, 1, 1, 1]] { sl := [(4, I cols), (6, .own [I l.sig, .str l.lab, I l.base]), (13, .own [I k]), (16, .own [I a, I stp, I cols, I fin]), (19, L es 3 Sp.d)], h := { box := upd (fun _ => none) 0 (some (Row.lit [L w.sig 3 Sig.d, L w.gap 2 Iv.d, I w.fin, I lim, I c])), nl := 1, hw := fun _ => none, nt := 0, vw := fun _ => none : Heap } : St }) := by kernel_rfl
noncomputable def nDL5s (l : Ln) (a : Int) (stp : Int) (cols : Int) (fin : Int) (k : Int) (es : List Sp) : List Nat → Nat → Option Ans := scrAt [([1, 1, 1, 1, 1, 1, 0, 1, 1, 1, 1, 1, 1], 3, Ans.pure [.agg [I a, I stp, I cols, I fin], L es 3 Sp.d, D.clo 76 [D.ep [I k], D.ep [I l.sig, .str l.lab, I l.base]]] (.str (busS (txF k l.base) (spV es) (spC es) stp fin cols.toNat a 0 0))), ([1, 1, 1, 1, 1, 1, 1, 0], 5, Ans.pure [.str { data := #[32] : ByteArray }.data.toList, I (subI .i64 cols (↑(List.length (busS (txF k l.base) (spV es) (spC es) stp fin cols.toNat a 0 0)) : Int))] (.str (Lib.repeatL { data := #[32] : ByteArray }.data.toList (subI .i64 cols (↑(List.length (busS (txF k l.base) (spV es) (spC es) stp fin cols.toNat a 0 0)) : Int)).toNat)))]
theorem nDL5 [Lay] (w : Wv) (lim c : Int) (l : Ln) (a stp cols fin k : Int) (es : List Sp) (K : D → Heap → Prop) : runS (En Tryz.f31) (fh Tryz.f31 K) (nDL5s l a stp cols fin k es) nolv 200 [.code [1, 1, 1, 1, 1, 1, 0, 1, 1, 1, 1, 1, 1], .code [1, 1, 1, 1, 1, 1, 1]] ⟨[(4, I cols), (6, .ep [I l.sig, .str l.lab, I l.base]), (13, .ep [I k]), (16, .own [I a, I stp, I cols, I fin]), (19, L es 3 Sp.d)], hM w lim c⟩ =
  (PureW PP 75 [.agg [I a, I stp, I cols, I fin], L es 3 Sp.d, D.clo 76 [D.ep [I k], D.ep [I l.sig, .str l.lab, I l.base]]] [.agg [I a, I stp, I cols, I fin], L es 3 Sp.d, D.clo 76 [D.ep [I k], D.ep [I l.sig, .str l.lab, I l.base]]] (.str (busS (txF k l.base) (spV es) (spC es) stp fin cols.toNat a 0 0)) ∧ (List.length (busS (txF k l.base) (spV es) (spC es) stp fin cols.toNat a 0 0) ≤ strM → PureW PP 33 [.str { data := #[32] : ByteArray }.data.toList, I (subI .i64 cols (↑(List.length (busS (txF k l.base) (spV es) (spC es) stp fin cols.toNat a 0 0)) : Int))] [.str { data := #[32] : ByteArray }.data.toList, I (subI .i64 cols (↑(List.length (busS (txF k l.base) (spV es) (spC es) stp fin cols.toNat a 0 0)) : Int))] (.str (Lib.repeatL { data := #[32] : ByteArray }.data.toList (subI .i64 cols (↑(List.length (busS (txF k l.base) (spV es) (spC es) stp fin cols.toNat a 0 0)) : Int)).toNat)) ∧ List.length (busS (txF k l.base) (spV es) (spC es) stp fin cols.toNat a 0 0) + (Lib.repeatL { data := #[32] : ByteArray }.data.toList (subI .i64 cols (↑(List.length (busS (txF k l.base) (spV es) (spC es) stp fin cols.toNat a 0 0)) : Int)).toNat).length ≤ strM ∧ K (.tup [.str (busS (txF k l.base) (spV es) (spC es) stp fin cols.toNat a 0 0 ++ Lib.repeatL { data := #[32] : ByteArray }.data.toList (subI .i64 cols (↑(List.length (busS (txF k l.base) (spV es) (spC es) stp fin cols.toNat a 0 0)) : Int)).toNat), I 0]) { box := upd (fun _ => none) 0 (some (Row.lit [L w.sig 3 Sig.d, L w.gap 2 Iv.d, I w.fin, I lim, I c])), nl := 1, hw := fun _ => none, nt := 0, vw := fun _ => none : Heap })) := by kernel_rfl
end Go.Proofs.YtpcbjkjgjoemaaaGreatDoor.S1
/- Lines: the code's Line. -/
namespace Go.Proofs.YtpcbjkjgjoemaaaGreatDoor.S1
open Go Go.Ab Go.Proofs
theorem busS_len (tx : Str → Str) (v : Str) (c : List Chg) (stp fin : Int) : ∀ (K : Nat) (a : Int) (i q : Nat), (busS tx v c stp fin K a i q).length = q + nCol stp fin K a
  | 0, _, _, _ => by rw [busS, flS_len, nCol, Nat.add_zero]
  | K + 1, a, i, q => by
    rw [busS, nCol]
    by_cases h : a > fin
    · rw [if_pos h, if_pos h, flS_len, Nat.add_zero]
    · rw [if_neg h, if_neg h]
      split
      · rw [busS_len tx v c stp fin K]; omega
      · rw [List.length_append, flS_len, List.length_cons, busS_len tx v c stp fin K]; omega
/-- The columns that are not empty. -/
def lineC (q : Sig) (a stp cols fin base : Int) : Str :=
  if q.kind = 3 then evS (inR q.chg a (lastC a stp cols fin)) stp fin cols.toNat a
  else if q.kind = 0 ∧ q.width = 1 then bitS (sigAt q a) (cut q.chg a (lastC a stp cols fin)) stp fin cols.toNat a
  else busS (txF q.kind base) (sigAt q a) (cut q.chg a (lastC a stp cols fin)) stp fin cols.toNat a 0 0
theorem lineC_len (q : Sig) (a stp cols fin base : Int) : (lineC q a stp cols fin base).length = nCol stp fin cols.toNat a := by
  unfold lineC
  split
  · exact colS_len _ _ _ _ _
  · split
    · exact colS_len _ _ _ _ _
    · rw [busS_len, Nat.zero_add]
def lineS (q : Sig) (a stp cols fin base : Int) : Str := lineC q a stp cols fin base ++ blk (cols.toNat - (lineC q a stp cols fin base).length)
theorem callM (w : Wv) (c sig : Int) : callR w (-1) c sig = if 0 ≤ sig ∧ sig < (w.sig.length : Int) then 0 else 2 := by
  unfold callR
  rw [show decide ((-1 : Int) ≥ 0) = false from rfl]
  simp only [cond_false]
  by_cases h1 : sig < 0
  · rw [decide_eq_true h1, if_neg (by omega)]; rfl
  · rw [decide_eq_false h1]
    by_cases h2 : sig ≥ (w.sig.length : Int)
    · rw [decide_eq_true h2, if_neg (by omega)]; rfl
    · rw [decide_eq_false h2, if_pos (by omega)]; rfl
/-- What Line answers. -/
def lnR (w : Wv) (l : Ln) (a stp cols : Int) : Str × Int :=
  if chkR w [l] a stp cols ≠ 0 then ([], chkR w [l] a stp cols)
  else if 0 ≤ l.sig ∧ l.sig < (w.sig.length : Int) then (lineS (sigOf w l.sig) a stp cols w.fin l.base, 0) else ([], 2)
/-- How many calls of the source. -/
def lnN (w : Wv) (l : Ln) (a stp cols c : Int) : Int :=
  if chkR w [l] a stp cols ≠ 0 then c
  else if 0 ≤ l.sig ∧ l.sig < (w.sig.length : Int) then (if (sigOf w l.sig).kind = 3 then c + 2 else c + 1 + ofN w l.sig a (lastC a stp cols w.fin)) else c + 1
theorem chkR_ok {w : Wv} {l : Ln} {a stp cols : Int} (h : chkR w [l] a stp cols = 0) : szB stp cols = true ∧ (1 ≤ stp ∧ stp ≤ 1099511627776) ∧ (1 ≤ cols ∧ cols ≤ 200) ∧ lnB l = true ∧ 0 ≤ a ∧ a ≤ w.fin := by
  unfold chkR at h
  by_cases h1 : szB stp cols = false ∨ [l].length > 64
  · rw [if_pos h1] at h; cases h
  rw [if_neg h1] at h
  have h2 : szB stp cols = true := by
    cases hb : szB stp cols with
    | true => rfl
    | false => exact absurd (.inl hb) h1
  by_cases h3 : [l].all lnB = false
  · rw [if_pos h3] at h; cases h
  rw [if_neg h3] at h
  by_cases h4 : a < 0 ∨ a > w.fin
  · rw [if_pos h4] at h; cases h
  have h5 : 1 ≤ stp ∧ stp ≤ 1099511627776 ∧ 1 ≤ cols ∧ cols ≤ 200 := by unfold szB at h2; exact of_decide_eq_true h2
  refine ⟨h2, ⟨h5.1, h5.2.1⟩, h5.2.2, ?_, by omega, by omega⟩
  simpa using h3
theorem lastC_ge {a stp cols fin : Int} (h1 : 1 ≤ stp) (h2 : 1 ≤ cols) (h3 : a ≤ fin) : a ≤ lastC a stp cols fin ∧ lastC a stp cols fin ≤ fin := by
  have := Int.mul_le_mul (a := 1) (b := 1) (c := cols) (d := stp) h2 h1 (by omega) (by omega)
  unfold lastC
  constructor <;> omega
theorem decR_len (q : Str) (h : q.all bit01 = true) : (decR q).length ≤ q.length + 1 := by
  unfold decR
  rw [txtR_len]
  have := (digR_ok q [0] h (fun b hb => by simp at hb; subst hb; decide)).2
  simp at this
  omega
theorem txF_len (k base : Int) (v : Str) (h : v.length ≤ 1000) : (txF k base v).length ≤ 1000000 := by
  unfold txF
  split
  · have := numR_len v base decR_len; omega
  · split
    · omega
    · rw [List.length_map]; omega
/-- The blanks behind the columns. -/
theorem tailR [Lay] {T : Str} {cols : Int} (h : (T.length : Int) ≤ cols) (hc : cols ≤ 200) :
    PureW PP 33 [.str { data := #[32] : ByteArray }.data.toList, I (subI .i64 cols (T.length : Int))] [.str { data := #[32] : ByteArray }.data.toList, I (subI .i64 cols (T.length : Int))] (.str (Lib.repeatL { data := #[32] : ByteArray }.data.toList (subI .i64 cols (T.length : Int)).toNat)) ∧
    T.length + (Lib.repeatL { data := #[32] : ByteArray }.data.toList (subI .i64 cols (T.length : Int)).toNat).length ≤ strM ∧
    T ++ Lib.repeatL { data := #[32] : ByteArray }.data.toList (subI .i64 cols (T.length : Int)).toNat = T ++ blk (cols.toNat - T.length) := by
  have e : ({ data := #[32] : ByteArray }.data.toList : Str) = [32] := rfl
  have hs : subI .i64 cols (T.length : Int) = cols - T.length := sub64 (by omega) (by omega)
  rw [e, hs, repL_blk]
  refine ⟨PureW.mk ?_, ?_, ?_⟩
  · have := cRepZ [32] (cols - T.length) ⟨by omega, by omega⟩ (by simp; omega)
    rw [repL_blk] at this
    exact this
  · unfold blk strM; rw [List.length_replicate]; omega
  · rw [show (cols - (T.length : Int)).toNat = cols.toNat - T.length by omega]
theorem e31 [Lay] (w : Wv) (hw : SmD w) (c : Int) (hc : 0 ≤ c ∧ c ≤ 800000) (l : Ln) (a stp cols : Int) : Does PP 31 [.iface 33 (.bp 0 0), l.d, I a, I stp, I cols] (hM w (-1) c) (.tup [.str (lnR w l a stp cols).1, I (lnR w l a stp cols).2]) (hM w (-1) (lnN w l a stp cols c)) := by
  have e1 : addI .i64 c 1 = c + 1 := add64 (by omega) (by omega)
  have e2 : addI .i64 (c + 1) 1 = c + 2 := by rw [add64 (by omega) (by omega)]; omega
  refine du F31 (by kernel_rfl) (of_eq (nDL1 w (-1) c l a stp cols _) ⟨echk1 _ _ _ _ _ _ _ _ _, cond_intro (fun h => ?_) fun h => ⟨e290 w (-1) c l.sig, trivial, ?_⟩⟩)
  · have h : chkR w [l] a stp cols ≠ 0 := by simpa using h
    unfold lnR lnN
    rw [if_pos h, if_pos h]; exact RetLe.refl _ _
  have h : chkR w [l] a stp cols = 0 := by simpa using h
  obtain ⟨hz, hs1, hs2, hlb, ha0, ha1⟩ := chkR_ok h
  have hR : lnR w l a stp cols = if 0 ≤ l.sig ∧ l.sig < (w.sig.length : Int) then (lineS (sigOf w l.sig) a stp cols w.fin l.base, 0) else ([], 2) := by
    unfold lnR; rw [if_neg (by omega)]
  have hN : lnN w l a stp cols c = if 0 ≤ l.sig ∧ l.sig < (w.sig.length : Int) then (if (sigOf w l.sig).kind = 3 then c + 2 else c + 1 + ofN w l.sig a (lastC a stp cols w.fin)) else c + 1 := by
    unfold lnN; rw [if_neg (by omega)]
  rw [hR, hN, e1]
  have hk : kindR w (-1) c l.sig = if 0 ≤ l.sig ∧ l.sig < (w.sig.length : Int) then ((sigOf w l.sig).kind, (sigOf w l.sig).width, 0) else (0, 0, 2) := by
    unfold kindR
    rw [callM]
    by_cases hs : 0 ≤ l.sig ∧ l.sig < (w.sig.length : Int)
    · rw [if_pos hs, if_pos hs, if_pos rfl]
    · rw [if_neg hs, if_neg hs, if_neg (by decide)]
  rw [hk]
  refine at_le (st' := ⟨[(0, memD), (2, I a), (3, I stp), (4, I cols), (6, .own [I l.sig, .str l.lab, I l.base]), (13, .own [I (if 0 ≤ l.sig ∧ l.sig < (w.sig.length : Int) then ((sigOf w l.sig).kind, (sigOf w l.sig).width, (0 : Int)) else (0, 0, 2)).1]), (14, I (if 0 ≤ l.sig ∧ l.sig < (w.sig.length : Int) then ((sigOf w l.sig).kind, (sigOf w l.sig).width, (0 : Int)) else (0, 0, 2)).2.1), (15, I (if 0 ≤ l.sig ∧ l.sig < (w.sig.length : Int) then ((sigOf w l.sig).kind, (sigOf w l.sig).width, (0 : Int)) else (0, 0, 2)).2.2)], hM w (-1) (c + 1)⟩) ?_ (StLe.heap (hp_eq (fun k => by rcases k with _ | k <;> rfl) rfl rfl))
  by_cases hs : 0 ≤ l.sig ∧ l.sig < (w.sig.length : Int)
  rotate_left
  · rw [if_neg hs, if_neg hs, if_neg hs]
    refine runS_sound hmix _ _ _ (of_eq (nDL2 w (-1) (c + 1) l a stp cols 0 0 2 _) (cond_intro (fun _ => ?_) fun h2 => by simp at h2))
    exact RetLe.refl _ _
  rw [if_pos hs, if_pos hs, if_pos hs]
  have hm := sigMem hs
  obtain ⟨hlc1, hlc2⟩ := lastC_ge (a := a) (fin := w.fin) hs1.1 hs2.1 ha1
  have hfin := hw.ok.fin
  have hLl := lineC_len (sigOf w l.sig) a stp cols w.fin l.base
  have hncl := nCol_le stp w.fin cols.toNat a
  obtain ⟨hq1, hq2, hq3⟩ := hw.ok.at hs
  refine runS_sound hmix _ _ _ (of_eq (nDL2 w (-1) (c + 1) l a stp cols (sigOf w l.sig).kind (sigOf w l.sig).width 0 _) (cond_intro (fun h2 => by simp at h2) fun _ => ⟨e289 w (-1) (c + 1), trivial, cond_intro (fun h3 => ⟨PureW.mk (clastZ a stp cols w.fin ⟨ha0, ha1, hfin.2, hz⟩), e293 w hw.ok.of (-1) (c + 1) l.sig a (lastC a stp cols w.fin), ?_⟩) fun h3 => ⟨PureW.mk (clastZ a stp cols w.fin ⟨ha0, ha1, hfin.2, hz⟩), eOfM w hw.ok.of (-1) (c + 1) l.sig a (lastC a stp cols w.fin), ?_⟩⟩))
  · have h3 : (sigOf w l.sig).kind = 3 := by simpa using h3
    have hwin : winR w (-1) (c + 1) l.sig a (lastC a stp cols w.fin) = (inR (sigOf w l.sig).chg a (lastC a stp cols w.fin), 0) := by
      unfold winR
      rw [callM, if_pos hs, if_neg (by decide), if_neg (by omega)]
    rw [hwin, e2, if_pos h3]
    refine cond_intro (fun h4 => by simp at h4) fun _ => ?_
    have hLC : lineC (sigOf w l.sig) a stp cols w.fin l.base = evS (inR (sigOf w l.sig).chg a (lastC a stp cols w.fin)) stp w.fin cols.toNat a := by
      unfold lineC; rw [if_pos h3]
    have hinc : Inc (a - 1) (inR (sigOf w l.sig).chg a (lastC a stp cols w.fin)) := by
      have := (hq3.cut3 (show a - 1 ≤ lastC a stp cols w.fin by omega)).choose_spec.choose_spec.2.2.1
      have he : inR (sigOf w l.sig).chg a (lastC a stp cols w.fin) = cut (sigOf w l.sig).chg (a - 1) (lastC a stp cols w.fin) := by
        unfold inR cut
        refine List.filter_congr fun x _ => ?_
        congr 1
        exact decide_eq_decide.2 (by omega)
      rw [he]; exact this
    have hlen : (inR (sigOf w l.sig).chg a (lastC a stp cols w.fin)).length ≤ 1000 := by
      have := List.length_filter_le (fun x : Chg => decide (x.time ≥ a) && decide (x.time ≤ lastC a stp cols w.fin)) (sigOf w l.sig).chg
      unfold inR; omega
    have hto : ∀ x ∈ inR (sigOf w l.sig).chg a (lastC a stp cols w.fin), x.time ≤ w.fin := fun x hx => by
      have := (List.mem_filter.1 hx).2
      simp at this; omega
    unfold lineS
    rw [hLC] at hLl ⊢
    obtain ⟨t1, t2, t3⟩ := tailR (T := evS (inR (sigOf w l.sig).chg a (lastC a stp cols w.fin)) stp w.fin cols.toNat a) (cols := cols) (by omega) hs2.2
    refine runS_sound hmix _ _ _ (of_eq (nDL3 w (-1) (c + 2) a stp cols w.fin _ _) ⟨PureW.mk (c72 a stp cols w.fin ⟨ha0, ha1⟩ hs1 hs2 hfin.2 _ hlen hinc hto), fun _ => ⟨t1, t2, ?_⟩⟩)
    rw [t3]; exact RetLe.refl _ _
  · have h3 : (sigOf w l.sig).kind ≠ 3 := by simpa using h3
    have hask : Ask w l.sig a (lastC a stp cols w.fin) := ⟨hs, h3, ha0, hlc1, hlc2⟩
    rw [ofR_c hw hask ⟨by omega, by omega⟩, if_neg h3]
    simp only
    refine cond_intro (fun h4 => by simp at h4) fun _ => ?_
    obtain ⟨_, _, _, _, hinc, hto, _⟩ := hq3.cut3 hlc1
    have hlen : (cut (sigOf w l.sig).chg a (lastC a stp cols w.fin)).length ≤ 900 := by
      have := List.length_filter_le (fun x : Chg => decide (x.time > a) && decide (x.time ≤ lastC a stp cols w.fin)) (sigOf w l.sig).chg
      unfold cut; omega
    have hco : ColOk a stp cols w.fin (sigAt (sigOf w l.sig) a) (cut (sigOf w l.sig).chg a (lastC a stp cols w.fin)) := ⟨⟨ha0, ha1⟩, hs1, hs2, hfin.2, hlen, hinc, hto⟩
    have hcl := hw.curLen hm a (lastC a stp cols w.fin)
    generalize hN1 : ofN w l.sig a (lastC a stp cols w.fin) = N1
    generalize hcc : cut (sigOf w l.sig).chg a (lastC a stp cols w.fin) = cc at *
    generalize hvv : sigAt (sigOf w l.sig) a = vv at *
    have eV := spV_sp a vv (lastC a stp cols w.fin) cc
    have eC := spC_sp a vv (lastC a stp cols w.fin) cc
    generalize hes : spS a vv (lastC a stp cols w.fin) cc = es at *
    refine runS_sound hmix _ _ _ (of_eq (nDL4 w (-1) (c + 1 + N1) l a stp cols w.fin (sigOf w l.sig).kind (sigOf w l.sig).width es _) ?_)
    have hbw : (bif (sigOf w l.sig).kind == 0 then (sigOf w l.sig).width == 1 else false) = decide ((sigOf w l.sig).kind = 0 ∧ (sigOf w l.sig).width = 1) := by
      rw [Bool.eq_iff_iff]; simp
    rw [hbw]
    refine cond_intro (fun h5 => ?_) fun h5 => ?_
    · have h5 := of_decide_eq_true h5
      have hLC : lineC (sigOf w l.sig) a stp cols w.fin l.base = bitS vv cc stp w.fin cols.toNat a := by
        unfold lineC; rw [if_neg h3, if_pos h5, hcc, hvv]
      unfold lineS
      rw [hLC] at hLl ⊢
      rw [eV, eC]
      obtain ⟨t1, t2, t3⟩ := tailR (T := bitS vv cc stp w.fin cols.toNat a) (cols := cols) (by omega) hs2.2
      have hb := cbitX a stp cols w.fin es ⟨vv, cc, hes.symm, hco⟩
      rw [eV, eC] at hb
      refine ⟨PureW.mk hb, fun _ => ⟨t1, t2, ?_⟩⟩
      rw [t3]; exact RetLe.refl _ _
    · have h5 := of_decide_eq_false h5
      have hLC : lineC (sigOf w l.sig) a stp cols w.fin l.base = busS (txF (sigOf w l.sig).kind l.base) vv cc stp w.fin cols.toNat a 0 0 := by
        unfold lineC; rw [if_neg h3, if_neg h5, hcc, hvv]
      unfold lineS
      rw [hLC] at hLl ⊢
      refine at_le (st' := ⟨[(4, I cols), (6, .ep [I l.sig, .str l.lab, I l.base]), (13, .ep [I (sigOf w l.sig).kind]), (16, .own [I a, I stp, I cols, I w.fin]), (19, L es 3 Sp.d)], hM w (-1) (c + 1 + N1)⟩) ?_ ((StLe.layOwn 6 rfl (by kernel_rfl)).trans (StLe.layOwn 13 rfl (by kernel_rfl)))
      refine runS_sound hmix _ _ _ (of_eq (nDL5 w (-1) (c + 1 + N1) l a stp cols w.fin (sigOf w l.sig).kind es _) ?_)
      rw [eV, eC]
      obtain ⟨t1, t2, t3⟩ := tailR (T := busS (txF (sigOf w l.sig).kind l.base) vv cc stp w.fin cols.toNat a 0 0) (cols := cols) (by omega) hs2.2
      have hb := cbusX a stp cols w.fin es (sigOf w l.sig).kind l ⟨vv, cc, hes.symm, hco, fun i hi => ⟨by have := hcl i hi; omega, txF_len _ _ _ (by have := hcl i hi; omega)⟩⟩
      rw [eV, eC] at hb
      refine ⟨PureW.mk hb, fun _ => ⟨t1, t2, ?_⟩⟩
      rw [t3]; exact RetLe.refl _ _
end Go.Proofs.YtpcbjkjgjoemaaaGreatDoor.S1
/- Lines: the reference's parts. -/
namespace Go.Proofs.YtpcbjkjgjoemaaaGreatDoor.S1
open Go Go.Ab Go.Proofs
def Src (w : Wv) (ls : List Ln) (a i : Int) : St := ⟨[(1, L ls 3 Ln.d), (2, I a), (5, .own [L w.sig 3 Sig.d, L w.gap 2 Iv.d, I w.fin]), (11, I i)], .empty⟩
end Go.Proofs.YtpcbjkjgjoemaaaGreatDoor.S1
/- Lines: the reference's line. -/
namespace Go.Proofs.YtpcbjkjgjoemaaaGreatDoor.S1
open Go Go.Ab Go.Proofs
end Go.Proofs.YtpcbjkjgjoemaaaGreatDoor.S1
/- Lines: the reference's columns are the code's; plain law. -/
namespace Go.Proofs.YtpcbjkjgjoemaaaGreatDoor.S1
open Go Go.Ab Go.Proofs
end Go.Proofs.YtpcbjkjgjoemaaaGreatDoor.S1
/- Lines: the reference's line, its contract. -/
namespace Go.Proofs.YtpcbjkjgjoemaaaGreatDoor.S1
open Go Go.Ab Go.Proofs
/-- The bounds of a drawing. -/
structure DrB (a sp cols fin : Int) : Prop where
  a0 : 0 ≤ a
  af : a ≤ fin
  fm : fin ≤ 1099511627776
  s1 : 1 ≤ sp
  sm : sp ≤ 1099511627776
  c1 : 1 ≤ cols
  cm : cols ≤ 200
theorem DrB.hi {a sp cols fin x : Int} (h : DrB a sp cols fin) (h0 : 0 ≤ x) (hx : x ≤ 230000000000000) : (if fin < subI .i64 (addI .i64 x sp) 1 then fin else subI .i64 (addI .i64 x sp) 1) = hiC x sp fin := by
  obtain ⟨a0, af, fm, s1, sm, c1, cm⟩ := h
  rw [add64 (by omega) (by omega), sub64 (by omega) (by omega)]
  unfold hiC; omega
end Go.Proofs.YtpcbjkjgjoemaaaGreatDoor.S1
/- Lines: the reference's Line; the chapter's examples. -/
namespace Go.Proofs.YtpcbjkjgjoemaaaGreatDoor.S1
open Go Go.Ab Go.Proofs
/-- The example's wave. -/
def w59 : Wv := ⟨[⟨0, 1, [⟨0, [48]⟩, ⟨5, [49]⟩, ⟨8, [48]⟩]⟩, ⟨0, 4, [⟨0, [49, 48, 49, 48]⟩, ⟨6, [49, 49, 49, 49]⟩]⟩], [], 11⟩
def w59D : D := .agg [.list 2 3 (litG [.agg [I 0, I 1, .list 3 2 (litG [.agg [I 0, .str [48]], .agg [I 5, .str [49]], .agg [I 8, .str [48]]]) .full], .agg [I 0, I 4, .list 2 2 (litG [.agg [I 0, .str [49, 48, 49, 48]], .agg [I 6, .str [49, 49, 49, 49]]]) .full]]) .full, .list 0 0 (fun _ => .junk) .full, I 11]
theorem w59W : Wk w59D w59.d := by
  refine Wk.agg (Wks.cons (Wk.litW (l := w59.sig) (enc := Sig.d) rfl fun i hi => ?_) (Wks.cons (Wk.nilL (α := Iv) (sz' := 2) (enc := Iv.d)) (Wks.refl _)))
  rcases i with _ | _ | i
  · exact ⟨Wk.agg (Wks.cons (Wk.refl _) (Wks.cons (Wk.refl _) (Wks.cons (Wk.litL rfl rfl) (Wks.refl _)))), fun _ => rfl⟩
  · exact ⟨Wk.agg (Wks.cons (Wk.refl _) (Wks.cons (Wk.refl _) (Wks.cons (Wk.litL rfl rfl) (Wks.refl _)))), fun _ => rfl⟩
  · exact absurd hi (by simp [w59])
theorem eNewA [Lay] : Does PP 13 [w59D] .empty (.bp 0 0) (hM w59 (-1) 0) := Does.args (e13 w59) (Wks.cons w59W (Wks.refl _))
theorem F11 : OkF 11 Tryz.f11 := ⟨by kernel_rfl, by kernel_rfl, by kernel_rfl⟩
noncomputable def nAks  : List Nat → Nat → Option Ans := scrAt [([1, 0], 11, Ans.eff (D.bp 0 0) (hM w59 (-1) 0)), ([1, 1, 0], 3, Ans.eff (.tup [.str (lnR w59 { sig := 0, lab := { data := #[] : ByteArray }.data.toList, base := 0 : Ln } 0 1 12).fst, I (lnR w59 { sig := 0, lab := { data := #[] : ByteArray }.data.toList, base := 0 : Ln } 0 1 12).snd]) (hM w59 (-1) (lnN w59 { sig := 0, lab := { data := #[] : ByteArray }.data.toList, base := 0 : Ln } 0 1 12 0))), ([1, 1, 1, 0], 3, Ans.eff (.tup [.str (lnR w59 { sig := 0, lab := { data := #[] : ByteArray }.data.toList, base := 0 : Ln } 0 2 6).fst, I (lnR w59 { sig := 0, lab := { data := #[] : ByteArray }.data.toList, base := 0 : Ln } 0 2 6).snd]) (hM w59 (-1) (lnN w59 { sig := 0, lab := { data := #[] : ByteArray }.data.toList, base := 0 : Ln } 0 2 6 (lnN w59 { sig := 0, lab := { data := #[] : ByteArray }.data.toList, base := 0 : Ln } 0 1 12 0)))), ([1, 1, 1, 1, 0], 3, Ans.eff (.tup [.str (lnR w59 { sig := 1, lab := { data := #[] : ByteArray }.data.toList, base := 1 : Ln } 0 1 12).fst, I (lnR w59 { sig := 1, lab := { data := #[] : ByteArray }.data.toList, base := 1 : Ln } 0 1 12).snd]) (hM w59 (-1) (lnN w59 { sig := 1, lab := { data := #[] : ByteArray }.data.toList, base := 1 : Ln } 0 1 12 (lnN w59 { sig := 0, lab := { data := #[] : ByteArray }.data.toList, base := 0 : Ln } 0 2 6 (lnN w59 { sig := 0, lab := { data := #[] : ByteArray }.data.toList, base := 0 : Ln } 0 1 12 0)))))]
theorem nAk [Lay]  (K : D → Heap → Prop) : runS (En Tryz.f11) (fh Tryz.f11 K) (nAks ) nolv 200 [.code []] ⟨argSlots 0 [], .empty⟩ =
  (Does PP 13 [.agg [.list 2 3 (litG [.agg [I 0, I 1, .list 3 2 (litG [.agg [I 0, .str { data := #[48] : ByteArray }.data.toList], .agg [I 5, .str { data := #[49] : ByteArray }.data.toList], .agg [I 8, .str { data := #[48] : ByteArray }.data.toList]]) .full], .agg [I 0, I 4, .list 2 2 (litG [.agg [I 0, .str { data := #[49, 48, 49, 48] : ByteArray }.data.toList], .agg [I 6, .str { data := #[49, 49, 49, 49] : ByteArray }.data.toList]]) .full]]) .full, .list 0 0 (fun _ => D.junk) .full, I 11]] Heap.empty (D.bp 0 0) (hM w59 (-1) 0) ∧
  Does PP 31 [D.iface 33 (D.bp 0 0), .agg [I 0, .str { data := #[] : ByteArray }.data.toList, I 0], I 0, I 1, I 12] { box := upd (fun _ => none) 0 (some (Row.lit [L w59.sig 3 Sig.d, L w59.gap 2 Iv.d, I w59.fin, I (-1), I 0])), nl := 1, hw := fun _ => none, nt := 0, vw := fun _ => none : Heap } (.tup [.str (lnR w59 { sig := 0, lab := { data := #[] : ByteArray }.data.toList, base := 0 : Ln } 0 1 12).fst, I (lnR w59 { sig := 0, lab := { data := #[] : ByteArray }.data.toList, base := 0 : Ln } 0 1 12).snd]) (hM w59 (-1) (lnN w59 { sig := 0, lab := { data := #[] : ByteArray }.data.toList, base := 0 : Ln } 0 1 12 0)) ∧
    Does PP 31 [D.iface 33 (D.bp 0 0), .agg [I 0, .str { data := #[] : ByteArray }.data.toList, I 0], I 0, I 2, I 6] { box := upd (fun _ => none) 0 (some (Row.lit [L w59.sig 3 Sig.d, L w59.gap 2 Iv.d, I w59.fin, I (-1), I (lnN w59 { sig := 0, lab := { data := #[] : ByteArray }.data.toList, base := 0 : Ln } 0 1 12 0)])), nl := 1, hw := fun _ => none, nt := 0, vw := fun _ => none : Heap } (.tup [.str (lnR w59 { sig := 0, lab := { data := #[] : ByteArray }.data.toList, base := 0 : Ln } 0 2 6).fst, I (lnR w59 { sig := 0, lab := { data := #[] : ByteArray }.data.toList, base := 0 : Ln } 0 2 6).snd]) (hM w59 (-1) (lnN w59 { sig := 0, lab := { data := #[] : ByteArray }.data.toList, base := 0 : Ln } 0 2 6 (lnN w59 { sig := 0, lab := { data := #[] : ByteArray }.data.toList, base := 0 : Ln } 0 1 12 0))) ∧
      Does PP 31 [D.iface 33 (D.bp 0 0), .agg [I 1, .str { data := #[] : ByteArray }.data.toList, I 1], I 0, I 1, I 12] { box := upd (fun _ => none) 0 (some (Row.lit [L w59.sig 3 Sig.d, L w59.gap 2 Iv.d, I w59.fin, I (-1), I (lnN w59 { sig := 0, lab := { data := #[] : ByteArray }.data.toList, base := 0 : Ln } 0 2 6 (lnN w59 { sig := 0, lab := { data := #[] : ByteArray }.data.toList, base := 0 : Ln } 0 1 12 0))])), nl := 1, hw := fun _ => none, nt := 0, vw := fun _ => none : Heap } (.tup [.str (lnR w59 { sig := 1, lab := { data := #[] : ByteArray }.data.toList, base := 1 : Ln } 0 1 12).fst, I (lnR w59 { sig := 1, lab := { data := #[] : ByteArray }.data.toList, base := 1 : Ln } 0 1 12).snd]) (hM w59 (-1) (lnN w59 { sig := 1, lab := { data := #[] : ByteArray }.data.toList, base := 1 : Ln } 0 1 12 (lnN w59 { sig := 0, lab := { data := #[] : ByteArray }.data.toList, base := 0 : Ln } 0 2 6 (lnN w59 { sig := 0, lab := { data := #[] : ByteArray }.data.toList, base := 0 : Ln } 0 1 12 0)))) ∧ K (B true) { box := upd (fun _ => none) 0 (some (Row.lit [L w59.sig 3 Sig.d, L w59.gap 2 Iv.d, I w59.fin, I (-1), I (lnN w59 { sig := 1, lab := { data := #[] : ByteArray }.data.toList, base := 1 : Ln } 0 1 12 (lnN w59 { sig := 0, lab := { data := #[] : ByteArray }.data.toList, base := 0 : Ln } 0 2 6 (lnN w59 { sig := 0, lab := { data := #[] : ByteArray }.data.toList, base := 0 : Ln } 0 1 12 0)))])), nl := 1, hw := fun _ => none, nt := 0, vw := fun _ => none : Heap }) := by kernel_rfl
theorem w59D2 : SmD w59 := smB_D (by decide +kernel)
theorem c11 [Lay] : Pure PP 11 [] (B true) := by
  refine pr F11 (by kernel_rfl) (of_eq (nAk _) ⟨eNewA, e31 w59 w59D2 0 (by decide) ⟨0, [], 0⟩ 0 1 12, e31 w59 w59D2 _ (by decide +kernel) ⟨0, [], 0⟩ 0 2 6, e31 w59 w59D2 _ (by decide +kernel) ⟨1, [], 1⟩ 0 1 12, _, RetLe.refl _ _⟩)
end Go.Proofs.YtpcbjkjgjoemaaaGreatDoor.S1
/- Numbers read: strconv's functions, parts. -/
namespace Go.Proofs.YtpcbjkjgjoemaaaGreatDoor.S1
open Go Go.Ab Go.Proofs
theorem F143 : OkF 143 Tryz.f143 := ⟨by kernel_rfl, by kernel_rfl, by kernel_rfl⟩
def lv143 : List (List Nat × List Nat) := []
noncomputable def nLows  : List Nat → Nat → Option Ans := scrAt []
theorem nLow [Lay] (c : UInt8) (K : D → Prop) : runS (En Tryz.f143) (fi Tryz.f143 K) (nLows ) lv143 200 [.code []] ⟨argSlots 0 [encB c], .empty⟩ =
  (K (D.int IntKind.u8 (orI IntKind.u8 (↑c.toNat : Int) 32))) := by kernel_rfl
theorem c143 [Lay] (c : UInt8) : Pure PP 143 [encB c] (.int .u8 (orI .u8 c.toNat 32)) := pu F143 (by kernel_rfl) (of_eq (nLow c _) (Wk.refl _))
theorem F96 : OkF 96 Tryz.f96 := ⟨by kernel_rfl, by kernel_rfl, by kernel_rfl⟩
def lv96 : List (List Nat × List Nat) := [([1, 1, 1, 1, 1, 1, 1, 1, 1, 1, 1, 0, 1, 0], [1, 8, 9, 10, 11, 12, 13, 99, 100, 101])]
noncomputable def nPU2s  : List Nat → Nat → Option Ans := scrAt []
theorem nPU2 [Lay] (q : Str) (K : D → Prop) : runS (En Tryz.f96) (fi Tryz.f96 K) (nPU2s ) lv96 200 [.code []] ⟨argSlots 0 [.str q, I 2, I 64], .empty⟩ =
  (bif q == { data := #[] : ByteArray }.data.toList then K (.tup [D.int IntKind.u64 0, D.iface 145 (I 2)]) else IntKind.u64.wrap 2 ≠ 0 ∧ 0 ≤ IntKind.u64.wrap 64 ∧ (List.length q ≤ lenM → At (En Tryz.f96) (fi Tryz.f96 K) [It.code [1, 1, 1, 1, 1, 1, 1, 1, 1, 1, 1, 0, 1, 0], It.blk 3, It.code [1, 1, 1, 1, 1, 1, 1, 1, 1, 1, 1, 1]] { sl := [(1, I 2), (8, B false), (9, .str q), (10, D.int IntKind.u64 (addI IntKind.u64 (quoI IntKind.u64 18446744073709551615 (IntKind.u64.wrap 2)) 1)), (11, D.int IntKind.u64 (subI IntKind.u64 (shlI IntKind.u64 1 (IntKind.u64.wrap 64)) 1)), (12, B false), (13, D.int IntKind.u64 0), (99, .list (List.length q) 1 (strG q) .none), (100, I (↑(List.length q) : Int)), (101, I 0)], h := Heap.empty : St })) := by kernel_rfl
noncomputable def nPU10s  : List Nat → Nat → Option Ans := scrAt []
theorem nPU10 [Lay] (q : Str) (K : D → Prop) : runS (En Tryz.f96) (fi Tryz.f96 K) (nPU10s ) lv96 200 [.code []] ⟨argSlots 0 [.str q, I 10, I 64], .empty⟩ =
  (bif q == { data := #[] : ByteArray }.data.toList then K (.tup [D.int IntKind.u64 0, D.iface 145 (I 2)]) else 0 ≤ IntKind.u64.wrap 64 ∧ (List.length q ≤ lenM → At (En Tryz.f96) (fi Tryz.f96 K) [It.code [1, 1, 1, 1, 1, 1, 1, 1, 1, 1, 1, 0, 1, 0], It.blk 3, It.code [1, 1, 1, 1, 1, 1, 1, 1, 1, 1, 1, 1]] { sl := [(1, I 10), (8, B false), (9, .str q), (10, D.int IntKind.u64 1844674407370955162), (11, D.int IntKind.u64 (subI IntKind.u64 (shlI IntKind.u64 1 (IntKind.u64.wrap 64)) 1)), (12, B false), (13, D.int IntKind.u64 0), (99, .list (List.length q) 1 (strG q) .none), (100, I (↑(List.length q) : Int)), (101, I 0)], h := Heap.empty : St })) := by kernel_rfl
noncomputable def nPU16s  : List Nat → Nat → Option Ans := scrAt []
theorem nPU16 [Lay] (q : Str) (K : D → Prop) : runS (En Tryz.f96) (fi Tryz.f96 K) (nPU16s ) lv96 200 [.code []] ⟨argSlots 0 [.str q, I 16, I 64], .empty⟩ =
  (bif q == { data := #[] : ByteArray }.data.toList then K (.tup [D.int IntKind.u64 0, D.iface 145 (I 2)]) else 0 ≤ IntKind.u64.wrap 64 ∧ (List.length q ≤ lenM → At (En Tryz.f96) (fi Tryz.f96 K) [It.code [1, 1, 1, 1, 1, 1, 1, 1, 1, 1, 1, 0, 1, 0], It.blk 3, It.code [1, 1, 1, 1, 1, 1, 1, 1, 1, 1, 1, 1]] { sl := [(1, I 16), (8, B false), (9, .str q), (10, D.int IntKind.u64 1152921504606846976), (11, D.int IntKind.u64 (subI IntKind.u64 (shlI IntKind.u64 1 (IntKind.u64.wrap 64)) 1)), (12, B false), (13, D.int IntKind.u64 0), (99, .list (List.length q) 1 (strG q) .none), (100, I (↑(List.length q) : Int)), (101, I 0)], h := Heap.empty : St })) := by kernel_rfl
def SPU (q : Str) (b cut : Int) (n : Int) (i : Int) : St := ⟨[(1, I b), (8, B false), (9, .str q), (10, .int .u64 cut), (11, .int .u64 18446744073709551615), (12, B false), (13, .int .u64 n), (99, L q 1 encB), (100, I q.length), (101, I i)], .empty⟩
noncomputable def nPUas (q : Str) (i : Int) : List Nat → Nat → Option Ans := scrAt [([1, 1, 1, 1, 1, 1, 1, 1, 1, 1, 1, 0, 1, 0, 0, 1, 1, 0, 0, 1, 1, 0, 0, 1, 1, 1, 1, 0], 1, Ans.pure [encB (List.getD q i.toNat default)] (D.int IntKind.u8 (orI IntKind.u8 (↑(List.getD q i.toNat default).toNat : Int) 32))), ([1, 1, 1, 1, 1, 1, 1, 1, 1, 1, 1, 0, 1, 0, 0, 1, 1, 0, 0, 1, 1, 0, 0, 1, 1, 1, 1, 0], 5, Ans.pure [encB (List.getD q i.toNat default)] (D.int IntKind.u8 (orI IntKind.u8 (↑(List.getD q i.toNat default).toNat : Int) 32))), ([1, 1, 1, 1, 1, 1, 1, 1, 1, 1, 1, 0, 1, 0, 0, 1, 1, 0, 0, 1, 1, 0, 0, 1, 1, 1, 1, 1, 0], 1, Ans.pure [encB (List.getD q i.toNat default)] (D.int IntKind.u8 (orI IntKind.u8 (↑(List.getD q i.toNat default).toNat : Int) 32))), ([1, 1, 1, 1, 1, 1, 1, 1, 1, 1, 1, 1, 0, 0], 3, Ans.pure [.str q] (B false))]
theorem nPUa [Lay] (q : Str) (b cut n i : Int) (J : St → Prop) (K : D → Prop) : runS (En Tryz.f96) (fi Tryz.f96 K) (nPUas q i) lv96 200 [.code [1, 1, 1, 1, 1, 1, 1, 1, 1, 1, 1, 0, 1, 0, 0], stp [1, 8, 9, 10, 11, 12, 13, 99, 100, 101] J, .blk 3, .code [1, 1, 1, 1, 1, 1, 1, 1, 1, 1, 1, 1]] (SPU q b cut n i) =
  (bif decide (i < (↑(List.length q) : Int)) then
  (0 ≤ i ∧ i < (↑(List.length q) : Int)) ∧
    bif bif (↑(List.getD q i.toNat default).toNat : Int) == 95 then false else false then J { sl := [(1, I b), (8, B false), (9, .str q), (10, D.int IntKind.u64 cut), (11, D.int IntKind.u64 18446744073709551615), (12, B true), (13, D.int IntKind.u64 n), (99, L q 1 encB), (100, I (↑(List.length q) : Int)), (101, I (addI .i64 i 1))], h := Heap.empty : St }
    else
      bif bif decide (48 ≤ (↑(List.getD q i.toNat default).toNat : Int)) then decide ((↑(List.getD q i.toNat default).toNat : Int) ≤ 57) else false then bif decide (subI IntKind.u8 (↑(List.getD q i.toNat default).toNat : Int) 48 ≥ IntKind.u8.wrap b) then K (.tup [D.int IntKind.u64 0, D.iface 145 (I 2)]) else bif decide (n ≥ cut) then K (.tup [D.int IntKind.u64 18446744073709551615, D.iface 145 (I 1)]) else bif bif decide (addI IntKind.u64 (mulI IntKind.u64 n (IntKind.u64.wrap b)) (IntKind.u64.wrap (subI IntKind.u8 (↑(List.getD q i.toNat default).toNat : Int) 48)) < mulI IntKind.u64 n (IntKind.u64.wrap b)) then true else decide (addI IntKind.u64 (mulI IntKind.u64 n (IntKind.u64.wrap b)) (IntKind.u64.wrap (subI IntKind.u8 (↑(List.getD q i.toNat default).toNat : Int) 48)) > 18446744073709551615) then K (.tup [D.int IntKind.u64 18446744073709551615, D.iface 145 (I 1)]) else J { sl := [(1, I b), (8, B false), (9, .str q), (10, D.int IntKind.u64 cut), (11, D.int IntKind.u64 18446744073709551615), (12, B false), (13, D.int IntKind.u64 (addI IntKind.u64 (mulI IntKind.u64 n (IntKind.u64.wrap b)) (IntKind.u64.wrap (subI IntKind.u8 (↑(List.getD q i.toNat default).toNat : Int) 48)))), (99, L q 1 encB), (100, I (↑(List.length q) : Int)), (101, I (addI .i64 i 1))], h := Heap.empty : St }
      else
        PureW PP 143 [encB (List.getD q i.toNat default)] [encB (List.getD q i.toNat default)] (D.int IntKind.u8 (orI IntKind.u8 (↑(List.getD q i.toNat default).toNat : Int) 32)) ∧
          (decide (97 ≤ orI IntKind.u8 (↑(List.getD q i.toNat default).toNat : Int) 32) = true → PureW PP 143 [encB (List.getD q i.toNat default)] [encB (List.getD q i.toNat default)] (D.int IntKind.u8 (orI IntKind.u8 (↑(List.getD q i.toNat default).toNat : Int) 32))) ∧
            bif bif decide (97 ≤ orI IntKind.u8 (↑(List.getD q i.toNat default).toNat : Int) 32) then decide (orI IntKind.u8 (↑(List.getD q i.toNat default).toNat : Int) (32 : Int) ≤ 122) else false then PureW PP 143 [encB (List.getD q i.toNat default)] [encB (List.getD q i.toNat default)] (D.int IntKind.u8 (orI IntKind.u8 (↑(List.getD q i.toNat default).toNat : Int) 32)) ∧ bif decide (addI IntKind.u8 (subI IntKind.u8 (orI IntKind.u8 (↑(List.getD q i.toNat default).toNat : Int) 32) 97) 10 ≥ IntKind.u8.wrap b) then K (.tup [D.int IntKind.u64 0, D.iface 145 (I 2)]) else bif decide (n ≥ cut) then K (.tup [D.int IntKind.u64 18446744073709551615, D.iface 145 (I 1)]) else bif bif decide (addI IntKind.u64 (mulI IntKind.u64 n (IntKind.u64.wrap b)) (IntKind.u64.wrap (addI IntKind.u8 (subI IntKind.u8 (orI IntKind.u8 (↑(List.getD q i.toNat default).toNat : Int) 32) 97) 10)) < mulI IntKind.u64 n (IntKind.u64.wrap b)) then true else decide (addI IntKind.u64 (mulI IntKind.u64 n (IntKind.u64.wrap b)) (IntKind.u64.wrap (addI IntKind.u8 (subI IntKind.u8 (orI IntKind.u8 (↑(List.getD q i.toNat default).toNat : Int) 32) 97) 10)) > 18446744073709551615) then K (.tup [D.int IntKind.u64 18446744073709551615, D.iface 145 (I 1)]) else J { sl := [(1, I b), (8, B false), (9, .str q), (10, D.int IntKind.u64 cut), (11, D.int IntKind.u64 18446744073709551615), (12, B false), (13, D.int IntKind.u64 (addI IntKind.u64 (mulI IntKind.u64 n (IntKind.u64.wrap b)) (IntKind.u64.wrap (addI IntKind.u8 (subI IntKind.u8 (orI IntKind.u8 (↑(List.getD q i.toNat default).toNat : Int) 32) 97) 10)))), (99, L q 1 encB), (100, I (↑(List.length q) : Int)), (101, I (addI .i64 i 1))], h := Heap.empty : St } else K (.tup [D.int IntKind.u64 0, D.iface 145 (I 2)])
 else (false = true → PureW PP 144 [.str q] [.str q] (B false)) ∧ K (.tup [D.int IntKind.u64 n, D.nili])) := by kernel_rfl
theorem F46 : OkF 46 Tryz.f46 := ⟨by kernel_rfl, by kernel_rfl, by kernel_rfl⟩
def lvPI : List (List Nat × List Nat) := [([1, 1, 1, 1, 1], [0, 1, 2, 8])]
noncomputable def nPIs  : List Nat → Nat → Option Ans := scrAt []
theorem nPI [Lay] (q : Str) (b : Int) (K : D → Prop) : runS (En Tryz.f46) (fi Tryz.f46 K) (nPIs ) lvPI 200 [.code []] ⟨argSlots 0 [.str q, I b, I 64], .empty⟩ =
  (bif q == { data := #[] : ByteArray }.data.toList then K (.tup [I 0, D.iface 145 (I 2)]) else ((0 : Int) ≤ 0 ∧ 0 < (↑(List.length q) : Int)) ∧ bif (↑(List.getD q 0 0).toNat : Int) == 43 then ((0 : Int) ≤ 1 ∧ 1 ≤ (↑(List.length q) : Int)) ∧ At (En Tryz.f46) (fi Tryz.f46 K) [It.code [1, 1, 1, 1, 1]] { sl := [(0, .str (List.drop 1 q)), (1, I b), (2, I 64), (8, B false)], h := Heap.empty : St } else bif (↑(List.getD q 0 0).toNat : Int) == 45 then ((0 : Int) ≤ 1 ∧ 1 ≤ (↑(List.length q) : Int)) ∧ At (En Tryz.f46) (fi Tryz.f46 K) [It.code [1, 1, 1, 1, 1]] { sl := [(0, .str (List.drop 1 q)), (1, I b), (2, I 64), (8, B true)], h := Heap.empty : St } else At (En Tryz.f46) (fi Tryz.f46 K) [It.code [1, 1, 1, 1, 1]] { sl := [(0, .str q), (1, I b), (2, I 64), (8, B false)], h := Heap.empty : St }) := by kernel_rfl
noncomputable def nPI2s (q : Str) (b : Int) : List Nat → Nat → Option Ans := scrAt [([1, 1, 1, 1, 1, 0], 3, Ans.pure [.str q, I b, I 64] (.tup [D.int IntKind.u64 (↑(parR b.toNat 0 q) : Int), D.nili]))]
theorem nPI2 [Lay] (q : Str) (b : Int) (K : D → Prop) : runS (En Tryz.f46) (fi Tryz.f46 K) (nPI2s q b) nolv 200 [.code [1, 1, 1, 1, 1]] ⟨[(0, .str q), (1, I b), (2, I 64), (8, B false)], .empty⟩ =
  (PureW PP 96 [.str q, I b, I 64] [.str q, I b, I 64] (.tup [D.int IntKind.u64 (↑(parR b.toNat 0 q) : Int), D.nili]) ∧ 0 ≤ IntKind.u64.wrap (subI .i64 64 1) ∧ bif decide ((↑(parR b.toNat 0 q) : Int) ≥ shlI IntKind.u64 1 (IntKind.u64.wrap (subI .i64 64 1))) then K (.tup [I (IntKind.i64.wrap (subI IntKind.u64 (shlI IntKind.u64 1 (IntKind.u64.wrap (subI .i64 64 1))) 1)), D.iface 145 (I 1)]) else K (.tup [I (IntKind.i64.wrap (↑(parR b.toNat 0 q) : Int)), D.nili])) := by kernel_rfl
theorem F17 : OkF 17 Tryz.f17 := ⟨by kernel_rfl, by kernel_rfl, by kernel_rfl⟩
def lv17 : List (List Nat × List Nat) := []
noncomputable def nPSs (q : Str) (b : Int) : List Nat → Nat → Option Ans := scrAt [([1, 0], 3, Ans.pure [.str q, I b, I 64] (.tup [I (↑(parR b.toNat 0 q) : Int), D.nili]))]
theorem nPS [Lay] (q : Str) (b : Int) (K : D → Prop) : runS (En Tryz.f17) (fi Tryz.f17 K) (nPSs q b) lv17 200 [.code []] ⟨argSlots 0 [.str q, I b, I 64], .empty⟩ =
  (PureW PP 46 [.str q, I b, I 64] [.str q, I b, I 64] (.tup [I (↑(parR b.toNat 0 q) : Int), D.nili]) ∧ K (.tup [I (↑(parR b.toNat 0 q) : Int), D.nili])) := by kernel_rfl
theorem F4 : OkF 4 Tryz.f4 := ⟨by kernel_rfl, by kernel_rfl, by kernel_rfl⟩
def lv4 : List (List Nat × List Nat) := []
noncomputable def nlDs (q : Str) : List Nat → Nat → Option Ans := scrAt [([1, 0, 0], 10, Ans.pure [.str q, .str { data := #[48, 49] : ByteArray }.data.toList] (.str (trimC q { data := #[48, 49] : ByteArray }.data.toList))), ([1, 0, 1, 0, 0], 0, Ans.pure [] (B true)), ([1, 1, 0], 1, Ans.pure [.str q, I 2, I 64] (.tup [I (↑(parR (Int.toNat 2) 0 q) : Int), D.nili])), ([1, 1, 1, 0], 1, Ans.pure [.str q, I 1] (.str (numR q 1))), ([1, 1, 1, 0], 2, Ans.pure [.str (numR q 1), I 16, I 64] (.tup [I (↑(parR (Int.toNat 16) 0 (numR q 1)) : Int), D.nili])), ([1, 1, 1, 1, 0], 1, Ans.pure [.str q, I 2] (.str (numR q 2))), ([1, 1, 1, 1, 0], 2, Ans.pure [.str (numR q 2), I 10, I 64] (.tup [I (↑(parR (Int.toNat 10) 0 (numR q 2)) : Int), D.nili])), ([1, 1, 1, 1, 1, 0], 21, Ans.pure [] (B true))]
theorem nlD [Lay] (q : Str) (K : D → Prop) : runS (En Tryz.f4) (fi Tryz.f4 K) (nlDs q) lv4 200 [.code []] ⟨argSlots 0 [.str q], .empty⟩ =
  (List.length q ≤ strM → ((!decide ((↑(List.length q) : Int) < 1)) = true → List.length q ≤ strM) → ((!bif decide ((↑(List.length q) : Int) < 1) then true else decide ((↑(List.length q) : Int) > 62)) = true → PureW PP 16 [.str q, .str { data := #[48, 49] : ByteArray }.data.toList] [.str q, .str { data := #[48, 49] : ByteArray }.data.toList] (.str (trimC q { data := #[48, 49] : ByteArray }.data.toList))) ∧ bif bif bif decide ((↑(List.length q) : Int) < 1) then true else decide ((↑(List.length q) : Int) > 62) then true else !trimC q { data := #[48, 49] : ByteArray }.data.toList == { data := #[] : ByteArray }.data.toList then PureW PP 11 [] [] (B true) ∧ K (B true) else PureW PP 17 [.str q, I 2, I 64] [.str q, I 2, I 64] (.tup [I (↑(parR (Int.toNat 2) 0 q) : Int), D.nili]) ∧ PureW PP 18 [.str q, I 1] [.str q, I 1] (.str (numR q 1)) ∧ PureW PP 17 [.str (numR q 1), I 16, I 64] [.str (numR q 1), I 16, I 64] (.tup [I (↑(parR (Int.toNat 16) 0 (numR q 1)) : Int), D.nili]) ∧ PureW PP 18 [.str q, I 2] [.str q, I 2] (.str (numR q 2)) ∧ PureW PP 17 [.str (numR q 2), I 10, I 64] [.str (numR q 2), I 10, I 64] (.tup [I (↑(parR (Int.toNat 10) 0 (numR q 2)) : Int), D.nili]) ∧ ((bif (↑(parR 2 0 q) : Int) == (↑(parR 16 0 (numR q 1)) : Int) then (↑(parR 2 0 q) : Int) == (↑(parR 10 0 (numR q 2)) : Int) else false) = true → PureW PP 11 [] [] (B true)) ∧ K (B (bif bif (↑(parR 2 0 q) : Int) == (↑(parR 16 0 (numR q 1)) : Int) then (↑(parR 2 0 q) : Int) == (↑(parR 10 0 (numR q 2)) : Int) else false then true else false))) := by kernel_rfl
end Go.Proofs.YtpcbjkjgjoemaaaGreatDoor.S1
