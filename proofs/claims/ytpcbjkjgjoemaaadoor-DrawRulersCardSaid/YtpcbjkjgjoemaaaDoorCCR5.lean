/- Lines: a bus. -/
import Derived.Test.YtpcbjkjgjoemaaaDoorCCR4
namespace Go.Proofs.YtpcbjkjgjoemaaaDoor.S1
open Go Go.Ab Go.Proofs
theorem F36 : OkF 36 Tryd.f36 := ⟨by kernel_rfl, by kernel_rfl, by kernel_rfl⟩
def lv36 : List (List Nat × List Nat) := [([1, 1, 1, 1, 0, 1, 0, 1, 0, 1, 0, 1, 0], [4, 7, 8, 9, 10, 11, 12, 13])]
abbrev txD (k : Int) (n : Ln) : D := .clo 37 [.ep [I k], .ep [I n.sig, .str n.lab, I n.base]]
abbrev flD (k : Int) (n : Ln) (l : List Sp) : D := .clo 63 [.bp 2 0, .bp 0 0, .ep [txD k n], .ep [L l 3 Sp.d], .bp 1 0]
/-- Before the loop. -/
def hU3 (a : D) (es : Str) (i q : Int) : Heap := ⟨upd (upd (upd (fun _ => none) 0 (some (.litT TB [a, .bv TU 0 es.length]))) 1 (some (.lit [I i]))) 2 (some (.lit [I q])), 3, upd (fun _ => none) 0 (some es.length), 1, upd (fun _ => none) 0 (some (cv es encB))⟩
noncomputable def lvUA : List (List Nat × List Nat) := [([1, 1, 1, 0], [3, 4, 5, 7, 8, 9])]
noncomputable def nBuAs  : List Nat → Nat → Option Ans := scrAt []
theorem nBuA [Lay] (a b c d : Int) (l : List Sp) (k : Int) (n : Ln) (K : D → Heap → Prop) : runS (EnX [7, 8, 9] Tryd.f36) (fh Tryd.f36 K) (nBuAs ) lvUA 200 [.code []] ⟨argSlots 0 [.agg [I a, I b, I c, I d], L l 3 Sp.d, .clo 37 [.ep [I k], .ep [I n.sig, .str n.lab, I n.base]]], .empty⟩ =
  (True ∧ True ∧ True ∧ True ∧ True ∧ At (EnX [7, 8, 9] Tryd.f36) (fh Tryd.f36 K) [It.code [1, 1, 1, 0], It.code [1, 1, 1, 1]] { sl := [(3, .own [I a, I b, I c, I d]), (4, .own [L l 3 Sp.d]), (5, .own [D.clo 37 [D.ep [I k], D.ep [I n.sig, .str n.lab, I n.base]]]), (7, D.bp 0 0), (8, D.bp 1 0), (9, D.bp 2 0)], h := { box := upd (upd (upd (upd (upd (fun _ => none) 0 (some (Row.litT 57 [D.nilp, .list 0 0 (fun _ => D.junk) .full]))) 1 (some (Row.lit [I 0]))) 2 (some (Row.lit [I 0]))) 1 (some (Row.lit [I 0]))) 2 (some (Row.lit [I 0])), nl := 3, hw := fun _ => none, nt := 0, vw := fun _ => none : Heap } : St }) := by kernel_rfl
noncomputable def nBuBs  : List Nat → Nat → Option Ans := scrAt []
theorem nBuB [Lay] (a b c d : Int) (l : List Sp) (k : Int) (n : Ln) (es : Str) (i q : Int) (K : D → Heap → Prop) : runS (EnX [7, 8, 9] Tryd.f36) (fh Tryd.f36 K) (nBuBs ) nolv 200 [.code [1, 1, 1, 0], .code [1, 1, 1, 1]] ⟨[(3, .own [I a, I b, I c, I d]), (4, .ep [L l 3 Sp.d]), (5, .ep [txD k n]), (7, .bp 0 0), (8, .bp 1 0), (9, .bp 2 0)], hU3 .nilp es i q⟩ =
  (True ∧ At (EnX [7, 8, 9] Tryd.f36) (fh Tryd.f36 K) [It.code [1, 1, 1, 1, 0, 1, 0], It.blk 0, It.code [1, 1, 1, 1, 1]] { sl := [(16, D.mv 59 [.agg [I a, I b, I c, I d]]), (15, .agg [I a, I b, I c, I d]), (10, .own [D.clo 63 [D.bp 2 0, D.bp 0 0, D.ep [txD k n], D.ep [L l 3 Sp.d], D.bp 1 0]]), (14, D.clo 63 [D.bp 2 0, D.bp 0 0, D.ep [txD k n], D.ep [L l 3 Sp.d], D.bp 1 0]), (3, .own [I a, I b, I c, I d]), (4, D.ep [L l 3 Sp.d]), (5, D.ep [txD k n]), (7, D.bp 0 0), (8, D.bp 1 0), (9, D.bp 2 0)], h := { box := upd (upd (upd (fun _ => none) 0 (some (Row.litT TB [D.nilp, D.bv TU 0 (List.length es)]))) 1 (some (Row.lit [I i]))) 2 (some (Row.lit [I q])), nl := 3, hw := upd (fun _ => none) 0 (some (List.length es)), nt := 1, vw := upd (fun _ => none) 0 (some (cv es encB)) : Heap } : St }) := by kernel_rfl
noncomputable def nBu0s  : List Nat → Nat → Option Ans := scrAt []
theorem nBu0 [Lay] (l : List Sp) (k : Int) (n : Ln) (a : D) (es : Str) (i q x y z : Int) (J : St → Prop) (K : St → Prop) : runS (EnX [7, 8, 9] Tryd.f36) K (nBu0s ) lv36 200 [.code [1, 1, 1, 1, 0, 1, 0, 0], .stop J] ⟨[(4, .ep [L l 3 Sp.d]), (7, .bp 0 0), (8, .bp 1 0), (9, .bp 2 0), (10, .ep [flD k n l]), (17, .agg [I x, I y, I z])], hU a es i q⟩ =
  (True ∧ J { sl := [(11, .own [I x, I y, I z]), (4, D.ep [L l 3 Sp.d]), (7, D.bp 0 0), (8, D.bp 1 0), (9, D.bp 2 0), (10, D.ep [flD k n l]), (17, .agg [I x, I y, I z])], h := { box := upd (upd (upd (fun _ => none) 0 (some (Row.litT TB [a, D.bv TU 0 (List.length es)]))) 1 (some (Row.lit [I i]))) 2 (some (Row.lit [I q])), nl := 4, hw := upd (fun _ => none) 0 (some (List.length es)), nt := 1, vw := upd (fun _ => none) 0 (some (cv es encB)) : Heap } : St }) := by kernel_rfl
noncomputable def nBu1s  : List Nat → Nat → Option Ans := scrAt []
theorem nBu1 [Lay] (l : List Sp) (k : Int) (n : Ln) (a : D) (es : Str) (i q x y z : Int) (J : St → Prop) (K : St → Prop) : runS (EnX [7, 8, 9] Tryd.f36) K (nBu1s ) lv36 200 [.code [1, 1, 1, 1, 0, 1, 0, 1], .stop J] ⟨[(4, .ep [L l 3 Sp.d]), (7, .bp 0 0), (8, .bp 1 0), (9, .bp 2 0), (10, .ep [flD k n l]), (11, .own [I x, I y, I z])], hU a es i q⟩ =
  (At (EnX [7, 8, 9] Tryd.f36) K [It.code [1, 1, 1, 1, 0, 1, 0, 1, 0, 1, 0, 1, 0], It.blk 2, It.code [1, 1, 1, 1, 0, 1, 0, 1, 0, 1, 1], It.blk 1, It.stop J] { sl := [(4, D.ep [L l 3 Sp.d]), (7, D.bp 0 0), (8, D.bp 1 0), (9, D.bp 2 0), (10, D.ep [flD k n l]), (11, .own [I x, I y, I z]), (12, I 0), (13, I i)], h := { box := upd (upd (upd (fun _ => none) 0 (some (Row.litT TB [a, D.bv TU 0 (List.length es)]))) 1 (some (Row.lit [I i]))) 2 (some (Row.lit [I q])), nl := 4, hw := upd (fun _ => none) 0 (some (List.length es)), nt := 1, vw := upd (fun _ => none) 0 (some (cv es encB)) : Heap } : St }) := by kernel_rfl
def SBu (l : List Sp) (k : Int) (n : Ln) (a : D) (es : Str) (i q x y z m j : Int) : St := ⟨[(4, .ep [L l 3 Sp.d]), (7, .bp 0 0), (8, .bp 1 0), (9, .bp 2 0), (10, .ep [flD k n l]), (11, .own [I x, I y, I z]), (12, I m), (13, I j)], hU a es i q⟩
noncomputable def lvU2 : List (List Nat × List Nat) := lv36 ++ [([1, 1, 1, 1, 0, 1, 0, 1, 0, 1, 1, 1, 1, 1], [7, 12])]
noncomputable def nBu2s (l : List Sp) (k : Int) (n : Ln) (a : D) (es : Str) (i : Int) (q : Int) : List Nat → Nat → Option Ans := scrAt [([1, 1, 1, 1, 0, 1, 0, 1, 0, 1, 1, 1, 0], 1, Ans.eff (.tup []) (hU (flA a q) (es ++ flT k n.base l i q) i 0))]
theorem nBu2 [Lay] (l : List Sp) (k : Int) (n : Ln) (a : D) (es : Str) (i q x y z m j : Int) (J J2 : St → Prop) (K : St → Prop) : runS (EnX [7, 8, 9] Tryd.f36) K (nBu2s l k n a es i q) lvU2 200 [.code [1, 1, 1, 1, 0, 1, 0, 1, 0, 1, 0, 1, 0, 0], stp [4, 7, 8, 9, 10, 11, 12, 13] J, .blk 2, .code [1, 1, 1, 1, 0, 1, 0, 1, 0, 1, 1], .blk 1, .stop J2] (SBu l k n a es i q x y z m j) =
  (l.length ≤ lenM →
  (decide (addI .i64 j 1 < (↑l.length : Int)) = true → 0 ≤ addI .i64 j 1 ∧ addI .i64 j 1 < (↑l.length : Int)) ∧
    bif bif decide (addI .i64 j 1 < (↑l.length : Int)) then decide ((l.getD (addI .i64 j 1).toNat default).frm ≤ z) else false then J { sl := [(4, D.ep [L l 3 Sp.d]), (7, D.bp 0 0), (8, D.bp 1 0), (9, D.bp 2 0), (10, D.ep [flD k n l]), (11, .own [I x, I y, I z]), (12, I (addI .i64 m 1)), (13, I (addI .i64 j 1))], h := { box := upd (upd (upd (fun _ => none) 0 (some (Row.litT TB [a, D.bv TU 0 (List.length es)]))) 1 (some (Row.lit [I i]))) 2 (some (Row.lit [I q])), nl := 4, hw := upd (fun _ => none) 0 (some (List.length es)), nt := 1, vw := upd (fun _ => none) 0 (some (cv es encB)) : Heap } : St }
    else
      bif m == 0 then True ∧ J2 { sl := [(42, I (addI .i64 q 1)), (41, I q), (40, B (m == 0)), (39, I m), (34, B (bif decide (addI .i64 j 1 < (↑l.length : Int)) then decide ((l.getD (addI .i64 j 1).toNat default).frm ≤ z) else false)), (24, B (decide (addI .i64 j 1 < (↑l.length : Int)))), (23, B (decide (addI .i64 j 1 < (↑l.length : Int)))), (22, I (↑l.length : Int)), (21, L l 3 Sp.d), (20, I (addI .i64 j 1)), (19, I j), (4, D.ep [L l 3 Sp.d]), (7, D.bp 0 0), (8, D.bp 1 0), (9, D.bp 2 0), (10, D.ep [flD k n l]), (11, .own [I x, I y, I z]), (12, I m), (13, I j)], h := { box := upd (upd (upd (upd (fun _ => none) 0 (some (Row.litT TB [a, D.bv TU 0 (List.length es)]))) 1 (some (Row.lit [I i]))) 2 (some (Row.lit [I q]))) 2 (some (Row.lit [I (addI .i64 q 1)])), nl := 4, hw := upd (fun _ => none) 0 (some (List.length es)), nt := 1, vw := upd (fun _ => none) 0 (some (cv es encB)) : Heap } : St }
      else Does PP 63 [D.bp 2 0, D.bp 0 0, D.ep [txD k n], D.ep [L l 3 Sp.d], D.bp 1 0] { box := upd (upd (upd (fun _ => none) 0 (some (Row.litT TB [a, D.bv TU 0 (List.length es)]))) 1 (some (Row.lit [I i]))) 2 (some (Row.lit [I q])), nl := 4, hw := upd (fun _ => none) 0 (some (List.length es)), nt := 1, vw := upd (fun _ => none) 0 (some (cv es encB)) : Heap } (.tup []) (hU (flA a q) (es ++ flT k n.base l i q) i 0) ∧ True ∧ At (EnX [7, 8, 9] Tryd.f36) K [It.code [1, 1, 1, 1, 0, 1, 0, 1, 0, 1, 1, 1, 1, 1], It.blk 1, It.stop J2] { sl := [(7, D.bp 0 0), (12, I m)], h := { box := upd (upd (upd (upd (fun _ => none) 0 (some (Row.litT TB [flA a q, D.bv TU 0 (List.length (es ++ flT k n.base l i q))]))) 1 (some (Row.lit [I i]))) 2 (some (Row.lit [I 0]))) 1 (some (Row.lit [I (addI .i64 i m)])), nl := 4, hw := upd (fun _ => none) 0 (some (List.length (es ++ flT k n.base l i q))), nt := 1, vw := upd (fun _ => none) 0 (some (cv (es ++ flT k n.base l i q) encB)) : Heap } : St }) := by kernel_rfl
noncomputable def nBu3s (es : Str) (i : Int) (q : Int) (m : Int) : List Nat → Nat → Option Ans := scrAt [([1, 1, 1, 1, 0, 1, 0, 1, 0, 1, 1, 1, 1, 1], 4, Ans.eff D.nili (hU (D.bp 0 0) (es ++ [{ data := #[124, 35] : ByteArray }.data.toList.getD (subI .i64 (if 2 < m then 2 else m) 1).toNat 0]) i q))]
theorem nBu3 [Lay] (a : D) (es : Str) (i q m : Int) (J2 : St → Prop) (K : St → Prop) : runS (EnX [7, 8, 9] Tryd.f36) K (nBu3s es i q m) lv36 200 [.code [1, 1, 1, 1, 0, 1, 0, 1, 0, 1, 1, 1, 1, 1], .blk 1, .stop J2] ⟨[(7, .bp 0 0), (12, I m)], hU a es i q⟩ =
  ((0 ≤ subI .i64 (if 2 < m then 2 else m) 1 ∧ subI .i64 (if 2 < m then 2 else m) 1 < (↑2 : Int)) ∧ Does PP 21 [D.bp 0 0, D.int IntKind.u8 (↑({ data := #[124, 35] : ByteArray }.data.toList.getD (subI .i64 (if 2 < m then 2 else m) 1).toNat 0).toNat : Int)] { box := upd (upd (upd (fun _ => none) 0 (some (Row.litT TB [a, D.bv TU 0 (List.length es)]))) 1 (some (Row.lit [I i]))) 2 (some (Row.lit [I q])), nl := 4, hw := upd (fun _ => none) 0 (some (List.length es)), nt := 1, vw := upd (fun _ => none) 0 (some (cv es encB)) : Heap } D.nili (hU (D.bp 0 0) (es ++ [{ data := #[124, 35] : ByteArray }.data.toList.getD (subI .i64 (if 2 < m then 2 else m) 1).toNat 0]) i q) ∧ J2 { sl := [(52, D.nili), (51, D.int IntKind.u8 (↑({ data := #[124, 35] : ByteArray }.data.toList.getD (subI .i64 (if 2 < m then 2 else m) 1).toNat 0).toNat : Int)), (50, I (subI .i64 (if 2 < m then 2 else m) 1)), (49, I (if 2 < m then 2 else m)), (48, I m), (7, D.bp 0 0), (12, I m)], h := { box := upd (upd (upd (fun _ => none) 0 (some (Row.litT TB [D.bp 0 0, D.bv TU 0 (List.length (es ++ [{ data := #[124, 35] : ByteArray }.data.toList.getD (subI .i64 (if 2 < m then 2 else m) 1).toNat 0]))]))) 1 (some (Row.lit [I i]))) 2 (some (Row.lit [I q])), nl := 4, hw := upd (fun _ => none) 0 (some (List.length (es ++ [{ data := #[124, 35] : ByteArray }.data.toList.getD (subI .i64 (if 2 < m then 2 else m) 1).toNat 0]))), nt := 1, vw := upd (fun _ => none) 0 (some (cv (es ++ [{ data := #[124, 35] : ByteArray }.data.toList.getD (subI .i64 (if 2 < m then 2 else m) 1).toNat 0]) encB)) : Heap } : St }) := by kernel_rfl
noncomputable def nBuZs (l : List Sp) (k : Int) (n : Ln) (a : D) (es : Str) (i : Int) (q : Int) : List Nat → Nat → Option Ans := scrAt [([1, 1, 1, 1, 1, 0], 1, Ans.eff (.tup []) (hU (flA a q) (es ++ flT k n.base l i q) i 0)), ([1, 1, 1, 1, 1, 1, 0], 0, Ans.eff (.str (es ++ flT k n.base l i q)) (hUz i 0))]
theorem nBuZ [Lay] (l : List Sp) (k : Int) (n : Ln) (a : D) (es : Str) (i q : Int) (K : D → Heap → Prop) : runS (EnX [7, 8, 9] Tryd.f36) (fh Tryd.f36 K) (nBuZs l k n a es i q) lv36 200 [.code [1, 1, 1, 1, 1]] ⟨[(7, .bp 0 0), (10, .ep [flD k n l])], hU a es i q⟩ =
  (Does PP 63 [D.bp 2 0, D.bp 0 0, D.ep [txD k n], D.ep [L l 3 Sp.d], D.bp 1 0] { box := upd (upd (upd (fun _ => none) 0 (some (Row.litT TB [a, D.bv TU 0 (List.length es)]))) 1 (some (Row.lit [I i]))) 2 (some (Row.lit [I q])), nl := 4, hw := upd (fun _ => none) 0 (some (List.length es)), nt := 1, vw := upd (fun _ => none) 0 (some (cv es encB)) : Heap } (.tup []) (hU (flA a q) (es ++ flT k n.base l i q) i 0) ∧ Does PP 23 [D.bp 0 0] { box := upd (upd (upd (fun _ => none) 0 (some (Row.litT TB [flA a q, D.bv TU 0 (List.length (es ++ flT k n.base l i q))]))) 1 (some (Row.lit [I i]))) 2 (some (Row.lit [I 0])), nl := 4, hw := upd (fun _ => none) 0 (some (List.length (es ++ flT k n.base l i q))), nt := 1, vw := upd (fun _ => none) 0 (some (cv (es ++ flT k n.base l i q) encB)) : Heap } (.str (es ++ flT k n.base l i q)) (hUz i 0) ∧ K (.str (es ++ flT k n.base l i q)) { box := upd (upd (fun _ => none) 1 (some (Row.lit [I i]))) 2 (some (Row.lit [I 0])), nl := 4, hw := fun _ => none, nt := 1, vw := fun _ => none : Heap }) := by kernel_rfl
noncomputable abbrev buE : Env := EnX [7, 8, 9] Tryd.f36
abbrev buP : List Nat := [1, 1, 1, 1, 0, 1, 0]
abbrev buSl (k : Int) (n : Ln) (l : List Sp) : Slots := [(4, .ep [L l 3 Sp.d]), (7, .bp 0 0), (8, .bp 1 0), (9, .bp 2 0), (10, .ep [flD k n l])]
noncomputable abbrev buQ (k : Int) (n : Ln) (l : List Sp) : RecD := recAt buE buP (buSl k n l)
/-- In a round, with the loop's record. -/
def hUL (a : D) (es : Str) (i q : Int) (r : RecD) : Heap := ⟨upd (upd (upd (upd (fun _ => none) 0 (some (.litT TB [a, .bv TU 0 es.length]))) 1 (some (.lit [I i]))) 2 (some (.lit [I q]))) 3 (some (.loop r none)), 4, upd (fun _ => none) 0 (some es.length), 1, upd (fun _ => none) 0 (some (cv es encB))⟩
theorem hUL_off {a : D} {es : Str} {i q : Int} {r : RecD} : hOff (hUL a es i q r) 3 = hU a es i q := by
  have : upd (hUL a es i q r).box 3 none = (hU a es i q).box := by
    funext k; rcases k with _ | _ | _ | _ | k <;> rfl
  unfold hOff
  rw [this]; rfl
theorem hUL_on {a : D} {es : Str} {i q : Int} {r : RecD} : hOn (hU a es i q) 3 r none = hUL a es i q r := rfl
/-- A column: what has been written, the quiet columns that wait. -/
def busStep (tx : Str → Str) (v : Str) (c : List Chg) (x y : Int) (p : Str × Nat) : Str × Nat :=
  if nLe c y - nLe c (x - 1) = 0 then (p.1, p.2 + 1) else (p.1 ++ flS tx v c (nLe c (x - 1)) p.2 ++ [busCh (nLe c y - nLe c (x - 1))], 0)
def busSt (tx : Str → Str) (v : Str) (c : List Chg) (stp fin frm : Int) : Nat → Str × Nat
  | 0 => ([], 0)
  | j + 1 => busStep tx v c (frm + (j : Int) * stp) (hiC (frm + (j : Int) * stp) stp fin) (busSt tx v c stp fin frm j)
theorem flS_len (tx : Str → Str) (v : Str) (c : List Chg) (i q : Nat) : (flS tx v c i q).length = q := by
  unfold flS
  split
  · rename_i h; exact fitS_len _ h
  · simp; omega
theorem busSt_len (tx : Str → Str) (v : Str) (c : List Chg) (stp fin frm : Int) : ∀ j : Nat, (busSt tx v c stp fin frm j).1.length + (busSt tx v c stp fin frm j).2 = j
  | 0 => rfl
  | j + 1 => by
    have ih := busSt_len tx v c stp fin frm j
    rw [busSt, busStep]
    split
    · simp only; omega
    · simp only [List.length_append, flS_len, List.length_singleton]; omega
theorem busSt_busS (tx : Str → Str) (v : Str) {c : List Chg} {stp fin frm : Int} (h1 : 1 ≤ stp) (hlf : ∀ x ∈ c, x.time ≤ fin) (h0 : nLe c (frm - 1) = 0) (K : Nat) : ∀ j : Nat, j ≤ nCol stp fin K frm →
    busS tx v c stp fin K frm 0 0 = (busSt tx v c stp fin frm j).1 ++ busS tx v c stp fin (K - j) (frm + (j : Int) * stp) (nLe c (frm + (j : Int) * stp - 1)) (busSt tx v c stp fin frm j).2
  | 0, _ => by
    have : frm + ((0 : Nat) : Int) * stp = frm := by simp
    rw [this, h0]; rfl
  | j + 1, h => by
    rw [busSt_busS tx v h1 hlf h0 K j (by omega)]
    have hin := nCol_in stp fin K frm j (by omega)
    have hle := nCol_le stp fin K frm
    obtain ⟨m, hm⟩ : ∃ m, K - j = m + 1 := ⟨K - j - 1, by omega⟩
    have hm2 : K - (j + 1) = m := by omega
    rw [hm, hm2, busS, if_neg (by omega)]
    have hx : frm + ((j + 1 : Nat) : Int) * stp = frm + (j : Int) * stp + stp := by rw [mulS]; omega
    have hn : nLe c (frm + ((j + 1 : Nat) : Int) * stp - 1) = nLe c (hiC (frm + (j : Int) * stp) stp fin) := by
      rw [hx]
      by_cases hb : frm + (j : Int) * stp + stp - 1 ≤ fin
      · have : hiC (frm + (j : Int) * stp) stp fin = frm + (j : Int) * stp + stp - 1 := by unfold hiC; omega
        rw [this]
      · have : hiC (frm + (j : Int) * stp) stp fin = fin := by unfold hiC; omega
        rw [this, nLe_all hlf, nLe_all fun x hx => by have := hlf x hx; omega]
    rw [hn, hx, busSt, busStep]
    by_cases hz : nLe c (hiC (frm + (j : Int) * stp) stp fin) - nLe c (frm + (j : Int) * stp - 1) = 0
    · rw [if_pos hz, if_pos hz]
      have hmm := nLe_mono c (show frm + (j : Int) * stp - 1 ≤ hiC (frm + (j : Int) * stp) stp fin by unfold hiC; omega)
      rw [show nLe c (hiC (frm + (j : Int) * stp) stp fin) = nLe c (frm + (j : Int) * stp - 1) by omega]
    · rw [if_neg hz, if_neg hz]
      simp [List.append_assoc]
theorem aOf_fl (k : Int) (n : Ln) (l : List Sp) (es : Str) (i : Int) (q : Nat) : flA (aOf es) q = aOf (es ++ flT k n.base l i q) := by
  unfold flA flT
  by_cases h : 0 < (q : Int)
  · rw [if_pos h, if_pos h]
    unfold aOf
    rw [if_neg]
    intro h0
    have := fitS_len (txF k n.base (l.getD i.toNat default).val) (n := (q : Int).toNat) (by omega)
    rw [(List.append_eq_nil_iff.1 h0).2] at this
    simp only [List.length_nil] at this
    omega
  · rw [if_neg h, if_neg h, List.append_nil]
theorem buY [Lay] {c : List Chg} {frm til : Int} (hi : Inc frm c) (v : Str) (hlen : c.length ≤ 900) (k : Int) (n : Ln) (hcv : ∀ i, i ≤ c.length → (curV v c i).length ≤ 1000000 ∧ (txF k n.base (curV v c i)).length ≤ 1000000) (j x y : Int) (p : Str × Nat) (hes : p.1.length ≤ 300) (hq : p.2 ≤ 300) (hxy : x ≤ y) (K : D → Heap → Prop)
    (hk : K (.bool true) (hUL (aOf (busStep (txF k n.base) v c x y p).1) (busStep (txF k n.base) v c x y p).1 (nLe c y : Nat) ((busStep (txF k n.base) v c x y p).2 : Nat) (buQ k n (spS frm v til c)))) :
    CallY PP 3 [.agg [I j, I x, I y]] (hUL (aOf p.1) p.1 (nLe c (x - 1) : Nat) (p.2 : Nat) (buQ k n (spS frm v til c))) K := by
  refine callY_of (E := buE) (p := buP) (sl := buSl k n (spS frm v til c)) (by kernel_rfl) rfl (by kernel_rfl) (by kernel_rfl) ?_
  rw [hUL_off]
  generalize hl : spS frm v til c = l at *
  have hll : l.length = c.length + 1 := by rw [← hl, spS_len]
  obtain ⟨es, q⟩ := p
  simp only at hes hq hk ⊢
  refine at_le (st' := ⟨[(4, .ep [L l 3 Sp.d]), (7, .bp 0 0), (8, .bp 1 0), (9, .bp 2 0), (10, .ep [flD k n l]), (17, .agg [I j, I x, I y])], hU (aOf es) es (nLe c (x - 1) : Nat) (q : Nat)⟩) (runS_sound hmix _ _ _ (of_eq (nBu0 l k n (aOf es) es _ q j x y _ _) ⟨trivial, ?_⟩)) (keepSt_le _ [4, 7, 8, 9, 10, 17] _)
  refine at_le (st' := ⟨[(4, .ep [L l 3 Sp.d]), (7, .bp 0 0), (8, .bp 1 0), (9, .bp 2 0), (10, .ep [flD k n l]), (11, .own [I j, I x, I y])], hU (aOf es) es (nLe c (x - 1) : Nat) (q : Nat)⟩) ?_ (keepSt_le _ [4, 7, 8, 9, 10, 11] _)
  refine runS_sound hmix _ _ _ (of_eq (nBu1 l k n (aOf es) es _ q j x y _ _) ?_)
  have hm1 := nLe_mono c (show x - 1 ≤ y by omega)
  have hly := nLe_le c y
  refine lp (fn := Tryd.f36) (fun z : Nat × Nat => nLe c (x - 1) ≤ z.1 ∧ z.1 ≤ nLe c y ∧ z.2 = z.1 - nLe c (x - 1)) (fun z => SBu l k n (aOf es) es (nLe c (x - 1) : Nat) q j x y z.2 z.1) (fun z => nLe c y - z.1) [4, 7, 8, 9, 10, 11, 12, 13] (by kernel_rfl) (fun z hz => of_eq (nBu2 l k n (aOf es) es (nLe c (x - 1) : Nat) q j x y z.2 z.1 _ _ _) fun hlm => ?_) (nLe c (x - 1), 0) ⟨Nat.le_refl _, hm1, by simp⟩
  obtain ⟨i, m⟩ := z
  obtain ⟨h1, h2, h3⟩ := hz
  simp only at h1 h2 h3 ⊢
  rw [add64 (a := (i : Int)) (b := 1) (by omega) (by omega), show ((i : Int) + 1) = ((i + 1 : Nat) : Int) from rfl, Int.toNat_natCast]
  have hfr := sp_frm hi v (til := til) (y := y) i
  rw [hl] at hfr
  have hc : (bif decide (((i + 1 : Nat) : Int) < (l.length : Int)) then decide ((l.getD (i + 1) default).frm ≤ y) else false) = decide (i < nLe c y) := by
    rw [Bool.eq_iff_iff, decide_eq_true_iff, ← hfr]
    by_cases hlt : i + 1 < l.length
    · rw [decide_eq_true (show ((i + 1 : Nat) : Int) < (l.length : Int) by omega)]; simp [hlt]
    · rw [decide_eq_false (show ¬ ((i + 1 : Nat) : Int) < (l.length : Int) by omega)]; simp [hlt]
  rw [hc]
  refine ⟨fun h => ⟨by omega, of_decide_eq_true h⟩, cond_intro (fun h => ?_) fun h => ?_⟩
  · have h := of_decide_eq_true h
    have hn1 : addI .i64 (m : Int) 1 = ((m + 1 : Nat) : Int) := by rw [add64 (by omega) (by omega)]; rfl
    rw [hn1]
    exact Nx.mk (i + 1, m + 1) ⟨by simp only; omega, h, by simp only; omega⟩ (by simp only; omega)
  have h := of_decide_eq_false h
  have hie : i = nLe c y := by omega
  subst hie
  have hv1 := sp_val (frm := frm) (til := til) v (c := c) (i := nLe c (x - 1)) (by omega)
  rw [hl] at hv1
  have hfl : flT k n.base l (nLe c (x - 1) : Nat) (q : Nat) = flS (txF k n.base) v c (nLe c (x - 1)) q := by
    unfold flT flS
    rw [Int.toNat_natCast, Int.toNat_natCast, hv1]
    by_cases h0 : 0 < q
    · rw [if_pos h0, if_pos (by omega)]
    · rw [if_neg h0, if_neg (by omega)]
  unfold busStep at hk
  simp only at hk
  refine cond_intro (fun h0 => ⟨trivial, ?_⟩) fun h0 => ?_
  · have h0 : m = 0 := by simpa using h0
    have hn1 : addI .i64 (q : Int) 1 = ((q + 1 : Nat) : Int) := by rw [add64 (by omega) (by omega)]; rfl
    have hz : nLe c y - nLe c (x - 1) = 0 := by omega
    rw [if_pos hz] at hk
    simp only at hk
    rw [hn1, upd_upd, show nLe c (x - 1) = nLe c y by omega]
    exact hk
  have h0 : ¬ m = 0 := by simpa using h0
  have hz : ¬ nLe c y - nLe c (x - 1) = 0 := by omega
  rw [if_neg hz] at hk
  simp only at hk
  obtain ⟨b1, b2⟩ := hcv (nLe c (x - 1)) (by omega)
  refine ⟨e63 (aOf es) (aOf_or es) es (nLe c (x - 1) : Nat) q k n l ⟨by omega, by omega⟩ (by omega) (by omega) (by rw [Int.toNat_natCast, hv1]; exact b1) (by rw [Int.toNat_natCast, hv1]; exact b2), trivial, ?_⟩
  rw [aOf_fl k n l es (nLe c (x - 1) : Nat) q, hfl]
  generalize hE : es ++ flS (txF k n.base) v c (nLe c (x - 1)) q = E
  have hEl : E.length ≤ 600 := by rw [← hE, List.length_append, flS_len]; omega
  have hadd : addI .i64 (nLe c (x - 1) : Int) (m : Int) = ((nLe c y : Nat) : Int) := by rw [add64 (by omega) (by omega)]; omega
  refine at_le (st' := ⟨[(7, .bp 0 0), (12, I m)], hU (aOf E) E (nLe c y : Nat) 0⟩) ?_ (StLe.heap (hp_eq (fun k => by rcases k with _ | _ | _ | k <;> first | rfl | (rw [hadd]; rfl)) rfl rfl))
  refine runS_sound hmix _ _ _ (of_eq (nBu3 (aOf E) E (nLe c y : Nat) 0 m _ _) ?_)
  have hsub : subI .i64 (if 2 < (m : Int) then 2 else (m : Int)) 1 = if m = 1 then 0 else 1 := by
    by_cases h5 : m = 1
    · subst h5; rfl
    · rw [if_neg h5]
      by_cases h6 : 2 < (m : Int)
      · rw [if_pos h6]; rfl
      · have : m = 2 := by omega
        subst this; rfl
  have hch : ({ data := #[124, 35] : ByteArray }.data.toList.getD (subI .i64 (if 2 < (m : Int) then 2 else (m : Int)) 1).toNat 0) = busCh m := by
    rw [hsub]
    unfold busCh
    by_cases h5 : m = 1
    · rw [if_pos h5, if_pos h5]; rfl
    · rw [if_neg h5, if_neg h5]; rfl
  rw [hch]
  refine ⟨by rw [hsub]; constructor <;> split <;> decide, eWBU (aOf E) (aOf_or E) E _ _ _ (by omega), ?_⟩
  have hmz : nLe c y - nLe c (x - 1) = m := by omega
  rw [hE, hmz, aOf_snoc] at hk
  exact hk
theorem c36 [Lay] (frm stp cols fin : Int) (h1 : 0 ≤ frm ∧ frm ≤ fin) (h2 : 1 ≤ stp ∧ stp ≤ 1099511627776) (h3 : 1 ≤ cols ∧ cols ≤ 200) (h4 : fin ≤ 1099511627776) (v : Str) (c : List Chg) (hlen : c.length ≤ 900) (hi : Inc frm c) (hlf : ∀ x ∈ c, x.time ≤ lastC frm stp cols fin)
    (k : Int) (n : Ln) (hcv : ∀ i, i ≤ c.length → (curV v c i).length ≤ 1000000 ∧ (txF k n.base (curV v c i)).length ≤ 1000000) :
    Pure PP 36 [.agg [I frm, I stp, I cols, I fin], L (spS frm v (lastC frm stp cols fin) c) 3 Sp.d, .clo 37 [.ep [I k], .ep [I n.sig, .str n.lab, I n.base]]] (.str (busS (txF k n.base) v c stp fin cols.toNat frm 0 0)) := by
  have hlf2 : ∀ x ∈ c, x.time ≤ fin := fun x hx => by have := hlf x hx; unfold lastC at this; omega
  have h00 : nLe c (frm - 1) = 0 := nLe_zero fun x hx => by have := hi.gt x hx; omega
  refine pr F36 (by kernel_rfl) (of_eq (nBuA frm stp cols fin (spS frm v (lastC frm stp cols fin) c) k n _) ⟨trivial, trivial, trivial, trivial, trivial, ?_⟩)
  refine at_le (st' := ⟨[(3, .own [I frm, I stp, I cols, I fin]), (4, .ep [L (spS frm v (lastC frm stp cols fin) c) 3 Sp.d]), (5, .ep [txD k n]), (7, .bp 0 0), (8, .bp 1 0), (9, .bp 2 0)], hU3 .nilp [] 0 0⟩) ?_
    ((((StLe.layOwn 4 rfl (by kernel_rfl)).trans (StLe.layOwn 5 rfl (by kernel_rfl))).trans (StLe.idleBoxT _ 0 1 TU TB (cv ([] : Str) encB) rfl rfl)).trans (StLe.heap (hp_eq (fun k => by rcases k with _ | _ | _ | k <;> rfl) rfl rfl)))
  refine runS_sound hmix _ _ _ (of_eq (nBuB frm stp cols fin (spS frm v (lastC frm stp cols fin) c) k n [] 0 0 _) ⟨trivial, ?_⟩)
  refine at_le (st' := ⟨[(4, .ep [L (spS frm v (lastC frm stp cols fin) c) 3 Sp.d]), (7, .bp 0 0), (8, .bp 1 0), (9, .bp 2 0), (10, .ep [flD k n (spS frm v (lastC frm stp cols fin) c)]), (16, .mv 59 [.agg [I frm, I stp, I cols, I fin]])], hU3 .nilp [] 0 0⟩) ?_
    ((StLe.layOwn 10 rfl (by kernel_rfl)).trans (keepSt_le _ [4, 7, 8, 9, 10, 16] _))
  refine at_rangeM (E := buE) (p := buP) (by kernel_rfl) (f := 59) (first := [.agg [I frm, I stp, I cols, I fin]]) (by kernel_rfl) [4, 7, 8, 9, 10] ?_
  generalize hm : nCol stp fin cols.toNat frm = m
  have hmle := nCol_le stp fin cols.toNat frm
  generalize htx : txF k n.base = tx at *
  have hS := busSt_busS tx v (frm := frm) h2.1 hlf2 h00 cols.toNat m (by omega)
  have hall := allCall frm stp cols fin 3 (fun j => hUL (aOf (busSt tx v c stp fin frm j).1) (busSt tx v c stp fin frm j).1 (nLe c (frm + (j : Int) * stp - 1) : Nat) ((busSt tx v c stp fin frm j).2 : Nat) (buQ k n (spS frm v (lastC frm stp cols fin) c))) ⟨h1.1, by omega⟩ h2 ⟨by omega, h3.2⟩ ⟨by omega, h4⟩ (fun j K hj hK => by
    have hin := nCol_in stp fin cols.toNat frm j hj
    rw [hm] at hj
    have hjc : ((j + 1 : Nat) : Int) * stp ≤ cols * stp := Int.mul_le_mul_of_nonneg_right (by omega) (by omega)
    rw [mulS] at hjc
    have hbl := busSt_len tx v c stp fin frm j
    refine buY hi v hlen k n (by rw [htx]; exact hcv) _ _ _ (busSt tx v c stp fin frm j) (by omega) (by omega) (by unfold hiC; omega) K ?_
    rw [htx]
    have hn : nLe c (frm + ((j + 1 : Nat) : Int) * stp - 1) = nLe c (hiC (frm + (j : Int) * stp) stp fin) := by
      rw [mulS]
      by_cases hb : frm + (j : Int) * stp + stp - 1 ≤ fin
      · have : hiC (frm + (j : Int) * stp) stp fin = frm + ((j : Int) * stp + stp) - 1 := by unfold hiC; omega
        rw [this]
      · have : hiC (frm + (j : Int) * stp) stp fin = fin := by unfold hiC; omega
        rw [this, nLe_all hlf2, nLe_all fun x hx => by have := hlf2 x hx; omega]
    simp only [hn] at hK
    exact hK)
  rw [hm] at hall
  have e0 : hUL (aOf (busSt tx v c stp fin frm 0).1) (busSt tx v c stp fin frm 0).1 (nLe c (frm + ((0 : Nat) : Int) * stp - 1) : Nat) ((busSt tx v c stp fin frm 0).2 : Nat) (buQ k n (spS frm v (lastC frm stp cols fin) c)) = hUL .nilp [] 0 0 (buQ k n (spS frm v (lastC frm stp cols fin) c)) := by
    have : nLe c (frm + ((0 : Nat) : Int) * stp - 1) = 0 := by simp; exact h00
    rw [this]; rfl
  simp only [e0] at hall
  refine CallA.mono hall fun _ h hh => .inl ?_
  subst hh
  refine ⟨rfl, ?_⟩
  have hbl := busSt_len tx v c stp fin frm m
  have hm0 : 0 < m := by
    rw [← hm]
    rcases nCol_end stp fin cols.toNat frm with h | h
    · omega
    · rcases Nat.eq_zero_or_pos (nCol stp fin cols.toNat frm) with h0 | h0
      · rw [h0] at h; simp at h; omega
      · exact h0
  have hend : busS tx v c stp fin (cols.toNat - m) (frm + (m : Int) * stp) (nLe c (frm + (m : Int) * stp - 1)) (busSt tx v c stp fin frm m).2 = flS tx v c (nLe c (frm + (m : Int) * stp - 1)) (busSt tx v c stp fin frm m).2 := by
    rcases nCol_end stp fin cols.toNat frm with h | h
    · rw [show cols.toNat - m = 0 by omega, busS]
    · rw [hm] at h
      cases hk : cols.toNat - m with
      | zero => rw [busS]
      | succ r => rw [busS, if_pos h]
  rw [hend] at hS
  rw [hS]
  generalize busSt tx v c stp fin frm m = z at hbl ⊢
  obtain ⟨es, q⟩ := z
  simp only at hbl ⊢
  generalize hii : nLe c (frm + (m : Int) * stp - 1) = i
  have hic : i ≤ c.length := by rw [← hii]; exact nLe_le _ _
  have hv1 := sp_val (frm := frm) (til := lastC frm stp cols fin) v (c := c) (i := i) hic
  obtain ⟨b1, b2⟩ := hcv i hic
  generalize hl : spS frm v (lastC frm stp cols fin) c = l at hv1 ⊢
  have hll : l.length = c.length + 1 := by rw [← hl, spS_len]
  have hfl : flT k n.base l (i : Nat) (q : Nat) = flS tx v c i q := by
    unfold flT flS
    rw [Int.toNat_natCast, Int.toNat_natCast, hv1, htx]
    by_cases h0 : 0 < q
    · rw [if_pos h0, if_pos (by omega)]
    · rw [if_neg h0, if_neg (by omega)]
  have hne : es ++ flS tx v c i q ≠ [] := by
    intro h0
    have h1 := congrArg List.length h0
    rw [List.length_append, flS_len] at h1
    simp only [List.length_nil] at h1
    omega
  refine (at_le (st' := ⟨[(7, .bp 0 0), (10, .ep [flD k n l])], hU (aOf es) es (i : Nat) (q : Nat)⟩) (runS_sound hmix _ _ _ (of_eq (nBuZ l k n (aOf es) es (i : Nat) (q : Nat) _) ?_)) ?_).it
  · rw [← hfl] at hne ⊢
    refine ⟨e63 (aOf es) (aOf_or es) es (i : Nat) q k n l ⟨by omega, by omega⟩ (by omega) (by omega) (by rw [Int.toNat_natCast, hv1]; exact b1) (by rw [Int.toNat_natCast, hv1, htx]; exact b2), ?_, _, RetLe.wk (Wk.refl _) rfl⟩
    exact eStrU _ (flA_or (aOf_or es) _) _ _ _ hne
  · show StLe _ ⟨_, hOff (hUL (aOf es) es (i : Nat) (q : Nat) (buQ k n l)) 3⟩ _
    rw [hUL_off]
    exact keepSt_le _ [7, 10] _
end Go.Proofs.YtpcbjkjgjoemaaaDoor.S1
/- Lines: the source's window; the arguments' check. -/
namespace Go.Proofs.YtpcbjkjgjoemaaaDoor.S1
open Go Go.Ab Go.Proofs
theorem F126 : OkF 126 Tryd.f126 := ⟨by kernel_rfl, by kernel_rfl, by kernel_rfl⟩
def lv126 : List (List Nat × List Nat) := [([1, 1, 1, 1, 0, 1, 0], [2, 3, 11, 44, 45, 46])]
noncomputable def nWis (w : Wv) (lim : Int) (c : Int) (sig : Int) : List Nat → Nat → Option Ans := scrAt [([1, 0, 0], 2, Ans.eff (I (callR w lim c sig)) (hM w lim (addI .i64 c 1)))]
theorem nWi [Lay] (w : Wv) (lim c sig a b : Int) (K : D → Heap → Prop) : runS (En Tryd.f126) (fh Tryd.f126 K) (nWis w lim c sig) lv126 200 [.code []] ⟨argSlots 0 [.bp 0 0, I sig, I a, I b], hM w lim c⟩ =
  (Does PP 127 [D.bp 0 0, I sig] { box := upd (fun _ => none) 0 (some (Row.lit [L w.sig 3 Sig.d, L w.gap 2 Iv.d, I w.fin, I lim, I c])), nl := 1, hw := fun _ => none, nt := 0, vw := fun _ => none : Heap } (I (callR w lim c sig)) (hM w lim (addI .i64 c 1)) ∧ bif callR w lim c sig != 0 then K (.tup [.list 0 0 (fun _ => D.junk) .full, I (callR w lim c sig)]) { box := upd (fun _ => none) 0 (some (Row.lit [L w.sig 3 Sig.d, L w.gap 2 Iv.d, I w.fin, I lim, I (addI .i64 c 1)])), nl := 1, hw := fun _ => none, nt := 0, vw := fun _ => none : Heap } else bif bif bif decide (a < 0) then true else decide (a > b) then true else decide (b > w.fin) then K (.tup [.list 0 0 (fun _ => D.junk) .full, I 2]) { box := upd (fun _ => none) 0 (some (Row.lit [L w.sig 3 Sig.d, L w.gap 2 Iv.d, I w.fin, I lim, I (addI .i64 c 1)])), nl := 1, hw := fun _ => none, nt := 0, vw := fun _ => none : Heap } else (0 ≤ sig ∧ sig < (↑w.sig.length : Int)) ∧ ((w.sig.getD sig.toNat default).chg.length ≤ lenM → At (En Tryd.f126) (fh Tryd.f126 K) [It.code [1, 1, 1, 1, 0, 1, 0], It.blk 0, It.code [1, 1, 1, 1, 1]] { sl := [(2, I a), (3, I b), (11, .list 0 0 (fun _ => D.junk) .full), (44, L (w.sig.getD sig.toNat default).chg 2 Chg.d), (45, I (↑(w.sig.getD sig.toNat default).chg.length : Int)), (46, I 0)], h := { box := upd (fun _ => none) 0 (some (Row.lit [L w.sig 3 Sig.d, L w.gap 2 Iv.d, I w.fin, I lim, I (addI .i64 c 1)])), nl := 1, hw := fun _ => none, nt := 0, vw := fun _ => none : Heap } : St })) := by kernel_rfl
def SWi (w : Wv) (lim c a b : Int) (out ls : List Chg) (i : Int) : St := ⟨[(2, I a), (3, I b), (11, LT out 2 Chg.d 0), (44, L ls 2 Chg.d), (45, I ls.length), (46, I i)], hT (hM w lim c) out.length⟩
noncomputable def nWias  : List Nat → Nat → Option Ans := scrAt []
theorem nWia [Lay] (w : Wv) (lim c a b : Int) (out ls : List Chg) (i : Int) (J : St → Prop) (K : D → Heap → Prop) : runS (En Tryd.f126) (fh Tryd.f126 K) (nWias ) lv126 200 [.code [1, 1, 1, 1, 0, 1, 0, 0], stp [2, 3, 11, 44, 45, 46] J, .blk 0, .code [1, 1, 1, 1, 1]] (SWi w lim c a b out ls i) =
  (bif decide (i < (↑ls.length : Int)) then (0 ≤ i ∧ i < (↑ls.length : Int)) ∧ True ∧ bif bif decide ((ls.getD i.toNat default).time ≥ a) then decide ((ls.getD i.toNat default).time ≤ b) else false then (upd (fun _ => none) 0 (some out.length) 0 = some out.length ∧ (out.length + 1) * 24 ≤ roomM) ∧ J { sl := [(2, I a), (3, I b), (11, .list (out.length + 1) 2 (catG out.length (fun i => (out.getD i default).d) (litG [.agg [I (ls.getD i.toNat default).time, .str (ls.getD i.toNat default).val]])) (.tok 0 2)), (44, L ls 2 Chg.d), (45, I (↑ls.length : Int)), (46, I (addI .i64 i 1))], h := { box := upd (fun _ => none) 0 (some (Row.lit [L w.sig 3 Sig.d, L w.gap 2 Iv.d, I w.fin, I lim, I c])), nl := 1, hw := upd (upd (fun _ => none) 0 (some out.length)) 0 (some (out.length + 1)), nt := 1, vw := fun _ => none : Heap } : St } else J { sl := [(2, I a), (3, I b), (11, .list out.length 2 (fun i => (out.getD i default).d) (.tok 0 2)), (44, L ls 2 Chg.d), (45, I (↑ls.length : Int)), (46, I (addI .i64 i 1))], h := { box := upd (fun _ => none) 0 (some (Row.lit [L w.sig 3 Sig.d, L w.gap 2 Iv.d, I w.fin, I lim, I c])), nl := 1, hw := upd (fun _ => none) 0 (some out.length), nt := 1, vw := fun _ => none : Heap } : St } else K (.tup [.list out.length 2 (fun i => (out.getD i default).d) (.tok 0 2), I 0]) { box := upd (fun _ => none) 0 (some (Row.lit [L w.sig 3 Sig.d, L w.gap 2 Iv.d, I w.fin, I lim, I c])), nl := 1, hw := upd (fun _ => none) 0 (some out.length), nt := 1, vw := fun _ => none : Heap }) := by kernel_rfl
theorem F31 : OkF 31 Tryd.f31 := ⟨by kernel_rfl, by kernel_rfl, by kernel_rfl⟩
def lv31 : List (List Nat × List Nat) := [([1, 1, 0, 1, 0], [0, 2, 22, 23, 24])]
noncomputable def nCks (stp : Int) (cols : Int) : List Nat → Nat → Option Ans := scrAt [([1, 0, 0], 2, Ans.pure [I stp, I cols] (B (szB stp cols)))]
theorem nCk [Lay] (w : Wv) (lim c : Int) (ls : List Ln) (a stp cols : Int) (K : D → Heap → Prop) : runS (En Tryd.f31) (fh Tryd.f31 K) (nCks stp cols) lv31 200 [.code []] ⟨argSlots 0 [memD, L ls 3 Ln.d, I a, I stp, I cols], hM w lim c⟩ =
  (PureW PP 44 [I stp, I cols] [I stp, I cols] (B (szB stp cols)) ∧ (((!!szB stp cols) = true → ls.length ≤ lenM) → bif bif !szB stp cols then true else decide ((↑ls.length : Int) > 64) then K (I 1) { box := upd (fun _ => none) 0 (some (Row.lit [L w.sig 3 Sig.d, L w.gap 2 Iv.d, I w.fin, I lim, I c])), nl := 1, hw := fun _ => none, nt := 0, vw := fun _ => none : Heap } else ls.length ≤ lenM → At (En Tryd.f31) (fh Tryd.f31 K) [It.code [1, 1, 0, 1, 0], It.blk 0, It.code [1, 1, 1]] { sl := [(0, memD), (2, I a), (22, L ls 3 Ln.d), (23, I (↑ls.length : Int)), (24, I 0)], h := { box := upd (fun _ => none) 0 (some (Row.lit [L w.sig 3 Sig.d, L w.gap 2 Iv.d, I w.fin, I lim, I c])), nl := 1, hw := fun _ => none, nt := 0, vw := fun _ => none : Heap } : St })) := by kernel_rfl
def SCk (w : Wv) (lim c : Int) (ls : List Ln) (a : Int) (i : Int) : St := ⟨[(0, memD), (2, I a), (22, L ls 3 Ln.d), (23, I ls.length), (24, I i)], hM w lim c⟩
noncomputable def nCkas (w : Wv) (lim : Int) (c : Int) (ls : List Ln) (i : Int) : List Nat → Nat → Option Ans := scrAt [([1, 1, 0, 1, 0, 0, 1, 1, 0, 0, 1, 0], 1, Ans.pure [(ls.getD i.toNat default).d] (B (lnB (ls.getD i.toNat default)))), ([1, 1, 1, 0, 0], 5, Ans.eff (I w.fin) (hM w lim c))]
theorem nCka [Lay] (w : Wv) (lim c : Int) (ls : List Ln) (a : Int) (i : Int) (J : St → Prop) (K : D → Heap → Prop) : runS (En Tryd.f31) (fh Tryd.f31 K) (nCkas w lim c ls i) lv31 200 [.code [1, 1, 0, 1, 0, 0], stp [0, 2, 22, 23, 24] J, .blk 0, .code [1, 1, 1]] (SCk w lim c ls a i) =
  (bif decide (i < (↑ls.length : Int)) then (0 ≤ i ∧ i < (↑ls.length : Int)) ∧ True ∧ PureW PP 58 [(ls.getD i.toNat default).d] [(ls.getD i.toNat default).d] (B (lnB (ls.getD i.toNat default))) ∧ bif !lnB (ls.getD i.toNat default) then K (I 1) { box := upd (fun _ => none) 0 (some (Row.lit [L w.sig 3 Sig.d, L w.gap 2 Iv.d, I w.fin, I lim, I c])), nl := 1, hw := fun _ => none, nt := 0, vw := fun _ => none : Heap } else J { sl := [(0, memD), (2, I a), (22, L ls 3 Ln.d), (23, I (↑ls.length : Int)), (24, I (addI .i64 i 1))], h := { box := upd (fun _ => none) 0 (some (Row.lit [L w.sig 3 Sig.d, L w.gap 2 Iv.d, I w.fin, I lim, I c])), nl := 1, hw := fun _ => none, nt := 0, vw := fun _ => none : Heap } : St }
 else bif !decide (a < 0) then Does PP 122 [D.bp 0 0] { box := upd (fun _ => none) 0 (some (Row.lit [L w.sig 3 Sig.d, L w.gap 2 Iv.d, I w.fin, I lim, I c])), nl := 1, hw := fun _ => none, nt := 0, vw := fun _ => none : Heap } (I w.fin) (hM w lim c) ∧ bif bif decide (a < 0) then true else decide (a > w.fin) then K (I 2) { box := upd (fun _ => none) 0 (some (Row.lit [L w.sig 3 Sig.d, L w.gap 2 Iv.d, I w.fin, I lim, I c])), nl := 1, hw := fun _ => none, nt := 0, vw := fun _ => none : Heap } else K (I 0) { box := upd (fun _ => none) 0 (some (Row.lit [L w.sig 3 Sig.d, L w.gap 2 Iv.d, I w.fin, I lim, I c])), nl := 1, hw := fun _ => none, nt := 0, vw := fun _ => none : Heap } else bif bif decide (a < 0) then true else decide (a > w.fin) then K (I 2) { box := upd (fun _ => none) 0 (some (Row.lit [L w.sig 3 Sig.d, L w.gap 2 Iv.d, I w.fin, I lim, I c])), nl := 1, hw := fun _ => none, nt := 0, vw := fun _ => none : Heap } else K (I 0) { box := upd (fun _ => none) 0 (some (Row.lit [L w.sig 3 Sig.d, L w.gap 2 Iv.d, I w.fin, I lim, I c])), nl := 1, hw := fun _ => none, nt := 0, vw := fun _ => none : Heap }) := by kernel_rfl
theorem hM_low (w : Wv) (lim c : Int) (nl nt : Nat) : LowH 1 0 ⟨(hM w lim c).box, nl, fun _ => none, nt, fun _ => none⟩ := by
  refine ⟨fun k row e => ?_, fun t n e => (by cases e), fun _ _ => rfl, fun t n f e => (by cases e)⟩
  rcases k with _ | k
  · cases e
    exact ⟨by omega, ⟨fun i _ => (inferInstance : DD (Sig.d (w.sig.getD i default))).p, fun i _ => (inferInstance : DD (Iv.d (w.gap.getD i default))).p, trivial, trivial, trivial, trivial⟩, rfl⟩
  · cases e
theorem forgetM [Lay] {f : Nat} {args : List D} {v : D} {w : Wv} {lim c c' : Int} {nl nt : Nat} (h : Does PP f args (hM w lim c) v ⟨(hM w lim c').box, nl, fun _ => none, nt, fun _ => none⟩) (h0 : RenOk v) (hv : ren (fbF 1 nl) (fbF 0 nt) v = v) : Does PP f args (hM w lim c) v (hM w lim c') :=
  Does.forget h (hM_low w lim c' nl nt) h0 hv
theorem heapM1 {w : Wv} {lim c : Int} {h : Heap} {nl nt : Nat} (hb : h.box 0 = some (memR w lim c)) (hn : h.nl ≤ nl) (ht : h.nt ≤ nt) : HeapLe h ⟨(hM w lim c).box, nl, fun _ => none, nt, fun _ => none⟩ := by
  refine ⟨fun l row' e => ?_, hn, fun t n e => (by cases e), ht, fun t n e => (by cases e), fun _ _ => rfl⟩
  rcases l with _ | l
  · cases e; exact ⟨_, hb, RowLe.refl _⟩
  · cases e
theorem eOfM [Lay] (w : Wv) (hq : ∀ q ∈ w.sig, q.chg.length ≤ 900 ∧ q.width ≤ 1000000 ∧ Inc (-1) q.chg) (lim c sig frm til : Int) : Does PP 34 [.iface 36 (.bp 0 0), I sig, I frm, I til] (hM w lim c) (.tup [L (ofR w lim c sig frm til).1 3 Sp.d, I (ofR w lim c sig frm til).2.1]) (hM w lim (ofR w lim c sig frm til).2.2) :=
  forgetM (nl := 4) (nt := 1) (e34 hq c) ⟨fun i _ => (inferInstance : DD (Sp.d ((ofR w lim c sig frm til).1.getD i default))).p, trivial, trivial⟩ rfl
/-- The changes from a to b. -/
def inR (l : List Chg) (a b : Int) : List Chg := l.filter fun x => decide (x.time ≥ a) && decide (x.time ≤ b)
def winR (w : Wv) (lim c sig a b : Int) : List Chg × Int := if callR w lim c sig ≠ 0 then ([], callR w lim c sig) else if a < 0 ∨ a > b ∨ b > w.fin then ([], 2) else (inR (sigOf w sig).chg a b, 0)
theorem e126 [Lay] (w : Wv) (hq : ∀ q ∈ w.sig, q.chg.length ≤ 900 ∧ q.width ≤ 1000000 ∧ Inc (-1) q.chg) (lim c sig a b : Int) : Does PP 126 [.bp 0 0, I sig, I a, I b] (hM w lim c) (.tup [L (winR w lim c sig a b).1 2 Chg.d, I (winR w lim c sig a b).2]) (hM w lim (addI .i64 c 1)) := by
  refine forgetM (nl := 1) (nt := 1) ?_ ⟨fun i _ => (inferInstance : DD (Chg.d ((winR w lim c sig a b).1.getD i default))).p, trivial, trivial⟩ rfl
  refine du F126 (by kernel_rfl) (of_eq (nWi w lim c sig a b _) ⟨e127 _ _ _ _, cond_intro (fun h => ?_) fun h => ?_⟩)
  · have h : callR w lim c sig ≠ 0 := by simpa using h
    rw [winR, if_pos h]
    exact RetLe.of (Wk.tup (Wks.cons Wk.nilL (Wks.refl _))) (heapM1 rfl (Nat.le_refl _) (Nat.zero_le _))
  have hc := callR_in h
  have h0 : ¬ callR w lim c sig ≠ 0 := by simpa using h
  rw [winR, if_neg h0]
  have hcc : (bif bif decide (a < 0) then true else decide (a > b) then true else decide (b > w.fin)) = decide (a < 0 ∨ a > b ∨ b > w.fin) := by
    rw [Bool.eq_iff_iff]; simp [or_assoc]
  rw [hcc]
  refine cond_intro (fun h1 => ?_) fun h1 => ⟨⟨hc.2.1, hc.2.2⟩, fun hl => ?_⟩
  · rw [if_pos (of_decide_eq_true h1)]
    exact RetLe.of (Wk.tup (Wks.cons Wk.nilL (Wks.refl _))) (heapM1 rfl (Nat.le_refl _) (Nat.zero_le _))
  rw [if_neg (of_decide_eq_false h1)]
  have hlq : (sigOf w sig).chg.length ≤ 900 := by
    refine (hq _ ?_).1
    have : sig.toNat < w.sig.length := by omega
    unfold sigOf
    rw [List.getD_eq_getElem?_getD, List.getElem?_eq_getElem this]
    exact List.getElem_mem this
  change (sigOf w sig).chg.length ≤ lenM at hl
  refine at_le (st' := SWi w lim (addI .i64 c 1) a b [] (sigOf w sig).chg (0 : Nat)) ?_ ((StLe.tok0 (α := Chg) (enc := Chg.d) _ 11 2 rfl).cast rfl)
  generalize (sigOf w sig).chg = ls at hl hlq ⊢
  refine lp (fn := Tryd.f126) (fun z : Nat × List Chg => z.1 ≤ ls.length ∧ z.2.length ≤ z.1 ∧ inR ls a b = z.2 ++ inR (ls.drop z.1) a b) (fun z => SWi w lim (addI .i64 c 1) a b z.2 ls z.1) (fun z => ls.length - z.1) [2, 3, 11, 44, 45, 46] (by kernel_rfl) (fun z hz => of_eq (nWia w lim (addI .i64 c 1) a b z.2 ls z.1 _ _) ?_) (0, []) ⟨Nat.zero_le _, Nat.le_refl _, rfl⟩
  obtain ⟨i, out⟩ := z
  obtain ⟨hi, ho, he⟩ := hz
  simp only at hi ho he ⊢
  refine cond_intro (fun hlt => ?_) fun hge => ?_
  · have hlt := ltI hlt
    rw [add1 hlt hl, Int.toNat_natCast]
    rw [drop_cons _ _ hlt] at he
    unfold inR at he
    rw [List.filter_cons] at he
    generalize ls.getD i default = x at he ⊢
    refine ⟨⟨by omega, by omega⟩, trivial, cond_intro (fun h2 => ⟨⟨upd_same _ _ _, by unfold roomM; omega⟩, ?_⟩) fun h2 => ?_⟩
    · have h2 : (decide (x.time ≥ a) && decide (x.time ≤ b)) = true := by simpa using h2
      rw [if_pos h2] at he
      refine Nx.of (i + 1, out ++ [x]) ⟨hlt, by simp only [List.length_append, List.length_singleton]; omega, by simp only; unfold inR; rw [he, List.append_assoc]; rfl⟩ (by simp only; omega) ?_
      refine (StLe.set 11 rfl (Wk.snoc (x := x) (enc := Chg.d) (t := 0)) rfl rfl).cast ?_
      unfold SWi hT
      rw [List.length_append, List.length_singleton, upd_upd]
      rfl
    · have h2 : ¬ (decide (x.time ≥ a) && decide (x.time ≤ b)) = true := by
        intro h3; rw [Bool.and_eq_true] at h3; rw [h3.1, h3.2] at h2; cases h2
      rw [if_neg h2] at he
      exact Nx.mk (i + 1, out) ⟨hlt, by simp only; omega, by simp only; exact he⟩ (by simp only; omega)
  · rw [List.drop_of_length_le (geI hge)] at he
    have he : inR ls a b = out := by rw [he]; simp [inR]
    rw [he]
    exact RetLe.of (Wk.tup (Wks.cons Wk.tokL (Wks.refl _))) (heapM1 rfl (Nat.le_refl _) (Nat.le_refl _))
def chkR (w : Wv) (ls : List Ln) (a stp cols : Int) : Int := if szB stp cols = false ∨ ls.length > 64 then 1 else if ls.all lnB = false then 1 else if a < 0 ∨ a > w.fin then 2 else 0
theorem e31 [Lay] (w : Wv) (lim c : Int) (ls : List Ln) (a stp cols : Int) : Does PP 31 [.iface 36 (.bp 0 0), L ls 3 Ln.d, I a, I stp, I cols] (hM w lim c) (I (chkR w ls a stp cols)) (hM w lim c) := by
  refine du F31 (by kernel_rfl) (of_eq (nCk w lim c ls a stp cols _) ⟨PureW.mk (c44 _ _), fun _ => ?_⟩)
  have hcc : (bif !szB stp cols then true else decide ((ls.length : Int) > 64)) = decide (szB stp cols = false ∨ ls.length > 64) := by
    rw [Bool.eq_iff_iff]; cases szB stp cols <;> simp; omega
  rw [hcc]
  unfold chkR
  refine cond_intro (fun h => ?_) fun h => fun hl => ?_
  · rw [if_pos (of_decide_eq_true h)]; exact RetLe.refl _ _
  rw [if_neg (of_decide_eq_false h)]
  refine lp (fn := Tryd.f31) (fun i : Nat => i ≤ ls.length ∧ ls.all lnB = (ls.drop i).all lnB) (fun i => SCk w lim c ls a i) (fun i => ls.length - i) [0, 2, 22, 23, 24] (by kernel_rfl) (fun i hi => of_eq (nCka w lim c ls a i _ _) (cond_intro (fun hlt => ?_) fun hge => ?_)) 0 ⟨Nat.zero_le _, rfl⟩
  · have hlt := ltI hlt
    obtain ⟨_, he⟩ := hi
    rw [add1 hlt hl, Int.toNat_natCast]
    rw [all_drop hlt] at he
    refine ⟨⟨by omega, by omega⟩, trivial, PureW.mk (c58 _), cond_intro (fun h2 => ?_) fun h2 => ?_⟩
    · have h2 : lnB (ls.getD i default) = false := by simpa using h2
      rw [he, h2, Bool.false_and, if_pos rfl]; exact RetLe.refl _ _
    · have h2 : lnB (ls.getD i default) = true := by simpa using h2
      exact Nx.mk (i + 1) ⟨hlt, by rw [he, h2]; rfl⟩ (by omega)
  · rw [hi.2, List.drop_of_length_le (geI hge), if_neg (by simp)]
    have hca : (bif decide (a < 0) then true else decide (a > w.fin)) = decide (a < 0 ∨ a > w.fin) := by
      rw [Bool.eq_iff_iff]; simp
    rw [hca]
    refine cond_intro (fun _ => ⟨e122 w lim c, ?_⟩) fun _ => ?_
    · refine cond_intro (fun h => ?_) fun h => ?_
      · rw [if_pos (of_decide_eq_true h)]; exact RetLe.refl _ _
      · rw [if_neg (of_decide_eq_false h)]; exact RetLe.refl _ _
    · refine cond_intro (fun h => ?_) fun h => ?_
      · rw [if_pos (of_decide_eq_true h)]; exact RetLe.refl _ _
      · rw [if_neg (of_decide_eq_false h)]; exact RetLe.refl _ _
end Go.Proofs.YtpcbjkjgjoemaaaDoor.S1
/- Small waves: what their signals are; plain laws. -/
namespace Go.Proofs.YtpcbjkjgjoemaaaDoor.S1
open Go Go.Ab Go.Proofs
/-- What a small wave's signals are. -/
structure SmD (w : Wv) : Prop where
  ok : SmOk w
  knd : ∀ q ∈ w.sig, 0 ≤ q.kind ∧ q.kind ≤ 3 ∧ (q.kind = 0 → 1 ≤ q.width ∧ q.width ≤ 64) ∧ (q.kind ≠ 0 → q.width = 0)
  dif : ∀ q ∈ w.sig, q.kind ≠ 3 → Dif (ini q) q.chg
  vl : ∀ q ∈ w.sig, ∀ x ∈ q.chg, vlOk q x.val = true ∧ 0 ≤ x.time ∧ x.time ≤ w.fin
theorem chgBad_no {w : Wv} {q : Sig} {p : Option Chg} {b : Str} {x : Chg} (h : chgBad w q p b x = false) : 0 ≤ x.time ∧ x.time ≤ w.fin ∧ vlOk q x.val = true ∧ (q.kind ≠ 3 → b ≠ x.val) := by
  unfold chgBad at h
  simp only [Bool.cond_eq_ite] at h
  by_cases h1 : x.time < 0
  · simp [h1] at h
  by_cases h2 : x.time > w.fin
  · simp [h1, h2] at h
  refine ⟨by omega, by omega, ?_, fun hk hb => ?_⟩
  · cases hv : vlOk q x.val with
    | true => rfl
    | false =>
      rw [hv] at h
      simp only [h1, h2, decide_false, Bool.false_eq_true, if_false, Bool.not_false, if_true, ite_self] at h
      cases h
  · subst hb
    have e1 : (q.kind != 3) = true := by simpa using hk
    have e2 : (x.val == x.val) = true := by simp
    rw [e1, e2] at h
    simp only [if_true, ite_self] at h
    cases h
theorem chgOk_all {w : Wv} {q : Sig} : ∀ {l : List Chg} {p : Option Chg} {b : Str}, chgOk w q p b l = true → (q.kind ≠ 3 → Dif b l) ∧ ∀ x ∈ l, vlOk q x.val = true ∧ 0 ≤ x.time ∧ x.time ≤ w.fin
  | [], _, _, _ => ⟨fun _ => trivial, fun _ h => by cases h⟩
  | x :: r, p, b, h => by
    simp only [chgOk, Bool.and_eq_true, Bool.not_eq_true'] at h
    obtain ⟨i1, i2⟩ := chgOk_all h.2
    obtain ⟨a1, a2, a3, a4⟩ := chgBad_no h.1
    refine ⟨fun hk => ⟨a4 hk, i1 hk⟩, fun y hy => ?_⟩
    rcases List.mem_cons.1 hy with rfl | hy
    · exact ⟨a3, a1, a2⟩
    · exact i2 y hy
theorem sigBad_more {q : Sig} (h : sigBad q = false) : 0 ≤ q.kind ∧ q.kind ≤ 3 ∧ (q.kind = 0 → 1 ≤ q.width ∧ q.width ≤ 64) ∧ (q.kind ≠ 0 → q.width = 0) := by
  obtain ⟨_, _, h3, h4⟩ := sigBad_width h
  unfold sigBad at h
  simp only [Bool.cond_eq_ite] at h
  refine ⟨h3, h4, fun hk => ?_, fun hk => ?_⟩
  · by_cases h5 : q.width < 1
    · simp [hk, h5] at h
    · by_cases h6 : q.width > 64
      · simp [hk, h5, h6] at h
      · omega
  · by_cases h5 : q.width = 0
    · exact h5
    · simp [hk, h5] at h
theorem smB_D {w : Wv} (h : smB w = true) : SmD w := by
  refine ⟨smB_ok h, fun q hq => ?_, fun q hq => ?_, fun q hq => ?_⟩ <;>
  · unfold smB at h
    simp only [Bool.and_eq_true] at h
    have := List.all_eq_true.1 h.2.1 q hq
    unfold sigOk at this
    simp only [Bool.and_eq_true, Bool.not_eq_true'] at this
    first
      | exact sigBad_more this.1
      | exact (chgOk_all this.2).1
      | exact (chgOk_all this.2).2
theorem ini_len {q : Sig} (h : q.width ≤ 64) : (ini q).length ≤ 64 := by
  unfold ini
  split
  · simp
  · split
    · rw [List.length_replicate]; omega
    · simp
theorem vlOk_len {q : Sig} {v : Str} (h : vlOk q v = true) (hw : q.width ≤ 64) : v.length ≤ 64 := by
  unfold vlOk at h
  cases h3 : (q.kind == 3) with
  | true => rw [h3] at h; simp at h; rw [h]; simp
  | false =>
    rw [h3] at h
    cases h0 : (q.kind == 0) with
    | true => rw [h0] at h; simp at h; omega
    | false => rw [h0] at h; simp at h; omega
theorem valAt_mem : ∀ (l : List Chg) (v : Str) (t : Int), valAt v l t = v ∨ ∃ x ∈ l, valAt v l t = x.val ∧ x.time ≤ t
  | [], _, _ => .inl rfl
  | x :: r, v, t => by
    rw [valAt_cons]
    by_cases h : x.time ≤ t
    · rw [decide_eq_true h, cond_true]
      rcases valAt_mem r x.val t with e | ⟨y, hy, e⟩
      · exact .inr ⟨x, List.mem_cons_self .., e, h⟩
      · exact .inr ⟨y, List.mem_cons_of_mem _ hy, e⟩
    · rw [decide_eq_false h, cond_false]
      rcases valAt_mem r v t with e | ⟨y, hy, e⟩
      · exact .inl e
      · exact .inr ⟨y, List.mem_cons_of_mem _ hy, e⟩
theorem sigMem {w : Wv} {sig : Int} (hs : 0 ≤ sig ∧ sig < (w.sig.length : Int)) : sigOf w sig ∈ w.sig := by
  have : sig.toNat < w.sig.length := by omega
  unfold sigOf
  rw [List.getD_eq_getElem?_getD, List.getElem?_eq_getElem this]
  exact List.getElem_mem this
theorem SmD.inc {w : Wv} (h : SmD w) {q : Sig} (hq : q ∈ w.sig) : Inc (-1) q.chg := (h.ok.sig q hq).2.2
theorem SmD.vlen {w : Wv} (h : SmD w) {q : Sig} (hq : q ∈ w.sig) : ∀ x ∈ q.chg, x.val.length ≤ 64 := fun x hx => vlOk_len (h.vl q hq x hx).1 (h.ok.sig q hq).2.1
theorem SmD.atLen {w : Wv} (h : SmD w) {q : Sig} (hq : q ∈ w.sig) (t : Int) : (sigAt q t).length ≤ 64 := by
  have hi := ini_len (h.ok.sig q hq).2.1
  unfold sigAt
  split
  · exact hi
  · rcases valAt_mem q.chg (ini q) t with e | ⟨x, hx, e, _⟩
    · rw [e]; exact hi
    · rw [e]; exact h.vlen hq x hx
theorem cut_sub {l : List Chg} {a b : Int} {x : Chg} (h : x ∈ cut l a b) : x ∈ l := (List.mem_filter.1 h).1
theorem SmD.curLen {w : Wv} (h : SmD w) {q : Sig} (hq : q ∈ w.sig) (a b : Int) (i : Nat) (hi : i ≤ (cut q.chg a b).length) : (curV (sigAt q a) (cut q.chg a b) i).length ≤ 64 := by
  cases i with
  | zero => exact h.atLen hq a
  | succ i =>
    refine h.vlen hq _ (cut_sub (a := a) (b := b) ?_)
    rw [List.getD_eq_getElem?_getD, List.getElem?_eq_getElem (by omega)]
    exact List.getElem_mem (by omega)
/-- The value at a time up to til, by what is behind a. -/
theorem sigAt_cut {w : Wv} (h : SmD w) {q : Sig} (hq : q ∈ w.sig) (hk : q.kind ≠ 3) {a til t : Int} (h1 : a ≤ t) (h2 : t ≤ til) : valAt (sigAt q a) (cut q.chg a til) t = sigAt q t := by
  unfold sigAt
  rw [if_neg hk, if_neg hk]
  exact valAt_cut h1 h2 (ini q) (h.inc hq)
theorem difCut {w : Wv} (h : SmD w) {q : Sig} (hq : q ∈ w.sig) (hk : q.kind ≠ 3) {a til : Int} (h1 : a ≤ til) : Dif (sigAt q a) (cut q.chg a til) := by
  obtain ⟨x, y, e, hx, _, _, hy⟩ := (h.inc hq).cut3 h1
  have hd := h.dif q hq hk
  rw [e] at hd
  have hd2 := (hd.app hx).left
  have hv : valAt (ini q) x a = sigAt q a := by
    unfold sigAt
    rw [if_neg hk]
    conv => rhs; rw [e]
    unfold valAt
    rw [List.foldl_append]
    have hin := (h.inc hq)
    rw [e] at hin
    generalize List.foldl (fun v x => bif decide (x.time ≤ a) then x.val else v) (ini q) x = v0
    have hgt : ∀ z ∈ cut q.chg a til ++ y, a < z.time := fun z hz => by
      rcases List.mem_append.1 hz with hz | hz
      · have := (List.mem_filter.1 hz).2; simp at this; omega
      · have := hy z hz; omega
    exact (valAt_gt _ v0 a hgt).symm
  rw [← hv]; exact hd2
theorem hexG_len : ∀ (m : Nat) (q : Str), (hexG m q).length = m + 1
  | 0, _ => rfl
  | m + 1, q => by rw [hexG, List.length_cons, hexG_len m]
theorem hexT_len (q : Str) : (hexT q).length ≤ q.length := by
  unfold hexT
  split
  · simp
  · rename_i h
    have := List.length_pos_iff.2 h
    rw [hexG_len]; omega
theorem numR_len (q : Str) (base : Int) (hd : ∀ q : Str, q.all bit01 = true → (decR q).length ≤ q.length + 1) : (numR q base).length ≤ 200 := by
  unfold numR
  split
  · simp
  · rename_i h
    have hl : q.length ≤ 128 := by
      rcases Nat.lt_or_ge 128 q.length with h1 | h1
      · exact absurd (.inr (.inl h1)) h
      · exact h1
    split
    · omega
    · split
      · have := hexT_len q; omega
      · split
        · split
          · simp
          · split
            · rename_i h2; have := hd q h2; omega
            · simp
        · simp
/-- Of a small wave, from any number of calls. -/
theorem ofR_c {w : Wv} (hw : SmD w) {sig frm til : Int} (a : Ask w sig frm til) {c : Int} (hc : 0 ≤ c ∧ c ≤ 900000) : ofR w (-1) c sig frm til = (spS frm (sigAt (sigOf w sig) frm) til (cut (sigOf w sig).chg frm til), 0, c + ofN w sig frm til) := by
  have hs := a.hsig
  obtain ⟨q1, _, q3⟩ := hw.ok.at hs
  have hm := sigMem hs
  have hsp : codeL (sigAt (sigOf w sig) frm) (cut (sigOf w sig).chg frm til) frm til = spS frm (sigAt (sigOf w sig) frm) til (cut (sigOf w sig).chg frm til) := codeL_sp (difCut hw hm a.hkind a.hle) fun x hx => by
    have h1 := (hw.vl _ hm x (cut_sub hx)).2
    have := hw.ok.fin
    omega
  have e1 : addI .i64 c 1 = c + 1 := add64 (by omega) (by omega)
  have e2 : addI .i64 (c + 1) 1 = c + 2 := by rw [add64 (by omega) (by omega)]; omega
  unfold ofR
  have := a.hfrm
  have := a.hle
  have := a.hto
  rw [if_neg (by omega), callR_ok hs, e1, callR_ok hs, e2, over_eq (by omega) (by omega), over_eq (by omega) (by omega), if_neg a.hkind]
  obtain ⟨_, _, _, e3⟩ := q3.aft frm
  have hl := aft_len (sigOf w sig).chg frm
  have ih := itR_plain til (-1) (aft (sigOf w sig).chg frm) frm (c + 2) [⟨frm, 0, sigAt (sigOf w sig) frm⟩] e3 (by omega) (by omega)
  rw [cut_aft] at ih
  unfold ofN
  rw [decide_eq_false (by omega), decide_eq_false (by omega)]
  simp only [cond_false, ne_eq, not_true_eq_false, if_false]
  rw [ih.1 (by omega)]
  simp only [not_true_eq_false, if_false]
  rw [← hsp]
  unfold codeL
  congr 2
  omega
end Go.Proofs.YtpcbjkjgjoemaaaDoor.S1
/- Numbers drawn: the reference's functions. -/
namespace Go.Proofs.YtpcbjkjgjoemaaaDoor.S1
open Go Go.Ab Go.Proofs
theorem F26 : OkF 26 Tryd.f26 := ⟨by kernel_rfl, by kernel_rfl, by kernel_rfl⟩
def lv26 : List (List Nat × List Nat) := [([1, 0, 1, 0], [0, 3])]
noncomputable def nibs  : List Nat → Nat → Option Ans := scrAt []
theorem nib [Lay] (q : Str) (K : D → Prop) : runS (En Tryd.f26) (fi Tryd.f26 K) (nibs ) lv26 200 [.code []] ⟨argSlots 0 [.str q], .empty⟩ =
  (At (En Tryd.f26) (fi Tryd.f26 K) [It.code [1, 0, 1, 0], It.blk 0, It.code [1, 1]] { sl := [(0, .str q), (3, I 0)], h := Heap.empty : St }) := by kernel_rfl
def Sib (q : Str) (i : Int) : St := ⟨[(0, .str q), (3, I i)], .empty⟩
noncomputable def nibas  : List Nat → Nat → Option Ans := scrAt []
theorem niba [Lay] (q : Str) (i : Int) (J : St → Prop) (K : D → Prop) : runS (En Tryd.f26) (fi Tryd.f26 K) (nibas ) lv26 200 [.code [1, 0, 1, 0, 0], stp [0, 3] J, .blk 0, .code [1, 1]] (Sib q i) =
  (List.length q ≤ strM → bif decide (i < (↑(List.length q) : Int)) then (0 ≤ i ∧ i < (↑(List.length q) : Int)) ∧ (((↑(List.getD q i.toNat 0).toNat : Int) != 48) = true → 0 ≤ i ∧ i < (↑(List.length q) : Int)) ∧ ((bif (↑(List.getD q i.toNat 0).toNat : Int) != 48 then (↑(List.getD q i.toNat 0).toNat : Int) != 49 else false) = true → 0 ≤ i ∧ i < (↑(List.length q) : Int)) ∧ ((bif bif (↑(List.getD q i.toNat 0).toNat : Int) != 48 then (↑(List.getD q i.toNat 0).toNat : Int) != 49 else false then (↑(List.getD q i.toNat 0).toNat : Int) != 120 else false) = true → 0 ≤ i ∧ i < (↑(List.length q) : Int)) ∧ bif bif bif bif (↑(List.getD q i.toNat 0).toNat : Int) != 48 then (↑(List.getD q i.toNat 0).toNat : Int) != 49 else false then (↑(List.getD q i.toNat 0).toNat : Int) != 120 else false then (↑(List.getD q i.toNat 0).toNat : Int) != 122 else false then K (B false) else J { sl := [(0, .str q), (3, I (addI .i64 i 1))], h := Heap.empty : St } else List.length q ≤ strM → (decide ((↑(List.length q) : Int) > 0) = true → List.length q ≤ strM) → K (B (bif decide ((↑(List.length q) : Int) > 0) then decide ((↑(List.length q) : Int) ≤ 128) else false))) := by kernel_rfl
theorem F28 : OkF 28 Tryd.f28 := ⟨by kernel_rfl, by kernel_rfl, by kernel_rfl⟩
def lv28 : List (List Nat × List Nat) := [([1, 0, 1, 0], [0, 1, 5])]
noncomputable def nals  : List Nat → Nat → Option Ans := scrAt []
theorem nal [Lay] (q : Str) (c : UInt8) (K : D → Prop) : runS (En Tryd.f28) (fi Tryd.f28 K) (nals ) lv28 200 [.code []] ⟨argSlots 0 [.str q, encB c], .empty⟩ =
  (At (En Tryd.f28) (fi Tryd.f28 K) [It.code [1, 0, 1, 0], It.blk 0, It.code [1, 1]] { sl := [(0, .str q), (1, encB c), (5, I 0)], h := Heap.empty : St }) := by kernel_rfl
def Sal (q : Str) (c : UInt8) (i : Int) : St := ⟨[(0, .str q), (1, encB c), (5, I i)], .empty⟩
noncomputable def nalas  : List Nat → Nat → Option Ans := scrAt []
theorem nala [Lay] (q : Str) (c : UInt8) (i : Int) (J : St → Prop) (K : D → Prop) : runS (En Tryd.f28) (fi Tryd.f28 K) (nalas ) lv28 200 [.code [1, 0, 1, 0, 0], stp [0, 1, 5] J, .blk 0, .code [1, 1]] (Sal q c i) =
  (List.length q ≤ strM → bif decide (i < (↑(List.length q) : Int)) then (0 ≤ i ∧ i < (↑(List.length q) : Int)) ∧ bif (↑(List.getD q i.toNat 0).toNat : Int) != (↑c.toNat : Int) then K (B false) else J { sl := [(0, .str q), (1, encB c), (5, I (addI .i64 i 1))], h := Heap.empty : St } else K (B true)) := by kernel_rfl
theorem F29 : OkF 29 Tryd.f29 := ⟨by kernel_rfl, by kernel_rfl, by kernel_rfl⟩
def lv29 : List (List Nat × List Nat) := [([1, 0, 1, 0], [0, 3])]
noncomputable def nkns  : List Nat → Nat → Option Ans := scrAt []
theorem nkn [Lay] (q : Str) (K : D → Prop) : runS (En Tryd.f29) (fi Tryd.f29 K) (nkns ) lv29 200 [.code []] ⟨argSlots 0 [.str q], .empty⟩ =
  (At (En Tryd.f29) (fi Tryd.f29 K) [It.code [1, 0, 1, 0], It.blk 0, It.code [1, 1]] { sl := [(0, .str q), (3, I 0)], h := Heap.empty : St }) := by kernel_rfl
def Skn (q : Str) (i : Int) : St := ⟨[(0, .str q), (3, I i)], .empty⟩
noncomputable def nknas  : List Nat → Nat → Option Ans := scrAt []
theorem nkna [Lay] (q : Str) (i : Int) (J : St → Prop) (K : D → Prop) : runS (En Tryd.f29) (fi Tryd.f29 K) (nknas ) lv29 200 [.code [1, 0, 1, 0, 0], stp [0, 3] J, .blk 0, .code [1, 1]] (Skn q i) =
  (List.length q ≤ strM → bif decide (i < (↑(List.length q) : Int)) then (0 ≤ i ∧ i < (↑(List.length q) : Int)) ∧ (((↑(List.getD q i.toNat 0).toNat : Int) != 48) = true → 0 ≤ i ∧ i < (↑(List.length q) : Int)) ∧ bif bif (↑(List.getD q i.toNat 0).toNat : Int) != 48 then (↑(List.getD q i.toNat 0).toNat : Int) != 49 else false then K (B false) else J { sl := [(0, .str q), (3, I (addI .i64 i 1))], h := Heap.empty : St } else K (B true)) := by kernel_rfl
theorem F30 : OkF 30 Tryd.f30 := ⟨by kernel_rfl, by kernel_rfl, by kernel_rfl⟩
def lv30 : List (List Nat × List Nat) := [([1, 1, 0, 1, 0], [0, 1, 5, 6])]
noncomputable def ntws  : List Nat → Nat → Option Ans := scrAt []
theorem ntw [Lay] (q : Str) (c : Int) (K : D → Prop) : runS (En Tryd.f30) (fi Tryd.f30 K) (ntws ) lv30 200 [.code []] ⟨argSlots 0 [.str q, I c], .empty⟩ =
  (List.length q ≤ strM → At (En Tryd.f30) (fi Tryd.f30 K) [It.code [1, 1, 0, 1, 0], It.blk 0, It.code [1, 1, 1]] { sl := [(0, .str q), (1, I c), (5, .str { data := #[] : ByteArray }.data.toList), (6, I (subI .i64 (↑(List.length q) : Int) 1))], h := Heap.empty : St }) := by kernel_rfl
def Stw (q : Str) (c : Int) (out : Str) (i : Int) : St := ⟨[(0, .str q), (1, I c), (5, .str out), (6, I i)], .empty⟩
noncomputable def ntwas  : List Nat → Nat → Option Ans := scrAt []
theorem ntwa [Lay] (q : Str) (c : Int) (out : Str) (i : Int) (J : St → Prop) (K : D → Prop) : runS (En Tryd.f30) (fi Tryd.f30 K) (ntwas ) lv30 200 [.code [1, 1, 0, 1, 0, 0], stp [0, 1, 5, 6] J, .blk 0, .code [1, 1, 1]] (Stw q c out i) =
  (bif decide (i ≥ 0) then (0 ≤ i ∧ i < (↑(List.length q) : Int)) ∧ (10 : Int) ≠ 0 ∧ allByte 1 (litG [D.int IntKind.u8 (IntKind.u8.wrap (addI .i64 48 ((addI .i64 (mulI .i64 2 (IntKind.i64.wrap (subI IntKind.u8 (↑(List.getD q i.toNat 0).toNat : Int) 48))) c).tmod 10)))]) ∧ (bytesG 1 (litG [D.int IntKind.u8 (IntKind.u8.wrap (addI .i64 48 ((addI .i64 (mulI .i64 2 (IntKind.i64.wrap (subI IntKind.u8 (↑(List.getD q i.toNat 0).toNat : Int) 48))) c).tmod 10)))])).length + List.length out ≤ strM ∧ (10 : Int) ≠ 0 ∧ J { sl := [(0, .str q), (1, I (quoI .i64 (addI .i64 (mulI .i64 2 (IntKind.i64.wrap (subI IntKind.u8 (↑(List.getD q i.toNat 0).toNat : Int) 48))) c) 10)), (5, .str (bytesG 1 (litG [D.int IntKind.u8 (IntKind.u8.wrap (addI .i64 48 ((addI .i64 (mulI .i64 2 (IntKind.i64.wrap (subI IntKind.u8 (↑(List.getD q i.toNat 0).toNat : Int) 48))) c).tmod 10)))]) ++ out)), (6, I (subI .i64 i 1))], h := Heap.empty : St } else bif decide (c > 0) then allByte 1 (litG [D.int IntKind.u8 (IntKind.u8.wrap (addI .i64 48 c))]) ∧ (bytesG 1 (litG [D.int IntKind.u8 (IntKind.u8.wrap (addI .i64 48 c))])).length + List.length out ≤ strM ∧ K (.str (bytesG 1 (litG [D.int IntKind.u8 (IntKind.u8.wrap (addI .i64 48 c))]) ++ out)) else K (.str out)) := by kernel_rfl
theorem bxz (b : UInt8) : (bif bif bif (b.toNat : Int) != 48 then (b.toNat : Int) != 49 else false then (b.toNat : Int) != 120 else false then (b.toNat : Int) != 122 else false) = !xz01.contains b := by
  have h : ∀ k : UInt8, ((b.toNat : Int) != (k.toNat : Int)) = !(b == k) := fun k => by
    rw [Bool.eq_iff_iff]; simp [← UInt8.toNat_inj]; omega
  have h1 := h 48
  have h2 := h 49
  have h3 := h 120
  have h4 := h 122
  rw [show ((b.toNat : Int) != 48) = !(b == 48) from h1, show ((b.toNat : Int) != 49) = !(b == 49) from h2, show ((b.toNat : Int) != 120) = !(b == 120) from h3, show ((b.toNat : Int) != 122) = !(b == 122) from h4]
  have : xz01.contains b = (b == 48 || (b == 49 || (b == 120 || b == 122))) := by
    rw [Bool.eq_iff_iff]; simp [xz01]
  rw [this]
  cases b == 48 <;> cases b == 49 <;> cases b == 120 <;> cases b == 122 <;> rfl
theorem beqI (b c : UInt8) : ((b.toNat : Int) != (c.toNat : Int)) = !(b == c) := by
  rw [Bool.eq_iff_iff]; simp [← UInt8.toNat_inj]; omega
theorem c26 [Lay] (q : Str) : Pure PP 26 [.str q] (B (decide (q ≠ [] ∧ q.length ≤ 128 ∧ q.all xz01.contains = true))) := by
  refine pu F26 (by kernel_rfl) (of_eq (nib q _) ?_)
  refine lp (fn := Tryd.f26) (fun i : Nat => i ≤ q.length ∧ q.all xz01.contains = (q.drop i).all xz01.contains) (fun i => Sib q i) (fun i => q.length - i) [0, 3] (by kernel_rfl) (fun i hi => of_eq (niba q i _ _) fun hl => cond_intro (fun hlt => ?_) fun hge => fun _ _ => ?_) 0 ⟨Nat.zero_le _, rfl⟩
  · have hlt := ltI hlt
    obtain ⟨_, he⟩ := hi
    rw [add1 hlt hl, Int.toNat_natCast, bxz]
    have hin : (0 : Int) ≤ (i : Int) ∧ (i : Int) < (q.length : Int) := ⟨by omega, by omega⟩
    rw [all_drop hlt, show (q.getD i default : UInt8) = q.getD i 0 from rfl] at he
    refine ⟨hin, fun _ => hin, fun _ => hin, fun _ => hin, cond_intro (fun h => ?_) fun h => ?_⟩
    · have h : xz01.contains (q.getD i 0) = false := by simpa using h
      rw [he, h, decide_eq_false (by simp)]; exact Wk.refl _
    · have h : xz01.contains (q.getD i 0) = true := by simpa using h
      exact Nx.mk (i + 1) ⟨hlt, by rw [he, h]; rfl⟩ (by omega)
  · rw [hi.2, List.drop_of_length_le (geI hge)]
    have : (bif decide ((q.length : Int) > 0) then decide ((q.length : Int) ≤ 128) else false) = decide (q ≠ [] ∧ q.length ≤ 128 ∧ ([] : Str).all xz01.contains = true) := by
      cases q with
      | nil => rfl
      | cons x r =>
        rw [decide_eq_true (show ((x :: r).length : Int) > 0 by simp only [List.length_cons]; omega), Bool.eq_iff_iff]
        simp
        try omega
    rw [this]; exact Wk.refl _
theorem c28 [Lay] (q : Str) (c : UInt8) : Pure PP 28 [.str q, encB c] (B (q.all (· == c))) := by
  refine pu F28 (by kernel_rfl) (of_eq (nal q c _) ?_)
  refine lp (fn := Tryd.f28) (fun i : Nat => i ≤ q.length ∧ q.all (· == c) = (q.drop i).all (· == c)) (fun i => Sal q c i) (fun i => q.length - i) [0, 1, 5] (by kernel_rfl) (fun i hi => of_eq (nala q c i _ _) fun hl => cond_intro (fun hlt => ?_) fun hge => ?_) 0 ⟨Nat.zero_le _, rfl⟩
  · have hlt := ltI hlt
    obtain ⟨_, he⟩ := hi
    rw [add1 hlt hl, Int.toNat_natCast, beqI]
    have hin : (0 : Int) ≤ (i : Int) ∧ (i : Int) < (q.length : Int) := ⟨by omega, by omega⟩
    rw [all_drop hlt, show (q.getD i default : UInt8) = q.getD i 0 from rfl] at he
    refine ⟨hin, cond_intro (fun h => ?_) fun h => ?_⟩
    · have h : (q.getD i 0 == c) = false := by simpa using h
      rw [he, h]; exact Wk.refl _
    · have h : (q.getD i 0 == c) = true := by simpa using h
      exact Nx.mk (i + 1) ⟨hlt, by rw [he, h]; rfl⟩ (by omega)
  · rw [hi.2, List.drop_of_length_le (geI hge)]
    exact Wk.refl _
theorem c29 [Lay] (q : Str) : Pure PP 29 [.str q] (B (q.all bit01)) := by
  refine pu F29 (by kernel_rfl) (of_eq (nkn q _) ?_)
  refine lp (fn := Tryd.f29) (fun i : Nat => i ≤ q.length ∧ q.all bit01 = (q.drop i).all bit01) (fun i => Skn q i) (fun i => q.length - i) [0, 3] (by kernel_rfl) (fun i hi => of_eq (nkna q i _ _) fun hl => cond_intro (fun hlt => ?_) fun hge => ?_) 0 ⟨Nat.zero_le _, rfl⟩
  · have hlt := ltI hlt
    obtain ⟨_, he⟩ := hi
    rw [add1 hlt hl, Int.toNat_natCast, ne48]
    have hin : (0 : Int) ≤ (i : Int) ∧ (i : Int) < (q.length : Int) := ⟨by omega, by omega⟩
    rw [all_drop hlt, show (q.getD i default : UInt8) = q.getD i 0 from rfl] at he
    refine ⟨hin, fun _ => hin, cond_intro (fun h => ?_) fun h => ?_⟩
    · have h : bit01 (q.getD i 0) = false := by simpa using h
      rw [he, h]; exact Wk.refl _
    · have h : bit01 (q.getD i 0) = true := by simpa using h
      exact Nx.mk (i + 1) ⟨hlt, by rw [he, h]; rfl⟩ (by omega)
  · rw [hi.2, List.drop_of_length_le (geI hge)]
    exact Wk.refl _
theorem digT (n : Nat) (h : n < 10) : IntKind.u8.wrap (addI .i64 48 (n : Int)) = (((UInt8.ofNat (48 + n)).toNat : Nat) : Int) := by
  rw [add64 (by omega) (by omega), UInt8.toNat_ofNat', IntWalk.u8_in _ ⟨by omega, by omega⟩]
  omega
theorem txtB_dgB (n : Nat) : txtB (dgB n) = UInt8.ofNat (48 + n % 10) := by
  unfold txtB
  rw [dgB_toNat]
theorem txtB_toNat {d : UInt8} (h : d.toNat < 10) : (txtB d).toNat = 48 + d.toNat := by
  unfold txtB
  rw [UInt8.toNat_ofNat']
  omega
theorem txtR_snoc (p : Str) (x : UInt8) : txtR (p ++ [x]) = txtB x :: txtR p := by
  unfold txtR
  rw [List.reverse_append]; rfl
theorem txtR_len (p : Str) : (txtR p).length = p.length := by unfold txtR; simp
theorem allB1 (c : UInt8) : allByte 1 (litG [D.int IntKind.u8 (c.toNat : Int)]) := fun j hj => by
  have : j = 0 := by omega
  subst this
  exact ⟨c, rfl⟩
theorem txt_get (ds : Str) (k : Nat) (h : k < ds.length) : (txtR ds).getD (ds.length - 1 - k) 0 = txtB (ds.getD k default) := by
  unfold txtR
  have h1 : ds.length - 1 - k < (ds.reverse.map txtB).length := by simp; omega
  rw [List.getD_eq_getElem?_getD, List.getElem?_eq_getElem h1, Option.getD_some, List.getElem_map, List.getElem_reverse, List.getD_eq_getElem?_getD, List.getElem?_eq_getElem h, Option.getD_some]
  congr 2
  omega
theorem c30 [Lay] (ds : Str) (c0 : Nat) (hd : dgs ds) (hc : c0 ≤ 1) (hl : ds.length ≤ 1000000) : Pure PP 30 [.str (txtR ds), I c0] (.str (txtR (addC (dblR ds c0)))) := by
  refine pu F30 (by kernel_rfl) (of_eq (ntw (txtR ds) c0 _) fun _ => ?_)
  refine at_le (st' := Stw (txtR ds) c0 (txtR []) ((ds.length : Int) - 1 - ((0 : Nat) : Int))) ?_ ((StLe.refl _ _).cast ?_)
  rotate_left
  · rw [txtR_len, sub64 (by omega) (by omega)]
    unfold Stw
    rw [show (ds.length : Int) - 1 - ((0 : Nat) : Int) = (ds.length : Int) - 1 by omega]
    rfl
  refine lp (fn := Tryd.f30) (fun z : Nat × Nat × Str => z.1 ≤ ds.length ∧ z.2.1 ≤ 1 ∧ z.2.2.length = z.1 ∧ dblR ds c0 = (z.2.2 ++ (dblR (ds.drop z.1) z.2.1).1, (dblR (ds.drop z.1) z.2.1).2)) (fun z => Stw (txtR ds) z.2.1 (txtR z.2.2) ((ds.length : Int) - 1 - (z.1 : Int))) (fun z => ds.length - z.1) [0, 1, 5, 6] (by kernel_rfl) (fun z hz => of_eq (ntwa (txtR ds) z.2.1 (txtR z.2.2) ((ds.length : Int) - 1 - (z.1 : Int)) _ _) ?_) (0, c0, []) ⟨Nat.zero_le _, hc, rfl, by simp⟩
  obtain ⟨k, c, p⟩ := z
  obtain ⟨hk, hc1, hpl, he⟩ := hz
  simp only at hk hc1 hpl he ⊢
  refine cond_intro (fun h => ?_) fun h => ?_
  · have h := of_decide_eq_true h
    have hlt : k < ds.length := by omega
    have h1 : ((ds.length : Int) - 1 - (k : Int)).toNat = ds.length - 1 - k := by omega
    have hd10 : (ds.getD k default).toNat < 10 := hd _ (by simp [List.getD, List.getElem?_eq_getElem hlt])
    rw [h1, txt_get ds k hlt, txtB_toNat hd10]
    rw [drop_cons _ _ hlt, dblR_cons] at he
    generalize ds.getD k default = d at hd10 he ⊢
    have e1 : IntKind.i64.wrap (subI IntKind.u8 ((48 + d.toNat : Nat) : Int) 48) = (d.toNat : Int) := by
      unfold subI
      rw [IntWalk.u8_in _ ⟨by omega, by omega⟩, IntWalk.i64_in _ ⟨by omega, by omega⟩]; omega
    have e2 : addI .i64 (mulI .i64 2 (IntKind.i64.wrap (subI IntKind.u8 ((48 + d.toNat : Nat) : Int) 48))) (c : Int) = ((dg d c : Nat) : Int) := by
      have := step_n d c hd10 hc1
      rw [IntWalk.i64_in (d.toNat : Int) ⟨by omega, by omega⟩] at this
      rw [e1]; exact this
    have hn19 : dg d c ≤ 19 := by unfold dg; omega
    rw [e2, step_q _ (by omega), show ((dg d c : Nat) : Int).tmod 10 = ((dg d c % 10 : Nat) : Int) from rfl, digT _ (Nat.mod_lt _ (by omega)), bytesG_one, ← txtB_dgB, List.singleton_append, ← txtR_snoc]
    refine ⟨⟨by omega, by rw [txtR_len]; omega⟩, by decide, allB1 _, by rw [txtR_len, List.length_singleton, hpl]; unfold strM; omega, by decide, Nx.of (k + 1, dg d c / 10, p ++ [dgB (dg d c)]) ⟨hlt, by simp only; omega, by simp [hpl], ?_⟩ (by simp only; omega) ((StLe.refl _ _).cast ?_)⟩
    · simp only
      rw [he]; simp
    · have : subI .i64 ((ds.length : Int) - 1 - (k : Int)) 1 = (ds.length : Int) - 1 - ((k + 1 : Nat) : Int) := by rw [sub64 (by omega) (by omega)]; omega
      rw [this]; rfl
  · have h := of_decide_eq_false h
    have hk0 : k = ds.length := by omega
    subst hk0
    rw [List.drop_length, dblR] at he
    simp only [List.append_nil] at he
    rw [he]
    refine cond_intro (fun h => ?_) fun h => ?_
    · have h : 0 < c := by have := of_decide_eq_true h; omega
      rw [addC, if_pos h, digT c (by omega), bytesG_one]
      refine ⟨allB1 _, by rw [txtR_len, List.length_singleton, hpl]; unfold strM; omega, ?_⟩
      have : UInt8.ofNat (48 + c) = txtB (UInt8.ofNat c) := by
        unfold txtB
        rw [UInt8.toNat_ofNat']
        congr 1; omega
      rw [this, List.singleton_append, ← txtR_snoc]; exact Wk.refl _
    · have h : c = 0 := by have := of_decide_eq_false h; omega
      subst h
      rw [addC, if_neg (by simp)]; exact Wk.refl _
end Go.Proofs.YtpcbjkjgjoemaaaDoor.S1
/- Numbers drawn: the reference's digit of a group. -/
namespace Go.Proofs.YtpcbjkjgjoemaaaDoor.S1
open Go Go.Ab Go.Proofs
theorem callZ [Lay] (q : Str) (z : Int) (hz : 0 ≤ z ∧ z < 256) : Pure PP 28 [.str q, .int .u8 z] (B (q.all (· == UInt8.ofNat z.toNat))) := by
  have h := c28 q (UInt8.ofNat z.toNat)
  have : encB (UInt8.ofNat z.toNat) = .int .u8 z := by
    unfold encB
    congr 1
    rw [UInt8.toNat_ofNat']
    omega
  rw [this] at h
  exact h
theorem F27 : OkF 27 Tryd.f27 := ⟨by kernel_rfl, by kernel_rfl, by kernel_rfl⟩
def lv27 : List (List Nat × List Nat) := [([1, 1, 1, 1, 1, 0, 1, 0], [0, 3, 4])]
noncomputable def nrgs (q : Str) : List Nat → Nat → Option Ans := scrAt [([1, 0, 0], 1, Ans.pure [.str q, D.int IntKind.u8 120] (B (List.all q fun x => x == UInt8.ofNat (Int.toNat 120)))), ([1, 1, 0, 0], 1, Ans.pure [.str q, D.int IntKind.u8 122] (B (List.all q fun x => x == UInt8.ofNat (Int.toNat 122)))), ([1, 1, 1, 0, 0], 1, Ans.pure [.str q] (B (List.all q bit01)))]
theorem nrg [Lay] (q : Str) (K : D → Prop) : runS (En Tryd.f27) (fi Tryd.f27 K) (nrgs q) lv27 200 [.code []] ⟨argSlots 0 [.str q], .empty⟩ =
  (PureW PP 28 [.str q, D.int IntKind.u8 120] [.str q, D.int IntKind.u8 120] (B (List.all q fun x => x == UInt8.ofNat (Int.toNat 120))) ∧ bif List.all q fun x => x == UInt8.ofNat 120 then K (.str { data := #[120] : ByteArray }.data.toList) else PureW PP 28 [.str q, D.int IntKind.u8 122] [.str q, D.int IntKind.u8 122] (B (List.all q fun x => x == UInt8.ofNat (Int.toNat 122))) ∧ bif List.all q fun x => x == UInt8.ofNat 122 then K (.str { data := #[122] : ByteArray }.data.toList) else PureW PP 29 [.str q] [.str q] (B (List.all q bit01)) ∧ bif !List.all q bit01 then K (.str { data := #[88] : ByteArray }.data.toList) else At (En Tryd.f27) (fi Tryd.f27 K) [It.code [1, 1, 1, 1, 1, 0, 1, 0], It.blk 0, It.code [1, 1, 1, 1, 1, 1]] { sl := [(0, .str q), (3, I 0), (4, I 0)], h := Heap.empty : St }) := by kernel_rfl
def Srg (q : Str) (n i : Int) : St := ⟨[(0, .str q), (3, I n), (4, I i)], .empty⟩
noncomputable def nrgas  : List Nat → Nat → Option Ans := scrAt []
theorem nrga [Lay] (q : Str) (n i : Int) (J : St → Prop) (K : D → Prop) : runS (En Tryd.f27) (fi Tryd.f27 K) (nrgas ) lv27 200 [.code [1, 1, 1, 1, 1, 0, 1, 0, 0], stp [0, 3, 4] J, .blk 0, .code [1, 1, 1, 1, 1, 1]] (Srg q n i) =
  (List.length q ≤ strM → bif decide (i < (↑(List.length q) : Int)) then (0 ≤ i ∧ i < (↑(List.length q) : Int)) ∧ J { sl := [(0, .str q), (3, I (addI .i64 (mulI .i64 2 n) (IntKind.i64.wrap (subI IntKind.u8 (↑(List.getD q i.toNat 0).toNat : Int) 48)))), (4, I (addI .i64 i 1))], h := Heap.empty : St } else (0 ≤ n ∧ n ≤ addI .i64 n 1 ∧ addI .i64 n 1 ≤ (↑16 : Int)) ∧ K (.str (List.drop n.toNat (List.take (addI .i64 n 1).toNat { data := #[48, 49, 50, 51, 52, 53, 54, 55, 56, 57, 97, 98, 99, 100, 101, 102] : ByteArray }.data.toList)))) := by kernel_rfl
theorem c27 [Lay] (q : Str) (h0 : q ≠ []) (hl : q.length ≤ 4) : Pure PP 27 [.str q] (.str (grpF q)) := by
  refine pu F27 (by kernel_rfl) (of_eq (nrg q _) ⟨PureW.mk (callZ _ _ ⟨by decide, by decide⟩), ?_⟩)
  unfold grpF
  refine cond_intro (fun h => ?_) fun h => ⟨PureW.mk (callZ _ _ ⟨by decide, by decide⟩), cond_intro (fun h2 => ?_) fun h2 => ⟨PureW.mk (c29 _), cond_intro (fun h3 => ?_) fun h3 => ?_⟩⟩
  · have h : q.all (· == 120) = true := h
    rw [if_pos h]; exact Wk.refl _
  · have h : q.all (· == 120) = false := h
    have h2 : q.all (· == 122) = true := h2
    rw [if_neg (by rw [h]; simp), if_pos h2]; exact Wk.refl _
  · have h3 : q.all bit01 = false := by simpa using h3
    have h : q.all (· == 120) = false := h
    have h2 : q.all (· == 122) = false := h2
    rw [if_neg (by rw [h]; simp), if_neg (by rw [h2]; simp), if_neg (by rw [h3]; simp)]
    exact Wk.refl _
  · have h3 : q.all bit01 = true := by simpa using h3
    have h : q.all (· == 120) = false := h
    have h2 : q.all (· == 122) = false := h2
    rw [if_neg (by rw [h]; simp), if_neg (by rw [h2]; simp), if_pos h3]
    refine lp (fn := Tryd.f27) (fun z : Nat × Nat => z.1 ≤ q.length ∧ z.2 < 2 ^ z.1 ∧ binF 0 q = binF z.2 (q.drop z.1)) (fun z => Srg q z.2 z.1) (fun z => q.length - z.1) [0, 3, 4] (by kernel_rfl) (fun z hz => of_eq (nrga q z.2 z.1 _ _) fun hlm => ?_) (0, 0) ⟨Nat.zero_le _, by decide, rfl⟩
    obtain ⟨i, n⟩ := z
    obtain ⟨hi, hn, he⟩ := hz
    simp only at hi hn he ⊢
    have hp16 : 2 ^ i ≤ 16 := by
      have : i ≤ 4 := by omega
      have := Nat.pow_le_pow_right (show 0 < 2 by decide) this
      simpa using this
    refine cond_intro (fun hlt => ?_) fun hge => ?_
    · have hlt := ltI hlt
      have hb : bit01 (q.getD i 0) = true := by
        rw [List.all_eq_true] at h3
        exact h3 _ (by simp [List.getD, List.getElem?_eq_getElem hlt])
      rw [add1 hlt hlm, Int.toNat_natCast]
      rw [drop_cons _ _ hlt, show (q.getD i default : UInt8) = q.getD i 0 from rfl, binF_cons] at he
      generalize q.getD i 0 = b at hb he ⊢
      rw [sub48 b hb]
      have hd := dig_le hb
      have hs : addI .i64 (mulI .i64 2 (n : Int)) ((dig48 b : Nat) : Int) = ((2 * n + dig48 b : Nat) : Int) := by
        unfold mulI
        rw [IntWalk.i64_in _ ⟨by omega, by omega⟩, add64 (by omega) (by omega)]; omega
      rw [hs]
      exact ⟨⟨by omega, by omega⟩, Nx.mk (i + 1, 2 * n + dig48 b) ⟨hlt, by simp only; rw [Nat.pow_succ]; omega, he⟩ (by simp only; omega)⟩
    · rw [List.drop_of_length_le (geI hge), binF_nil] at he
      have h1 : addI .i64 (n : Int) 1 = ((n + 1 : Nat) : Int) := by rw [add64 (by omega) (by omega)]; omega
      rw [h1, he, Int.toNat_natCast, Int.toNat_natCast]
      have hn16 : n < 16 := by omega
      refine ⟨⟨by omega, by omega, by show ((n + 1 : Nat) : Int) ≤ 16; omega⟩, ?_⟩
      have : (figs.take (n + 1)).drop n = [figs.getD n 0] := by
        rw [List.drop_take, show n + 1 - n = 1 by omega, drop_cons figs n (by exact hn16)]; rfl
      exact Wk.of_eq (congrArg D.str this)
end Go.Proofs.YtpcbjkjgjoemaaaDoor.S1
/- Numbers drawn: the reference's function. -/
namespace Go.Proofs.YtpcbjkjgjoemaaaDoor.S1
open Go Go.Ab Go.Proofs
/-- The digits of a text. -/
def unT (q : Str) : Str := q.reverse.map fun b => UInt8.ofNat (b.toNat - 48)
def twR (q : Str) (c : Int) : Str := txtR (addC (dblR (unT q) c.toNat))
theorem unT_txt {ds : Str} (h : dgs ds) : unT (txtR ds) = ds := by
  unfold unT txtR
  rw [← List.map_reverse, List.reverse_reverse, List.map_map]
  have : ∀ (l : Str), dgs l → l.map ((fun b => UInt8.ofNat (b.toNat - 48)) ∘ txtB) = l := fun l => by
    induction l with
    | nil => intro _; rfl
    | cons x r ih =>
      intro h
      rw [List.map_cons, ih fun d hd => h d (List.mem_cons_of_mem _ hd)]
      have hx := h x (List.mem_cons_self ..)
      have : ((fun b => UInt8.ofNat (b.toNat - 48)) ∘ txtB) x = x := by
        show UInt8.ofNat ((txtB x).toNat - 48) = x
        rw [txtB_toNat hx, Nat.add_sub_cancel_left, UInt8.ofNat_toNat]
      rw [this]
  exact this ds h
theorem ctwZ [Lay] (q : Str) (c : Int) (h : ∃ ds, q = txtR ds ∧ dgs ds ∧ ds.length ≤ 1000000) (hc : 0 ≤ c ∧ c ≤ 1) : Pure PP 30 [.str q, I c] (.str (twR q c)) := by
  obtain ⟨ds, rfl, hd, hl⟩ := h
  have := c30 ds c.toNat hd (by omega) hl
  rw [show ((c.toNat : Nat) : Int) = c by omega] at this
  unfold twR
  rw [unT_txt hd]
  exact this
theorem F9 : OkF 9 Tryd.f9 := ⟨by kernel_rfl, by kernel_rfl, by kernel_rfl⟩
def lv9 : List (List Nat × List Nat) := [([1, 1, 0, 1, 0, 1, 1, 1, 0, 1, 0, 0], [0, 5]), ([1, 1, 0, 1, 0, 1, 1, 1, 1, 1, 0, 1, 1, 1, 1, 0, 1, 0], [0, 6, 7])]
noncomputable def nrns (q : Str) : List Nat → Nat → Option Ans := scrAt [([1, 0, 0], 1, Ans.pure [.str q] (B (decide (q ≠ [] ∧ List.length q ≤ 128 ∧ List.all q (List.contains xz01) = true)))), ([1, 1, 0, 1, 0, 1, 1, 1, 1, 1, 0, 0, 0], 1, Ans.pure [.str q, D.int IntKind.u8 120] (B (List.all q fun x => x == UInt8.ofNat (Int.toNat 120)))), ([1, 1, 0, 1, 0, 1, 1, 1, 1, 1, 0, 1, 0, 0], 1, Ans.pure [.str q, D.int IntKind.u8 122] (B (List.all q fun x => x == UInt8.ofNat (Int.toNat 122)))), ([1, 1, 0, 1, 0, 1, 1, 1, 1, 1, 0, 1, 1, 0, 0], 1, Ans.pure [.str q] (B (List.all q bit01)))]
theorem nrn [Lay] (q : Str) (base : Int) (K : D → Prop) : runS (En Tryd.f9) (fi Tryd.f9 K) (nrns q) lv9 200 [.code []] ⟨argSlots 0 [.str q, I base], .empty⟩ =
  (PureW PP 26 [.str q] [.str q] (B (decide (q ≠ [] ∧ List.length q ≤ 128 ∧ List.all q (List.contains xz01) = true))) ∧ bif !decide (q ≠ [] ∧ List.length q ≤ 128 ∧ List.all q (List.contains xz01) = true) then K (.str { data := #[] : ByteArray }.data.toList) else bif base == 0 then K (.str q) else bif base == 1 then At (En Tryd.f9) (fi Tryd.f9 K) [It.code [1, 1, 0, 1, 0, 1, 1, 1, 0, 1, 0, 0], It.blk 1, It.code [1, 1, 0, 1, 0, 1, 1, 1, 0, 1, 1], It.blk 0, It.code [1, 1, 1]] { sl := [(0, .str q), (5, .str { data := #[] : ByteArray }.data.toList)], h := Heap.empty : St } else bif base == 2 then PureW PP 28 [.str q, D.int IntKind.u8 120] [.str q, D.int IntKind.u8 120] (B (List.all q fun x => x == UInt8.ofNat (Int.toNat 120))) ∧ bif List.all q fun x => x == UInt8.ofNat 120 then K (.str { data := #[120] : ByteArray }.data.toList) else PureW PP 28 [.str q, D.int IntKind.u8 122] [.str q, D.int IntKind.u8 122] (B (List.all q fun x => x == UInt8.ofNat (Int.toNat 122))) ∧ bif List.all q fun x => x == UInt8.ofNat 122 then K (.str { data := #[122] : ByteArray }.data.toList) else PureW PP 29 [.str q] [.str q] (B (List.all q bit01)) ∧ bif !List.all q bit01 then K (.str { data := #[88] : ByteArray }.data.toList) else At (En Tryd.f9) (fi Tryd.f9 K) [It.code [1, 1, 0, 1, 0, 1, 1, 1, 1, 1, 0, 1, 1, 1, 1, 0, 1, 0], It.blk 3, It.code [1, 1, 0, 1, 0, 1, 1, 1, 1, 1, 0, 1, 1, 1, 1, 1], It.blk 0, It.code [1, 1, 1]] { sl := [(0, .str q), (6, .str { data := #[48] : ByteArray }.data.toList), (7, I 0)], h := Heap.empty : St } else K (.str { data := #[] : ByteArray }.data.toList)) := by kernel_rfl
def Srn (q out : Str) : St := ⟨[(0, .str q), (5, .str out)], .empty⟩
noncomputable def nrnas (q : Str) : List Nat → Nat → Option Ans := scrAt [([1, 1, 0, 1, 0, 1, 1, 1, 0, 1, 0, 0, 0, 1, 0], 5, Ans.pure [.str (List.drop (subI .i64 (↑(List.length q) : Int) 4).toNat q)] (.str (grpF (List.drop (subI .i64 (↑(List.length q) : Int) 4).toNat q)))), ([1, 1, 0, 1, 0, 1, 1, 1, 0, 1, 1, 0], 1, Ans.pure [.str q] (.str (grpF q)))]
theorem nrna [Lay] (q out : Str) (J : St → Prop) (K : D → Prop) : runS (En Tryd.f9) (fi Tryd.f9 K) (nrnas q) lv9 200 [.code [1, 1, 0, 1, 0, 1, 1, 1, 0, 1, 0, 0, 0], stp [0, 5] J, .blk 1, .code [1, 1, 0, 1, 0, 1, 1, 1, 0, 1, 1], .blk 0, .code [1, 1, 1]] (Srn q out) =
  (List.length q ≤ strM → bif decide ((↑(List.length q) : Int) > 4) then List.length q ≤ strM → (0 ≤ subI .i64 (↑(List.length q) : Int) 4 ∧ subI .i64 (↑(List.length q) : Int) 4 ≤ (↑(List.length q) : Int)) ∧ PureW PP 27 [.str (List.drop (subI .i64 (↑(List.length q) : Int) 4).toNat q)] [.str (List.drop (subI .i64 (↑(List.length q) : Int) 4).toNat q)] (.str (grpF (List.drop (subI .i64 (↑(List.length q) : Int) 4).toNat q))) ∧ List.length (grpF (List.drop (subI .i64 (↑(List.length q) : Int) 4).toNat q)) + List.length out ≤ strM ∧ (List.length q ≤ strM → ((0 : Int) ≤ 0 ∧ 0 ≤ subI .i64 (↑(List.length q) : Int) 4 ∧ subI .i64 (↑(List.length q) : Int) 4 ≤ (↑(List.length q) : Int)) ∧ J { sl := [(0, .str (List.drop 0 (List.take (subI .i64 (↑(List.length q) : Int) 4).toNat q))), (5, .str (grpF (List.drop (subI .i64 (↑(List.length q) : Int) 4).toNat q) ++ out))], h := Heap.empty : St }) else PureW PP 27 [.str q] [.str q] (.str (grpF q)) ∧ List.length (grpF q) + List.length out ≤ strM ∧ K (.str (grpF q ++ out))) := by kernel_rfl
def Srn2 (q out : Str) (i : Int) : St := ⟨[(0, .str q), (6, .str out), (7, I i)], .empty⟩
noncomputable def nrnbs (q : Str) (out : Str) (i : Int) : List Nat → Nat → Option Ans := scrAt [([1, 1, 0, 1, 0, 1, 1, 1, 1, 1, 0, 1, 1, 1, 1, 0, 1, 0, 0, 1, 0, 0], 6, Ans.pure [.str out, I (IntKind.i64.wrap (subI IntKind.u8 (↑(List.getD q i.toNat 0).toNat : Int) 48))] (.str (twR out (IntKind.i64.wrap (subI IntKind.u8 (↑(List.getD q i.toNat 0).toNat : Int) 48)))))]
theorem nrnb [Lay] (q out : Str) (i : Int) (J : St → Prop) (K : D → Prop) : runS (En Tryd.f9) (fi Tryd.f9 K) (nrnbs q out i) lv9 200 [.code [1, 1, 0, 1, 0, 1, 1, 1, 1, 1, 0, 1, 1, 1, 1, 0, 1, 0, 0], stp [0, 6, 7] J, .blk 3, .code [1, 1, 0, 1, 0, 1, 1, 1, 1, 1, 0, 1, 1, 1, 1, 1], .blk 0, .code [1, 1, 1]] (Srn2 q out i) =
  (List.length q ≤ strM → bif decide (i < (↑(List.length q) : Int)) then (0 ≤ i ∧ i < (↑(List.length q) : Int)) ∧ PureW PP 30 [.str out, I (IntKind.i64.wrap (subI IntKind.u8 (↑(List.getD q i.toNat 0).toNat : Int) 48))] [.str out, I (IntKind.i64.wrap (subI IntKind.u8 (↑(List.getD q i.toNat 0).toNat : Int) 48))] (.str (twR out (IntKind.i64.wrap (subI IntKind.u8 (↑(List.getD q i.toNat 0).toNat : Int) 48)))) ∧ J { sl := [(0, .str q), (6, .str (twR out (IntKind.i64.wrap (subI IntKind.u8 (↑(List.getD q i.toNat 0).toNat : Int) 48)))), (7, I (addI .i64 i 1))], h := Heap.empty : St } else K (.str out)) := by kernel_rfl
theorem grp_len (q : Str) : (grpF q).length = 1 := by
  unfold grpF
  split
  · rfl
  · split
    · rfl
    · split <;> rfl
theorem digR_app : ∀ (a b ds : Str), digR (a ++ b) ds = digR b (digR a ds)
  | [], _, _ => by rw [digR]; rfl
  | x :: a, b, ds => by
    rw [List.cons_append, digR, digR]
    exact digR_app a b _
theorem digR_ok : ∀ (q ds : Str), q.all bit01 = true → dgs ds → dgs (digR q ds) ∧ (digR q ds).length ≤ ds.length + q.length
  | [], ds, _, h => by rw [digR]; exact ⟨h, by simp⟩
  | b :: r, ds, hq, h => by
    rw [List.all_cons, Bool.and_eq_true] at hq
    rw [digR]
    have h1 := addC_dgs ds (dig48 b) h (dig_le hq.1)
    have h2 := addC_len (dblR ds (dig48 b))
    rw [dblR_len] at h2
    obtain ⟨h3, h4⟩ := digR_ok r _ hq.2 h1
    exact ⟨h3, by rw [List.length_cons]; omega⟩
theorem c9 [Lay] (q : Str) (base : Int) : Pure PP 9 [.str q, I base] (.str (numR q base)) := by
  refine pu F9 (by kernel_rfl) (of_eq (nrn q base _) ⟨PureW.mk (c26 q), ?_⟩)
  unfold numR
  refine cond_intro (fun h => ?_) fun h => ?_
  · have h : ¬ (q ≠ [] ∧ q.length ≤ 128 ∧ q.all xz01.contains = true) := by rw [Bool.not_eq_true'] at h; exact of_decide_eq_false h
    have : q = [] ∨ q.length > 128 ∨ q.all xz01.contains = false := by
      rcases Classical.em (q = []) with h1 | h1
      · exact .inl h1
      · rcases Nat.lt_or_ge 128 q.length with h2 | h2
        · exact .inr (.inl h2)
        · right; right
          cases hq : q.all xz01.contains with
          | false => rfl
          | true => exact absurd ⟨h1, h2, hq⟩ h
    rw [if_pos this]; exact Wk.refl _
  have h : q ≠ [] ∧ q.length ≤ 128 ∧ q.all xz01.contains = true := by rw [Bool.not_eq_false'] at h; exact of_decide_eq_true h
  obtain ⟨hne, hl, hxz⟩ := h
  rw [if_neg (fun hc => Or.elim hc hne fun hc => Or.elim hc (fun h => by omega) fun h => by rw [hxz] at h; cases h)]
  refine cond_intro (fun hb => ?_) fun hb => cond_intro (fun hb1 => ?_) fun hb1 => cond_intro (fun hb2 => ?_) fun hb2 => ?_
  · rw [if_pos (by simpa using hb)]; exact Wk.refl _
  · rw [if_neg (by simpa using hb), if_pos (by simpa using hb1)]
    refine lp (fn := Tryd.f9) (fun z : Str × Str => z.1 ≠ [] ∧ z.1.length + z.2.length ≤ 128 ∧ hexT q = hexT z.1 ++ z.2) (fun z => Srn z.1 z.2) (fun z => z.1.length) [0, 5] (by kernel_rfl) (fun z hz => of_eq (nrna z.1 z.2 _ _) fun hs => ?_) (q, []) ⟨hne, by simp; omega, by simp⟩
    obtain ⟨r, out⟩ := z
    obtain ⟨hr, hrl, he⟩ := hz
    simp only at hr hrl he ⊢
    have hrp : 0 < r.length := List.length_pos_iff.2 hr
    refine cond_intro (fun h => fun _ => ?_) fun h => ?_
    · have h : 4 < r.length := by have := of_decide_eq_true h; omega
      have h4 : subI .i64 (r.length : Int) 4 = ((r.length - 4 : Nat) : Int) := by rw [sub64 (by omega) (by omega)]; omega
      rw [h4, Int.toNat_natCast]
      have hdl : (r.drop (r.length - 4)).length = 4 := by rw [List.length_drop]; omega
      have hdn : r.drop (r.length - 4) ≠ [] := by intro h0; rw [h0] at hdl; cases hdl
      have htl : (r.take (r.length - 4)).length = r.length - 4 := by rw [List.length_take]; omega
      refine ⟨⟨by omega, by omega⟩, PureW.mk (c27 _ hdn (by omega)), by rw [grp_len]; unfold strM; omega, fun _ => ⟨⟨by omega, by omega, by omega⟩, ?_⟩⟩
      rw [List.drop_zero, grpF_eq hdn]
      refine Nx.mk (r.take (r.length - 4), [groupR (r.drop (r.length - 4))] ++ out) ⟨?_, ?_, ?_⟩ ?_
      · intro h0
        simp only at h0
        rw [h0] at htl; simp at htl; omega
      · simp only [List.length_append, List.length_singleton]; omega
      · simp only
        rw [he, hexT_last h, List.append_assoc]
      · simp only; omega
    · have h : r.length ≤ 4 := by have := of_decide_eq_false h; omega
      refine ⟨PureW.mk (c27 _ hr h), by rw [grp_len]; unfold strM; omega, ?_⟩
      rw [he, hexT_small hr h, grpF_eq hr]; exact Wk.refl _
  · rw [if_neg (by simpa using hb), if_neg (by simpa using hb1), if_pos (by simpa using hb2)]
    have s1 := sameR_iff hne (c := 120) (by decide)
    have s2 := sameR_iff hne (c := 122) (by decide)
    refine ⟨PureW.mk (callZ _ _ ⟨by decide, by decide⟩), cond_intro (fun h => ?_) fun h => ⟨PureW.mk (callZ _ _ ⟨by decide, by decide⟩), cond_intro (fun h2 => ?_) fun h2 => ⟨PureW.mk (c29 _), cond_intro (fun h3 => ?_) fun h3 => ?_⟩⟩⟩
    · have h : q.all (· == 120) = true := h
      rw [if_pos (.inl (s1.2 h)), s1.2 h]; exact Wk.refl _
    · have h2 : q.all (· == 122) = true := h2
      rw [if_pos (.inr (s2.2 h2)), s2.2 h2]; exact Wk.refl _
    all_goals
      have h : q.all (· == 120) = false := h
      have h2 : q.all (· == 122) = false := h2
      rw [if_neg (fun hc => Or.elim hc (fun e => by rw [s1.1 e] at h; cases h) fun e => by rw [s2.1 e] at h2; cases h2)]
    · have h3 : q.all bit01 = false := by simpa using h3
      rw [if_neg (by rw [h3]; simp)]; exact Wk.refl _
    · have h3 : q.all bit01 = true := by simpa using h3
      rw [if_pos h3]
      refine lp (fn := Tryd.f9) (fun z : Nat × Str => z.1 ≤ q.length ∧ z.2 = txtR (digR (q.take z.1) [0])) (fun z => Srn2 q z.2 z.1) (fun z => q.length - z.1) [0, 6, 7] (by kernel_rfl) (fun z hz => of_eq (nrnb q z.2 z.1 _ _) fun hs => ?_) (0, [48]) ⟨Nat.zero_le _, by rw [List.take_zero, digR]; rfl⟩
      obtain ⟨i, out⟩ := z
      obtain ⟨hi, he⟩ := hz
      simp only at hi he ⊢
      refine cond_intro (fun hlt => ?_) fun hge => ?_
      · have hlt := ltI hlt
        rw [Int.toNat_natCast]
        have hb : bit01 (q.getD i 0) = true := by
          rw [List.all_eq_true] at h3
          exact h3 _ (by simp [List.getD, List.getElem?_eq_getElem hlt])
        have hts := take_snoc q i hlt
        rw [show (q.getD i default : UInt8) = q.getD i 0 from rfl] at hts
        generalize q.getD i 0 = b at hb hts ⊢
        rw [sub48 b hb]
        have hd := dig_le hb
        have hall : (q.take i).all bit01 = true := by
          rw [List.all_eq_true] at h3 ⊢
          exact fun x hx => h3 x (List.mem_of_mem_take hx)
        obtain ⟨h4, h5⟩ := digR_ok (q.take i) [0] hall (by intro d hd; rw [List.mem_singleton.1 hd]; decide)
        have h6 : (q.take i).length ≤ 128 := by rw [List.length_take]; omega
        rw [add1 hlt (by unfold strM at hs; unfold lenM; omega)]
        refine ⟨⟨by omega, by omega⟩, PureW.mk (ctwZ out _ ⟨_, he, h4, by rw [List.length_singleton] at h5; omega⟩ ⟨by omega, by omega⟩), Nx.mk (i + 1, twR out (dig48 b : Int)) ⟨hlt, ?_⟩ (by simp only; omega)⟩
        simp only
        rw [hts, digR_app, he, twR, unT_txt h4, Int.toNat_natCast, digR, digR]
      · have := geI hge
        rw [List.take_of_length_le this] at he
        rw [he]; exact Wk.refl _
  · rw [if_neg (by simpa using hb), if_neg (by simpa using hb1), if_neg (by simpa using hb2)]; exact Wk.refl _
end Go.Proofs.YtpcbjkjgjoemaaaDoor.S1
/- Lines: the code's Line, in parts. -/
namespace Go.Proofs.YtpcbjkjgjoemaaaDoor.S1
open Go Go.Ab Go.Proofs
theorem clastZ [Lay] (frm stp cols fin : Int) (h : 0 ≤ frm ∧ frm ≤ fin ∧ fin ≤ 1099511627776 ∧ szB stp cols = true) : Pure PP 32 [.agg [I frm, I stp, I cols, I fin]] (I (lastC frm stp cols fin)) := by
  have hs : 1 ≤ stp ∧ stp ≤ 1099511627776 ∧ 1 ≤ cols ∧ cols ≤ 200 := by have := h.2.2.2; unfold szB at this; exact of_decide_eq_true this
  exact c32 frm stp cols fin ⟨h.1, by omega⟩ ⟨by omega, hs.2.1⟩ ⟨by omega, hs.2.2.2⟩
/-- The value and the changes behind spans. -/
def spV (es : List Sp) : Str := (es.getD 0 default).val
def spC (es : List Sp) : List Chg := es.tail.map fun q => ⟨q.frm, q.val⟩
theorem spV_sp : ∀ (f : Int) (v : Str) (z : Int) (c : List Chg), spV (spS f v z c) = v
  | _, _, _, [] => rfl
  | _, _, _, _ :: _ => rfl
theorem sp_map : ∀ (f : Int) (v : Str) (z : Int) (c : List Chg), (spS f v z c).map (fun q => (⟨q.frm, q.val⟩ : Chg)) = ⟨f, v⟩ :: c
  | _, _, _, [] => rfl
  | f, v, z, x :: r => by rw [spS, List.map_cons, sp_map x.time x.val z r]
theorem spC_sp (f : Int) (v : Str) (z : Int) (c : List Chg) : spC (spS f v z c) = c := by
  have h := congrArg List.tail (sp_map f v z c)
  rw [← List.map_tail] at h
  exact h
/-- What a line's columns want. -/
structure ColOk (frm stp cols fin : Int) (v : Str) (c : List Chg) : Prop where
  h1 : 0 ≤ frm ∧ frm ≤ fin
  h2 : 1 ≤ stp ∧ stp ≤ 1099511627776
  h3 : 1 ≤ cols ∧ cols ≤ 200
  h4 : fin ≤ 1099511627776
  hlen : c.length ≤ 900
  hi : Inc frm c
  hlf : ∀ x ∈ c, x.time ≤ lastC frm stp cols fin
theorem cbitX [Lay] (frm stp cols fin : Int) (es : List Sp) (h : ∃ v c, es = spS frm v (lastC frm stp cols fin) c ∧ ColOk frm stp cols fin v c) : Pure PP 35 [.agg [I frm, I stp, I cols, I fin], L es 3 Sp.d] (.str (bitS (spV es) (spC es) stp fin cols.toNat frm)) := by
  obtain ⟨v, c, rfl, o⟩ := h
  rw [spV_sp, spC_sp]
  exact c35 frm stp cols fin o.h1 o.h2 o.h3 o.h4 v c o.hlen o.hi o.hlf
theorem cbusX [Lay] (frm stp cols fin : Int) (es : List Sp) (k : Int) (n : Ln) (h : ∃ v c, es = spS frm v (lastC frm stp cols fin) c ∧ ColOk frm stp cols fin v c ∧ ∀ i, i ≤ c.length → (curV v c i).length ≤ 1000000 ∧ (txF k n.base (curV v c i)).length ≤ 1000000) :
    Pure PP 36 [.agg [I frm, I stp, I cols, I fin], L es 3 Sp.d, .clo 37 [.ep [I k], .ep [I n.sig, .str n.lab, I n.base]]] (.str (busS (txF k n.base) (spV es) (spC es) stp fin cols.toNat frm 0 0)) := by
  obtain ⟨v, c, rfl, o, hcv⟩ := h
  rw [spV_sp, spC_sp]
  exact c36 frm stp cols fin o.h1 o.h2 o.h3 o.h4 v c o.hlen o.hi o.hlf k n hcv
theorem Does.args [Lay] {f : Nat} {args args' : List D} {h h' : Heap} {v : D} (c : Does PP f args' h v h') (hw : Wks args args') : Does PP f args h v h' := fun K hk => ⟨(c K hk).ok, fun g U w vs i hs => (c K hk).calls g U w vs i (hw g vs hs)⟩
theorem echk1 [Lay] (w : Wv) (lim c : Int) (sg : Int) (lb : Str) (bs : Int) (a stp cols : Int) : Does PP 31 [.iface 36 (.bp 0 0), .list 1 3 (litG [.agg [I sg, .str lb, I bs]]) .full, I a, I stp, I cols] (hM w lim c) (I (chkR w [⟨sg, lb, bs⟩] a stp cols)) (hM w lim c) :=
  Does.args (e31 w lim c [⟨sg, lb, bs⟩] a stp cols) (Wks.cons (Wk.refl _) (Wks.cons (Wk.litL rfl rfl) (Wks.refl _)))
theorem F11 : OkF 11 Tryd.f11 := ⟨by kernel_rfl, by kernel_rfl, by kernel_rfl⟩
def lv11 : List (List Nat × List Nat) := []
noncomputable def lvL1 : List (List Nat × List Nat) := [([1, 1, 1], [0, 2, 3, 4, 6, 13, 14, 15])]
noncomputable def lvL2 : List (List Nat × List Nat) := [([1, 1, 1, 1, 1, 1, 0, 1, 0, 1, 1], [4, 16, 18]), ([1, 1, 1, 1, 1, 1, 0, 1, 1, 1, 1], [4, 6, 13, 14, 16, 19])]
noncomputable def lvL3 : List (List Nat × List Nat) := [([1, 1, 1, 1, 1, 1, 0, 1, 1, 1, 1, 1, 1], [4, 6, 13, 16, 19])]
noncomputable def nDL1s (w : Wv) (lim : Int) (c : Int) (l : Ln) (a : Int) (stp : Int) (cols : Int) : List Nat → Nat → Option Ans := scrAt [([1, 0, 0], 6, Ans.eff (I (chkR w [l] a stp cols)) (hM w lim c)), ([1, 1, 0], 3, Ans.eff (.tup [I (kindR w lim c l.sig).fst, I (kindR w lim c l.sig).snd.fst, I (kindR w lim c l.sig).snd.snd]) (hM w lim (addI .i64 c 1)))]
theorem nDL1 [Lay] (w : Wv) (lim c : Int) (l : Ln) (a stp cols : Int) (K : D → Heap → Prop) : runS (En Tryd.f11) (fh Tryd.f11 K) (nDL1s w lim c l a stp cols) lvL1 200 [.code []] ⟨argSlots 0 [memD, l.d, I a, I stp, I cols], hM w lim c⟩ =
  (Does PP 31 [D.iface 36 (D.bp 0 0), .list 1 3 (litG [.agg [I l.sig, .str l.lab, I l.base]]) .full, I a, I stp, I cols] { box := upd (fun _ => none) 0 (some (Row.lit [L w.sig 3 Sig.d, L w.gap 2 Iv.d, I w.fin, I lim, I c])), nl := 1, hw := fun _ => none, nt := 0, vw := fun _ => none : Heap } (I (chkR w [l] a stp cols)) (hM w lim c) ∧ bif chkR w [l] a stp cols != 0 then K (.tup [.str { data := #[] : ByteArray }.data.toList, I (chkR w [l] a stp cols)]) { box := upd (fun _ => none) 0 (some (Row.lit [L w.sig 3 Sig.d, L w.gap 2 Iv.d, I w.fin, I lim, I c])), nl := 1, hw := fun _ => none, nt := 0, vw := fun _ => none : Heap } else Does PP 123 [D.bp 0 0, I l.sig] { box := upd (fun _ => none) 0 (some (Row.lit [L w.sig 3 Sig.d, L w.gap 2 Iv.d, I w.fin, I lim, I c])), nl := 1, hw := fun _ => none, nt := 0, vw := fun _ => none : Heap } (.tup [I (kindR w lim c l.sig).fst, I (kindR w lim c l.sig).snd.fst, I (kindR w lim c l.sig).snd.snd]) (hM w lim (addI .i64 c 1)) ∧ True ∧ At (En Tryd.f11) (fh Tryd.f11 K) [It.code [1, 1, 1]] { sl := [(0, memD), (2, I a), (3, I stp), (4, I cols), (6, .own [I l.sig, .str l.lab, I l.base]), (13, .own [I (kindR w lim c l.sig).fst]), (14, I (kindR w lim c l.sig).snd.fst), (15, I (kindR w lim c l.sig).snd.snd)], h := { box := upd (fun _ => none) 0 (some (Row.lit [L w.sig 3 Sig.d, L w.gap 2 Iv.d, I w.fin, I lim, I (addI .i64 c 1)])), nl := 1, hw := fun _ => none, nt := 0, vw := fun _ => none : Heap } : St }) := by kernel_rfl
noncomputable def nDL2s (w : Wv) (lim : Int) (c : Int) (l : Ln) (a : Int) (stp : Int) (cols : Int) : List Nat → Nat → Option Ans := scrAt [([1, 1, 1, 1, 0], 4, Ans.eff (I w.fin) (hM w lim c)), ([1, 1, 1, 1, 1, 1, 0, 1, 0, 1, 0, 0], 5, Ans.pure [.agg [I a, I stp, I cols, I w.fin]] (I (lastC a stp cols w.fin))), ([1, 1, 1, 1, 1, 1, 0, 1, 0, 1, 0, 0], 9, Ans.eff (.tup [L (winR w lim c l.sig a (lastC a stp cols w.fin)).fst 2 Chg.d, I (winR w lim c l.sig a (lastC a stp cols w.fin)).snd]) (hM w lim (addI .i64 c 1))), ([1, 1, 1, 1, 1, 1, 0, 1, 1, 1, 0, 0], 5, Ans.pure [.agg [I a, I stp, I cols, I w.fin]] (I (lastC a stp cols w.fin))), ([1, 1, 1, 1, 1, 1, 0, 1, 1, 1, 0, 0], 6, Ans.eff (.tup [L (ofR w lim c l.sig a (lastC a stp cols w.fin)).fst 3 Sp.d, I (ofR w lim c l.sig a (lastC a stp cols w.fin)).snd.fst]) (hM w lim (ofR w lim c l.sig a (lastC a stp cols w.fin)).snd.snd))]
theorem nDL2 [Lay] (w : Wv) (lim c : Int) (l : Ln) (a stp cols k wd e : Int) (K : D → Heap → Prop) : runS (En Tryd.f11) (fh Tryd.f11 K) (nDL2s w lim c l a stp cols) lvL2 200 [.code [1, 1, 1]] ⟨[(0, memD), (2, I a), (3, I stp), (4, I cols), (6, .own [I l.sig, .str l.lab, I l.base]), (13, .own [I k]), (14, I wd), (15, I e)], hM w lim c⟩ =
  (bif e != 0 then K (.tup [.str { data := #[] : ByteArray }.data.toList, I e]) { box := upd (fun _ => none) 0 (some (Row.lit [L w.sig 3 Sig.d, L w.gap 2 Iv.d, I w.fin, I lim, I c])), nl := 1, hw := fun _ => none, nt := 0, vw := fun _ => none : Heap }
 else
  Does PP 122 [D.bp 0 0] { box := upd (fun _ => none) 0 (some (Row.lit [L w.sig 3 Sig.d, L w.gap 2 Iv.d, I w.fin, I lim, I c])), nl := 1, hw := fun _ => none, nt := 0, vw := fun _ => none : Heap } (I w.fin) (hM w lim c) ∧
    True ∧
      bif k == 3 then PureW PP 32 [.agg [I a, I stp, I cols, I w.fin]] [.agg [I a, I stp, I cols, I w.fin]] (I (lastC a stp cols w.fin)) ∧ Does PP 126 [D.bp 0 0, I l.sig, I a, I (lastC a stp cols w.fin)] { box := upd (fun _ => none) 0 (some (Row.lit [L w.sig 3 Sig.d, L w.gap 2 Iv.d, I w.fin, I lim, I c])), nl := 1, hw := fun _ => none, nt := 0, vw := fun _ => none : Heap } (.tup [L (winR w lim c l.sig a (lastC a stp cols w.fin)).fst 2 Chg.d, I (winR w lim c l.sig a (lastC a stp cols w.fin)).snd]) (hM w lim (addI .i64 c 1)) ∧ bif (winR w lim c l.sig a (lastC a stp cols w.fin)).snd != 0 then K (.tup [.str { data := #[] : ByteArray }.data.toList, I (winR w lim c l.sig a (lastC a stp cols w.fin)).snd]) { box := upd (fun _ => none) 0 (some (Row.lit [L w.sig 3 Sig.d, L w.gap 2 Iv.d, I w.fin, I lim, I (addI .i64 c 1)])), nl := 1, hw := fun _ => none, nt := 0, vw := fun _ => none : Heap } else At (En Tryd.f11) (fh Tryd.f11 K) [It.code [1, 1, 1, 1, 1, 1, 0, 1, 0, 1, 1], It.code [1, 1, 1, 1, 1, 1, 1]] { sl := [(4, I cols), (16, .own [I a, I stp, I cols, I w.fin]), (18, L (winR w lim c l.sig a (lastC a stp cols w.fin)).fst 2 Chg.d)], h := { box := upd (fun _ => none) 0 (some (Row.lit [L w.sig 3 Sig.d, L w.gap 2 Iv.d, I w.fin, I lim, I (addI .i64 c 1)])), nl := 1, hw := fun _ => none, nt := 0, vw := fun _ => none : Heap } : St }
      else PureW PP 32 [.agg [I a, I stp, I cols, I w.fin]] [.agg [I a, I stp, I cols, I w.fin]] (I (lastC a stp cols w.fin)) ∧ Does PP 34 [D.iface 36 (D.bp 0 0), I l.sig, I a, I (lastC a stp cols w.fin)] { box := upd (fun _ => none) 0 (some (Row.lit [L w.sig 3 Sig.d, L w.gap 2 Iv.d, I w.fin, I lim, I c])), nl := 1, hw := fun _ => none, nt := 0, vw := fun _ => none : Heap } (.tup [L (ofR w lim c l.sig a (lastC a stp cols w.fin)).fst 3 Sp.d, I (ofR w lim c l.sig a (lastC a stp cols w.fin)).snd.fst]) (hM w lim (ofR w lim c l.sig a (lastC a stp cols w.fin)).snd.snd) ∧ bif (ofR w lim c l.sig a (lastC a stp cols w.fin)).snd.fst != 0 then K (.tup [.str { data := #[] : ByteArray }.data.toList, I (ofR w lim c l.sig a (lastC a stp cols w.fin)).snd.fst]) { box := upd (fun _ => none) 0 (some (Row.lit [L w.sig 3 Sig.d, L w.gap 2 Iv.d, I w.fin, I lim, I (ofR w lim c l.sig a (lastC a stp cols w.fin)).snd.snd])), nl := 1, hw := fun _ => none, nt := 0, vw := fun _ => none : Heap } else At (En Tryd.f11) (fh Tryd.f11 K) [It.code [1, 1, 1, 1, 1, 1, 0, 1, 1, 1, 1], It.code [1, 1, 1, 1, 1, 1, 1]] { sl := [(4, I cols), (6, .own [I l.sig, .str l.lab, I l.base]), (13, .own [I k]), (14, I wd), (16, .own [I a, I stp, I cols, I w.fin]), (19, L (ofR w lim c l.sig a (lastC a stp cols w.fin)).fst 3 Sp.d)], h := { box := upd (fun _ => none) 0 (some (Row.lit [L w.sig 3 Sig.d, L w.gap 2 Iv.d, I w.fin, I lim, I (ofR w lim c l.sig a (lastC a stp cols w.fin)).snd.snd])), nl := 1, hw := fun _ => none, nt := 0, vw := fun _ => none : Heap } : St }) := by kernel_rfl
noncomputable def nDL3s (a : Int) (stp : Int) (cols : Int) (fin : Int) (ls : List Chg) : List Nat → Nat → Option Ans := scrAt [([1, 1, 1, 1, 1, 1, 0, 1, 0, 1, 1], 2, Ans.pure [.agg [I a, I stp, I cols, I fin], L ls 2 Chg.d] (.str (evS ls stp fin cols.toNat a))), ([1, 1, 1, 1, 1, 1, 1, 0], 5, Ans.pure [.str { data := #[32] : ByteArray }.data.toList, I (subI .i64 cols (↑(List.length (evS ls stp fin cols.toNat a)) : Int))] (.str (Lib.repeatL { data := #[32] : ByteArray }.data.toList (subI .i64 cols (↑(List.length (evS ls stp fin cols.toNat a)) : Int)).toNat)))]
theorem nDL3 [Lay] (w : Wv) (lim c : Int) (a stp cols fin : Int) (ls : List Chg) (K : D → Heap → Prop) : runS (En Tryd.f11) (fh Tryd.f11 K) (nDL3s a stp cols fin ls) nolv 200 [.code [1, 1, 1, 1, 1, 1, 0, 1, 0, 1, 1], .code [1, 1, 1, 1, 1, 1, 1]] ⟨[(4, I cols), (16, .own [I a, I stp, I cols, I fin]), (18, L ls 2 Chg.d)], hM w lim c⟩ =
  (PureW PP 33 [.agg [I a, I stp, I cols, I fin], L ls 2 Chg.d] [.agg [I a, I stp, I cols, I fin], L ls 2 Chg.d] (.str (evS ls stp fin cols.toNat a)) ∧ (List.length (evS ls stp fin cols.toNat a) ≤ strM → PureW PP 39 [.str { data := #[32] : ByteArray }.data.toList, I (subI .i64 cols (↑(List.length (evS ls stp fin cols.toNat a)) : Int))] [.str { data := #[32] : ByteArray }.data.toList, I (subI .i64 cols (↑(List.length (evS ls stp fin cols.toNat a)) : Int))] (.str (Lib.repeatL { data := #[32] : ByteArray }.data.toList (subI .i64 cols (↑(List.length (evS ls stp fin cols.toNat a)) : Int)).toNat)) ∧ List.length (evS ls stp fin cols.toNat a) + (Lib.repeatL { data := #[32] : ByteArray }.data.toList (subI .i64 cols (↑(List.length (evS ls stp fin cols.toNat a)) : Int)).toNat).length ≤ strM ∧ K (.tup [.str (evS ls stp fin cols.toNat a ++ Lib.repeatL { data := #[32] : ByteArray }.data.toList (subI .i64 cols (↑(List.length (evS ls stp fin cols.toNat a)) : Int)).toNat), I 0]) { box := upd (fun _ => none) 0 (some (Row.lit [L w.sig 3 Sig.d, L w.gap 2 Iv.d, I w.fin, I lim, I c])), nl := 1, hw := fun _ => none, nt := 0, vw := fun _ => none : Heap })) := by kernel_rfl
noncomputable def nDL4s (a : Int) (stp : Int) (cols : Int) (fin : Int) (es : List Sp) : List Nat → Nat → Option Ans := scrAt [([1, 1, 1, 1, 1, 1, 0, 1, 1, 1, 1, 1, 0], 2, Ans.pure [.agg [I a, I stp, I cols, I fin], L es 3 Sp.d] (.str (bitS (spV es) (spC es) stp fin cols.toNat a))), ([1, 1, 1, 1, 1, 1, 1, 0], 5, Ans.pure [.str { data := #[32] : ByteArray }.data.toList, I (subI .i64 cols (↑(List.length (bitS (spV es) (spC es) stp fin cols.toNat a)) : Int))] (.str (Lib.repeatL { data := #[32] : ByteArray }.data.toList (subI .i64 cols (↑(List.length (bitS (spV es) (spC es) stp fin cols.toNat a)) : Int)).toNat)))]
theorem nDL4 [Lay] (w : Wv) (lim c : Int) (l : Ln) (a stp cols fin k wd : Int) (es : List Sp) (K : D → Heap → Prop) : runS (En Tryd.f11) (fh Tryd.f11 K) (nDL4s a stp cols fin es) lvL3 200 [.code [1, 1, 1, 1, 1, 1, 0, 1, 1, 1, 1], .code [1, 1, 1, 1, 1, 1, 1]] ⟨[(4, I cols), (6, .own [I l.sig, .str l.lab, I l.base]), (13, .own [I k]), (14, I wd), (16, .own [I a, I stp, I cols, I fin]), (19, L es 3 Sp.d)], hM w lim c⟩ =
  (bif bif k == 0 then wd == 1 else false then PureW PP 35 [.agg [I a, I stp, I cols, I fin], L es 3 Sp.d] [.agg [I a, I stp, I cols, I fin], L es 3 Sp.d] (.str (bitS (spV es) (spC es) stp fin cols.toNat a)) ∧ (List.length (bitS (spV es) (spC es) stp fin cols.toNat a) ≤ strM → PureW PP 39 [.str { data := #[32] : ByteArray }.data.toList, I (subI .i64 cols (↑(List.length (bitS (spV es) (spC es) stp fin cols.toNat a)) : Int))] [.str { data := #[32] : ByteArray }.data.toList, I (subI .i64 cols (↑(List.length (bitS (spV es) (spC es) stp fin cols.toNat a)) : Int))] (.str (Lib.repeatL { data := #[32] : ByteArray }.data.toList (subI .i64 cols (↑(List.length (bitS (spV es) (spC es) stp fin cols.toNat a)) : Int)).toNat)) ∧ List.length (bitS (spV es) (spC es) stp fin cols.toNat a) + (Lib.repeatL { data := #[32] : ByteArray }.data.toList (subI .i64 cols (↑(List.length (bitS (spV es) (spC es) stp fin cols.toNat a)) : Int)).toNat).length ≤ strM ∧ K (.tup [.str (bitS (spV es) (spC es) stp fin cols.toNat a ++ Lib.repeatL { data := #[32] : ByteArray }.data.toList (subI .i64 cols (↑(List.length (bitS (spV es) (spC es) stp fin cols.toNat a)) : Int)).toNat), I 0]) { box := upd (fun _ => none) 0 (some (Row.lit [L w.sig 3 Sig.d, L w.gap 2 Iv.d, I w.fin, I lim, I c])), nl := 1, hw := fun _ => none, nt := 0, vw := fun _ => none : Heap })
 else At (En Tryd.f11) (fh Tryd.f11 K) [It.code [1, 1, 1, 1, 1, 1, 0, 1, 1, 1, 1, 1, 1], It.code [1, 1, 1, 1, 1, 1, 1]] { sl := [(4, I cols), (6, .own [I l.sig, .str l.lab, I l.base]), (13, .own [I k]), (16, .own [I a, I stp, I cols, I fin]), (19, L es 3 Sp.d)], h := { box := upd (fun _ => none) 0 (some (Row.lit [L w.sig 3 Sig.d, L w.gap 2 Iv.d, I w.fin, I lim, I c])), nl := 1, hw := fun _ => none, nt := 0, vw := fun _ => none : Heap } : St }) := by kernel_rfl
noncomputable def nDL5s (l : Ln) (a : Int) (stp : Int) (cols : Int) (fin : Int) (k : Int) (es : List Sp) : List Nat → Nat → Option Ans := scrAt [([1, 1, 1, 1, 1, 1, 0, 1, 1, 1, 1, 1, 1], 3, Ans.pure [.agg [I a, I stp, I cols, I fin], L es 3 Sp.d, D.clo 37 [D.ep [I k], D.ep [I l.sig, .str l.lab, I l.base]]] (.str (busS (txF k l.base) (spV es) (spC es) stp fin cols.toNat a 0 0))), ([1, 1, 1, 1, 1, 1, 1, 0], 5, Ans.pure [.str { data := #[32] : ByteArray }.data.toList, I (subI .i64 cols (↑(List.length (busS (txF k l.base) (spV es) (spC es) stp fin cols.toNat a 0 0)) : Int))] (.str (Lib.repeatL { data := #[32] : ByteArray }.data.toList (subI .i64 cols (↑(List.length (busS (txF k l.base) (spV es) (spC es) stp fin cols.toNat a 0 0)) : Int)).toNat)))]
theorem nDL5 [Lay] (w : Wv) (lim c : Int) (l : Ln) (a stp cols fin k : Int) (es : List Sp) (K : D → Heap → Prop) : runS (En Tryd.f11) (fh Tryd.f11 K) (nDL5s l a stp cols fin k es) nolv 200 [.code [1, 1, 1, 1, 1, 1, 0, 1, 1, 1, 1, 1, 1], .code [1, 1, 1, 1, 1, 1, 1]] ⟨[(4, I cols), (6, .ep [I l.sig, .str l.lab, I l.base]), (13, .ep [I k]), (16, .own [I a, I stp, I cols, I fin]), (19, L es 3 Sp.d)], hM w lim c⟩ =
  (PureW PP 36 [.agg [I a, I stp, I cols, I fin], L es 3 Sp.d, D.clo 37 [D.ep [I k], D.ep [I l.sig, .str l.lab, I l.base]]] [.agg [I a, I stp, I cols, I fin], L es 3 Sp.d, D.clo 37 [D.ep [I k], D.ep [I l.sig, .str l.lab, I l.base]]] (.str (busS (txF k l.base) (spV es) (spC es) stp fin cols.toNat a 0 0)) ∧ (List.length (busS (txF k l.base) (spV es) (spC es) stp fin cols.toNat a 0 0) ≤ strM → PureW PP 39 [.str { data := #[32] : ByteArray }.data.toList, I (subI .i64 cols (↑(List.length (busS (txF k l.base) (spV es) (spC es) stp fin cols.toNat a 0 0)) : Int))] [.str { data := #[32] : ByteArray }.data.toList, I (subI .i64 cols (↑(List.length (busS (txF k l.base) (spV es) (spC es) stp fin cols.toNat a 0 0)) : Int))] (.str (Lib.repeatL { data := #[32] : ByteArray }.data.toList (subI .i64 cols (↑(List.length (busS (txF k l.base) (spV es) (spC es) stp fin cols.toNat a 0 0)) : Int)).toNat)) ∧ List.length (busS (txF k l.base) (spV es) (spC es) stp fin cols.toNat a 0 0) + (Lib.repeatL { data := #[32] : ByteArray }.data.toList (subI .i64 cols (↑(List.length (busS (txF k l.base) (spV es) (spC es) stp fin cols.toNat a 0 0)) : Int)).toNat).length ≤ strM ∧ K (.tup [.str (busS (txF k l.base) (spV es) (spC es) stp fin cols.toNat a 0 0 ++ Lib.repeatL { data := #[32] : ByteArray }.data.toList (subI .i64 cols (↑(List.length (busS (txF k l.base) (spV es) (spC es) stp fin cols.toNat a 0 0)) : Int)).toNat), I 0]) { box := upd (fun _ => none) 0 (some (Row.lit [L w.sig 3 Sig.d, L w.gap 2 Iv.d, I w.fin, I lim, I c])), nl := 1, hw := fun _ => none, nt := 0, vw := fun _ => none : Heap })) := by kernel_rfl
end Go.Proofs.YtpcbjkjgjoemaaaDoor.S1
