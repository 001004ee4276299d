/- Spans and changes: plain laws for lines. -/
import Derived.Test.YtpcbjkjgjoemaaaGreatDoorCCD1
namespace Go.Proofs.YtpcbjkjgjoemaaaGreatDoor.S1
open Go Go.Ab Go.Proofs
/-- The spans of these changes behind frm. -/
def spS : Int → Str → Int → List Chg → List Sp
  | frm, v, to, [] => [⟨frm, to, v⟩]
  | frm, v, to, x :: r => ⟨frm, x.time - 1, v⟩ :: spS x.time x.val to r
/-- Successive values differ. -/
def Dif : Str → List Chg → Prop
  | _, [] => True
  | v, x :: r => v ≠ x.val ∧ Dif x.val r
theorem spS_len : ∀ (l : List Chg) (frm : Int) (v : Str) (to : Int), (spS frm v to l).length = l.length + 1
  | [], _, _, _ => rfl
  | x :: r, _, _, to => by rw [spS, List.length_cons, spS_len r, List.length_cons]
theorem foldl_sp (to : Int) : ∀ (l : List Chg) (a : List Sp) (frm : Int) (v : Str), Dif v l → (∀ x ∈ l, 0 ≤ x.time ∧ x.time ≤ 1099511627777) →
    lastTo (l.foldl (fun o x => addS o x.time x.val) (a ++ [⟨frm, 0, v⟩])) to = a ++ spS frm v to l
  | [], a, frm, v, _, _ => by
    rw [List.foldl_nil, lastTo_snoc, spS]
  | x :: r, a, frm, v, ⟨h1, h2⟩, hx => by
    have hx1 := hx x (List.mem_cons_self ..)
    rw [List.foldl_cons, addS_snoc, if_neg h1, sub64 (by omega) (by omega)]
    rw [foldl_sp to r _ x.time x.val h2 fun y hy => hx y (List.mem_cons_of_mem _ hy), spS, List.append_assoc]
    rfl
theorem codeL_sp {l : List Chg} {frm to : Int} {v : Str} (h : Dif v l) (hx : ∀ x ∈ l, 0 ≤ x.time ∧ x.time ≤ 1099511627777) : codeL v l frm to = spS frm v to l := by
  have := foldl_sp to l [] frm v h hx
  rw [List.nil_append, List.nil_append] at this
  exact this
theorem Dif.app : ∀ {a b : List Chg} {v : Str} {t : Int}, Dif v (a ++ b) → (∀ x ∈ a, x.time ≤ t) → Dif (valAt v a t) b
  | [], _, _, _, h, _ => h
  | x :: a, b, v, t, ⟨_, h⟩, ha => by
    rw [valAt_cons, decide_eq_true (ha x (List.mem_cons_self ..))]
    exact Dif.app h fun y hy => ha y (List.mem_cons_of_mem _ hy)
theorem Dif.left : ∀ {a b : List Chg} {v : Str}, Dif v (a ++ b) → Dif v a
  | [], _, _, _ => trivial
  | _ :: _, _, _, ⟨h1, h2⟩ => ⟨h1, Dif.left h2⟩
theorem Inc.left : ∀ {a b : List Chg} {t : Int}, Inc t (a ++ b) → Inc t a
  | [], _, _, _ => trivial
  | _ :: _, _, _, ⟨h1, h2⟩ => ⟨h1, Inc.left h2⟩
/-- The changes, cut at both ends. -/
theorem Inc.cut3 {s : Int} {l : List Chg} (h : Inc s l) {frm to : Int} (hft : frm ≤ to) : ∃ a b, l = a ++ (cut l frm to ++ b) ∧ (∀ x ∈ a, x.time ≤ frm) ∧ Inc frm (cut l frm to) ∧ (∀ x ∈ cut l frm to, x.time ≤ to) ∧ (∀ x ∈ b, to < x.time) := by
  obtain ⟨a, r, rfl, ha, hr⟩ := h.split frm
  obtain ⟨m, b, rfl, hm, hb⟩ := hr.split to
  have hm' := hr.left
  have hc : cut (a ++ (m ++ b)) frm to = m := by
    unfold cut
    rw [List.filter_append, List.filter_append, List.filter_eq_nil_iff.2 (fun x hx => by have := ha x hx; simp; omega), List.filter_eq_self.2 (fun x hx => by have := hm x hx; have := hm'.gt x hx; simp; omega), List.filter_eq_nil_iff.2 (fun x hx => by have := hb.gt x hx; simp; omega)]
    simp
  rw [hc]
  exact ⟨a, b, rfl, ha, hm', hm, hb.gt⟩
/-- How many changes up to t. -/
def nLe (l : List Chg) (t : Int) : Nat := (l.filter fun x => decide (x.time ≤ t)).length
theorem nLe_le (l : List Chg) (t : Int) : nLe l t ≤ l.length := List.length_filter_le _ _
theorem nLe_cons (x : Chg) (l : List Chg) (t : Int) : nLe (x :: l) t = (if x.time ≤ t then 1 else 0) + nLe l t := by
  unfold nLe
  rw [List.filter_cons]
  by_cases h : x.time ≤ t
  · rw [if_pos (by simpa using h), if_pos h, List.length_cons]; omega
  · rw [if_neg (by simpa using h), if_neg h]; omega
theorem nLe_zero {l : List Chg} {t : Int} (h : ∀ x ∈ l, t < x.time) : nLe l t = 0 := by
  unfold nLe
  rw [List.filter_eq_nil_iff.2 fun x hx => by have := h x hx; simp; omega]; rfl
theorem nLe_all {l : List Chg} {t : Int} (h : ∀ x ∈ l, x.time ≤ t) : nLe l t = l.length := by
  unfold nLe
  rw [List.filter_eq_self.2 fun x hx => by simpa using h x hx]
theorem nLe_mono (l : List Chg) {s t : Int} (h : s ≤ t) : nLe l s ≤ nLe l t := by
  induction l with
  | nil => exact Nat.le_refl _
  | cons x r ih =>
    rw [nLe_cons, nLe_cons]
    by_cases h1 : x.time ≤ s
    · rw [if_pos h1, if_pos (by omega)]; omega
    · rw [if_neg h1]; split <;> omega
/-- In order, the first are those up to t. -/
theorem nLe_iff : ∀ {l : List Chg} {s : Int} (_ : Inc s l) (t : Int) (i : Nat), i < nLe l t ↔ i < l.length ∧ (l.getD i default).time ≤ t
  | [], _, _, _, i => by unfold nLe; simp
  | x :: r, s, ⟨h1, h2⟩, t, i => by
    rw [nLe_cons]
    by_cases hx : x.time ≤ t
    · rw [if_pos hx]
      cases i with
      | zero => simp [hx]; omega
      | succ i =>
        rw [List.getD_cons_succ, List.length_cons]
        have := nLe_iff h2 t i
        omega
    · rw [if_neg hx, nLe_zero (l := r) fun y hy => by have := h2.gt y hy; omega]
      cases i with
      | zero => simp [hx]
      | succ i =>
        rw [List.getD_cons_succ, List.length_cons]
        refine ⟨fun h => by omega, fun ⟨a, b⟩ => ?_⟩
        have hm : r.getD i default ∈ r := by
          rw [List.getD_eq_getElem?_getD, List.getElem?_eq_getElem (by omega)]
          exact List.getElem_mem (by omega)
        have := h2.gt _ hm; omega
/-- The value behind i changes. -/
def curV (v : Str) (l : List Chg) : Nat → Str
  | 0 => v
  | i + 1 => (l.getD i default).val
theorem spS_get : ∀ (l : List Chg) (frm : Int) (v : Str) (to : Int) (i : Nat), i ≤ l.length →
    (spS frm v to l).getD i default = ⟨if i = 0 then frm else (l.getD (i - 1) default).time, if i < l.length then (l.getD i default).time - 1 else to, curV v l i⟩
  | [], frm, v, to, i, h => by
    have : i = 0 := by simpa using h
    subst this; rfl
  | x :: r, frm, v, to, 0, h => by rw [spS]; simp [curV]
  | x :: r, frm, v, to, i + 1, h => by
    have h' : i ≤ r.length := by simpa using h
    rw [spS, List.getD_cons_succ, spS_get r x.time x.val to i h']
    rw [List.getD_cons_succ, List.length_cons]
    have hc : curV x.val r i = curV v (x :: r) (i + 1) := by cases i <;> rfl
    rw [hc, if_neg (Nat.succ_ne_zero i), Nat.add_sub_cancel]
    congr 1
    · cases i with
      | zero => rfl
      | succ i => rw [if_neg (Nat.succ_ne_zero i), Nat.add_sub_cancel, List.getD_cons_succ]
    · by_cases h3 : i < r.length
      · rw [if_pos h3, if_pos (by omega)]
      · rw [if_neg h3, if_neg (by omega)]
/-- How many changes from a to b. -/
def cntR (l : List Chg) (a b : Int) : Nat := (l.filter fun x => decide (x.time ≥ a) && decide (x.time ≤ b)).length
theorem cntR_nLe (l : List Chg) (a b : Int) (h : a ≤ b + 1) : cntR l a b = nLe l b - nLe l (a - 1) := by
  have : nLe l b = cntR l a b + nLe l (a - 1) := by
    induction l with
    | nil => rfl
    | cons x r ih =>
      rw [nLe_cons, nLe_cons, ih]
      unfold cntR
      rw [List.filter_cons]
      by_cases h1 : x.time ≤ a - 1
      · rw [if_pos h1, if_pos (by omega), decide_eq_false (by omega), Bool.false_and]; simp; omega
      · rw [if_neg h1]
        by_cases h2 : x.time ≤ b
        · rw [if_pos h2, decide_eq_true (by omega), decide_eq_true h2]; simp; omega
        · rw [if_neg h2, decide_eq_false h2, Bool.and_false]; simp
  omega
end Go.Proofs.YtpcbjkjgjoemaaaGreatDoor.S1
/- Lines, as both texts draw them: plain definitions and laws. -/
namespace Go.Proofs.YtpcbjkjgjoemaaaGreatDoor.S1
open Go Go.Ab Go.Proofs
/-- A column's last tick. -/
def hiC (a stp fin : Int) : Int := min (a + stp - 1) fin
/-- One, two or more. -/
def evCh (n : Nat) : UInt8 := if n = 0 then 46 else if n = 1 then 33 else 35
/-- How many columns are not empty. -/
def nCol (stp fin : Int) : Nat → Int → Nat
  | 0, _ => 0
  | k + 1, a => if a > fin then 0 else 1 + nCol stp fin k (a + stp)
/-- A character for each column. -/
def colS (f : Int → UInt8) (stp fin : Int) : Nat → Int → Str
  | 0, _ => []
  | k + 1, a => if a > fin then [] else f a :: colS f stp fin k (a + stp)
theorem nCol_le (stp fin : Int) : ∀ (k : Nat) (a : Int), nCol stp fin k a ≤ k
  | 0, _ => Nat.le_refl _
  | k + 1, a => by
    rw [nCol]
    have := nCol_le stp fin k (a + stp)
    split <;> omega
theorem mulS (j : Nat) (stp : Int) : ((j + 1 : Nat) : Int) * stp = (j : Int) * stp + stp := by
  rw [Int.natCast_add, Int.add_mul]; simp
theorem nCol_in (stp fin : Int) : ∀ (k : Nat) (a : Int) (j : Nat), j < nCol stp fin k a → a + (j : Int) * stp ≤ fin
  | 0, _, j, h => by rw [nCol] at h; omega
  | k + 1, a, j, h => by
    rw [nCol] at h
    split at h
    · omega
    · cases j with
      | zero => simp; omega
      | succ j =>
        have := nCol_in stp fin k (a + stp) j (by omega)
        rw [mulS]; omega
theorem nCol_end (stp fin : Int) : ∀ (k : Nat) (a : Int), nCol stp fin k a = k ∨ a + (nCol stp fin k a : Int) * stp > fin
  | 0, _ => .inl rfl
  | k + 1, a => by
    rw [nCol]
    split
    · right; simp; omega
    · rcases nCol_end stp fin k (a + stp) with h | h
      · left; omega
      · right
        rw [Nat.add_comm, mulS]; omega
theorem colS_len (f : Int → UInt8) (stp fin : Int) : ∀ (k : Nat) (a : Int), (colS f stp fin k a).length = nCol stp fin k a
  | 0, _ => rfl
  | k + 1, a => by
    rw [colS, nCol]
    split
    · rfl
    · rw [List.length_cons, colS_len f stp fin k]; omega
theorem colS_get (f : Int → UInt8) (stp fin : Int) : ∀ (k : Nat) (a : Int) (j : Nat), j < nCol stp fin k a → (colS f stp fin k a).getD j default = f (a + (j : Int) * stp)
  | 0, _, j, h => by rw [nCol] at h; omega
  | k + 1, a, j, h => by
    rw [nCol] at h
    rw [colS]
    split at h
    · omega
    · rename_i hf
      rw [if_neg hf]
      cases j with
      | zero => simp
      | succ j =>
        rw [List.getD_cons_succ, colS_get f stp fin k (a + stp) j (by omega), mulS]
        congr 1; omega
def evS (l : List Chg) (stp fin : Int) : Nat → Int → Str := colS (fun a => evCh (cntR l a (hiC a stp fin))) stp fin
def lvl (x : Str) : UInt8 := if x = [48] then 95 else if x = [49] then 45 else if x = [120] then 120 else if x = [122] then 122 else 0
def bitC (x y : Str) (n : Nat) : UInt8 := if 1 < n then 35 else if n = 0 then lvl x else if x = [48] ∧ y = [49] then 47 else if x = [49] ∧ y = [48] then 92 else 124
def bitCh (v : Str) (l : List Chg) (a b : Int) : UInt8 := bitC (curV v l (nLe l a)) (curV v l (nLe l b)) (nLe l b - nLe l a)
def bitS (v : Str) (l : List Chg) (stp fin : Int) : Nat → Int → Str := colS (fun a => bitCh v l a (hiC a stp fin)) stp fin
def blk (n : Nat) : Str := List.replicate n 32
def fitS (q : Str) (n : Nat) : Str := if q.length > n then q.take (n - 1) ++ [126] else q ++ blk (n - q.length)
theorem fitS_len (q : Str) {n : Nat} (h : 0 < n) : (fitS q n).length = n := by
  unfold fitS blk
  split
  · rw [List.length_append, List.length_take, List.length_singleton]; omega
  · rw [List.length_append, List.length_replicate]; omega
def flS (tx : Str → Str) (v : Str) (l : List Chg) (i q : Nat) : Str := if 0 < q then fitS (tx (curV v l i)) q else []
def busCh (n : Nat) : UInt8 := if n = 1 then 124 else 35
/-- A bus's columns: i: the changes so far; q: the quiet columns that wait. -/
def busS (tx : Str → Str) (v : Str) (l : List Chg) (stp fin : Int) : Nat → Int → Nat → Nat → Str
  | 0, _, i, q => flS tx v l i q
  | k + 1, a, i, q => if a > fin then flS tx v l i q else
    if nLe l (hiC a stp fin) - i = 0 then busS tx v l stp fin k (a + stp) i (q + 1)
    else flS tx v l i q ++ busCh (nLe l (hiC a stp fin) - i) :: busS tx v l stp fin k (a + stp) (nLe l (hiC a stp fin)) 0
end Go.Proofs.YtpcbjkjgjoemaaaGreatDoor.S1
/- Seat 2: plain laws of valid lists of spans. -/
namespace Go.Proofs.YtpcbjkjgjoemaaaGreatDoor.S1
open Go Go.Ab Go.Proofs
end Go.Proofs.YtpcbjkjgjoemaaaGreatDoor.S1
