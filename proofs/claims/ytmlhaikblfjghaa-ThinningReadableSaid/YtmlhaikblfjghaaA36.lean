/- Rows of the heap, weaker. -/
import Derived.Test.YtmlhaikblfjghaaA35
namespace Go.Ab

theorem StLe.heapLe {n : Nat} {sl : Slots} {h h' : Heap} (hh : HeapLe h h') : StLe n ⟨sl, h⟩ ⟨sl, h'⟩ := fun g β U a w r => by
  have hbx : ∀ l, h'.box l ≠ none → h.box l ≠ none := fun l hl hx => by
    cases hb : h'.box l with
    | none => exact hl hb
    | some row' => obtain ⟨row, hr, _⟩ := hh.box l row' hb; rw [hx] at hr; cases hr
  refine ⟨g, β, ⟨r.defers, r.size, r.keys, r.slot, r.base, fun t cs e => ?_, r.ownInj, r.inv.le hh⟩, Grow.refl U g⟩
  obtain ⟨e1, e2, e3, e4, e5⟩ := r.own t cs e
  exact ⟨e1, e2, e3, fun l hl => e4 l (hbx l hl), fun t' m k e => e5 t' m k (hh.hw _ _ e)⟩

theorem HeapLe.row {f : Nat → Option Row} {nl nt l : Nat} {hw : Nat → Option Nat} {a b : Row} (h : RowLe a b) : HeapLe ⟨upd f l (some a), nl, hw, nt⟩ ⟨upd f l (some b), nl, hw, nt⟩ := by
  refine ⟨fun q row' e => ?_, Nat.le_refl _, fun _ _ h => h, Nat.le_refl _⟩
  by_cases hq : q = l
  · subst hq
    have e' : upd f q (some b) q = some row' := e
    rw [upd_same] at e'; cases e'
    exact ⟨a, upd_same _ _ _, h⟩
  · have e' : upd f l (some b) q = some row' := e
    rw [upd_other _ _ hq] at e'
    exact ⟨row', by show upd f l (some a) q = _; rw [upd_other _ _ hq]; exact e', by cases row' with | lit cs => exact .lit fun _ _ h => h | arr n f => exact .arr fun _ _ _ _ h => h⟩

/-- A row that was written anew. -/
theorem StLe.rewr {n : Nat} {sl : Slots} {f : Nat → Option Row} {nl nt l : Nat} {hw : Nat → Option Nat} {a b c : Row} (h : RowLe a b) : StLe n ⟨sl, ⟨upd (upd f l (some c)) l (some a), nl, hw, nt⟩⟩ ⟨sl, ⟨upd f l (some b), nl, hw, nt⟩⟩ := by
  rw [upd_upd]; exact StLe.heapLe (HeapLe.row h)

theorem RowLe.fn {n : Nat} {f f' : Nat → D} (h : ∀ i, i < n → f i = f' i) : RowLe (.arr n f) (.arr n f') := .arr fun i hi => Wk.of_eq (h i hi)

/-- One cell written. -/
theorem set_cell {f : Nat → D} {d : D} {off j : Nat} : (bif off.ble j && j.blt (off + 1) then [d].getD (j - off) .junk else f j) = if j = off then d else f j := by
  by_cases h : j = off
  · subst h
    have h1 : j.ble j = true := by simp
    have h2 : j.blt (j + 1) = true := by simp [Nat.blt_eq]
    rw [h1, h2]; simp
  · rw [if_neg h]
    have : (off.ble j && j.blt (off + 1)) = false := by
      rw [← Bool.not_eq_true, Bool.and_eq_true, Nat.blt_eq]
      intro hh
      have := Nat.le_of_ble_eq_true hh.1
      omega
    rw [this]; rfl

end Go.Ab
