/- A box whose block the library wrote. -/
import Derived.Test.YtmlhaikblfjghaaA36
namespace Go.Ab

theorem Inv.row {g : G} {U : Nat → Prop} {f : Nat → Option Row} {l nl nt : Nat} {hw : Nat → Option Nat} {w w' : World} {row row' : Row} {b T : Nat} {vals' : Array Value} (i : Inv g U ⟨upd f l (some row), nl, hw, nt⟩ w) (hmu : g.μ l = some b)
    (hb' : w'.heap[b]? = some (.cells vals' T (0, 0))) (hr : RowOf g vals' row') (hs : w.heap.size ≤ w'.heap.size) (ho : ∀ k, k ≠ b → k < w.heap.size → w'.heap[k]? = w.heap[k]?) : Inv g U ⟨upd f l (some row'), nl, hw, nt⟩ w' := by
  have hbl : (upd f l (some row)) l = some row := upd_same _ _ _
  obtain ⟨b0, e1, e2, e3, e4⟩ := i.box l row hbl
  rw [hmu] at e1; cases e1
  have bx : ∀ l', upd f l (some row') l' ≠ none → upd f l (some row) l' ≠ none := fun l' h => by
    by_cases hx : l' = l
    · subst hx; rw [upd_same]; simp
    · rw [upd_other _ _ hx] at h ⊢; exact h
  have cellEq : ∀ {a : Addr}, a.block ≠ b → a.block < w.heap.size → w'.cell? a = w.cell? a := fun h1 h2 => by simp only [World.cell?, ho _ h1 h2]
  refine ⟨fun a v e => ?_, fun k hk => Nat.lt_of_lt_of_le (i.ub k hk) hs, fun l' k e => Nat.lt_of_lt_of_le (i.muLt l' k e) hs, fun l' r e => ?_, fun l1 l2 k e => i.boxInj l1 l2 k (bx _ e), fun t n e => ?_, fun t n k bb l' e f1 f2 f3 f4 => i.tokBox t n k bb l' e f1 f2 f3 (bx _ f4), i.tokInj, i.frL, i.frT⟩
  · obtain ⟨h1, h2⟩ := i.sub a v e
    exact ⟨(cellEq (e4 a v e) (i.cellLt e)).trans h1, h2⟩
  · by_cases hx : l' = l
    · subst hx
      have e' : upd f l' (some row') l' = some r := e
      rw [upd_same] at e'; cases e'
      exact ⟨b, hmu, RowAt.of hb' hr, e3, e4⟩
    · have e' : upd f l (some row') l' = some r := e
      rw [upd_other _ _ hx] at e'
      have e0 : upd f l (some row) l' = some r := by rw [upd_other _ _ hx]; exact e'
      obtain ⟨b1, f1, ⟨T1, vals1, f2, f3⟩, f4, f5⟩ := i.box l' r e0
      have hne : b1 ≠ b := fun h => by subst h; exact hx (i.boxInj l' l _ (by show upd f l (some row) l' ≠ none; rw [e0]; simp) f1 hmu)
      exact ⟨b1, f1, ⟨T1, vals1, by rw [ho _ hne (i.muLt l' b1 f1)]; exact f2, f3⟩, f4, f5⟩
  · obtain ⟨k, f1, f2, f3⟩ := i.tok t n e
    refine ⟨k, f1, f2, fun hk => ?_⟩
    obtain ⟨bt, c1, c2, T', vs, c3, c4, c5⟩ := f3 hk
    have hne : bt ≠ b := fun h => by subst h; exact i.tokBox t n k _ l e f1 hk c1 (by show upd f l (some row) l ≠ none; rw [hbl]; simp) hmu
    have hlt : bt < w.heap.size := by
      rcases Nat.lt_or_ge bt w.heap.size with h | h
      · exact h
      · rw [Array.getElem?_eq_none h] at c3; cases c3
    exact ⟨bt, c1, c2, T', vs, by rw [ho _ hne hlt]; exact c3, c4, c5⟩

end Go.Ab
