/- A slice in a box gets an append right. -/
import Derived.Test.YtmlhaikblfjghaaA37
namespace Go.Ab

theorem StLe.tokBox (n : Nat) {α : Type} [Inhabited α] {es : List α} {enc : α → D} {sl : Slots} {f : Nat → Option Row} {l nl nt m sz sz' : Nat} {hw : Nat → Option Nat} {get : Nat → D} (hm : m = es.length) (hf : m = 0 ∨ (sz' = sz ∧ ∀ i, i < m → get i = enc (es.getD i default))) :
    StLe n ⟨sl, ⟨upd f l (some (.lit [.list m sz get .full])), nl, hw, nt⟩⟩ ⟨sl, ⟨upd f l (some (.lit [LT es sz' enc nt])), nl, upd hw nt (some es.length), nt + 1⟩⟩ := by
  subst hm
  intro g β U a w r
  obtain ⟨b, e1, ⟨T, vals, e2, e3⟩, e4, e5⟩ := r.inv.box l _ (upd_same _ _ _)
  simp only [Rs] at e3
  obtain ⟨v, _, hv, hr, rfl⟩ := e3
  simp only [R] at hr
  obtain ⟨h1, ad, cap, rfl, h3, h4, h5⟩ := hr
  have h4' : cap = es.length := h4
  subst h4'
  obtain ⟨r1, le⟩ := r.idleTok (t := nt) (k := ⟨ad, es.length, es.length, sz'⟩) (by simp) rfl
  have i1 : Inv _ U ⟨upd f l (some (.lit [.list es.length sz get .full])), nl, upd hw nt (some es.length), nt + 1⟩ w := r1.inv
  have i2 := i1.row (row' := .lit [LT es sz' enc nt]) (vals' := vals) (T := T) (b := b) e1 e2 (by
    show Rs _ _ vals.toList
    rw [hv]
    simp only [Rs, LT, R]
    refine ⟨_, [], rfl, ⟨h1, ad, es.length, rfl, Nat.le_refl _, ⟨⟨ad, es.length, es.length, sz'⟩, by simp only [upd_same], rfl, Nat.le_refl _, fun _ => ⟨rfl, rfl⟩⟩, fun i hi => ?_⟩, rfl⟩
    rcases hf with hf | ⟨rfl, hf⟩
    · omega
    · rw [← hf i hi]
      obtain ⟨p, u, f1, f2, f3, f4, f5⟩ := h5 i hi
      exact ⟨p, u, f1, f2, f3.mono le, f4, f5⟩) (Nat.le_refl _) (fun _ _ _ => rfl)
  refine ⟨_, β, ⟨r1.defers, r1.size, r1.keys, r1.slot, r1.base, fun t cs e => ?_, r1.ownInj, i2⟩, ⟨le, fun _ _ h => .inl h⟩⟩
  obtain ⟨c1, c2, c3, c4, c5⟩ := r1.own t cs e
  refine ⟨c1, c2, c3, fun l' hl' => c4 l' ?_, c5⟩
  by_cases hx : l' = l
  · subst hx
    show upd f l' _ l' ≠ none
    rw [upd_same]; simp
  · have h' : upd f l (some (.lit [LT es sz' enc nt])) l' ≠ none := hl'
    show upd f l _ l' ≠ none
    rw [upd_other _ _ hx] at h' ⊢
    exact h'

end Go.Ab
