/- Helpers for contracts: lists by their elements, weakening, conditions. -/
import Derived.Test.YtmlhaikblfjghaaA27
namespace Go.Ab

theorem of_eq {p q : Prop} (h : p = q) (hq : q) : p := h ▸ hq

/-- A list as a slice of elements of sz cells each. -/
def L {α : Type} [Inhabited α] (es : List α) (sz : Nat) (enc : α → D) : D := .list es.length sz (fun i => enc (es.getD i default)) .none

theorem Wk.refl (d : D) : Wk d d := fun _ _ h => h
theorem Wk.of_eq {d d' : D} (h : d = d') : Wk d d' := h ▸ Wk.refl d
theorem Wk.trans {a b c : D} (h : Wk a b) (k : Wk b c) : Wk a c := fun g v r => k g v (h g v r)
theorem Wks.refl (ds : List D) : Wks ds ds := fun _ _ h => h
theorem Wks.cons {d d' : D} {ds ds' : List D} (h : Wk d d') (k : Wks ds ds') : Wks (d :: ds) (d' :: ds') := fun g vs r => by
  simp only [Rs] at r ⊢
  obtain ⟨v, r', e, h1, h2⟩ := r
  exact ⟨v, r', e, h _ _ h1, k _ _ h2⟩
theorem Wks.nil : Wks [] [] := Wks.refl []
theorem Wk.agg {cs cs' : List D} (h : Wks cs cs') : Wk (.agg cs) (.agg cs') := fun g v r => by
  simp only [R] at r ⊢
  obtain ⟨vs, e, hs⟩ := r
  exact ⟨vs, e, h _ _ hs⟩
theorem Wk.tup {cs cs' : List D} (h : Wks cs cs') : Wk (.tup cs) (.tup cs') := fun g v r => by
  simp only [R] at r ⊢
  obtain ⟨vs, e, hs⟩ := r
  exact ⟨vs, e, h _ _ hs⟩

/-- A slice, weaker: other elements that are the same where they count, no append right. -/
theorem Wk.list {n n' sz sz' : Nat} {f f' : Nat → D} {own own' : Own} (hn : n = n') (hs : sz = sz' ∨ n = 0) (hf : ∀ i, i < n → f i = f' i) (ho : own' = .none ∨ own' = own) : Wk (.list n sz f own) (.list n' sz' f' own') := by
  intro g v r
  subst hn
  simp only [R] at r ⊢
  obtain ⟨h1, a, cap, h2, h3, h4, h5⟩ := r
  refine ⟨h1, a, cap, h2, h3, ?_, fun i hi => ?_⟩
  · rcases ho with rfl | rfl
    · trivial
    · exact h4
  · have hs' : sz = sz' := by rcases hs with h | h; exact h; omega
    subst hs'
    rw [← hf i hi]
    exact h5 i hi

theorem getD_list {α : Type} [Inhabited α] {es : List α} {i : Nat} (h : i < es.length) : es.getD i default = es[i] := by simp [List.getD, h]

/-- What a slice of computed elements is, as a list. -/
theorem Wk.toL {α : Type} [Inhabited α] {n sz sz' : Nat} {f : Nat → D} {own : Own} {es : List α} {enc : α → D} (hn : n = es.length) (hs : sz = sz' ∨ n = 0) (hf : ∀ (i : Nat) (h : i < es.length), f i = enc es[i]) : Wk (.list n sz f own) (L es sz' enc) :=
  Wk.list hn hs (fun i hi => by rw [getD_list (by omega)]; exact hf i (by omega)) (.inl rfl)

theorem L.data {α : Type} [Inhabited α] {es : List α} {sz : Nat} {enc : α → D} (h : ∀ x, Ab.Data (enc x)) : Ab.Data (L es sz enc) := by
  simp only [L, Ab.Data]
  exact ⟨fun i _ => h _, fun t sz h => by cases h⟩

theorem cond_intro {b : Bool} {p q : Prop} (h1 : b = true → p) (h2 : b = false → q) : (bif b then p else q) := by
  cases b
  · exact h2 rfl
  · exact h1 rfl

theorem cond_wk {b : Bool} {x z v : D} (h : Wk (bif b then x else z) v) : (bif b then Wk x v else Wk z v) := by
  cases b <;> exact h

theorem cond_B {b : Bool} {x z : Bool} {v : D} (h : Wk (B (bif b then x else z)) v) : (bif b then Wk (B x) v else Wk (B z) v) := by
  cases b <;> exact h

end Go.Ab
