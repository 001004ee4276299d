/- Abstract values by value (slices as lists), the ghost memory that relates them to the model's values, and the state of the symbolic executor. Definitions and the plain lemmas on them. -/
import Derived.WalkKit
import Derived.Laws.Cover1
import Derived.Lib.SmallJoins
namespace Go.Ab

/-- The right to append in place to a slice: none; `full`: its capacity is its length (nil too); `tok t sz`: by the append right number t, elements of sz cells. -/
inductive Own
  | none | full | tok (t sz : Nat)
  deriving Inhabited

/-- An abstract value. `list n sz get own`: a slice of n elements of sz cells each. `ep cs`: a pointer to cells that never change. `bp l off`: a pointer into box l. `sl l off n`: a slice over cells of box l. The last four stand in slots alone: `own cs`: the pointer to a box of the frame's own, with its content; `lp s off`: a pointer into the box of slot s; `may j w d`: d, if operation j of this region has yielded w. -/
inductive D
  | bool (b : Bool)
  | int (k : IntKind) (n : Int)
  | str (s : List UInt8)
  | agg (cs : List D)
  | list (n sz : Nat) (get : Nat → D) (own : Own)
  | nilp
  | bp (l off : Nat)
  | ep (cs : List D)
  | sl (l off n : Nat)
  | clo (f : Nat) (caps : List D)
  | nilf
  | iface (t : Nat) (v : D)
  | nili
  | tup (vs : List D)
  | mp (l : Nat)
  | nilm
  | own (cs : List D)
  | lp (s off : Nat)
  | may (j : Nat) (w : Bool) (d : D)
  | junk
  deriving Inhabited

abbrev I (n : Int) : D := .int .i64 n
abbrev B (b : Bool) : D := .bool b

/-- An append right: the array's place, how many elements are in use, how many fit, an element's cells. -/
structure Tok where
  a : Option Addr
  n : Nat
  cap : Nat
  sz : Nat

/-- The ghost memory: cells that never change, which block a box is, the append rights. -/
structure G where
  σ : Addr → Option Value
  μ : Nat → Option Nat
  τ : Nat → Option Tok

def lenM : Nat := 9223372036854775807
def strM : Nat := 9223372036854775807

/-- What a slice's append right says of its place and capacity. -/
def OwnOk (g : G) (own : Own) (n : Nat) (a : Option Addr) (cap : Nat) : Prop :=
  match own with
  | .none => True
  | .full => cap = n
  | .tok t tz => ∃ k, g.τ t = some k ∧ k.sz = tz ∧ n ≤ k.n ∧ (n = k.n → a = k.a ∧ cap = k.cap)

/-- The cells of a value. -/
def cellsD : D → List D
  | .agg cs => cs
  | d => [d]

/-- A value of one cell. -/
def oneD : D → Bool
  | .agg _ | .tup _ => false
  | _ => true

def ones (d : D) : Bool := (cellsD d).all oneD

mutual
/-- The model's value v reads as d. -/
def R (g : G) : D → Value → Prop
  | .bool b, v => v = .bool b
  | .int k n, v => v = .int k n
  | .str s, v => v = .string ⟨s.toArray⟩ ∧ s.length ≤ strM
  | .agg cs, v => ∃ vs : List Value, v = .agg vs.toArray ∧ Rs g cs vs
  | .list n sz get own, v => n ≤ lenM ∧ ∃ (a : Option Addr) (cap : Nat), v = .slice a n cap ∧ n ≤ cap ∧
      OwnOk g own n a cap ∧
      ∀ i, i < n → ∃ (p : Addr) (u : Value), a = some p ∧ p.spot = none ∧ R g (get i) u ∧ (u.cells.size = sz ∧ ones (get i) = true) ∧
          ∀ j, j < sz → g.σ ⟨p.block, p.off + i * sz + j, none⟩ = u.cells[j]?
  | .nilp, v => v = .pointer none
  | .bp l off, v => ∃ b, g.μ l = some b ∧ v = .pointer (some ⟨b, off, none⟩)
  | .ep cs, v => ∃ (p : Addr) (vs : List Value), v = .pointer (some p) ∧ p.spot = none ∧ Rs g cs vs ∧ ∀ j, j < vs.length → g.σ ⟨p.block, p.off + j, none⟩ = vs[j]?
  | .sl l off n, v => ∃ b, g.μ l = some b ∧ ∃ a cap, v = .slice a n cap ∧ n ≤ cap ∧ n ≤ lenM ∧ (0 < cap → a = some ⟨b, off, none⟩)
  | .clo f caps, v => ∃ vs : List Value, v = .func (.func f) #[] vs.toArray ∧ Rs g caps vs
  | .nilf, v => v = .nilFunc
  | .iface t d, v => ∃ u, v = .iface t u ∧ R g d u
  | .nili, v => v = .nilIface
  | .tup ds, v => ∃ vs : List Value, v = .tuple vs.toArray ∧ Rs g ds vs
  | .mp l, v => ∃ b, g.μ l = some b ∧ v = .map (some b)
  | .nilm, v => v = .map none
  | .own _, _ => False
  | .lp _ _, _ => False
  | .may _ _ _, _ => False
  | .junk, _ => False
def Rs (g : G) : List D → List Value → Prop
  | [], vs => vs = []
  | d :: ds, vs => ∃ v r, vs = v :: r ∧ R g d v ∧ Rs g ds r
end

/-- The ghost memory only grows. -/
structure G.le (g g' : G) : Prop where
  σ : ∀ a v, g.σ a = some v → g'.σ a = some v
  μ : ∀ l b, g.μ l = some b → g'.μ l = some b
  τ : ∀ t k, g.τ t = some k → ∃ k', g'.τ t = some k' ∧ k'.sz = k.sz ∧ k.n ≤ k'.n ∧ (k.n = k'.n → k' = k)

mutual
/-- No pointer into a box, no append right by number: such a value reads alike under every ghost memory with the same unchanging cells. -/
def Data : D → Prop
  | .bool _ | .int _ _ | .str _ | .nilp | .nilf | .nili | .nilm => True
  | .agg cs => Datas cs
  | .list n _ get own => (∀ i, i < n → Data (get i)) ∧ ∀ t sz, own ≠ .tok t sz
  | .ep cs => Datas cs
  | .clo _ cs => Datas cs
  | .iface _ d => Data d
  | .tup cs => Datas cs
  | .bp _ _ | .sl _ _ _ | .mp _ | .own _ | .lp _ _ | .may _ _ _ | .junk => False
def Datas : List D → Prop
  | [] => True
  | d :: r => Data d ∧ Datas r
end

theorem G.le.refl (g : G) : G.le g g := ⟨fun _ _ h => h, fun _ _ h => h, fun _ k h => ⟨k, h, rfl, Nat.le_refl _, fun _ => rfl⟩⟩

theorem G.le.trans {a b c : G} (h : G.le a b) (k : G.le b c) : G.le a c :=
  ⟨fun x v e => k.σ x v (h.σ x v e), fun l b e => k.μ l b (h.μ l b e), fun t k0 e => by
    obtain ⟨k1, e1, s1, l1, u1⟩ := h.τ t k0 e
    obtain ⟨k2, e2, s2, l2, u2⟩ := k.τ t k1 e1
    exact ⟨k2, e2, s2.trans s1, Nat.le_trans l1 l2, fun e => (u2 (by omega)).trans (u1 (by omega))⟩⟩

mutual
theorem R.mono {g g' : G} (h : G.le g g') : ∀ (d : D) (v : Value), R g d v → R g' d v
  | .bool _, _, hr | .int _ _, _, hr | .str _, _, hr | .nilp, _, hr | .nilf, _, hr | .nili, _, hr | .nilm, _, hr => by simpa [R] using hr
  | .own _, _, hr | .lp _ _, _, hr | .may _ _ _, _, hr | .junk, _, hr => by simp [R] at hr
  | .agg cs, _, hr => by
    simp only [R] at hr ⊢
    obtain ⟨vs, e, hs⟩ := hr
    exact ⟨vs, e, Rs.mono h cs vs hs⟩
  | .tup cs, _, hr => by
    simp only [R] at hr ⊢
    obtain ⟨vs, e, hs⟩ := hr
    exact ⟨vs, e, Rs.mono h cs vs hs⟩
  | .clo _ cs, _, hr => by
    simp only [R] at hr ⊢
    obtain ⟨vs, e, hs⟩ := hr
    exact ⟨vs, e, Rs.mono h cs vs hs⟩
  | .iface _ d, _, hr => by
    simp only [R] at hr ⊢
    obtain ⟨u, e, hs⟩ := hr
    exact ⟨u, e, R.mono h d u hs⟩
  | .ep cs, _, hr => by
    simp only [R] at hr ⊢
    obtain ⟨p, vs, e, hp, hs, hc⟩ := hr
    refine ⟨p, vs, e, hp, Rs.mono h cs vs hs, fun j hj => ?_⟩
    have := hc j hj
    rw [List.getElem?_eq_getElem hj] at this ⊢
    exact h.σ _ _ this
  | .bp _ _, _, hr => by
    simp only [R] at hr ⊢
    obtain ⟨b, e, hv⟩ := hr
    exact ⟨b, h.μ _ _ e, hv⟩
  | .sl _ _ _, _, hr => by
    simp only [R] at hr ⊢
    obtain ⟨b, e, hv⟩ := hr
    exact ⟨b, h.μ _ _ e, hv⟩
  | .mp _, _, hr => by
    simp only [R] at hr ⊢
    obtain ⟨b, e, hv⟩ := hr
    exact ⟨b, h.μ _ _ e, hv⟩
  | .list n sz get own, _, hr => by
    simp only [R] at hr ⊢
    obtain ⟨hn, a, cap, e, hnc, ho, hel⟩ := hr
    refine ⟨hn, a, cap, e, hnc, ?_, fun i hi => ?_⟩
    · cases own with
      | none => trivial
      | full => exact ho
      | tok t tz =>
        obtain ⟨k, hk, s, l, u⟩ := ho
        obtain ⟨k', hk', s', l', u'⟩ := h.τ t k hk
        exact ⟨k', hk', s'.trans s, Nat.le_trans l l', fun e => by rw [u' (by omega)]; exact u (by omega)⟩
    · obtain ⟨p, u, ha, hp, hu, hus, hc⟩ := hel i hi
      refine ⟨p, u, ha, hp, R.mono h (get i) u hu, hus, fun j hj => ?_⟩
      have hj' : j < u.cells.size := by have := hus.1; omega
      have := hc j hj
      rw [Array.getElem?_eq_getElem hj'] at this ⊢
      exact h.σ _ _ this
theorem Rs.mono {g g' : G} (h : G.le g g') : ∀ (ds : List D) (vs : List Value), Rs g ds vs → Rs g' ds vs
  | [], _, hr => by simpa [Rs] using hr
  | d :: ds, _, hr => by
    simp only [Rs] at hr ⊢
    obtain ⟨v, r, e, hv, hs⟩ := hr
    exact ⟨v, r, e, R.mono h d v hv, Rs.mono h ds r hs⟩
end

mutual
/-- Plain data read alike under every ghost memory whose unchanging cells are those, and more. -/
theorem R.data {g g' : G} (h : ∀ a v, g.σ a = some v → g'.σ a = some v) : ∀ (d : D) (v : Value), Data d → R g d v → R g' d v
  | .bool _, _, _, hr | .int _ _, _, _, hr | .str _, _, _, hr | .nilp, _, _, hr | .nilf, _, _, hr | .nili, _, _, hr | .nilm, _, _, hr => by simpa [R] using hr
  | .own _, _, _, hr | .lp _ _, _, _, hr | .may _ _ _, _, _, hr | .junk, _, _, hr => by simp [R] at hr
  | .bp _ _, _, hd, _ | .sl _ _ _, _, hd, _ | .mp _, _, hd, _ => by simp [Data] at hd
  | .agg cs, _, hd, hr => by
    simp only [R, Data] at hr hd ⊢
    obtain ⟨vs, e, hs⟩ := hr
    exact ⟨vs, e, Rs.data h cs vs hd hs⟩
  | .tup cs, _, hd, hr => by
    simp only [R, Data] at hr hd ⊢
    obtain ⟨vs, e, hs⟩ := hr
    exact ⟨vs, e, Rs.data h cs vs hd hs⟩
  | .clo _ cs, _, hd, hr => by
    simp only [R, Data] at hr hd ⊢
    obtain ⟨vs, e, hs⟩ := hr
    exact ⟨vs, e, Rs.data h cs vs hd hs⟩
  | .iface _ d, _, hd, hr => by
    simp only [R, Data] at hr hd ⊢
    obtain ⟨u, e, hs⟩ := hr
    exact ⟨u, e, R.data h d u hd hs⟩
  | .ep cs, _, hd, hr => by
    simp only [R, Data] at hr hd ⊢
    obtain ⟨p, vs, e, hp, hs, hc⟩ := hr
    refine ⟨p, vs, e, hp, Rs.data h cs vs hd hs, fun j hj => ?_⟩
    have := hc j hj
    rw [List.getElem?_eq_getElem hj] at this ⊢
    exact h _ _ this
  | .list n sz get own, _, hd, hr => by
    simp only [R, Data] at hr hd ⊢
    obtain ⟨hn, a, cap, e, hnc, ho, hel⟩ := hr
    refine ⟨hn, a, cap, e, hnc, ?_, fun i hi => ?_⟩
    · cases own with
      | none => trivial
      | full => exact ho
      | tok t tz => exact absurd rfl (hd.2 t tz)
    · obtain ⟨p, u, ha, hp, hu, hus, hc⟩ := hel i hi
      refine ⟨p, u, ha, hp, R.data h (get i) u (hd.1 i hi) hu, hus, fun j hj => ?_⟩
      have hj' : j < u.cells.size := by have := hus.1; omega
      have := hc j hj
      rw [Array.getElem?_eq_getElem hj'] at this ⊢
      exact h _ _ this
theorem Rs.data {g g' : G} (h : ∀ a v, g.σ a = some v → g'.σ a = some v) : ∀ (ds : List D) (vs : List Value), Datas ds → Rs g ds vs → Rs g' ds vs
  | [], _, _, hr => by simpa [Rs] using hr
  | d :: ds, _, hd, hr => by
    simp only [Rs, Datas] at hr hd ⊢
    obtain ⟨v, r, e, hv, hs⟩ := hr
    exact ⟨v, r, e, R.data h d v hd.1 hv, Rs.data h ds r hd.2 hs⟩
end

theorem Rs.length {g : G} : ∀ {ds : List D} {vs : List Value}, Rs g ds vs → vs.length = ds.length
  | [], _, h => by simp [Rs] at h; simp [h]
  | _ :: _, _, h => by
    simp only [Rs] at h
    obtain ⟨v, r, rfl, _, hs⟩ := h
    simp [Rs.length hs]

theorem Rs.get {g : G} : ∀ {ds : List D} {vs : List Value}, Rs g ds vs → ∀ (i : Nat) (d : D), ds[i]? = some d → ∃ v, vs[i]? = some v ∧ R g d v
  | [], _, _, i, d, hi => by simp at hi
  | d0 :: ds, _, h, i, d, hi => by
    simp only [Rs] at h
    obtain ⟨v, r, rfl, hv, hs⟩ := h
    cases i with
    | zero => simp at hi; subst hi; exact ⟨v, rfl, hv⟩
    | succ i => simp at hi; simpa using Rs.get hs i d hi

theorem Rs.of_get {g : G} : ∀ {ds : List D} {vs : List Value}, vs.length = ds.length → (∀ (i : Nat) (d : D) (v : Value), ds[i]? = some d → vs[i]? = some v → R g d v) → Rs g ds vs
  | [], vs, hl, _ => by simp [Rs]; simpa using hl
  | d :: ds, [], hl, _ => by simp at hl
  | d :: ds, v :: vs, hl, h => by
    simp only [Rs]
    exact ⟨v, vs, rfl, h 0 d v rfl rfl, Rs.of_get (by simpa using hl) fun i d' v' h1 h2 => h (i + 1) d' v' (by simpa using h1) (by simpa using h2)⟩

theorem Rs.append {g : G} {a b : List D} {x y : List Value} (h : Rs g a x) (k : Rs g b y) : Rs g (a ++ b) (x ++ y) := by
  induction a generalizing x with
  | nil => simp [Rs] at h; subst h; simpa using k
  | cons d r ih =>
    simp only [Rs] at h
    obtain ⟨v, s, rfl, hv, hs⟩ := h
    simp only [List.cons_append, Rs]
    exact ⟨v, s ++ y, rfl, hv, ih hs⟩

theorem Rs.take {g : G} {ds : List D} {vs : List Value} (h : Rs g ds vs) (n : Nat) : Rs g (ds.take n) (vs.take n) := by
  refine Rs.of_get (by simp [h.length]) fun i d v h1 h2 => ?_
  rw [List.getElem?_take] at h1 h2
  split at h1
  · rename_i hin
    simp only [hin, if_true] at h2
    obtain ⟨v', hv', hr⟩ := h.get i d h1
    rw [h2] at hv'; cases hv'; exact hr
  · cases h1

theorem Rs.drop {g : G} {ds : List D} {vs : List Value} (h : Rs g ds vs) (n : Nat) : Rs g (ds.drop n) (vs.drop n) := by
  refine Rs.of_get (by simp [h.length]) fun i d v h1 h2 => ?_
  rw [List.getElem?_drop] at h1 h2
  obtain ⟨v', hv', hr⟩ := h.get _ d h1
  rw [h2] at hv'; cases hv'; exact hr

theorem R.cells {g : G} {d : D} {v : Value} (h : R g d v) : Rs g (cellsD d) v.cells.toList := by
  cases d <;> first
    | (simp only [R] at h; obtain ⟨vs, rfl, hs⟩ := h; simpa [cellsD, Value.cells] using hs)
    | (simp only [R] at h; done)
    | (have h' := h
       simp only [R] at h'
       have : v.cells = #[v] := by
         first
           | (subst h'; rfl)
           | (obtain ⟨rfl, _⟩ := h'; rfl)
           | (obtain ⟨_, _, _, rfl, _⟩ := h'; rfl)
           | (obtain ⟨_, _, rfl, _⟩ := h'; rfl)
           | (obtain ⟨_, _, rfl⟩ := h'; rfl)
           | (obtain ⟨_, _, _, _, rfl, _⟩ := h'; rfl)
           | (obtain ⟨_, rfl, _⟩ := h'; rfl)
       rw [this]
       simp only [cellsD, Rs]
       exact ⟨v, [], rfl, h, rfl⟩)

end Go.Ab
