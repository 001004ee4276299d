/- Abstract values by value (slices as lists), the ghost memory that relates them to the model's values, and the state of the symbolic executor. Definitions and the plain lemmas on them. -/
import Derived.WalkKit
import Derived.OrdersIn
import Derived.RangeFuncIn
import Derived.RangeFuncRecord
import Derived.Laws.Cover1
import Derived.Lib.SmallJoins
namespace Go.Ab

/-- The right to append in place to a slice: none; `full`: its capacity is its length (nil too); `tok t sz`: by the append right number t, elements of sz cells. -/
inductive Own
  | none | full | tok (t sz : Nat) | nz (b : Bool)
  deriving Inhabited

/-- An abstract value. `list n sz get own`: a slice of n elements of sz cells each. `ep cs`: a pointer to cells that never change. `bp l off`: a pointer into box l. `sl l off n`: a slice over cells of box l. The last four stand in slots alone: `own cs`: the pointer to a box of the frame's own, with its content; `lp s off`: a pointer into the box of slot s; `may j w d`: d, if operation j of this region has yielded w. -/
inductive D
  | bool (b : Bool)
  | int (k : IntKind) (n : Int)
  | str (s : List UInt8)
  | agg (cs : List D)
  | list (n sz : Nat) (get : Nat → D) (own : Own)
  | nilp
  | bp (l off : Nat)
  | ep (cs : List D)
  | sl (l off n : Nat)
  | clo (f : Nat) (caps : List D)
  | mv (f : Nat) (first : List D)
  | fnp (t : Nat) (m : String)
  | nilf
  | iface (t : Nat) (v : D)
  | nili
  | tup (vs : List D)
  | mp (l : Nat)
  | nilm
  | yl (l : Nat)
  | own (cs : List D)
  | vec (t n sz : Nat)
  | bv (e t n : Nat)
  | be (t n i sz j : Nat)
  | lp (s off : Nat)
  | may (j : Nat) (w : Bool) (d : D)
  | junk
  deriving Inhabited

abbrev I (n : Int) : D := .int .i64 n
abbrev B (b : Bool) : D := .bool b

/-- An append right: the array's place, how many elements are in use, how many fit, an element's cells, its type. -/
structure Tok where
  a : Option Addr
  n : Nat
  cap : Nat
  sz : Nat
  ty : Nat

/-- The ghost memory: cells that never change, which block a box is, the append rights. -/
structure G where
  σ : Addr → Option Value
  μ : Nat → Option Nat
  τ : Nat → Option Tok

def lenM : Nat := 9223372036854775807
def strM : Nat := 9223372036854775807

/-- What a slice's append right says of its place and capacity. -/
def OwnOk (g : G) (own : Own) (n : Nat) (a : Option Addr) (cap : Nat) : Prop :=
  match own with
  | .none => True
  | .full => cap = n
  | .tok t tz => ∃ k, g.τ t = some k ∧ k.sz = tz ∧ n ≤ k.n ∧ (n = k.n → a = k.a ∧ cap = k.cap)
  | .nz b => b = a.isNone

/-- The cells of a value. -/
def cellsD : D → List D
  | .agg cs => cs
  | d => [d]

/-- A value of one cell. -/
def oneD : D → Bool
  | .agg _ | .tup _ => false
  | _ => true

def ones (d : D) : Bool := (cellsD d).all oneD

mutual
/-- The model's value v reads as d. -/
def R (g : G) : D → Value → Prop
  | .bool b, v => v = .bool b
  | .int k n, v => v = .int k n
  | .str s, v => v = .string ⟨s.toArray⟩ ∧ s.length ≤ strM
  | .agg cs, v => ∃ vs : List Value, v = .agg vs.toArray ∧ Rs g cs vs
  | .list n sz get own, v => n ≤ lenM ∧ ∃ (a : Option Addr) (cap : Nat), v = .slice a n cap ∧ n ≤ cap ∧
      OwnOk g own n a cap ∧
      ∀ i, i < n → ∃ (p : Addr) (u : Value), a = some p ∧ p.spot = none ∧ R g (get i) u ∧ (u.cells.size = sz ∧ ones (get i) = true) ∧
          ∀ j, j < sz → g.σ ⟨p.block, p.off + i * sz + j, none⟩ = u.cells[j]?
  | .nilp, v => v = .pointer none
  | .bp l off, v => ∃ b, g.μ l = some b ∧ v = .pointer (some ⟨b, off, none⟩)
  | .ep cs, v => ∃ (p : Addr) (vs : List Value), v = .pointer (some p) ∧ p.spot = none ∧ Rs g cs vs ∧ ∀ j, j < vs.length → g.σ ⟨p.block, p.off + j, none⟩ = vs[j]?
  | .sl l off n, v => ∃ b, g.μ l = some b ∧ ∃ a cap, v = .slice a n cap ∧ n ≤ cap ∧ n ≤ lenM ∧ (0 < cap → a = some ⟨b, off, none⟩)
  | .clo f caps, v => ∃ vs : List Value, v = .func (.func f) #[] vs.toArray ∧ Rs g caps vs
  | .mv f first, v => ∃ vs : List Value, v = .func (.func f) vs.toArray #[] ∧ Rs g first vs
  | .fnp t m, v => ∃ u : Value, v = .func (.method m) #[.iface t u] #[]
  | .nilf, v => v = .nilFunc
  | .iface t d, v => ∃ u, v = .iface t u ∧ R g d u
  | .nili, v => v = .nilIface
  | .tup ds, v => ∃ vs : List Value, v = .tuple vs.toArray ∧ Rs g ds vs
  | .mp l, v => ∃ b, g.μ l = some b ∧ v = .map (some b)
  | .nilm, v => v = .map none
  | .yl l, v => ∃ b, g.μ l = some b ∧ v = .func (.yield b) #[] #[]
  | .vec t n sz, v => n ≤ lenM ∧ ∃ (a : Option Addr) (cap : Nat), v = .slice a n cap ∧ n ≤ cap ∧ ∃ k, g.τ t = some k ∧ k.sz = sz ∧ n ≤ k.n ∧ (n = k.n → a = k.a ∧ cap = k.cap)
  | .bv e t n, v => n ≤ lenM ∧ ∃ (a : Option Addr) (cap : Nat), v = .slice a n cap ∧ n ≤ cap ∧ ∃ k, g.τ t = some k ∧ k.sz = 1 ∧ n ≤ k.n ∧ (n = k.n → a = k.a ∧ cap = k.cap ∧ k.ty = e)
  | .be t n i sz j, v => ∃ b q, v = .pointer (some ⟨b, q, none⟩) ∧ i < n ∧ ∃ k, g.τ t = some k ∧ k.sz = sz ∧ n ≤ k.n ∧ (n = k.n → k.a = some ⟨b, 0, none⟩ ∧ q = i * sz + j ∧ 0 < k.cap)
  | .own _, _ => False
  | .lp _ _, _ => False
  | .may _ _ _, _ => False
  | .junk, _ => False
def Rs (g : G) : List D → List Value → Prop
  | [], vs => vs = []
  | d :: ds, vs => ∃ v r, vs = v :: r ∧ R g d v ∧ Rs g ds r
end

/-- The ghost memory only grows. -/
structure G.le (g g' : G) : Prop where
  σ : ∀ a v, g.σ a = some v → g'.σ a = some v
  μ : ∀ l b, g.μ l = some b → g'.μ l = some b
  τ : ∀ t k, g.τ t = some k → ∃ k', g'.τ t = some k' ∧ k'.sz = k.sz ∧ k.n ≤ k'.n ∧ (k.n = k'.n → k' = k)

mutual
/-- No pointer into a box, no append right by number: such a value reads alike under every ghost memory with the same unchanging cells. -/
def Data : D → Prop
  | .bool _ | .int _ _ | .str _ | .nilp | .nilf | .nili | .nilm | .fnp _ _ => True
  | .agg cs => Datas cs
  | .list n _ get own => (∀ i, i < n → Data (get i)) ∧ ∀ t sz, own ≠ .tok t sz
  | .ep cs => Datas cs
  | .clo _ cs => Datas cs
  | .mv _ cs => Datas cs
  | .iface _ d => Data d
  | .tup cs => Datas cs
  | .bp _ _ | .sl _ _ _ | .mp _ | .yl _ | .own _ | .lp _ _ | .may _ _ _ | .junk => False
  | .vec _ _ _ | .be _ _ _ _ _ | .bv _ _ _ => False
def Datas : List D → Prop
  | [] => True
  | d :: r => Data d ∧ Datas r
end

theorem G.le.refl (g : G) : G.le g g := ⟨fun _ _ h => h, fun _ _ h => h, fun _ k h => ⟨k, h, rfl, Nat.le_refl _, fun _ => rfl⟩⟩

theorem G.le.trans {a b c : G} (h : G.le a b) (k : G.le b c) : G.le a c :=
  ⟨fun x v e => k.σ x v (h.σ x v e), fun l b e => k.μ l b (h.μ l b e), fun t k0 e => by
    obtain ⟨k1, e1, s1, l1, u1⟩ := h.τ t k0 e
    obtain ⟨k2, e2, s2, l2, u2⟩ := k.τ t k1 e1
    exact ⟨k2, e2, s2.trans s1, Nat.le_trans l1 l2, fun e => (u2 (by omega)).trans (u1 (by omega))⟩⟩

mutual
theorem R.mono {g g' : G} (h : G.le g g') : ∀ (d : D) (v : Value), R g d v → R g' d v
  | .vec t n sz, _, hr => by
    simp only [R] at hr ⊢
    obtain ⟨hn, a, cap, e, hc, k, hk, s, l, u⟩ := hr
    obtain ⟨k', hk', s', l', u'⟩ := h.τ t k hk
    exact ⟨hn, a, cap, e, hc, k', hk', s'.trans s, Nat.le_trans l l', fun e => by rw [u' (by omega)]; exact u (by omega)⟩
  | .bv ty t n, _, hr => by
    simp only [R] at hr ⊢
    obtain ⟨hn, a, cap, e, hc, k, hk, s, l, u⟩ := hr
    obtain ⟨k', hk', s', l', u'⟩ := h.τ t k hk
    exact ⟨hn, a, cap, e, hc, k', hk', s'.trans s, Nat.le_trans l l', fun e => by rw [u' (by omega)]; exact u (by omega)⟩
  | .be t n i sz j, _, hr => by
    simp only [R] at hr ⊢
    obtain ⟨b, q, e, hi, k, hk, s, l, u⟩ := hr
    obtain ⟨k', hk', s', l', u'⟩ := h.τ t k hk
    exact ⟨b, q, e, hi, k', hk', s'.trans s, Nat.le_trans l l', fun e => by rw [u' (by omega)]; exact u (by omega)⟩
  | .bool _, _, hr | .int _ _, _, hr | .str _, _, hr | .nilp, _, hr | .nilf, _, hr | .nili, _, hr | .nilm, _, hr | .fnp _ _, _, hr => by simpa [R] using hr
  | .own _, _, hr | .lp _ _, _, hr | .may _ _ _, _, hr | .junk, _, hr => by simp [R] at hr
  | .agg cs, _, hr => by
    simp only [R] at hr ⊢
    obtain ⟨vs, e, hs⟩ := hr
    exact ⟨vs, e, Rs.mono h cs vs hs⟩
  | .tup cs, _, hr => by
    simp only [R] at hr ⊢
    obtain ⟨vs, e, hs⟩ := hr
    exact ⟨vs, e, Rs.mono h cs vs hs⟩
  | .clo _ cs, _, hr => by
    simp only [R] at hr ⊢
    obtain ⟨vs, e, hs⟩ := hr
    exact ⟨vs, e, Rs.mono h cs vs hs⟩
  | .mv _ cs, _, hr => by
    simp only [R] at hr ⊢
    obtain ⟨vs, e, hs⟩ := hr
    exact ⟨vs, e, Rs.mono h cs vs hs⟩
  | .iface _ d, _, hr => by
    simp only [R] at hr ⊢
    obtain ⟨u, e, hs⟩ := hr
    exact ⟨u, e, R.mono h d u hs⟩
  | .ep cs, _, hr => by
    simp only [R] at hr ⊢
    obtain ⟨p, vs, e, hp, hs, hc⟩ := hr
    refine ⟨p, vs, e, hp, Rs.mono h cs vs hs, fun j hj => ?_⟩
    have := hc j hj
    rw [List.getElem?_eq_getElem hj] at this ⊢
    exact h.σ _ _ this
  | .bp _ _, _, hr => by
    simp only [R] at hr ⊢
    obtain ⟨b, e, hv⟩ := hr
    exact ⟨b, h.μ _ _ e, hv⟩
  | .sl _ _ _, _, hr => by
    simp only [R] at hr ⊢
    obtain ⟨b, e, hv⟩ := hr
    exact ⟨b, h.μ _ _ e, hv⟩
  | .mp _, _, hr => by
    simp only [R] at hr ⊢
    obtain ⟨b, e, hv⟩ := hr
    exact ⟨b, h.μ _ _ e, hv⟩
  | .yl _, _, hr => by
    simp only [R] at hr ⊢
    obtain ⟨b, e, hv⟩ := hr
    exact ⟨b, h.μ _ _ e, hv⟩
  | .list n sz get own, _, hr => by
    simp only [R] at hr ⊢
    obtain ⟨hn, a, cap, e, hnc, ho, hel⟩ := hr
    refine ⟨hn, a, cap, e, hnc, ?_, fun i hi => ?_⟩
    · cases own with
      | none => trivial
      | full => exact ho
      | nz b => exact ho
      | tok t tz =>
        obtain ⟨k, hk, s, l, u⟩ := ho
        obtain ⟨k', hk', s', l', u'⟩ := h.τ t k hk
        exact ⟨k', hk', s'.trans s, Nat.le_trans l l', fun e => by rw [u' (by omega)]; exact u (by omega)⟩
    · obtain ⟨p, u, ha, hp, hu, hus, hc⟩ := hel i hi
      refine ⟨p, u, ha, hp, R.mono h (get i) u hu, hus, fun j hj => ?_⟩
      have hj' : j < u.cells.size := by have := hus.1; omega
      have := hc j hj
      rw [Array.getElem?_eq_getElem hj'] at this ⊢
      exact h.σ _ _ this
theorem Rs.mono {g g' : G} (h : G.le g g') : ∀ (ds : List D) (vs : List Value), Rs g ds vs → Rs g' ds vs
  | [], _, hr => by simpa [Rs] using hr
  | d :: ds, _, hr => by
    simp only [Rs] at hr ⊢
    obtain ⟨v, r, e, hv, hs⟩ := hr
    exact ⟨v, r, e, R.mono h d v hv, Rs.mono h ds r hs⟩
end

mutual
/-- Plain data read alike under every ghost memory whose unchanging cells are those, and more. -/
theorem R.data {g g' : G} (h : ∀ a v, g.σ a = some v → g'.σ a = some v) : ∀ (d : D) (v : Value), Data d → R g d v → R g' d v
  | .bool _, _, _, hr | .int _ _, _, _, hr | .str _, _, _, hr | .nilp, _, _, hr | .nilf, _, _, hr | .nili, _, _, hr | .nilm, _, _, hr | .fnp _ _, _, _, hr => by simpa [R] using hr
  | .own _, _, _, hr | .lp _ _, _, _, hr | .may _ _ _, _, _, hr | .junk, _, _, hr => by simp [R] at hr
  | .bp _ _, _, hd, _ | .sl _ _ _, _, hd, _ | .mp _, _, hd, _ | .yl _, _, hd, _ | .vec _ _ _, _, hd, _ | .be _ _ _ _ _, _, hd, _ | .bv _ _ _, _, hd, _ => by simp [Data] at hd
  | .agg cs, _, hd, hr => by
    simp only [R, Data] at hr hd ⊢
    obtain ⟨vs, e, hs⟩ := hr
    exact ⟨vs, e, Rs.data h cs vs hd hs⟩
  | .tup cs, _, hd, hr => by
    simp only [R, Data] at hr hd ⊢
    obtain ⟨vs, e, hs⟩ := hr
    exact ⟨vs, e, Rs.data h cs vs hd hs⟩
  | .clo _ cs, _, hd, hr => by
    simp only [R, Data] at hr hd ⊢
    obtain ⟨vs, e, hs⟩ := hr
    exact ⟨vs, e, Rs.data h cs vs hd hs⟩
  | .mv _ cs, _, hd, hr => by
    simp only [R, Data] at hr hd ⊢
    obtain ⟨vs, e, hs⟩ := hr
    exact ⟨vs, e, Rs.data h cs vs hd hs⟩
  | .iface _ d, _, hd, hr => by
    simp only [R, Data] at hr hd ⊢
    obtain ⟨u, e, hs⟩ := hr
    exact ⟨u, e, R.data h d u hd hs⟩
  | .ep cs, _, hd, hr => by
    simp only [R, Data] at hr hd ⊢
    obtain ⟨p, vs, e, hp, hs, hc⟩ := hr
    refine ⟨p, vs, e, hp, Rs.data h cs vs hd hs, fun j hj => ?_⟩
    have := hc j hj
    rw [List.getElem?_eq_getElem hj] at this ⊢
    exact h _ _ this
  | .list n sz get own, _, hd, hr => by
    simp only [R, Data] at hr hd ⊢
    obtain ⟨hn, a, cap, e, hnc, ho, hel⟩ := hr
    refine ⟨hn, a, cap, e, hnc, ?_, fun i hi => ?_⟩
    · cases own with
      | none => trivial
      | full => exact ho
      | nz b => exact ho
      | tok t tz => exact absurd rfl (hd.2 t tz)
    · obtain ⟨p, u, ha, hp, hu, hus, hc⟩ := hel i hi
      refine ⟨p, u, ha, hp, R.data h (get i) u (hd.1 i hi) hu, hus, fun j hj => ?_⟩
      have hj' : j < u.cells.size := by have := hus.1; omega
      have := hc j hj
      rw [Array.getElem?_eq_getElem hj'] at this ⊢
      exact h _ _ this
theorem Rs.data {g g' : G} (h : ∀ a v, g.σ a = some v → g'.σ a = some v) : ∀ (ds : List D) (vs : List Value), Datas ds → Rs g ds vs → Rs g' ds vs
  | [], _, _, hr => by simpa [Rs] using hr
  | d :: ds, _, hd, hr => by
    simp only [Rs, Datas] at hr hd ⊢
    obtain ⟨v, r, e, hv, hs⟩ := hr
    exact ⟨v, r, e, R.data h d v hd.1 hv, Rs.data h ds r hd.2 hs⟩
end

theorem Rs.length {g : G} : ∀ {ds : List D} {vs : List Value}, Rs g ds vs → vs.length = ds.length
  | [], _, h => by simp [Rs] at h; simp [h]
  | _ :: _, _, h => by
    simp only [Rs] at h
    obtain ⟨v, r, rfl, _, hs⟩ := h
    simp [Rs.length hs]

theorem Rs.get {g : G} : ∀ {ds : List D} {vs : List Value}, Rs g ds vs → ∀ (i : Nat) (d : D), ds[i]? = some d → ∃ v, vs[i]? = some v ∧ R g d v
  | [], _, _, i, d, hi => by simp at hi
  | d0 :: ds, _, h, i, d, hi => by
    simp only [Rs] at h
    obtain ⟨v, r, rfl, hv, hs⟩ := h
    cases i with
    | zero => simp at hi; subst hi; exact ⟨v, rfl, hv⟩
    | succ i => simp at hi; simpa using Rs.get hs i d hi

theorem Rs.of_get {g : G} : ∀ {ds : List D} {vs : List Value}, vs.length = ds.length → (∀ (i : Nat) (d : D) (v : Value), ds[i]? = some d → vs[i]? = some v → R g d v) → Rs g ds vs
  | [], vs, hl, _ => by simp [Rs]; simpa using hl
  | d :: ds, [], hl, _ => by simp at hl
  | d :: ds, v :: vs, hl, h => by
    simp only [Rs]
    exact ⟨v, vs, rfl, h 0 d v rfl rfl, Rs.of_get (by simpa using hl) fun i d' v' h1 h2 => h (i + 1) d' v' (by simpa using h1) (by simpa using h2)⟩

theorem Rs.append {g : G} {a b : List D} {x y : List Value} (h : Rs g a x) (k : Rs g b y) : Rs g (a ++ b) (x ++ y) := by
  induction a generalizing x with
  | nil => simp [Rs] at h; subst h; simpa using k
  | cons d r ih =>
    simp only [Rs] at h
    obtain ⟨v, s, rfl, hv, hs⟩ := h
    simp only [List.cons_append, Rs]
    exact ⟨v, s ++ y, rfl, hv, ih hs⟩

theorem Rs.take {g : G} {ds : List D} {vs : List Value} (h : Rs g ds vs) (n : Nat) : Rs g (ds.take n) (vs.take n) := by
  refine Rs.of_get (by simp [h.length]) fun i d v h1 h2 => ?_
  rw [List.getElem?_take] at h1 h2
  split at h1
  · rename_i hin
    simp only [hin, if_true] at h2
    obtain ⟨v', hv', hr⟩ := h.get i d h1
    rw [h2] at hv'; cases hv'; exact hr
  · cases h1

theorem Rs.drop {g : G} {ds : List D} {vs : List Value} (h : Rs g ds vs) (n : Nat) : Rs g (ds.drop n) (vs.drop n) := by
  refine Rs.of_get (by simp [h.length]) fun i d v h1 h2 => ?_
  rw [List.getElem?_drop] at h1 h2
  obtain ⟨v', hv', hr⟩ := h.get _ d h1
  rw [h2] at hv'; cases hv'; exact hr

theorem R.cells {g : G} {d : D} {v : Value} (h : R g d v) : Rs g (cellsD d) v.cells.toList := by
  cases d <;> first
    | (simp only [R] at h; obtain ⟨vs, rfl, hs⟩ := h; simpa [cellsD, Value.cells] using hs)
    | (simp only [R] at h; done)
    | (have h' := h
       simp only [R] at h'
       have : v.cells = #[v] := by
         first
           | (subst h'; rfl)
           | (obtain ⟨rfl, _⟩ := h'; rfl)
           | (obtain ⟨_, _, _, rfl, _⟩ := h'; rfl)
           | (obtain ⟨_, _, rfl, _⟩ := h'; rfl)
           | (obtain ⟨_, _, rfl⟩ := h'; rfl)
           | (obtain ⟨_, _, _, _, rfl, _⟩ := h'; rfl)
           | (obtain ⟨_, rfl, _⟩ := h'; rfl)
       rw [this]
       simp only [cellsD, Rs]
       exact ⟨v, [], rfl, h, rfl⟩)

end Go.Ab
/- The symbolic executor's step: what an operation does to an abstract state. Definitions only. -/
namespace Go.Ab

/-- The record of a loop over a function: how many slots its function has, the parameters, the code, what the slots held when it began. -/
structure RecD where
  n : Nat
  ps : Array Tmp
  asg : Code
  body : Code
  sl : List (Nat × D)

/-- A map's key: a number or a string. -/
inductive KA
  | i (n : Int)
  | s (b : List UInt8)
  deriving DecidableEq, Inhabited

abbrev MKey := List KA

/-- What a map has at a key, by the kind of its elements. `z`: what it has where there is nothing. -/
inductive MV
  | i (k : IntKind) (f : MKey → Int)
  | s (f : MKey → List UInt8)
  | b (f : MKey → Bool)
  | d (z : D) (f : MKey → D)

def MV.at : MV → MKey → D
  | .i k f, x => .int k (f x)
  | .s f, x => .str (f x)
  | .b f, x => .bool (f x)
  | .d _ f, x => f x

def MV.zero : MV → D
  | .i k _ => .int k 0
  | .s _ => .str []
  | .b _ => .bool false
  | .d z _ => z

def updK {α : Type} (f : MKey → α) (k : MKey) (v : α) : MKey → α := fun x => bif decide (x = k) then v else f x

def MV.put : MV → MKey → D → Option MV
  | .i k f, x, .int j n => bif k == j then some (.i k (updK f x n)) else none
  | .s f, x, .str q => some (.s (updK f x q))
  | .b f, x, .bool q => some (.b (updK f x q))
  | .d z f, x, e => some (.d z (updK f x e))
  | _, _, _ => none

/-- A box's content: cells one by one (a variable, a struct), or n cells by a function (an array); the record of a loop over a function, with the jump that waits. -/
inductive Row
  | lit (cs : List D)
  | arr (n : Nat) (get : Nat → D)
  | loop (r : RecD) (j : Option Code)
  | litT (T : Nat) (cs : List D)
  | map (kk : Option IntKind) (has : MKey → Bool) (v : MV)

structure Heap where
  box : Nat → Option Row
  nl : Nat
  hw : Nat → Option Nat
  nt : Nat
  vw : Nat → Option (Nat → D)

def Heap.empty : Heap := ⟨fun _ => none, 0, fun _ => none, 0, fun _ => none⟩

def upd {α : Type} (f : Nat → α) (k : Nat) (v : α) : Nat → α := fun i => bif Nat.beq i k then v else f i

abbrev Slots := List (Nat × D)

structure St where
  sl : Slots
  h : Heap

def look : Slots → Nat → Option D
  | [], _ => none
  | (s, d) :: r, t => bif Nat.beq s t then some d else look r t

/-- A pointer into the box of this slot (whatever it hangs on). -/
def isLp : D → Nat → Bool
  | .lp s _, t => Nat.beq s t
  | .may _ _ (.lp s _), t => Nat.beq s t
  | _, _ => false

def del : Slots → Nat → Slots
  | [], _ => []
  | (s, d) :: r, t => bif Nat.beq s t || isLp d t then del r t else (s, d) :: del r t

def put (sl : Slots) (t : Nat) (d : D) : Slots := (t, d) :: del sl t

def putO (sl : Slots) (t : Option Nat) (d : D) : Slots := match t with | some t => put sl t (bif isLp d t then .junk else d) | none => sl

def isMayLp : D → Bool
  | .lp _ _ | .may _ _ _ => true
  | _ => false

/-- At a region's end: what holds inside it alone is struck. -/
def purge : Slots → Slots
  | [] => []
  | (s, d) :: r => bif isMayLp d then purge r else (s, d) :: purge r

/-- Data at its head (no slot-only form). -/
def isD : D → Bool
  | .own _ | .lp _ _ | .may _ _ _ | .junk => false
  | _ => true

mutual
def ofVal : Value → D
  | .bool b => .bool b
  | .int k n => .int k n
  | .string s => bif Nat.ble s.data.toList.length strM then .str s.data.toList else .junk
  | .pointer none => .nilp
  | .slice none 0 0 => .list 0 0 (fun _ => .junk) .full
  | .map none => .nilm
  | .nilFunc => .nilf
  | .nilIface => .nili
  | .agg ⟨cs⟩ => bif (ofVals cs).all isD then .agg (ofVals cs) else .junk
  | .tuple ⟨cs⟩ => bif (ofVals cs).all isD then .tup (ofVals cs) else .junk
  | _ => .junk
def ofVals : List Value → List D
  | [] => []
  | v :: r => ofVal v :: ofVals r
end

def szOf (P : Program) (t : Nat) : Option Nat := (P.info? t).map (·.size)
def bytesOf (P : Program) (t : Nat) : Option Nat := (P.info? t).map (·.bytes)
def isAggT (P : Program) (t : Nat) : Option Bool := (P.underlying t).map fun | .struct _ => true | .array _ _ => true | _ => false
def zeroD (P : Program) (t : Nat) : Option D := ((P.info? t).bind (·.zero)).map ofVal

/-- A struct's field: its offset and size (none: no such field, or of size 0). -/
def fieldD (P : Program) (t f : Nat) : Option (Nat × Nat) :=
  match P.underlying t with
  | some (.struct fs) => match fs[f]? with
    | some x => match szOf P x.type with
      | some (n + 1) => some (x.offset, n + 1)
      | _ => none
    | none => none
  | _ => none

/-- What a read of type t gives of cells that begin with these. -/
def loadD (P : Program) (t : Nat) (cs : List D) : Option D :=
  match isAggT P t with
  | some true => match szOf P t with
    | some n => bif Nat.ble n cs.length then some (.agg (cs.take n)) else none
    | none => none
  | some false => cs.head?
  | none => none

/-- Cells with others laid over them from off on. -/
def splice (cs : List D) (off : Nat) (new : List D) : List D := cs.take off ++ new ++ cs.drop (off + new.length)

def fillD (place : Nat → Option (Nat × Nat)) (cells : List D) : List (Nat × D) → Option (List D)
  | [] => some cells
  | (i, d) :: r => match place i with
    | none => none
    | some (off, size) =>
      bif isD d && Nat.beq (cellsD d).length size && Nat.ble (off + size) cells.length then fillD place (splice cells off (cellsD d)) r else none

def shlI (k : IntKind) (x y : Int) : Int := k.wrap (x * 2 ^ (min y.toNat k.bits))
def shrI (k : IntKind) (x y : Int) : Int := x.fdiv (2 ^ (min y.toNat k.bits))
def andI (k : IntKind) (x y : Int) : Int := k.wrap (BitVec.ofInt k.bits x &&& BitVec.ofInt k.bits y).toNat
def orI (k : IntKind) (x y : Int) : Int := k.wrap (BitVec.ofInt k.bits x ||| BitVec.ofInt k.bits y).toNat
def xorI (k : IntKind) (x y : Int) : Int := k.wrap (BitVec.ofInt k.bits x ^^^ BitVec.ofInt k.bits y).toNat
def andNotI (k : IntKind) (x y : Int) : Int := k.wrap (BitVec.ofInt k.bits x &&& ~~~(BitVec.ofInt k.bits y)).toNat
/-- A sum, a difference, a product that goes round. -/
def addI (k : IntKind) (x y : Int) : Int := k.wrap (x + y)
def subI (k : IntKind) (x y : Int) : Int := k.wrap (x - y)
def mulI (k : IntKind) (x y : Int) : Int := k.wrap (x * y)
def quoI (k : IntKind) (x y : Int) : Int := k.wrap (x.tdiv y)

/-- An operation's outcome. val: a value, nothing turned. nd: so, where p holds. asm: so, and p is known from then on. new: a new box with these cells. eff: the heap or a slot turned, where p holds. -/
inductive Res
  | val (d : D)
  | nd (p : Prop) (d : D)
  | asm (p : Prop) (d : D)
  | new (cs : List D)
  | eff (p : Prop) (st : St) (d : D)
  | call (f : Nat) (args : List D)
  | ycall (l : Nat) (args : List D)
  | bad

/-- A field of a struct's cells. -/
def partD (P : Program) (t : Nat) (cs : List D) (off : Nat) : Option D :=
  match isAggT P t, szOf P t with
  | some true, some n => bif Nat.ble (off + n) cs.length then some (.agg ((cs.drop off).take n)) else none
  | some false, _ => cs[off]?
  | _, _ => none

/-- Values of a type of whole numbers, bools, strings and structs of these: are they equal? -/
def eqTy (P : Program) : Nat → Nat → D → D → Option Bool
  | 0, _, _, _ => none
  | n + 1, t, x, y => match P.underlying t, x, y with
    | some .bool, .bool a, .bool b => some (a == b)
    | some (.int _), .int j a, .int k b => bif j == k then some (a == b) else none
    | some .string, .str a, .str b => some (a == b)
    | some (.struct fs), .agg xs, .agg ys => bif P.stoodInHeld t then none else eqFs P (eqTy P n) xs ys fs.toList
    | _, _, _ => none
 where
  eqFs (P : Program) (eq : Nat → D → D → Option Bool) (xs ys : List D) : List Field → Option Bool
    | [] => some true
    | f :: r => bif f.name == "_" then none else match partD P f.type xs f.offset, partD P f.type ys f.offset with
      | some a, some b => match eq f.type a b with
        | some u => match r with
          | [] => some u
          | _ => match eqFs P eq xs ys r with
            | some v => some (u && v)
            | none => none
        | none => none
      | _, _ => none

def binD (P : Program) (op : BinOp) (T : Nat) (x y : D) : Res :=
  match x, y with
  | .int k a, .int k' b => match op with
    | .shl => .nd (0 ≤ b) (.int k (shlI k a b))
    | .shr => .nd (0 ≤ b) (.int k (shrI k a b))
    | op => bif k == k' then (match op with
      | .add => .val (.int k (addI k a b))
      | .sub => .val (.int k (subI k a b))
      | .mul => .val (.int k (mulI k a b))
      | .quo => .nd (b ≠ 0) (.int k (quoI k a b))
      | .rem => .nd (b ≠ 0) (.int k (a.tmod b))
      | .and => .val (.int k (andI k a b))
      | .or => .val (.int k (orI k a b))
      | .xor => .val (.int k (xorI k a b))
      | .andNot => .val (.int k (andNotI k a b))
      | .eql => .val (.bool (a == b))
      | .neq => .val (.bool (a != b))
      | .lss => .val (.bool (decide (a < b)))
      | .leq => .val (.bool (decide (a ≤ b)))
      | .gtr => .val (.bool (decide (a > b)))
      | .geq => .val (.bool (decide (a ≥ b)))
      | _ => .bad) else .bad
  | .str a, .str b => match op with
    | .add => .nd (a.length + b.length ≤ strM) (.str (a ++ b))
    | .eql => .val (.bool (a == b))
    | .neq => .val (.bool (!(a == b)))
    | .lss => .val (.bool (Op.bytesLess a b))
    | .leq => .val (.bool (Op.bytesLess a b || a == b))
    | .gtr => .val (.bool (!(Op.bytesLess a b || a == b)))
    | .geq => .val (.bool (!(Op.bytesLess a b)))
    | _ => .bad
  | .bool a, .bool b => match op, P.underlying T with
    | .eql, some .bool => .val (.bool (a == b))
    | .neq, some .bool => .val (.bool (!(a == b)))
    | _, _ => .bad
  | .agg a, .agg b => bif P.eqGuardType P.depth T then .bad else (match op, eqTy P 10 T (.agg a) (.agg b) with
    | .eql, some r => .val (.bool r)
    | .neq, some r => .val (.bool (!r))
    | _, _ => .bad)
  | _, _ => .bad

/-- Is this operand the literal nil of a slice? -/
def isNilOp : Operand → Bool
  | .const (.slice none 0 0) => true
  | _ => false

/-- A slice that has elements, held against nil. -/
def nilD (P : Program) (op : BinOp) (T : Nat) (x : D) : Res :=
  match P.underlying T, op, x with
  | some (.slice _), .eql, .list _ _ _ (.nz b) => .val (.bool b)
  | some (.slice _), .neq, .list _ _ _ (.nz b) => .val (.bool (!b))
  | some (.slice _), .eql, .list n _ _ _ => .nd (0 < n) (.bool false)
  | some (.slice _), .neq, .list n _ _ _ => .nd (0 < n) (.bool true)
  | _, _, _ => .bad

def binOD (P : Program) (op : BinOp) (T : Nat) (y : Operand) (x z : D) : Res := bif isNilOp y then nilD P op T x else binD P op T x z

def unD (op : UnOp) (x : D) : Res :=
  match op, x with
  | .not, .bool b => .val (.bool (!b))
  | .neg, .int k n => .val (.int k (subI k 0 n))
  | .xor, .int k n => .val (.int k (xorI k (if k.signed then -1 else k.max) n))
  | _, _ => .bad

def convD (P : Program) (src dst : Nat) (x : D) : Res :=
  match P.underlying src, P.underlying dst, x with
  | some _, some (.int k), .int _ n => .val (.int k (k.wrap n))
  | some _, some .string, .str s => .val (.str s)
  | _, _, _ => .bad

def catG (n : Nat) (f g : Nat → D) : Nat → D := fun i => bif Nat.blt i n then f i else g (i - n)
def dropG (f : Nat → D) (k : Nat) : Nat → D := fun i => f (k + i)
def litG (l : List D) : Nat → D := fun i => l.getD i .junk
def strG (s : List UInt8) : Nat → D := fun i => .int .u8 (s.getD i 0).toNat

def roomM : Nat := 140737488355328

/-- What is appended: how many, which. -/
def srcD (sz : Nat) : D → Option (Nat × (Nat → D))
  | .list m z g _ => bif Nat.beq z sz then some (m, g) else bif Nat.beq m 0 then some (m, g) else none
  | .str s => bif Nat.beq sz 1 then some (s.length, strG s) else none
  | _ => none

/-- The one cell of a value of one cell. -/
def cell1 : D → D
  | .agg (x :: _) => x
  | d => d

/-- The cells of elements of sz cells each. -/
def cellsG (sz : Nat) (f : Nat → D) : Nat → D := bif Nat.beq sz 1 then fun i => cell1 (f i) else fun i => (cellsD (f (i / sz))).getD (i % sz) .junk

/-- bx: the new array is a box, to be written; vx: an array of the frame's own that grows and is written. -/
def appD (P : Program) (st : St) (bx vx : Bool) (T : Nat) (x y : D) : Res :=
  match P.underlying T with
  | some (.slice e) => match szOf P e, bytesOf P e, zeroD P e with
    | some sz, some (b + 1), some z => bif isD z && Nat.beq (cellsD z).length sz then (match x, srcD sz y with
      | .list n ez f own, some (m, g) => bif (bif Nat.beq ez sz then true else Nat.beq n 0) then (match own with
        | .none => .bad
        | .nz _ => .bad
        | .full => bif vx then .eff ((0 < m ∨ n = 0) ∧ (n + m) * (b + 1) ≤ roomM) { st with h := { st.h with hw := upd st.h.hw st.h.nt (some (n + m)), nt := st.h.nt + 1, vw := upd st.h.vw st.h.nt (some (catG n f g)) } } (.vec st.h.nt (n + m) sz) else bif bx then .eff (0 < m ∧ (n + m) * (b + 1) ≤ roomM) { st with h := { st.h with box := upd st.h.box st.h.nl (some (.arr ((n + m) * sz) (cellsG sz (catG n f g)))), nl := st.h.nl + 1 } } (.sl st.h.nl 0 (n + m)) else .eff ((n + m) * (b + 1) ≤ roomM) { st with h := { st.h with hw := upd st.h.hw st.h.nt (some (n + m)), nt := st.h.nt + 1 } } (.list (n + m) sz (catG n f g) (.tok st.h.nt sz))
        | .tok t tz => (match st.h.vw t with
          | some _ => .bad
          | none => bif Nat.beq sz tz then .eff (st.h.hw t = some n ∧ (n + m) * (b + 1) ≤ roomM) { st with h := { st.h with hw := upd st.h.hw t (some (n + m)) } } (.list (n + m) sz (catG n f g) (.tok t sz)) else .bad)) else .bad
      | .vec t n ez, some (m, g) => bif Nat.beq ez sz then (match st.h.vw t with
        | some f => .eff (st.h.hw t = some n ∧ (n + m) * (b + 1) ≤ roomM) { st with h := { st.h with hw := upd st.h.hw t (some (n + m)), vw := upd st.h.vw t (some (catG n f g)) } } (.vec t (n + m) sz)
        | none => .bad) else .bad
      | .bv e' t n, some (m, g) => bif Nat.beq 1 sz && Nat.beq e e' then (match st.h.vw t with
        | some f => .eff (st.h.hw t = some n ∧ (n + m) * (b + 1) ≤ roomM) { st with h := { st.h with hw := upd st.h.hw t (some (n + m)), vw := upd st.h.vw t (some (catG n f g)) } } (.bv e' t (n + m))
        | none => .bad) else .bad
      | _, _ => .bad) else .bad
    | _, _, _ => .bad
  | _ => .bad

def minD : List D → Option D
  | [] => none
  | x :: r => r.foldl (fun acc y => match acc, y with
    | some (.int k a), .int _ b => some (.int k (if b < a then b else a))
    | _, _ => none) (some x)
def maxD : List D → Option D
  | [] => none
  | x :: r => r.foldl (fun acc y => match acc, y with
    | some (.int k a), .int _ b => some (.int k (if b > a then b else a))
    | _, _ => none) (some x)

def builtinD (P : Program) (st : St) (bx vx : Bool) (b : Builtin) (ts : List Nat) (args : List D) : Res :=
  match b, ts, args with
  | .len, t :: _, [.list n _ _ _] => match P.underlying t with
    | some (.slice _) => .asm (n ≤ lenM) (.int .i64 n)
    | _ => .bad
  | .len, t :: _, [.sl _ _ n] => match P.underlying t with
    | some (.slice _) => .asm (n ≤ lenM) (.int .i64 n)
    | _ => .bad
  | .len, t :: _, [.vec _ n _] => match P.underlying t with
    | some (.slice _) => .asm (n ≤ lenM) (.int .i64 n)
    | _ => .bad
  | .len, t :: _, [.bv _ _ n] => match P.underlying t with
    | some (.slice _) => .asm (n ≤ lenM) (.int .i64 n)
    | _ => .bad
  | .len, t :: _, [.str s] => match P.underlying t with
    | some .string => .asm (s.length ≤ strM) (.int .i64 s.length)
    | _ => .bad
  | .append, [t, u], [x, y] => match P.underlying u with
    | some (.slice _) | some .string => appD P st bx vx t x y
    | _ => .bad
  | .min, _, l => match minD l with | some d => .val d | none => .bad
  | .max, _, l => match maxD l with | some d => .val d | none => .bad
  | _, _, _ => .bad

/-- A lower bound: none is 0. -/
def lowD : Option D → Option Int
  | none => some 0
  | some (.int _ a) => some a
  | some _ => none

/-- Slice expressions. The upper bound may not pass the length (Go lets it pass up to the capacity: what stands there is not known here). -/
def sliceD (P : Program) (T : Nat) (x : D) (lo hi mx : Option D) : Res :=
  match P.underlying T, x, lowD lo with
  | some (.slice e), .list n z f own, some l =>
    match szOf P e with
    | some sz => bif (bif Nat.beq z sz then true else Nat.beq n 0) then
      (match lo, hi, mx with
      | none, none, none => .val (.list n z f own)
      | some _, none, none => .nd (0 ≤ l ∧ l ≤ n) (.list (n - l.toNat) z (dropG f l.toNat) .none)
      | _, some (.int _ h), none => .nd (0 ≤ l ∧ l ≤ h ∧ h ≤ n) (.list (h.toNat - l.toNat) z (dropG f l.toNat) .none)
      | _, some (.int _ h), some (.int _ m) => .nd (0 ≤ l ∧ l ≤ h ∧ h ≤ n ∧ m = h) (.list (h.toNat - l.toNat) z (dropG f l.toNat) .full)
      | _, _, _ => .bad) else .bad
    | none => .bad
  | some (.slice e), .sl b off n, some l =>
    match szOf P e, hi, mx with
    | some sz, none, none => .nd (0 ≤ l ∧ l ≤ n) (.sl b (off + l.toNat * sz) (n - l.toNat))
    | some sz, some (.int _ h), none => .nd (0 ≤ l ∧ l ≤ h ∧ h ≤ n) (.sl b (off + l.toNat * sz) (h.toNat - l.toNat))
    | _, _, _ => .bad
  | some .string, .str s, some l =>
    match hi, mx with
    | none, none => .nd (0 ≤ l ∧ l ≤ s.length) (.str (s.drop l.toNat))
    | some (.int _ h), none => .nd (0 ≤ l ∧ l ≤ h ∧ h ≤ s.length) (.str ((s.take h.toNat).drop l.toNat))
    | _, _ => .bad
  | _, _, _ => .bad

def indexAddrD (P : Program) (h : Heap) (T : Nat) (x i : D) : Res :=
  match P.underlying T, x, i with
  | some (.slice e), .vec t n z, .int _ i => match szOf P e, h.vw t with
    | some sz, some _ => bif Nat.beq z sz then .nd (h.hw t = some n ∧ 0 ≤ i ∧ i < n) (.be t n i.toNat z 0) else .bad
    | _, _ => .bad
  | some (.slice e), .list n z f _, .int _ i => match szOf P e with
    | some sz => bif Nat.beq z sz then .nd (0 ≤ i ∧ i < n) (.ep (cellsD (f i.toNat))) else .bad
    | none => .bad
  | some (.slice e), .sl b off n, .int _ i => match szOf P e with
    | some sz => .nd (0 ≤ i ∧ i < n) (.bp b (off + i.toNat * sz))
    | none => .bad
  | _, _, _ => .bad

def indexD (P : Program) (T : Nat) (x i : D) : Res :=
  match P.underlying T, x, i with
  | some .string, .str s, .int _ i => .nd (0 ≤ i ∧ i < s.length) (.int .u8 (s.getD i.toNat 0).toNat)
  | _, _, _ => .bad

def ownCells (sl : Slots) (s : Nat) : Option (List D) := match look sl s with | some (.own cs) => some cs | _ => none

def optRes : Option D → Res
  | some d => .val d
  | none => .bad

def rowLoad (P : Program) (t off : Nat) : Row → Res
  | .lit cs => optRes (loadD P t (cs.drop off))
  | .arr n get => match isAggT P t, szOf P t with
    | some false, some 1 => bif isD (get off) then .nd (off < n) (get off) else .bad
    | some true, some k => .nd (off + k ≤ n) (.agg ((List.range k).map fun j => get (off + j)))
    | _, _ => .bad
  | .loop _ _ => .bad
  | .litT _ cs => optRes (loadD P t (cs.drop off))
  | .map _ _ _ => .bad

def loadRes (P : Program) (st : St) (t : Nat) (a : D) : Res :=
  match a with
  | .lp s off => match ownCells st.sl s with
    | some cs => optRes (loadD P t (cs.drop off))
    | none => .bad
  | .ep cs => optRes (loadD P t cs)
  | .bp l off => match st.h.box l with
    | some row => rowLoad P t off row
    | none => .bad
  | .be t' n i _ j => match st.h.vw t' with
    | some f => (match loadD P t ((cellsD (f i)).drop j) with
      | some d => bif isD d then .nd (st.h.hw t' = some n) d else .bad
      | none => .bad)
    | none => .bad
  | _ => .bad

/-- One element put in its place. -/
def setG (f : Nat → D) (i : Nat) (d : D) : Nat → D := fun k => bif Nat.beq k i then d else f k

/-- An element of sz cells with others laid over them. -/
def overC (sz : Nat) (old : D) (j : Nat) (v : D) : D := bif Nat.beq j 0 && Nat.beq (cellsD v).length sz then v else .agg (splice (cellsD old) j (cellsD v))

/-- A store into a row; whether it lies inside. -/
def rowStore (off : Nat) (new : List D) : Row → Option (Prop × Row)
  | .lit cs => bif Nat.ble (off + new.length) cs.length then some (True, .lit (splice cs off new)) else none
  | .arr n get => some (off + new.length ≤ n, .arr n fun i => bif Nat.ble off i && Nat.blt i (off + new.length) then new.getD (i - off) .junk else get i)
  | .loop _ _ => none
  | .litT T cs => bif Nat.ble (off + new.length) cs.length then some (True, .litT T (splice cs off new)) else none
  | .map _ _ _ => none

def storeRes (P : Program) (st : St) (t : Nat) (a v : D) : Res :=
  match szOf P t, isD v with
  | some n, true => bif Nat.beq (cellsD v).length n && (cellsD v).all oneD then
      (match a with
      | .lp s off => match ownCells st.sl s with
        | some cs => bif Nat.ble (off + n) cs.length then .eff True { st with sl := (st.sl.map fun (x : Nat × D) => bif Nat.beq x.1 s then (s, D.own (splice cs off (cellsD v))) else x) } (.tup []) else .bad
        | none => .bad
      | .bp l off => match st.h.box l with
        | some row => match rowStore off (cellsD v) row with
          | some (p, row') => .eff p { st with h := { st.h with box := upd st.h.box l (some row') } } (.tup [])
          | none => .bad
        | none => .bad
      | .be t' n' i sz j => match st.h.vw t' with
        | some f => bif Nat.ble (j + n) sz then .eff (st.h.hw t' = some n') { st with h := { st.h with vw := upd st.h.vw t' (some (setG f i (overC sz (f i) j v))) } } (.tup []) else .bad
        | none => .bad
      | _ => .bad) else .bad
  | _, _ => .bad

def fieldAddrD (P : Program) (t f : Nat) (a : D) : Res :=
  match fieldD P t f with
  | some (off, _) => match a with
    | .lp s o => .val (.lp s (o + off))
    | .bp l o => .val (.bp l (o + off))
    | .ep cs => .val (.ep (cs.drop off))
    | .be t n i sz j => .val (.be t n i sz (j + off))
    | _ => .bad
  | none => .bad

/-- Which slots' boxes lie in the heap (their addresses go to other functions, or are captured). -/
structure Cfg where
  esc : Nat → Bool
  vec : Nat → Bool

/-- A box whose type counts: a strings.Builder. -/
def rowNew (tag : Option Nat) (cs : List D) : Row :=
  match tag with
  | some T => .litT T cs
  | none => .lit cs

def sbTag (P : Program) (t : Nat) : Option Nat :=
  match P.underlying t with
  | some (.struct fs) => match fs.toList with
    | [x, y] => bif x.name == "addr" && y.name == "buf" then some t else none
    | _ => none
  | _ => none

def newRes (cfg : Cfg) (st : St) (dst : Option Nat) (tag : Option Nat) (cs : List D) : Res :=
  match dst with
  | some d => bif cfg.esc d then .eff True { st with h := { st.h with box := upd st.h.box st.h.nl (some (rowNew tag cs)), nl := st.h.nl + 1 } } (.bp st.h.nl 0) else .new cs
  | none => .bad

def optMap {α β : Type} (f : α → Option β) : List α → Option (List β)
  | [] => some []
  | a :: r => match f a, optMap f r with
    | some b, some s => some (b :: s)
    | _, _ => none

def allD (l : List D) : Bool := l.all isD

def buildD (P : Program) (t : Nat) (parts : List (Nat × D)) : Option D :=
  match zeroD P t, P.underlying t with
  | some z, some (.struct fs) => bif isD z && fs.toList.all (fun f => (szOf P f.type).isSome) then (fillD (fieldD P t) (cellsD z) parts).map .agg else none
  | _, _ => none

/-- The elements of a slice literal: each place once, in order. -/
def litParts : Nat → List (Nat × D) → Option (List D)
  | _, [] => some []
  | i, (j, d) :: r => bif Nat.beq i j && isD d then (litParts (i + 1) r).map (d :: ·) else none

def isStrD : D → Bool
  | .str _ => true
  | _ => false
def strD : D → List UInt8
  | .str s => s
  | _ => []
/-- Strings, each surely one. -/
def strL (ds : List D) : Nat → D := fun i => .str ((ds.map strD).getD i default)

def buildSliceD (P : Program) (t len : Nat) (parts : List (Nat × D)) : Option D :=
  match P.underlying t with
  | some (.slice e) => match szOf P e, zeroD P e, litParts 0 parts with
    | some sz, some z, some ds => bif isD z && Nat.beq (cellsD z).length sz && Nat.beq ds.length len && Nat.ble len 65536 && Nat.ble (len * sz) 65536 && ds.all (fun d => Nat.beq (cellsD d).length sz) && ds.all ones then some (.list len sz (bif Nat.blt 0 ds.length && ds.all isStrD then strL ds else litG ds) .full) else none
    | _, _, _ => none
  | _ => none

/-- A method of an interface's value, taken. -/
def methF (m : String) (c : Bool) : List D → Res
  | [.iface t _] => bif c then .val (.fnp t m) else .bad
  | _ => .bad

/-- The slice built: unchanging, or an array of the frame's own. -/
def bldS (st : St) (vx : Bool) : Option D → Res
  | some (.list n sz get own) => bif vx && Nat.blt 0 n then .eff True
      { st with h := { st.h with hw := upd st.h.hw st.h.nt (some n), nt := st.h.nt + 1, vw := upd st.h.vw st.h.nt (some get) } } (.vec st.h.nt n sz) else .val (.list n sz get own)
  | some d => .val d
  | none => .bad

def makeD (P : Program) (st : St) (vx : Bool) (t : Nat) (l c : D) : Res :=
  match P.underlying t, l, c with
  | some (.slice e), .int _ l, .int _ c => match szOf P e, bytesOf P e, zeroD P e with
    | some (sz + 1), some (b + 1), some z => bif isD z && Nat.beq (cellsD z).length (sz + 1) then
      (bif vx then bif ones z then .eff (0 ≤ l ∧ l ≤ c ∧ c * (b + 1) ≤ roomM)
        { st with h := { st.h with hw := upd st.h.hw st.h.nt (some l.toNat), nt := st.h.nt + 1, vw := upd st.h.vw st.h.nt (some fun _ => z) } } (.vec st.h.nt l.toNat (sz + 1)) else .bad
      else .eff (0 ≤ l ∧ l = c ∧ l * (b + 1) ≤ roomM)
        { st with h := { st.h with box := upd st.h.box st.h.nl (some (.arr (l.toNat * (sz + 1)) (cellsG (sz + 1) fun _ => z))), nl := st.h.nl + 1 } } (.sl st.h.nl 0 l.toNat)) else .bad
    | _, _, _ => .bad
  | _, _, _ => .bad

/-- The method of this name of a type, called on a value of the type itself. -/
def methD (P : Program) (t : Nat) (name : String) : Option Nat :=
  match P.info? t with
  | some i => match i.methods.find? (fun m => m.name == name) with
    | some m => match m.func, m.path.toList, P.underlying t with
      | some (f, true), [], some (.pointer _) => some f
      | some (_, false), [], some (.pointer _) => none
      | some (f, false), [], some _ => some f
      | _, _, _ => none
    | none => none
  | none => none

def nilCheckD (P : Program) (x : D) : Res :=
  match x with
  | .bp _ _ | .ep _ | .lp _ _ | .clo _ _ | .mv _ _ => .val x
  | .fnp t m => bif (methD P t m).isSome then .val x else .bad
  | .be .. => .val x
  | _ => .bad

def byteD : D → UInt8
  | .int _ n => UInt8.ofNat n.toNat
  | _ => 0
def bytesG (n : Nat) (f : Nat → D) : List UInt8 := (List.range n).map fun i => byteD (f i)
def allByte (n : Nat) (f : Nat → D) : Prop := ∀ i, i < n → ∃ b : UInt8, f i = .int .u8 b.toNat

/-- Conversions, those between strings and slices of bytes too. -/
def convRes (P : Program) (h : Heap) (src dst : Nat) (x : D) : Res :=
  match P.underlying src, P.underlying dst, x with
  | some .string, some (.slice e), .str b => match P.underlying e with
    | some (.int .u8) => .val (.list b.length 1 (strG b) .none)
    | _ => .bad
  | some (.slice e), some .string, .list n z f _ => match P.underlying e with
    | some (.int .u8) => bif Nat.beq z 1 || Nat.beq n 0 then .nd (allByte n f) (.str (bytesG n f)) else .bad
    | _ => .bad
  | some (.slice e), some .string, .vec t n z => match P.underlying e, h.vw t with
    | some (.int .u8), some f => bif Nat.beq z 1 then .nd (h.hw t = some n ∧ allByte n f) (.str (bytesG n f)) else .bad
    | _, _ => .bad
  | _, _, _ => convD P src dst x

/-- The bytes of a string, as an array of the frame's own. -/
def convW (P : Program) (st : St) (src dst : Nat) (x : D) : Res :=
  match P.underlying src, P.underlying dst, x with
  | some .string, some (.slice e), .str b => match P.underlying e with
    | some (.int .u8) => .eff True { st with h := { st.h with hw := upd st.h.hw st.h.nt (some b.length), nt := st.h.nt + 1, vw := upd st.h.vw st.h.nt (some (strG b)) } } (.vec st.h.nt b.length 1)
    | _ => .bad
  | _, _, _ => .bad

/-- A key of a map with such keys. -/
def keyOf (x : D) : Option (Option IntKind × MKey) :=
  match x with
  | .int j n => some (some j, [.i n])
  | .str s => some (none, [.s s])
  | _ => none

/-- The kind of keys of such a type. -/
def kindK (P : Program) (t : Nat) : Option (Option IntKind) :=
  match P.underlying t with
  | some (.int k) => some (some k)
  | some .string => some none
  | _ => none

def sameKK : Option IntKind → Option IntKind → Bool
  | some j, some k => j == k
  | none, none => true
  | _, _ => false

/-- The same zero value, surely. -/
def sameZ : D → D → Bool
  | .int j a, .int k b => j == k && a == b
  | .str [], .str [] => true
  | .bool a, .bool b => a == b
  | .list 0 _ _ .full, .list 0 _ _ .full => true
  | .nilp, .nilp => true
  | .nilf, .nilf => true
  | .nili, .nili => true
  | .nilm, .nilm => true
  | _, _ => false

def mvNew (z : D) : MV :=
  match z with
  | .int k n => bif n == 0 then .i k fun _ => 0 else .d z fun _ => z
  | .str [] => .s fun _ => []
  | .bool false => .b fun _ => false
  | z => .d z fun _ => z

def makeMapD (P : Program) (st : St) (t : Nat) (r : Option D) : Res :=
  match P.underlying t, r with
  | some (.map kt e), none => match zeroD P e, kindK P kt with
    | some z, some kk => bif isD z then .eff True { st with h := { st.h with box := upd st.h.box st.h.nl (some (.map kk (fun _ => false) (mvNew z))), nl := st.h.nl + 1 } } (.mp st.h.nl) else .bad
    | _, _ => .bad
  | _, _ => .bad

def lookupD (P : Program) (h : Heap) (t : Nat) (x i : D) (ok : Bool) : Res :=
  match P.underlying t, x with
  | some (.map kt e), .mp l => match h.box l, keyOf i, zeroD P e, kindK P kt with
    | some (.map kk has v), some (ki, k), some z, some kp => bif isD z && sameZ z v.zero && sameKK kk ki && sameKK kk kp then .val (bif ok then .tup [v.at k, .bool (has k)] else v.at k) else .bad
    | _, _, _, _ => .bad
  | _, _ => .bad

def mapPutD (P : Program) (st : St) (t : Nat) (m k v : D) : Res :=
  match P.underlying t, m with
  | some (.map kt _), .mp l => match st.h.box l, keyOf k, kindK P kt with
    | some (.map kk has mv), some (ki, x), some kp => match bif isD v && sameKK kk ki && sameKK kk kp then mv.put x v else none with
      | some mv' => .eff True { st with h := { st.h with box := upd st.h.box l (some (.map kk (updK has x true) mv')) } } (.tup [])
      | none => .bad
    | _, _, _ => .bad
  | _, _ => .bad

def mkIfaceD (P : Program) (t : Nat) (x : D) : Res :=
  match P.underlying t with
  | some (.interface _) => .bad
  | some _ => bif isD x then .val (.iface t x) else .bad
  | none => .bad

def opD (P : Program) (cfg : Cfg) (st : St) (ev : Operand → D) (dst : Option Nat) (o : Op) : Res :=
  match o with
  | .move x | .assign x => match ev x with
    | .junk => .bad
    | .own _ => .bad
    | .may _ _ _ => .bad
    | d => .val d
  | .alloc t => match zeroD P t with
    | some z => bif isD z then newRes cfg st dst (sbTag P t) (cellsD z) else .bad
    | none => .bad
  | .box t x => bif isD (ev x) then newRes cfg st dst (sbTag P t) (cellsD (ev x)) else .bad
  | .build t parts => optRes (buildD P t (parts.toList.map fun (x : Nat × Operand) => (x.1, ev x.2)))
  | .buildSlice t len parts => bldS st (match dst with | some d => cfg.vec d | none => false) (buildSliceD P t len (parts.toList.map fun (x : Nat × Operand) => (x.1, ev x.2)))
  | .load t a => loadRes P st t (ev a)
  | .store t a v => storeRes P st t (ev a) (ev v)
  | .nilCheck x => nilCheckD P (ev x)
  | .binOp op t x y _ => binOD P op t y (ev x) (ev y)
  | .unOp op _ x => unD op (ev x)
  | .convert s t x => bif (match dst with | some d => cfg.vec d | none => false) then convW P st s t (ev x) else convRes P st.h s t (ev x)
  | .makeFunc (.func f) first caps => bif first.isEmpty && allD (caps.toList.map ev) then .val (.clo f (caps.toList.map ev)) else bif caps.isEmpty && allD (first.toList.map ev) then .val (.mv f (first.toList.map ev)) else .bad
  | .makeFunc (.method m) first caps => methF m caps.isEmpty (first.toList.map ev)
  | .makeSlice t l c => makeD P st (match dst with | some d => cfg.vec d | none => false) t (ev l) (ev c)
  | .slice t x lo hi mx => sliceD P t (ev x) (lo.map ev) (hi.map ev) (mx.map ev)
  | .fieldAddr t x f => fieldAddrD P t f (ev x)
  | .indexAddr t x i => indexAddrD P st.h t (ev x) (ev i)
  | .index t x i => indexD P t (ev x) (ev i)
  | .extract x i => match ev x with
    | .tup ds => optRes ds[i]?
    | _ => .bad
  | .makeInterface t x => mkIfaceD P t (ev x)
  | .makeMap t r => makeMapD P st t (r.map ev)
  | .lookup t x i ok => lookupD P st.h t (ev x) (ev i) ok
  | .mapUpdate t m k v | .insert t m k v => mapPutD P st t (ev m) (ev k) (ev v)
  | .call c => match c.callee with
    | .value f => match ev f with
      | .clo f caps => bif allD (c.args.toList.map ev) then .call f (c.args.toList.map ev ++ caps) else .bad
      | .yl l => bif allD (c.args.toList.map ev) then .ycall l (c.args.toList.map ev) else .bad
      | _ => .bad
    | .builtin b => bif allD (c.args.toList.map ev) then builtinD P st (match dst with | some d => cfg.esc d | none => false) (match dst with | some d => cfg.vec d | none => false) b c.argTypes.toList (c.args.toList.map ev) else .bad
    | .invoke x name => match ev x with
      | .iface t d => (match methD P t name with
        | some f => bif allD (c.args.toList.map ev) then .call f (d :: c.args.toList.map ev) else .bad
        | none => .bad)
      | _ => .bad
  | _ => .bad

end Go.Ab
/- The symbolic executor: regions, and the run over the code's places. Definitions only. -/
namespace Go.Ab

def beqB (a b : Bool) : Bool := match a, b with | true, true => true | false, false => true | _, _ => false

def clos (ops : List Oper) (i : Nat) : Nat → Nat × Bool → List (Nat × Bool)
  | 0, _ => []
  | n + 1, g => bif Nat.blt g.1 i then g :: (match (ops[g.1]?).bind (·.guard) with | some g' => clos ops i n g' | none => []) else []

def hasG : List (Nat × Bool) → Nat → Bool → Bool
  | [], _, _ => false
  | (a, b) :: r, j, w => (Nat.beq a j && beqB b w) || hasG r j w

def evO (sl : Slots) (cl : List (Nat × Bool)) : Operand → D
  | .tmp s => match look sl s with
    | some (.own _) => .lp s 0
    | some (.may j w d) => bif hasG cl j w then d else .junk
    | some d => d
    | none => .junk
  | .const v => ofVal v
  | .func f => .clo f []
  | .global _ => .junk

def dstOf (ops : List Oper) (j : Nat) : Option Nat := (ops[j]?).bind (·.dst)

def guardIs (ops : List Oper) (j j' : Nat) (w' : Bool) : Bool := match (ops[j]?).bind (·.guard) with | some (a, b) => Nat.beq a j' && beqB b w' | none => false

/-- Whether operation j has yielded w, as a Bool of the abstract state. -/
def gB (sl : Slots) (ops : List Oper) (i : Nat) : Nat → Nat × Bool → Option Bool
  | 0, _ => none
  | n + 1, (j, w) => match dstOf ops j with
    | some s => match look sl s with
      | some (.bool b) => some (bif w then b else !b)
      | some (.may j' w' (.bool b)) => bif Nat.blt j i && guardIs ops j j' w' then (match gB sl ops i n (j', w') with
        | some x => some (x && (bif w then b else !b))
        | none => none) else none
      | _ => none
    | none => none

/-- Which operation before i wrote this slot. -/
def whoWrote (ops : List Oper) (s : Nat) : Nat → Option Nat
  | 0 => none
  | i + 1 => match dstOf ops i with
    | some t => bif Nat.beq s t then some i else whoWrote ops s i
    | none => whoWrote ops s i

/-- What is known where c has yielded w. -/
def clW (ops : List Oper) (i : Nat) (cl : List (Nat × Bool)) (c : Operand) (w : Bool) : List (Nat × Bool) :=
  match c with
  | .tmp s => (match whoWrote ops s i with | some j => clos ops i 40 (j, w) ++ cl | none => cl)
  | _ => cl

/-- 'c ? a : b' on Bools. The operand that is chosen where operation j (c's own) has yielded w may hang on just that. -/
def pickD (sl : Slots) (cl : List (Nat × Bool)) (ops : List Oper) (i : Nat) (c a b : Operand) : Option D :=
  match evO sl cl c, evO sl (clW ops i cl c true) a, evO sl (clW ops i cl c false) b with
  | .bool c, .bool a, .bool b => some (.bool (bif c then a else b))
  | _, _, _ => none

/-- What follows an operation that stops the walk (a call): its number, the state behind it. -/
abbrev KontT := Nat → St → Prop

/-- f called with values that read as args: what is asked of what it leaves. -/
abbrev CallT := Nat → List D → Heap → (D → Heap → Prop) → Prop
abbrev PCallT := Bool → CallT

def okMay : D → Bool
  | .own _ | .may _ _ _ | .junk => false
  | _ => true

/-- The operations in their order. `call`, `pcall`: what is asked at a call; at one under a guard, or in a region that draws its order. `q`: quiet: nothing but values. -/
def execOps (P : Program) (cfg : Cfg) (call ycall : CallT) (pcall : PCallT) (ops : List Oper) (q : Nat → Bool) (kc : KontT) : Nat → List Oper → St → (St → Prop) → Prop
  | _, [], st, k => k { st with sl := purge st.sl }
  | i, o :: rest, st, k =>
    let next (st : St) : Prop := execOps P cfg call ycall pcall ops q kc (i + 1) rest st k
    match o.guard with
    | none => match o.op with
      | .pick c a b => match pickD st.sl [] ops i c a b with
        | some d => next { st with sl := putO st.sl o.dst d }
        | none => False
      | op => match opD P cfg st (evO st.sl []) o.dst op with
        | .val d => next { st with sl := putO st.sl o.dst d }
        | .nd p d => p ∧ next { st with sl := putO st.sl o.dst d }
        | .asm p d => p → next { st with sl := putO st.sl o.dst d }
        | .new cs => next { st with sl := putO st.sl o.dst (.own cs) }
        | .eff p st' d => bif q i then False else p ∧ next { st' with sl := putO st'.sl o.dst d }
        | .call f args => bif q i then pcall true f args st.h (fun v _ => kc (i + 1) { st with sl := putO st.sl o.dst v })
          else call f args st.h (fun v h' => kc (i + 1) { sl := putO st.sl o.dst v, h := h' })
        | .ycall l args => bif q i then False else ycall l args st.h (fun v h' => kc (i + 1) { sl := putO st.sl o.dst v, h := h' })
        | .bad => False
    | some (j, w) => match gB st.sl ops i 40 (j, w) with
      | none => False
      | some g => match o.op with
        | .pick c a b => match pickD st.sl (clos ops i 40 (j, w)) ops i c a b with
          | some d => next { st with sl := putO st.sl o.dst (.may j w d) }
          | none => False
        | op => match opD P cfg st (evO st.sl (clos ops i 40 (j, w))) o.dst op with
          | .val d => bif okMay d then next { st with sl := putO st.sl o.dst (.may j w d) } else False
          | .nd p d => bif okMay d then (g = true → p) ∧ next { st with sl := putO st.sl o.dst (.may j w d) } else False
          | .asm p d => bif okMay d then (g = true → p) → next { st with sl := putO st.sl o.dst (.may j w d) } else False
          | .call f args => pcall g f args st.h (fun v _ => kc (i + 1) { st with sl := putO st.sl o.dst (.may j w v) }) ∨
              (bif q i then False else cond g (call f args st.h (fun v h' => kc (i + 1) { sl := putO st.sl o.dst (.may j w v), h := h' })) (∃ d, kc (i + 1) { st with sl := putO st.sl o.dst (.may j w d) }))
          | .eff p st' d => bif q i then False else cond g (p ∧ next { st' with sl := putO st'.sl o.dst d }) (next { st with sl := putO st.sl o.dst .junk })
          | .new _ => False
          | .ycall l args => bif q i then False else cond g (ycall l args st.h (fun v h' => kc (i + 1) { sl := putO st.sl o.dst (.may j w v), h := h' })) (∃ d, kc (i + 1) { st with sl := putO st.sl o.dst (.may j w d) })
          | .bad => False

/-- What an operation of a region that draws its order writes and names: slots, boxes by their slot, the heap as one more slot; the slot whose box its result points into. -/
structure FP where
  w : List Nat
  n : List Nat
  rb : Option Nat

def hitB (a b : List Nat) : Bool := a.any fun x => b.any (Nat.beq x)

def baseOf : D → Option Nat
  | .lp s _ => some s
  | .may _ _ (.lp s _) => some s
  | _ => none

/-- Operation j against k before it: who meets it waits for it. -/
def pairOk (ms : List Nat) (j k : Nat) (dst : Option Nat) (fj fk : FP) : Bool :=
  (bif hitB fk.w fj.n || hitB fk.n fj.w then (ms.getD j 0).testBit k else true) && (match dst, fk.rb with | some d, some s => !Nat.beq d s | _, _ => true)

def fpOk (ms : List Nat) (j : Nat) (dst : Option Nat) (fj : FP) : Nat → List FP → Bool
  | _, [] => true
  | k, f :: r => pairOk ms j k dst fj f && fpOk ms j dst fj (k + 1) r

def tmpsOf (op : Op) : List Nat := op.operands.toList.filterMap fun | .tmp t => some t | _ => none

def namesOf (ops : List Oper) (o : Oper) (ev : Operand → D) (cl : List (Nat × Bool)) : List Nat :=
  tmpsOf o.op ++ (o.op.operands.toList.filterMap fun x => baseOf (ev x)) ++ (cl.filterMap fun p => dstOf ops p.1) ++ o.dst.toList

/-- The slot whose box an operation stores into. -/
def effOwn (ev : Operand → D) (op : Op) : Option Nat :=
  match op with
  | .store _ a _ => baseOf (ev a)
  | _ => none

def isBp : D → Bool
  | .bp _ _ => true
  | .be .. => true
  | _ => false

def isVec : D → Bool
  | .vec .. => true
  | _ => false

def readsH (ev : Operand → D) (op : Op) : Bool :=
  match op with
  | .load _ a => isBp (ev a)
  | .indexAddr _ x _ => isVec (ev x)
  | .convert _ _ x => isVec (ev x)
  | .lookup _ _ _ _ => true
  | _ => false

def fpOf (H : Nat) (ops : List Oper) (o : Oper) (ev : Operand → D) (cl : List (Nat × Bool)) (eff : Bool) (rb : Option Nat) : FP :=
  let own := bif eff then effOwn ev o.op else none
  let h := bif eff then (match own with | some _ => false | none => true) else false
  { w := o.dst.toList ++ own.toList ++ (bif h then [H] else [])
    n := namesOf ops o ev cl ++ rb.toList ++ (bif h || readsH ev o.op then [H] else [])
    rb := rb }

/-- The operations of a region that draws its order, in the order of the text: whatever order is drawn, it comes to this. -/
def exD (P : Program) (cfg : Cfg) (pcall : PCallT) (ecall : CallT) (H : Nat) (ms : List Nat) (ops : List Oper) (kc : Nat → List FP → St → Prop) : Nat → List Oper → List FP → St → (St → Prop) → Prop
  | _, [], _, st, k => k { st with sl := purge st.sl }
  | i, o :: rest, fps, st, k =>
    let go (ev : Operand → D) (cl : List (Nat × Bool)) (eff : Bool) (d : D) (st' : St) : Prop :=
      bif fpOk ms i o.dst (fpOf H ops o ev cl eff (baseOf d)) 0 fps then exD P cfg pcall ecall H ms ops kc (i + 1) rest (fps ++ [fpOf H ops o ev cl eff (baseOf d)]) { st' with sl := putO st'.sl o.dst d } k else False
    let goC (ev : Operand → D) (cl : List (Nat × Bool)) (d : D) : Prop :=
      bif fpOk ms i o.dst (fpOf H ops o ev cl false (baseOf d)) 0 fps then kc (i + 1) (fps ++ [fpOf H ops o ev cl false (baseOf d)]) { st with sl := putO st.sl o.dst d } else False
    let goE (ev : Operand → D) (d : D) (h' : Heap) : Prop :=
      bif fpOk ms i o.dst (fpOf H ops o ev [] true (baseOf d)) 0 fps then kc (i + 1) (fps ++ [fpOf H ops o ev [] true (baseOf d)]) { sl := putO st.sl o.dst d, h := h' } else False
    match o.guard with
    | none => match o.op with
      | .pick c a b => match pickD st.sl [] ops i c a b with
        | some d => go (evO st.sl []) [] false d st
        | none => False
      | op => match opD P cfg st (evO st.sl []) o.dst op with
        | .val d => go (evO st.sl []) [] false d st
        | .nd p d => p ∧ go (evO st.sl []) [] false d st
        | .asm p d => p → go (evO st.sl []) [] false d st
        | .new cs => go (evO st.sl []) [] false (.own cs) st
        | .eff p st' d => p ∧ go (evO st.sl []) [] true d st'
        | .call f args => pcall true f args st.h (fun v _ => goC (evO st.sl []) [] v) ∨ ecall f args st.h (fun v h' => goE (evO st.sl []) v h')
        | .ycall _ _ => False
        | .bad => False
    | some (j, w) => match gB st.sl ops i 40 (j, w) with
      | none => False
      | some g => match o.op with
        | .pick c a b => match pickD st.sl (clos ops i 40 (j, w)) ops i c a b with
          | some d => go (evO st.sl (clos ops i 40 (j, w))) (clos ops i 40 (j, w)) false (.may j w d) st
          | none => False
        | op => match opD P cfg st (evO st.sl (clos ops i 40 (j, w))) o.dst op with
          | .val d => bif okMay d then go (evO st.sl (clos ops i 40 (j, w))) (clos ops i 40 (j, w)) false (.may j w d) st else False
          | .nd p d => bif okMay d then (g = true → p) ∧ go (evO st.sl (clos ops i 40 (j, w))) (clos ops i 40 (j, w)) false (.may j w d) st else False
          | .asm p d => bif okMay d then (g = true → p) → go (evO st.sl (clos ops i 40 (j, w))) (clos ops i 40 (j, w)) false (.may j w d) st else False
          | .call f args => pcall g f args st.h (fun v _ => goC (evO st.sl (clos ops i 40 (j, w))) (clos ops i 40 (j, w)) (.may j w v))
          | .eff .. => False
          | .new _ => False
          | .ycall _ _ => False
          | .bad => False

/-- A place in a function's code. -/
def sub : Code → List Nat → Option Code
  | c, [] => some c
  | .seq a _, 0 :: p => sub a p
  | .seq _ b, 1 :: p => sub b p
  | .cond _ a _, 0 :: p => sub a p
  | .cond _ _ b, 1 :: p => sub b p
  | .block _ c, 0 :: p => sub c p
  | .loop c, 0 :: p => sub c p
  | .rangeFunc _ _ c _, 0 :: p => sub c p
  | .rangeFunc _ _ _ c, 1 :: p => sub c p
  | _, _ => none

inductive Ex
  | normal | ret | exit (id : Nat)

/-- What is still to do: a place of the code; a region's operations from number i on; the end of a block; a stop, where this is asked. -/
inductive It
  | code (p : List Nat)
  | ops (p : List Nat) (i : Nat)
  | blk (id : Nat)
  | stop (J : St → Prop)

def popTo (id : Nat) : List It → Option (List It)
  | [] => none
  | .blk i :: td => bif Nat.beq i id then some td else popTo id td
  | _ :: td => popTo id td

/-- A function's walk: the program, which boxes lie in the heap, its code, how many slots. -/
structure Env where
  P : Program
  cfg : Cfg
  root : Code
  nt : Nat

def opsOf (root : Code) (p : List Nat) : List Oper :=
  match sub root p with
  | some (.region _ ops _) => ops.toList
  | _ => []

def drawsAt (root : Code) (p : List Nat) : Bool :=
  match sub root p with
  | some (.region _ _ d) => d
  | _ => false

end Go.Ab
/- What the executor's states mean: the relation to the model's frames and worlds, the meaning of a call's contract, of a state at a place of the code; the run. Definitions. -/
namespace Go.Ab
/-- The cells of package-level variables that are laid before the call and never turn (each seat has its own). -/
class Lay where
  tab : Addr → Option Value
  row : Nat → Option (Array Value)
  has : ∀ b cs, row b = some cs → 0 < cs.size ∧ ∀ i, i < cs.size → ∃ v, tab ⟨b, i, none⟩ = some v
/-- The ghost memory has the laid cells, the world the laid rows. -/
def LayOk [Lay] (g : G) (w : World) : Prop := (∀ a v, Lay.tab a = some v → g.σ a = some v) ∧ ∀ b cs, Lay.row b = some cs → ∃ T fz, w.heap[b]? = some (.cells cs T fz)

/-- The key that a value is. -/
def keyV (kk : Option IntKind) : Value → Option MKey
  | .int j n => if kk = some j then some [.i n] else none
  | .string s => if kk = none then some [.s s.data.toList] else none
  | _ => none

/-- A map's entries: each key once; what stands at it. -/
def MapAt (g : G) (kk : Option IntKind) (has : MKey → Bool) (v : MV) (es : List MapEntry) : Prop :=
  (∀ e ∈ es, ∃ k, keyV kk e.key = some k ∧ has k = true ∧ R g (v.at k) e.val) ∧ (∀ k, has k = true → ∃ e ∈ es, keyV kk e.key = some k) ∧ (es.map fun e => keyV kk e.key).Nodup ∧ ∀ k, has k = false → v.at k = v.zero

def RowAt (g : G) (w : World) (b : Nat) : Row → Prop
  | .lit cs => ∃ (T : Nat) (vals : Array Value), w.heap[b]? = some (.cells vals T (0, 0)) ∧ Rs g cs vals.toList
  | .arr n get => ∃ (T : Nat) (vals : Array Value), w.heap[b]? = some (.cells vals T (0, 0)) ∧ n ≤ vals.size ∧ ∀ i, i < n → ∃ v, vals[i]? = some v ∧ R g (get i) v
  | .loop r j => ∃ (fn : Nat) (tmps : Array Value) (dfr : Nat), w.heap[b]? = some (.loop { state := if j.isNone then .ready else .done, pending := j, fn := fn, tmps := tmps, params := r.ps, assign := r.asg, body := r.body, defers := dfr }) ∧ tmps.size = r.n ∧
      ∀ t d, look r.sl t = some d → R g d (tmps.getD t undef)
  | .litT T cs => ∃ (vals : Array Value), w.heap[b]? = some (.cells vals T (0, 0)) ∧ Rs g cs vals.toList
  | .map kk has v => ∃ (es : Array MapEntry) (clock : Nat), w.heap[b]? = some (.map es clock) ∧ MapAt g kk has v es.toList

/-- The deferred calls are marks of loops over functions, in whose rounds nothing was deferred. -/
def DefOk (U : Nat → Prop) (ds : List Deferred) (w : World) : Prop :=
  ∃ bs : List Nat, ds = bs.map (fun b => { target := .collected b, args := #[] }) ∧ bs.Nodup ∧ ∀ b ∈ bs, w.heap[b]? = some (.deferred (some [])) ∧ ¬ U b

/-- A block for deferred calls stays as it is. -/
def DefsKept (w w' : World) : Prop := ∀ b : Nat, w.heap[b]? = some (.deferred (some [])) → w'.heap[b]? = some (.deferred (some []))

/-- From which element on an array is nobody else's: behind what is in use; all of it, where its content is the frame's own. -/
def lowOf (k : Tok) : Option (Nat → D) → Nat
  | none => k.n
  | some _ => 0

/-- Part of the array is nobody else's. -/
def Actv (k : Tok) (c : Option (Nat → D)) : Prop := lowOf k c < k.cap

/-- No cell of a row is frozen. -/
def NoFz (fz : Nat × Nat) (n : Nat) : Prop := ∀ j, j < n → ¬ (fz.1 ≤ j ∧ j < fz.2)

/-- A row of cells that may all be written. -/
def RowB (w : World) (b : Nat) (vals : Array Value) (T : Nat) : Prop := ∃ fz : Nat × Nat, w.heap[b]? = some (.cells vals T fz) ∧ NoFz fz vals.size

/-- An array with a part that is nobody else's: its block, from its start on; `c`: its content, if all of it is. -/
def TokAt (g : G) (w : World) (U : Nat → Prop) (k : Tok) (c : Option (Nat → D)) : Prop :=
  ∃ b, k.a = some ⟨b, 0, none⟩ ∧ ¬ U b ∧ ∃ (T : Nat) (vals : Array Value), RowB w b vals T ∧ (k.cap * k.sz ≤ vals.size ∧ T = k.ty) ∧ (∀ j, lowOf k c * k.sz ≤ j → g.σ ⟨b, j, none⟩ = none) ∧
    ∀ get, c = some get → k.n ≤ k.cap ∧ ∀ i, i < k.n → ∃ u, R g (get i) u ∧ (u.cells.size = k.sz ∧ ones (get i) = true) ∧ ∀ j, j < k.sz → vals[i * k.sz + j]? = u.cells[j]?

/-- The heap as the ghost memory and the world have it. `U`: the blocks that may not turn. -/
structure Inv [Lay] (g : G) (U : Nat → Prop) (h : Heap) (w : World) : Prop where
  sub : ∀ a v, g.σ a = some v → w.cell? a = some v ∧ a.spot = none
  ub : ∀ b, U b → b < w.heap.size
  muLt : ∀ l b, g.μ l = some b → b < w.heap.size
  box : ∀ l row, h.box l = some row → ∃ b, g.μ l = some b ∧ RowAt g w b row ∧ ¬ U b ∧ ∀ a v, g.σ a = some v → a.block ≠ b
  boxInj : ∀ l l' b, h.box l ≠ none → h.box l' ≠ none → g.μ l = some b → g.μ l' = some b → l = l'
  tok : ∀ t n, h.hw t = some n → ∃ k, g.τ t = some k ∧ k.n = n ∧ (Actv k (h.vw t) → TokAt g w U k (h.vw t))
  tokBox : ∀ t n k b l, h.hw t = some n → g.τ t = some k → Actv k (h.vw t) → k.a = some ⟨b, 0, none⟩ → h.box l ≠ none → g.μ l ≠ some b
  tokInj : ∀ t t' n n' k k' b, h.hw t = some n → h.hw t' = some n' → g.τ t = some k → g.τ t' = some k' → Actv k (h.vw t) → Actv k' (h.vw t') → k.a = some ⟨b, 0, none⟩ → k'.a = some ⟨b, 0, none⟩ → t = t'
  frL : ∀ l, h.nl ≤ l → g.μ l = none
  frT : ∀ t, h.nt ≤ t → g.τ t = none
  frV : ∀ t, h.nt ≤ t → h.vw t = none
  ltab : LayOk g w

/-- What stays: the streams, the tape, the blocks of U; no block goes. -/
structure Kept (U : Nat → Prop) (w w' : World) : Prop where
  os : w'.os = w.os
  tape : w'.tape = w.tape
  output : w'.output = w.output
  size : w.heap.size ≤ w'.heap.size
  block : ∀ b, U b → w'.heap[b]? = w.heap[b]?
  defs : DefsKept w w'

/-- The ghost memory grows, and no unchanging cell of an old block that may not turn comes up. -/
structure Grow (U : Nat → Prop) (g g' : G) : Prop where
  le : G.le g g'
  new : ∀ a v, g'.σ a = some v → g.σ a = some v ∨ ¬ U a.block

/-- A slot's value, in a region: `y j w`: operation j has yielded w; `β s`: the block of slot s's own box. -/
def RS0 (g : G) (β : Nat → Nat) (d : D) (v : Value) : Prop :=
  match d with
  | .lp s off => v = .pointer (some ⟨β s, off, none⟩)
  | d => R g d v

def RS (g : G) (β : Nat → Nat) (y : Nat → Bool → Prop) (t : Nat) (d : D) (v : Value) : Prop :=
  match d with
  | .own _ => v = .pointer (some ⟨β t, 0, none⟩)
  | .junk => True
  | .may j w d => y j w → RS0 g β d v
  | d => RS0 g β d v

/-- A slot's value that is known to hold. -/
def Live (y : Nat → Bool → Prop) : D → Prop
  | .may j w _ => y j w
  | _ => True

structure Rel [Lay] (n : Nat) (g : G) (β : Nat → Nat) (U : Nat → Prop) (y : Nat → Bool → Prop) (st : St) (a : Act) (w : World) : Prop where
  defers : DefOk U a.defers w
  size : a.tmps.size = n
  keys : (st.sl.map (·.1)).Nodup
  slot : ∀ t d, look st.sl t = some d → RS g β y t d (a.tmps.getD t undef)
  base : ∀ t d s, look st.sl t = some d → Live y d → baseOf d = some s → ∃ cs, look st.sl s = some (.own cs)
  own : ∀ t cs, look st.sl t = some (.own cs) → RowAt g w (β t) (.lit cs) ∧ ¬ U (β t) ∧ (∀ a v, g.σ a = some v → a.block ≠ β t) ∧ (∀ l, st.h.box l ≠ none → g.μ l ≠ some (β t)) ∧
    ∀ t' n k, st.h.hw t' = some n → g.τ t' = some k → Actv k (st.h.vw t') → k.a ≠ some ⟨β t, 0, none⟩
  ownInj : ∀ t t' cs cs', look st.sl t = some (.own cs) → look st.sl t' = some (.own cs') → β t = β t' → t = t'
  inv : Inv g U st.h w

/-- What hangs on an operation hangs on one before number i. -/
def MayLt (i : Nat) (st : St) : Prop := ∀ t j w d, look st.sl t = some (.may j w d) → j < i

def noY : Nat → Bool → Prop := fun _ _ => False

def exitOf : Ex → Exit
  | .normal => .normal
  | .ret => .ret
  | .exit i => .exit i

/-- Every function may be entered, to whatever depth; `ρ`: the loop whose round the code stands in. -/
def fen (ρ : Option Nat) : Fence := { Fence.wide with round := ρ }

/-- The loop whose round this is: its record is there, and may not turn. -/
def ROk (ρ : Option Nat) (U : Nat → Prop) (w : World) : Prop := ∀ l, ρ = some l → U l ∧ ∃ r : Loop, w.heap[l]? = some (.loop r)

/-- From every frame and world that the state describes the code goes to its end, and leaves one that Q describes. -/
def AWp [Lay] (P : Program) (n : Nat) (c : Code) (st : St) (Q : Ex → St → Prop) : Prop :=
  ∀ (ρ : Option Nat) (g : G) (β : Nat → Nat) (U : Nat → Prop) (a : Act) (w : World), ROk ρ U w → Rel n g β U noY st a w →
    c.wpIn (fen ρ) 0 P (fun e a' w' => ∃ ex g' β' st', e = exitOf ex ∧ Rel n g' β' U noY st' a' w' ∧ Grow U g g' ∧ Kept U w w' ∧ Q ex st') a w

def yOf (ops : List Oper) (a : Act) : Nat → Bool → Prop := fun j w => yielded ops.toArray a.tmps j = some w

/-- In a region, its operations before number i done: one under a guard that has yielded something has run: its guard said so. -/
def Chain (ops : List Oper) (i : Nat) (a : Act) : Prop :=
  ∀ j o j1 w1, j < i → ops[j]? = some o → o.guard = some (j1, w1) → yielded ops.toArray a.tmps j ≠ none → yielded ops.toArray a.tmps j1 = some w1

/-- In a region, before operation number i, in their order. -/
def OpsSem [Lay] (P : Program) (n : Nat) (ops : List Oper) (i : Nat) (st : St) (Q : St → Prop) : Prop :=
  ∀ (ρ : Option Nat) (g : G) (β : Nat → Nat) (U : Nat → Prop) (a : Act) (w : World), Rel n g β U (yOf ops a) st a w → MayLt i st → Chain ops i a →
    wpOpsIn (fen ρ) 0 P ops.toArray (fun e a' w' => e = .normal ∧ ∃ g' β' st', Rel n g' β' U noY st' a' w' ∧ Grow U g g' ∧ Kept U w w' ∧ Q st') (List.range' i (ops.length - i)) a w

/-- Each operation's slot is its own: no other of the region writes it. -/
def dstsApart (ops : List Oper) : Bool := (ops.filterMap (·.dst)).Nodup

/-- An operation hangs on one before it. -/
def guardsBack : Nat → List Oper → Bool
  | _, [] => true
  | i, o :: r => (match o.guard with | some (j, _) => Nat.blt j i | none => true) && guardsBack (i + 1) r

/-- An operation waits for such before it. -/
def edgesBack : Nat → List Oper → Bool
  | _, [] => true
  | i, o :: r => (o.after.toList.all fun e => bif Region.binds .any e then Nat.blt e.on i else true) && edgesBack (i + 1) r

/-- The slots that are written are there. -/
def dstsIn (n : Nat) (ops : List Oper) : Bool := ops.all fun o => match o.dst with | some d => Nat.blt d n | none => true

def opsOk (n : Nat) (ops : List Oper) : Bool := dstsApart ops && dstsIn n ops && guardsBack 0 ops

/-- What is still to do, and all goes well. -/
def Cont [Lay] (E : Env) (fin : St → Prop) : List It → Ex → St → Prop
  | [], .normal, st => fin st
  | [], .ret, st => fin st
  | [], .exit _, _ => False
  | .code p :: td, .normal, st => ∃ c, sub E.root p = some c ∧ AWp E.P E.nt c st (Cont E fin td)
  | .code _ :: td, e, st => Cont E fin td e st
  | .ops p i :: td, .normal, st => OpsSem E.P E.nt (opsOf E.root p) i st (Cont E fin td .normal)
  | .ops _ _ :: td, e, st => Cont E fin td e st
  | .blk _ :: td, .normal, st => Cont E fin td .normal st
  | .blk _ :: td, .ret, st => Cont E fin td .ret st
  | .blk id :: td, .exit i, st => if id = i then Cont E fin td .normal st else Cont E fin td (.exit i) st
  | .stop J :: _, .normal, st => J st
  | .stop _ :: td, e, st => Cont E fin td e st

/-- At a place of the code, in this state, all goes well. -/
structure At [Lay] (E : Env) (fin : St → Prop) (td : List It) (st : St) : Prop where
  it : Cont E fin td .normal st

/-- A function that can be called. -/
def Callable (P : Program) (f : Nat) : Prop := ∃ fn : Func, P.funcs[f]? = some fn ∧ fn.body.isNone = false ∧ (fn.name == "runtime.NumGoroutine") = false

/-- d reads alike as d'. -/
def Wk (d d' : D) : Prop := ∀ g v, R g d v → R g d' v
def Wks (ds ds' : List D) : Prop := ∀ g vs, Rs g ds vs → Rs g ds' vs

/-- THE CONTRACT OF A FUNCTION THAT ONLY COMPUTES: called with values that read as args it returns one that reads as v; what was there stays as it was. -/
structure Pure [Lay] (P : Program) (f : Nat) (args : List D) (v : D) : Prop where
  ok : Callable P f
  da : Datas args
  dv : Data v
  calls : ∀ (g : G) (w : World) (vs : List Value), LayOk g w → (∀ a x, g.σ a = some x → w.cell? a = some x ∧ a.spot = none) → Rs g args vs →
    Calls P f vs.toArray w fun e w' => ∃ (x : Value) (σ' : Addr → Option Value), e = .returned x ∧ R ⟨σ', g.μ, g.τ⟩ v x ∧ (∀ a x, g.σ a = some x → σ' a = some x) ∧
      (∀ a x, σ' a = some x → w'.cell? a = some x ∧ a.spot = none) ∧ (∀ a x, σ' a = some x → g.σ a = some x ∨ w.heap.size ≤ a.block) ∧ RowKit.Below w.heap.size w w'

/-- What is asked at a call. -/
structure CallA [Lay] (P : Program) (f : Nat) (args : List D) (h : Heap) (K : D → Heap → Prop) : Prop where
  ok : Callable P f
  calls : ∀ (g : G) (U : Nat → Prop) (w : World) (vs : List Value), Inv g U h w → Rs g args vs →
    Calls P f vs.toArray w fun e w' => ∃ (x : Value) (g' : G) (d : D) (h' : Heap), e = .returned x ∧ R g' d x ∧ Inv g' U h' w' ∧ Grow U g g' ∧ Kept U w w' ∧ K d h'

/-- What is asked at a call of yield: one round of the loop whose record box l is. -/
structure CallY [Lay] (P : Program) (l : Nat) (args : List D) (h : Heap) (K : D → Heap → Prop) : Prop where
  calls : ∀ (g : G) (U : Nat → Prop) (w : World) (vs : List Value) (b : Nat), Inv g U h w → Rs g args vs → g.μ l = some b → ∃ r : Loop, w.heap[b]? = some (.loop r) ∧ vs.toArray.size = r.params.size ∧
    ∀ ρ, RoundIn (fen ρ) 0 P b r.fn ((r.params.zip vs.toArray).foldl (fun tmps (t, a) => tmps.setIfInBounds t a) r.tmps) r.assign r.body w fun e w' =>
      ∃ (x : Value) (g' : G) (d : D) (h' : Heap), e = .returned x ∧ R g' d x ∧ Inv g' U h' w' ∧ Grow U g g' ∧ Kept U w w' ∧ K d h'

/-- What is asked at a call under a guard, or in a region that draws its order. -/
structure PCall [Lay] (P : Program) (c : Bool) (f : Nat) (args : List D) (h : Heap) (K : D → Heap → Prop) : Prop where
  it : ∃ args' v, isD v = true ∧ (c = true → Wks args args' ∧ Pure P f args' v) ∧ K v h

/-- f called in this heap answers v and leaves h'. -/
def Does [Lay] (P : Program) (f : Nat) (args : List D) (h : Heap) (v : D) (h' : Heap) : Prop := ∀ K : D → Heap → Prop, K v h' → CallA P f args h K

/-- What is asked at a call that turns the heap, in a region that draws its order. -/
structure ECall [Lay] (P : Program) (f : Nat) (args : List D) (h : Heap) (K : D → Heap → Prop) : Prop where
  it : ∃ v h', isD v = true ∧ Does P f args h v h' ∧ K v h'

/-- For each operation a mask of those that it waits for, directly or through others. -/
def masks : List Oper → List Nat → List Nat
  | [], acc => acc
  | o :: r, acc => masks r (acc ++ [o.after.toList.foldl (fun m e => bif Region.binds .any e && Nat.blt e.on acc.length then m ||| 2 ^ e.on ||| acc.getD e.on 0 else m) 0])

/-- In a region that draws its order: from operation i on, at most m calls. -/
def exQ [Lay] (E : Env) (ops : List Oper) (k : St → Prop) : Nat → Nat → List FP → St → Prop
  | 0, _, _, _ => False
  | m + 1, i, fps, st => exD E.P E.cfg (PCall E.P) (ECall E.P) E.nt (masks ops []) ops (exQ E ops k m) i (ops.drop i) fps st k

/-- In the region at p, which draws its order, before operation i in the order of the text, all goes well. -/
structure AtQ [Lay] (E : Env) (fin : St → Prop) (p : List Nat) (td : List It) (i : Nat) (fps : List FP) (st : St) : Prop where
  it : ∃ m, exQ E (opsOf E.root p) (At E fin td) m i fps st

def run [Lay] (E : Env) (fin : St → Prop) : Nat → List It → St → Prop
  | 0, td, st => At E fin td st
  | _ + 1, [], st => fin st
  | n + 1, .blk _ :: td, st => run E fin n td st
  | _ + 1, .stop J :: _, st => J st
  | n + 1, .ops p i :: td, st => bif opsOk E.nt (opsOf E.root p) then execOps E.P E.cfg (CallA E.P) (CallY E.P) (PCall E.P) (opsOf E.root p) (fun _ => false) (fun i st => At E fin (.ops p i :: td) st) i ((opsOf E.root p).drop i) st (run E fin n td) else False
  | n + 1, .code p :: td, st => match sub E.root p with
    | some .skip => run E fin n td st
    | some (.seq _ _) => run E fin n (.code (p ++ [0]) :: .code (p ++ [1]) :: td) st
    | some (.cond c _ _) => match evO st.sl [] c with
      | .bool b => cond b (run E fin n (.code (p ++ [0]) :: td) st) (run E fin n (.code (p ++ [1]) :: td) st)
      | _ => False
    | some (.block id _) => run E fin n (.code (p ++ [0]) :: .blk id :: td) st
    | some (.exit id) => match popTo id td with
      | some td' => run E fin n td' st
      | none => False
    | some .ret => fin st
    | some (.region _ ops false) => bif opsOk E.nt ops.toList then execOps E.P E.cfg (CallA E.P) (CallY E.P) (PCall E.P) ops.toList (fun _ => false) (fun i st => At E fin (.ops p i :: td) st) 0 ops.toList { st with sl := purge st.sl } (run E fin n td) else False
    | some (.region _ ops true) => bif opsOk E.nt ops.toList && edgesBack 0 ops.toList then exD E.P E.cfg (PCall E.P) (ECall E.P) E.nt (masks ops.toList []) ops.toList (AtQ E fin p td) 0 ops.toList [] { st with sl := purge st.sl } (run E fin n td) else False
    | some (.loop _) => At E fin (.code p :: td) st
    | _ => At E fin (.code p :: td) st

/-- A region that draws its order, from operation i on. -/
def runQ [Lay] (E : Env) (fin : St → Prop) (n : Nat) (p : List Nat) (td : List It) (i : Nat) (fps : List FP) (st : St) : Prop :=
  exD E.P E.cfg (PCall E.P) (ECall E.P) E.nt (masks (opsOf E.root p) []) (opsOf E.root p) (AtQ E fin p td) i ((opsOf E.root p).drop i) fps st (run E fin n td)

end Go.Ab
/- The executor is sound, 1: how the relation is carried over a step. -/
namespace Go.Ab

/-- New memory alone has come, and unchanging cells in it. -/
structure Ext (g : G) (w : World) (g' : G) (w' : World) : Prop where
  le : G.le g g'
  μ : g'.μ = g.μ
  τ : g'.τ = g.τ
  new : ∀ a v, g'.σ a = some v → g.σ a = some v ∨ w.heap.size ≤ a.block
  sub : ∀ a v, g'.σ a = some v → w'.cell? a = some v ∧ a.spot = none
  below : RowKit.Below w.heap.size w w'

theorem Grow.refl (U : Nat → Prop) (g : G) : Grow U g g := ⟨G.le.refl g, fun _ _ h => .inl h⟩

theorem Grow.trans {U : Nat → Prop} {a b c : G} (h : Grow U a b) (k : Grow U b c) : Grow U a c :=
  ⟨h.le.trans k.le, fun x v e => by rcases k.new x v e with h1 | h1; exact h.new x v h1; exact .inr h1⟩

theorem Ext.grow {g g' : G} {w w' : World} (x : Ext g w g' w') {U : Nat → Prop} (u : ∀ b, U b → b < w.heap.size) : Grow U g g' :=
  ⟨x.le, fun a v e => by rcases x.new a v e with h | h; exact .inl h; exact .inr fun hu => by have := u _ hu; omega⟩

theorem Grow.sameσ {U : Nat → Prop} {g g' : G} (l : G.le g g') (h : g'.σ = g.σ) : Grow U g g' := ⟨l, fun a v e => .inl (by rw [h] at e; exact e)⟩

theorem lt_of_heap {w : World} {b : Nat} {o : Obj} (h : w.heap[b]? = some o) : b < w.heap.size := by
  rcases Nat.lt_or_ge b w.heap.size with h1 | h1
  · exact h1
  · rw [Array.getElem?_eq_none h1] at h; cases h

theorem Inv.cellLt [Lay] {g : G} {U : Nat → Prop} {h : Heap} {w : World} (i : Inv g U h w) {a : Addr} {v : Value} (e : g.σ a = some v) : a.block < w.heap.size :=
  World.block_lt_of_cell? w a (i.sub a v e).1

theorem RowAt.lt {g : G} {w : World} {b : Nat} {row : Row} (h : RowAt g w b row) : b < w.heap.size := by
  cases row with
  | lit cs => obtain ⟨T, vals, e, _⟩ := h; exact lt_of_heap e
  | arr n get => obtain ⟨T, vals, e, _⟩ := h; exact lt_of_heap e
  | loop r j => obtain ⟨_, _, _, e, _⟩ := h; exact lt_of_heap e
  | litT T cs => obtain ⟨_, e, _⟩ := h; exact lt_of_heap e
  | map kk has v => obtain ⟨_, _, e, _⟩ := h; exact lt_of_heap e

theorem MapAt.mono {g g' : G} (l : G.le g g') {kk : Option IntKind} {has : MKey → Bool} {v : MV} {es : List MapEntry} (h : MapAt g kk has v es) : MapAt g' kk has v es :=
  ⟨fun e he => by obtain ⟨k, h1, h2, h3⟩ := h.1 e he; exact ⟨k, h1, h2, R.mono l _ _ h3⟩, h.2.1, h.2.2.1, h.2.2.2⟩

theorem RowAt.mono {g g' : G} {w w' : World} {b : Nat} {row : Row} (h : RowAt g w b row) (l : G.le g g') (e : w'.heap[b]? = w.heap[b]?) : RowAt g' w' b row := by
  cases row with
  | lit cs => obtain ⟨T, vals, hb, hr⟩ := h; exact ⟨T, vals, e.trans hb, Rs.mono l _ _ hr⟩
  | arr n get => obtain ⟨T, vals, hb, hr⟩ := h; exact ⟨T, vals, e.trans hb, hr.1, fun i hi => by obtain ⟨v, hv, h1⟩ := hr.2 i hi; exact ⟨v, hv, R.mono l _ _ h1⟩⟩
  | loop r j => obtain ⟨f, tm, df, hb, hs, hr⟩ := h; exact ⟨f, tm, df, e.trans hb, hs, fun t d ht => R.mono l _ _ (hr t d ht)⟩
  | litT T cs => obtain ⟨vals, hb, hr⟩ := h; exact ⟨vals, e.trans hb, Rs.mono l _ _ hr⟩
  | map kk has v => obtain ⟨es, c, hb, hr⟩ := h; exact ⟨es, c, e.trans hb, hr.mono l⟩

theorem DefOk.kept {U : Nat → Prop} {ds : List Deferred} {w w' : World} (h : DefOk U ds w) (k : DefsKept w w') : DefOk U ds w' := by
  obtain ⟨bs, e, hn, hb⟩ := h
  exact ⟨bs, e, hn, fun b hm => ⟨k b (hb b hm).1, (hb b hm).2⟩⟩

theorem DefOk.nil (U : Nat → Prop) (w : World) : DefOk U [] w := ⟨[], rfl, List.nodup_nil, fun _ h => by cases h⟩

theorem Below.defs {w w' : World} (h : RowKit.Below w.heap.size w w') : DefsKept w w' := fun b e => (h.block b (lt_of_heap e)).trans e

theorem RowB.of {w : World} {b : Nat} {vals : Array Value} {T : Nat} (h : w.heap[b]? = some (.cells vals T (0, 0))) : RowB w b vals T := ⟨_, h, fun j _ e => by have := e.2; simp at this⟩
theorem RowB.lt {w : World} {b : Nat} {vals : Array Value} {T : Nat} (h : RowB w b vals T) : b < w.heap.size := by
  obtain ⟨_, h, _⟩ := h; exact lt_of_heap h
theorem RowB.congr {w w' : World} {b : Nat} {vals : Array Value} {T : Nat} (h : RowB w b vals T) (e : w'.heap[b]? = w.heap[b]?) : RowB w' b vals T := by
  obtain ⟨fz, h, k⟩ := h; exact ⟨fz, e.trans h, k⟩
theorem RowB.uniq {w : World} {b : Nat} {vals vals' : Array Value} {T T' : Nat} (h : RowB w b vals T) (h' : RowB w b vals' T') : vals = vals' ∧ T = T' := by
  obtain ⟨_, h, _⟩ := h; obtain ⟨_, h', _⟩ := h'
  rw [h] at h'; cases h'; exact ⟨rfl, rfl⟩
theorem RowB.cell {w : World} {b : Nat} {vals : Array Value} {T : Nat} (h : RowB w b vals T) (j : Nat) : w.cell? ⟨b, j, none⟩ = vals[j]? := by
  obtain ⟨_, h, _⟩ := h
  simp [World.cell?, h]

theorem TokAt.blockLt {g : G} {w : World} {U : Nat → Prop} {k : Tok} {c : Option (Nat → D)} (h : TokAt g w U k c) : ∃ b, k.a = some ⟨b, 0, none⟩ ∧ b < w.heap.size ∧ ¬ U b := by
  obtain ⟨b, e, hu, T, vals, hb, _⟩ := h; exact ⟨b, e, hb.lt, hu⟩

theorem TokAt.mono {g g' : G} {w w' : World} {U : Nat → Prop} {k : Tok} {c : Option (Nat → D)} (h : TokAt g w U k c) (l : G.le g g')
    (hb : ∀ b, k.a = some ⟨b, 0, none⟩ → b < w.heap.size → w'.heap[b]? = w.heap[b]? ∧ ∀ j, g.σ ⟨b, j, none⟩ = none → g'.σ ⟨b, j, none⟩ = none) : TokAt g' w' U k c := by
  obtain ⟨b, e4, hu, T, vals, hb1, hc, hs, hv⟩ := h
  obtain ⟨h1, h2⟩ := hb b e4 hb1.lt
  exact ⟨b, e4, hu, T, vals, hb1.congr h1, hc, fun j hj => h2 j (hs j hj), fun get hg => ⟨(hv get hg).1, fun i hi => by obtain ⟨u, h3, h4⟩ := (hv get hg).2 i hi; exact ⟨u, R.mono l _ _ h3, h4⟩⟩⟩

theorem LayOk.mono [Lay] {g g' : G} {w : World} (h : LayOk g w) (l : G.le g g') : LayOk g' w := ⟨fun a v e => l.σ a v (h.1 a v e), h.2⟩
theorem LayOk.turn [Lay] {g g' : G} {w w' : World} (h : LayOk g w) (l : G.le g g') (ht : ∀ a v, g.σ a = some v → w'.heap[a.block]? = w.heap[a.block]?) : LayOk g' w' := ⟨fun a v e => l.σ a v (h.1 a v e), fun b cs e => by
  obtain ⟨e1, e2⟩ := Lay.has b cs e
  obtain ⟨v, e3⟩ := e2 0 e1
  rw [ht _ v (h.1 _ v e3)]; exact h.2 _ cs e⟩
theorem LayOk.below [Lay] {g g' : G} {w w' : World} (h : LayOk g w) (l : G.le g g') (hb : RowKit.Below w.heap.size w w') : LayOk g' w' := ⟨fun a v e => l.σ a v (h.1 a v e), fun b cs e => by
  obtain ⟨T, fz, h1⟩ := h.2 b cs e
  rw [hb.block b (by
    rcases Nat.lt_or_ge b w.heap.size with h2 | h2
    · exact h2
    · rw [Array.getElem?_eq_none h2] at h1; cases h1)]
  exact ⟨T, fz, h1⟩⟩

theorem Inv.ext [Lay] {g g' : G} {U : Nat → Prop} {h : Heap} {w w' : World} (i : Inv g U h w) (x : Ext g w g' w') : Inv g' U h w' where
  sub := x.sub
  ub b hb := Nat.lt_of_lt_of_le (i.ub b hb) x.below.size
  muLt l b e := by rw [x.μ] at e; exact Nat.lt_of_lt_of_le (i.muLt l b e) x.below.size
  box l row e := by
    obtain ⟨b, e1, e2, e3, e4⟩ := i.box l row e
    refine ⟨b, by rw [x.μ]; exact e1, e2.mono x.le (x.below.block b e2.lt), e3, fun a v hv => ?_⟩
    rcases x.new a v hv with h1 | h1
    · exact e4 a v h1
    · have := e2.lt; omega
  boxInj l l' b e e' e1 e2 := by rw [x.μ] at e1 e2; exact i.boxInj l l' b e e' e1 e2
  tok t n e := by
    obtain ⟨k, e1, e2, e3⟩ := i.tok t n e
    refine ⟨k, by rw [x.τ]; exact e1, e2, fun hk => ?_⟩
    obtain ⟨b, e4, hu, T, vals, hb, hc, hs, hv⟩ := e3 hk
    have hl := hb.lt
    refine ⟨b, e4, hu, T, vals, hb.congr (x.below.block b hl), hc, fun j hj => ?_, fun get hg => ⟨(hv get hg).1, fun i hi => by obtain ⟨u, h1, h2⟩ := (hv get hg).2 i hi; exact ⟨u, R.mono x.le _ _ h1, h2⟩⟩⟩
    cases hx : g'.σ ⟨b, j, none⟩ with
    | none => rfl
    | some v =>
      rcases x.new _ v hx with h1 | h1
      · rw [hs j hj] at h1; cases h1
      · simp at h1; omega
  tokBox t n k b l e e1 e2 e3 e4 := by rw [x.τ] at e1; rw [x.μ]; exact i.tokBox t n k b l e e1 e2 e3 e4
  tokInj t t' n n' k k' b e e' e1 e1' := by rw [x.τ] at e1 e1'; exact i.tokInj t t' n n' k k' b e e' e1 e1'
  frL l hl := by rw [x.μ]; exact i.frL l hl
  frT t ht := by rw [x.τ]; exact i.frT t ht
  frV := i.frV
  ltab := i.ltab.below x.le x.below

theorem Inv.lessU [Lay] {g : G} {U U' : Nat → Prop} {h : Heap} {w : World} (i : Inv g U h w) (hu : ∀ b, U' b → U b) : Inv g U' h w :=
  ⟨i.sub, fun b hb => i.ub b (hu b hb), i.muLt, fun l row e => by
    obtain ⟨b, e1, e2, e3, e4⟩ := i.box l row e
    exact ⟨b, e1, e2, fun h => e3 (hu b h), e4⟩, i.boxInj, fun t n e => by
    obtain ⟨k, e1, e2, e3⟩ := i.tok t n e
    refine ⟨k, e1, e2, fun ha => ?_⟩
    obtain ⟨b, f1, f2, f3⟩ := e3 ha
    exact ⟨b, f1, fun h => f2 (hu b h), f3⟩, i.tokBox, i.tokInj, i.frL, i.frT, i.frV, i.ltab⟩

theorem Grow.lessU {g g' : G} {U U' : Nat → Prop} (h : Grow U g g') (hu : ∀ b, U' b → U b) : Grow U' g g' :=
  ⟨h.le, fun a v e => (h.new a v e).imp id fun hn hb => hn (hu _ hb)⟩

/-- And the blocks for deferred calls. -/
def defsU (U : Nat → Prop) (w : World) : Nat → Prop := fun b => U b ∨ w.heap[b]? = some (.deferred (some []))

/-- A row is no block for deferred calls. -/
theorem RowAt.noDef {g : G} {w : World} {b : Nat} {row : Row} (h : RowAt g w b row) : w.heap[b]? ≠ some (.deferred (some [])) := fun e => by
  cases row with
  | lit cs => obtain ⟨_, _, e3, _⟩ := h; rw [e] at e3; cases e3
  | arr n get => obtain ⟨_, _, e3, _⟩ := h; rw [e] at e3; cases e3
  | loop q j => obtain ⟨_, _, _, e3, _⟩ := h; rw [e] at e3; cases e3
  | litT T cs => obtain ⟨_, e3, _⟩ := h; rw [e] at e3; cases e3
  | map kk has v => obtain ⟨_, _, e3, _⟩ := h; rw [e] at e3; cases e3

theorem Inv.defsU [Lay] {g : G} {U : Nat → Prop} {h : Heap} {w : World} (i : Inv g U h w) : Inv g (Ab.defsU U w) h w :=
  ⟨i.sub, fun b hb => Or.elim hb (i.ub b) lt_of_heap, i.muLt, fun l row e => by
    obtain ⟨b, e1, e2, e3, e4⟩ := i.box l row e
    exact ⟨b, e1, e2, fun h => Or.elim h e3 e2.noDef, e4⟩, i.boxInj, fun t n e => by
    obtain ⟨k, e1, e2, e3⟩ := i.tok t n e
    refine ⟨k, e1, e2, fun ha => ?_⟩
    obtain ⟨b, f1, f2, T, vals, f3, f4⟩ := e3 ha
    exact ⟨b, f1, fun h => Or.elim h f2 fun h => (by obtain ⟨_, f3, _⟩ := f3; rw [f3] at h; cases h), T, vals, f3, f4⟩, i.tokBox, i.tokInj, i.frL, i.frT, i.frV, i.ltab⟩

theorem RS0.mono {g g' : G} (l : G.le g g') {β : Nat → Nat} {d : D} {v : Value} (h : RS0 g β d v) : RS0 g' β d v := by
  unfold RS0 at *
  split at h <;> first | exact h | exact R.mono l _ _ h

theorem RS.mono {g g' : G} (l : G.le g g') {β : Nat → Nat} {y : Nat → Bool → Prop} {t : Nat} {d : D} {v : Value} (h : RS g β y t d v) : RS g' β y t d v := by
  unfold RS at *
  split at h <;> first | exact h | exact RS0.mono l h | exact fun hy => RS0.mono l (h hy) | trivial

theorem Rel.ext [Lay] {n : Nat} {g g' : G} {β : Nat → Nat} {U : Nat → Prop} {y : Nat → Bool → Prop} {st : St} {a : Act} {w w' : World} (r : Rel n g β U y st a w) (x : Ext g w g' w') : Rel n g' β U y st a w' where
  defers := r.defers.kept (Below.defs x.below)
  size := r.size
  keys := r.keys
  slot t d e := (r.slot t d e).mono x.le
  base := r.base
  own t cs e := by
    obtain ⟨h1, h2, h3, h4, h5⟩ := r.own t cs e
    refine ⟨h1.mono x.le (x.below.block _ h1.lt), h2, fun a v hv => ?_, by rw [x.μ]; exact h4, by rw [x.τ]; exact h5⟩
    rcases x.new a v hv with h | h
    · exact h3 a v h
    · have := h1.lt; omega
  ownInj := r.ownInj
  inv := r.inv.ext x

theorem Ext.refl [Lay] {g : G} {U : Nat → Prop} {h : Heap} {w : World} (i : Inv g U h w) : Ext g w g w :=
  ⟨G.le.refl g, rfl, rfl, fun _ _ e => .inl e, i.sub, RowKit.Below.refl _ _⟩

theorem Ext.kept {g g' : G} {w w' : World} (x : Ext g w g' w') {U : Nat → Prop} (u : ∀ b, U b → b < w.heap.size) : Kept U w w' :=
  ⟨x.below.os, x.below.tape, x.below.output, x.below.size, fun b hb => x.below.block b (u b hb), Below.defs x.below⟩

theorem Kept.refl (U : Nat → Prop) (w : World) : Kept U w w := ⟨rfl, rfl, rfl, Nat.le_refl _, fun _ _ => rfl, fun _ h => h⟩

theorem Kept.trans {U : Nat → Prop} {a b c : World} (h : Kept U a b) (k : Kept U b c) : Kept U a c :=
  ⟨k.os.trans h.os, k.tape.trans h.tape, k.output.trans h.output, Nat.le_trans h.size k.size, fun x hx => (k.block x hx).trans (h.block x hx), fun b e => k.defs b (h.defs b e)⟩

/-! ### Slots -/

theorem beq_eq {a b : Nat} : Nat.beq a b = true ↔ a = b := ⟨Nat.eq_of_beq_eq_true, fun h => by subst h; exact Nat.beq_refl _⟩

theorem beq_ff {a b : Nat} : Nat.beq a b = false ↔ a ≠ b := by
  cases hb : Nat.beq a b with
  | true => simp [beq_eq.1 hb]
  | false => simp only [true_iff]; intro h; rw [beq_eq.2 h] at hb; cases hb

theorem look_mem : ∀ {sl : Slots} {t : Nat} {d : D}, look sl t = some d → (t, d) ∈ sl
  | [], _, _, h => by simp [look] at h
  | (s, e) :: r, t, d, h => by
    simp only [look] at h
    cases hb : Nat.beq s t with
    | true =>
      simp only [hb, cond_true, Option.some.injEq] at h
      have := beq_eq.1 hb; subst this; subst h; exact List.mem_cons_self ..
    | false =>
      simp only [hb, cond_false] at h
      exact List.mem_cons_of_mem _ (look_mem h)

theorem look_of_mem : ∀ {sl : Slots} {t : Nat} {d : D}, (sl.map (·.1)).Nodup → (t, d) ∈ sl → look sl t = some d
  | [], _, _, _, h => by cases h
  | (s, e) :: r, t, d, hn, h => by
    simp only [List.map_cons, List.nodup_cons] at hn
    simp only [look]
    rcases List.mem_cons.1 h with h1 | h1
    · cases h1; simp
    · have : s ≠ t := fun e => hn.1 (e ▸ List.mem_map_of_mem (f := (·.1)) h1)
      have hb : Nat.beq s t = false := beq_ff.2 this
      simp only [hb, cond_false]
      exact look_of_mem hn.2 h1

theorem mem_del : ∀ {sl : Slots} {t s : Nat} {d : D}, (s, d) ∈ del sl t → s ≠ t ∧ isLp d t = false ∧ (s, d) ∈ sl
  | [], _, _, _, h => by cases h
  | (s0, d0) :: r, t, s, d, h => by
    simp only [del] at h
    cases hb : (Nat.beq s0 t || isLp d0 t) with
    | true =>
      simp only [hb, cond_true] at h
      obtain ⟨h1, h2, h3⟩ := mem_del h
      exact ⟨h1, h2, List.mem_cons_of_mem _ h3⟩
    | false =>
      simp only [hb, cond_false] at h
      rcases List.mem_cons.1 h with h1 | h1
      · cases h1
        simp only [Bool.or_eq_false_iff] at hb
        exact ⟨beq_ff.1 hb.1, hb.2, List.mem_cons_self ..⟩
      · obtain ⟨h1, h2, h3⟩ := mem_del h1
        exact ⟨h1, h2, List.mem_cons_of_mem _ h3⟩

theorem mem_del_of : ∀ {sl : Slots} {t s : Nat} {d : D}, (s, d) ∈ sl → s ≠ t → isLp d t = false → (s, d) ∈ del sl t
  | [], _, _, _, h, _, _ => by cases h
  | (s0, d0) :: r, t, s, d, h, h1, h2 => by
    simp only [del]
    cases hb : (Nat.beq s0 t || isLp d0 t) with
    | true =>
      simp only [cond_true]
      rcases List.mem_cons.1 h with h3 | h3
      · cases h3
        have h4 := beq_ff.2 h1
        rw [h4, h2] at hb; cases hb
      · exact mem_del_of h3 h1 h2
    | false =>
      simp only [cond_false]
      rcases List.mem_cons.1 h with h3 | h3
      · cases h3; exact List.mem_cons_self ..
      · exact List.mem_cons_of_mem _ (mem_del_of h3 h1 h2)

theorem del_sublist : ∀ (sl : Slots) (t : Nat), (del sl t).Sublist sl
  | [], _ => List.Sublist.refl _
  | (s, d) :: r, t => by
    simp only [del]
    cases (Nat.beq s t || isLp d t) with
    | true => exact (del_sublist r t).cons _
    | false => exact (del_sublist r t).cons_cons _

theorem nodup_del {sl : Slots} (h : (sl.map (·.1)).Nodup) (t : Nat) : ((del sl t).map (·.1)).Nodup := h.sublist ((del_sublist sl t).map _)

theorem nodup_put {sl : Slots} (h : (sl.map (·.1)).Nodup) (t : Nat) (d : D) : ((put sl t d).map (·.1)).Nodup := by
  simp only [put, List.map_cons, List.nodup_cons]
  refine ⟨fun hm => ?_, nodup_del h t⟩
  obtain ⟨⟨s, e⟩, h1, h2⟩ := List.mem_map.1 hm
  exact (mem_del h1).1 h2

/-- What is found behind a put. -/
theorem look_put {sl : Slots} (hn : (sl.map (·.1)).Nodup) {t s : Nat} {d e : D} (h : look (put sl t d) s = some e) :
    (s = t ∧ e = d) ∨ (s ≠ t ∧ isLp e t = false ∧ look sl s = some e) := by
  have h1 := look_mem h
  rcases List.mem_cons.1 h1 with h2 | h2
  · cases h2; exact .inl ⟨rfl, rfl⟩
  · obtain ⟨h3, h4, h5⟩ := mem_del h2
    exact .inr ⟨h3, h4, look_of_mem hn h5⟩

theorem look_put_same (sl : Slots) (t : Nat) (d : D) : look (put sl t d) t = some d := by simp [put, look]

theorem look_put_other {sl : Slots} (hn : (sl.map (·.1)).Nodup) {t s : Nat} {d e : D} (h : look sl s = some e) (hne : s ≠ t) (hl : isLp e t = false) : look (put sl t d) s = some e :=
  look_of_mem (nodup_put hn t d) (List.mem_cons_of_mem _ (mem_del_of (look_mem h) hne hl))

theorem purge_sublist : ∀ (sl : Slots), (purge sl).Sublist sl
  | [] => List.Sublist.refl _
  | (s, d) :: r => by
    simp only [purge]
    cases isMayLp d with
    | true => exact (purge_sublist r).cons _
    | false => exact (purge_sublist r).cons_cons _

theorem look_purge {sl : Slots} (hn : (sl.map (·.1)).Nodup) {t : Nat} {d : D} (h : look (purge sl) t = some d) : look sl t = some d ∧ isMayLp d = false := by
  refine ⟨look_of_mem hn ((purge_sublist sl).subset (look_mem h)), ?_⟩
  have h1 := look_mem h
  clear h hn
  induction sl with
  | nil => cases h1
  | cons x r ih =>
    obtain ⟨s, e⟩ := x
    simp only [purge] at h1
    cases hb : isMayLp e with
    | true => simp only [hb, cond_true] at h1; exact ih h1
    | false =>
      simp only [hb, cond_false] at h1
      rcases List.mem_cons.1 h1 with h2 | h2
      · cases h2; exact hb
      · exact ih h2

theorem look_purge_of {sl : Slots} (hn : (sl.map (·.1)).Nodup) {t : Nat} {d : D} (h : look sl t = some d) (hm : isMayLp d = false) : look (purge sl) t = some d := by
  refine look_of_mem (hn.sublist ((purge_sublist sl).map _)) ?_
  have h1 := look_mem h
  clear h hn
  induction sl with
  | nil => cases h1
  | cons x r ih =>
    obtain ⟨s, e⟩ := x
    simp only [purge]
    rcases List.mem_cons.1 h1 with h2 | h2
    · cases h2; simp only [hm, cond_false]; exact List.mem_cons_self ..
    · cases hb : isMayLp e with
      | true => simp only [cond_true]; exact ih h2
      | false => simp only [cond_false]; exact List.mem_cons_of_mem _ (ih h2)

/-! ### The frame -/

theorem getD_put_same {a : Act} {d : Nat} {v : Value} (h : d < a.tmps.size) : (a.put (some d) v).tmps.getD d undef = v := by
  simp [Act.put, Array.getElem_setIfInBounds, h]

theorem getD_put_other {a : Act} {d t : Nat} {v : Value} (h : t ≠ d) : (a.put (some d) v).tmps.getD t undef = a.tmps.getD t undef := by
  simp only [Act.put, Array.getD_eq_getD_getElem?]
  rw [Array.getElem?_setIfInBounds_ne (Ne.symm h)]

theorem size_put (a : Act) (d : Option Nat) (v : Value) : (a.put d v).tmps.size = a.tmps.size := by cases d <;> simp [Act.put]

theorem defers_put (a : Act) (d : Option Nat) (v : Value) : (a.put d v).defers = a.defers := by cases d <;> rfl

theorem isLp_base {d : D} {t : Nat} (hb : baseOf d = some t) : isLp d t = true := by
  unfold baseOf at hb
  split at hb <;> first | (cases hb; simp [isLp, beq_eq]) | cases hb

/-- A slot gets a value. -/
theorem Live.back {y y' : Nat → Bool → Prop} {d : D} (h : Live y' d) (hy : ∀ j w e, d = .may j w e → y' j w → y j w) : Live y d := by
  cases d <;> first | trivial | exact hy _ _ _ rfl h

theorem Rel.put [Lay] {n : Nat} {g : G} {β : Nat → Nat} {U : Nat → Prop} {y y' : Nat → Bool → Prop} {st : St} {a : Act} {w : World} (r : Rel n g β U y st a w) {t : Nat} {d : D} {v : Value}
    (ht : t < n) (hd : RS g β y' t d v) (hno : ∀ cs, d ≠ .own cs) (hb : Live y' d → ∀ s, baseOf d = some s → s ≠ t ∧ ∃ cs, look st.sl s = some (.own cs))
    (hy : ∀ s j w e, s ≠ t → look st.sl s = some (.may j w e) → y' j w → y j w) : Rel n g β U y' { st with sl := put st.sl t d } (a.put (some t) v) w where
  defers := by rw [defers_put]; exact r.defers
  size := by rw [size_put]; exact r.size
  keys := nodup_put r.keys t d
  slot s e h := by
    rcases look_put r.keys h with ⟨rfl, rfl⟩ | ⟨h1, h2, h3⟩
    · rw [getD_put_same (by rw [r.size]; exact ht)]; exact hd
    · rw [getD_put_other h1]
      have h4 := r.slot s e h3
      cases e <;> first | exact h4 | exact fun hh => h4 (hy _ _ _ _ h1 h3 hh)
  base s e u h hl hu := by
    rcases look_put r.keys h with ⟨rfl, rfl⟩ | ⟨h1, h2, h3⟩
    · obtain ⟨h5, cs, h6⟩ := hb hl u hu
      exact ⟨cs, look_put_other r.keys h6 h5 rfl⟩
    · obtain ⟨cs, h6⟩ := r.base s e u h3 (hl.back (fun j w e' he => hy s j w e' h1 (he ▸ h3))) hu
      refine ⟨cs, look_put_other r.keys h6 ?_ rfl⟩
      intro hut
      subst hut
      rw [isLp_base hu] at h2; cases h2
  own s cs h := by
    rcases look_put r.keys h with ⟨rfl, h1⟩ | ⟨h1, h2, h3⟩
    · exact absurd h1.symm (hno cs)
    · exact r.own s cs h3
  ownInj s s' cs cs' h h' e := by
    rcases look_put r.keys h with ⟨rfl, h1⟩ | ⟨h1, h2, h3⟩
    · exact absurd h1.symm (hno cs)
    · rcases look_put r.keys h' with ⟨rfl, h1'⟩ | ⟨h1', h2', h3'⟩
      · exact absurd h1'.symm (hno cs')
      · exact r.ownInj s s' cs cs' h3 h3' e
  inv := r.inv

theorem Rel.purged [Lay] {n : Nat} {g : G} {β : Nat → Nat} {U : Nat → Prop} {y : Nat → Bool → Prop} {st : St} {a : Act} {w : World} (r : Rel n g β U y st a w) (y' : Nat → Bool → Prop) :
    Rel n g β U y' { st with sl := purge st.sl } a w where
  defers := r.defers
  size := r.size
  keys := r.keys.sublist ((purge_sublist _).map _)
  slot s e h := by
    obtain ⟨h1, h2⟩ := look_purge r.keys h
    have h3 := r.slot s e h1
    cases e <;> first | exact h3 | cases h2
  base s e u h _ hu := by
    obtain ⟨h1, h2⟩ := look_purge r.keys h
    obtain ⟨cs, h3⟩ := r.base s e u h1 (by cases e <;> first | trivial | cases h2) hu
    exact ⟨cs, look_purge_of r.keys h3 rfl⟩
  own s cs h := r.own s cs (look_purge r.keys h).1
  ownInj s s' cs cs' h h' e := r.ownInj s s' cs cs' (look_purge r.keys h).1 (look_purge r.keys h').1 e
  inv := r.inv

theorem heap_alloc_new (w : World) (o : Obj) : (w.alloc o).heap[w.heap.size]? = some o := by
  show (w.heap.push o)[w.heap.size]? = _
  simp
theorem heap_alloc_old (w : World) (o : Obj) {b : Nat} (h : b < w.heap.size) : (w.alloc o).heap[b]? = w.heap[b]? := by
  show (w.heap.push o)[b]? = _
  rw [Array.getElem?_push, if_neg (by omega)]

theorem below_alloc (w : World) (o : Obj) : RowKit.Below w.heap.size w (w.alloc o) :=
  ⟨rfl, rfl, rfl, by simp, fun _ h => heap_alloc_old w o h⟩

theorem DefsKept.alloc (w : World) (o : Obj) : DefsKept w (w.alloc o) := Below.defs (below_alloc w o)

/-- A new block of which nothing is known. -/
theorem Ext.alloc [Lay] {g : G} {U : Nat → Prop} {h : Heap} {w : World} (i : Inv g U h w) (o : Obj) : Ext g w g (w.alloc o) :=
  ⟨G.le.refl g, rfl, rfl, fun _ _ e => .inl e, fun a v e => ⟨(World.cell?_alloc_lt (w := w) (o := o) (h := i.cellLt e)).trans (i.sub a v e).1, (i.sub a v e).2⟩, below_alloc w o⟩

/-- A slot gets a new box of the frame's own. -/
theorem Rel.boxed [Lay] {n : Nat} {g : G} {β : Nat → Nat} {U : Nat → Prop} {y y' : Nat → Bool → Prop} {st : St} {a : Act} {w : World} (r : Rel n g β U y st a w) {t : Nat} {cs : List D} {vals : Array Value} {T : Nat}
    (ht : t < n) (hr : Rs g cs vals.toList)
    (hy : ∀ s j w e, s ≠ t → look st.sl s = some (.may j w e) → y' j w → y j w) :
    Rel n g (fun s => if s = t then w.heap.size else β s) U y' { st with sl := Ab.put st.sl t (.own cs) } (a.put (some t) (.pointer (some ⟨w.heap.size, 0, none⟩))) (w.alloc (.cells vals T (0, 0))) := by
  have r1 := r.ext (Ext.alloc r.inv (.cells vals T (0, 0)))
  have rl : ∀ s u, look st.sl s = some (.own u) → β s < w.heap.size := fun s u h => (r.own s u h).1.lt
  refine ⟨by rw [defers_put]; exact r1.defers, by rw [size_put]; exact r1.size, nodup_put r1.keys t _, fun s e h => ?_, fun s e u h hl hu => ?_, fun s u h => ?_, fun s s' u u' h h' e => ?_, r1.inv⟩
  · rcases look_put r1.keys h with ⟨rfl, rfl⟩ | ⟨h1, h2, h3⟩
    · rw [getD_put_same (by rw [r1.size]; exact ht)]; simp [RS]
    · rw [getD_put_other h1]
      have h4 := r1.slot s e h3
      have hb : ∀ u, baseOf e = some u → u ≠ t := fun u hu hut => by subst hut; rw [isLp_base hu] at h2; cases h2
      cases e with
      | lp u off => simp only [RS, RS0] at h4 ⊢; rw [if_neg (hb u rfl)]; exact h4
      | own u => simp only [RS] at h4 ⊢; rw [if_neg h1]; exact h4
      | may j w d =>
        intro hh
        have h5 := h4 (hy _ _ _ _ h1 h3 hh)
        cases d with
        | lp u off => simp only [RS0] at h5 ⊢; rw [if_neg (hb u rfl)]; exact h5
        | _ => exact h5
      | _ => exact h4
  · rcases look_put r1.keys h with ⟨rfl, rfl⟩ | ⟨h1, h2, h3⟩
    · cases hu
    · obtain ⟨c, h6⟩ := r1.base s e u h3 (hl.back (fun j w e' he => hy s j w e' h1 (he ▸ h3))) hu
      refine ⟨c, look_put_other r1.keys h6 ?_ rfl⟩
      intro hut
      subst hut
      rw [isLp_base hu] at h2; cases h2
  · rcases look_put r1.keys h with ⟨rfl, h1⟩ | ⟨h1, h2, h3⟩
    · cases h1
      simp only [if_true]
      refine ⟨⟨T, vals, heap_alloc_new _ _, hr⟩, fun hu => absurd (r.inv.ub _ hu) (by omega), fun x v e => ?_, fun l hl e => ?_, fun t' k n' h2 h3 h4 h5 => ?_⟩
      · have := r.inv.cellLt e; omega
      · cases hx : st.h.box l with
        | none => exact hl hx
        | some row =>
          obtain ⟨b, e1, e2, _⟩ := r.inv.box l row hx
          have h9 : b = w.heap.size := by rw [e1] at e; cases e; rfl
          have := e2.lt; omega
      · obtain ⟨k', e1, e2, e3⟩ := r.inv.tok t' k h2
        have : k' = n' := by rw [e1] at h3; cases h3; rfl
        subst this
        obtain ⟨b, e4, e5, _⟩ := (e3 h4).blockLt
        rw [e4] at h5
        simp at h5
    · have := r1.own s u h3
      simp only [if_neg h1]
      exact this
  · rcases look_put r1.keys h with ⟨rfl, h1⟩ | ⟨h1, h2, h3⟩
    · rcases look_put r1.keys h' with ⟨rfl, h1'⟩ | ⟨h1', h2', h3'⟩
      · rfl
      · simp only [if_true, if_neg h1'] at e
        have := rl s' u' h3'; omega
    · rcases look_put r1.keys h' with ⟨rfl, h1'⟩ | ⟨h1', h2', h3'⟩
      · simp only [if_true, if_neg h1] at e
        have := rl s u h3; omega
      · simp only [if_neg h1, if_neg h1'] at e
        exact r1.ownInj s s' u u' h3 h3' e

end Go.Ab
