/- Slices that grow; weaker slots, heaps, results. -/
import Derived.Test.YtmlhaikblfjghaaA33
namespace Go.Ab

theorem upd_upd {α : Type} (f : Nat → α) (k : Nat) (a b : α) : upd (upd f k a) k b = upd f k b := by
  funext i
  unfold upd
  cases Nat.beq i k <;> rfl

/-- A slice with an append right. -/
def LT {α : Type} [Inhabited α] (es : List α) (sz : Nat) (enc : α → D) (t : Nat) : D := .list es.length sz (fun i => enc (es.getD i default)) (.tok t sz)

/-- One append right more, with n elements in use. -/
def hT (h : Heap) (n : Nat) : Heap := { h with hw := upd h.hw h.nt (some n), nt := h.nt + 1 }

theorem getD_app {α : Type} [Inhabited α] (a b : List α) (i : Nat) (h : i < a.length + b.length) : (a ++ b).getD i default = if i < a.length then a.getD i default else b.getD (i - a.length) default := by
  simp only [List.getD_eq_getElem?_getD, List.getElem?_append]
  split <;> rfl

/-- A slice behind an append of computed elements. -/
theorem Wk.app {α : Type} [Inhabited α] {a b : List α} {n m sz : Nat} {enc : α → D} {f : Nat → D} {own own' : Own} (hn : n = a.length) (hm : m = b.length) (hf : ∀ i, i < b.length → f i = enc (b.getD i default)) (ho : own' = .none ∨ own' = own) :
    Wk (.list (n + m) sz (catG n (fun i => enc (a.getD i default)) f) own) (.list (a ++ b).length sz (fun i => enc ((a ++ b).getD i default)) own') := by
  subst hn; subst hm
  refine Wk.list (by simp) (.inl rfl) (fun i hi => ?_) ho
  rw [getD_app a b i hi]
  unfold catG
  cases hb : Nat.blt i a.length with
  | true =>
    have : i < a.length := by simpa [Nat.blt_eq] using hb
    simp only [cond_true, if_pos this]
  | false =>
    have : ¬ i < a.length := fun h => by have : Nat.blt i a.length = true := by simpa [Nat.blt_eq] using h
                                         rw [hb] at this; cases this
    simp only [cond_false, if_neg this]
    exact hf _ (by omega)

theorem Wk.snoc {α : Type} [Inhabited α] {a : List α} {x : α} {sz t : Nat} {enc : α → D} : Wk (.list (a.length + 1) sz (catG a.length (fun i => enc (a.getD i default)) (litG [enc x])) (.tok t sz)) (LT (a ++ [x]) sz enc t) :=
  Wk.app (b := [x]) rfl rfl (fun i hi => by have : i = 0 := by simpa using hi
                                            subst this; rfl) (.inr rfl)
/-- More, read from a slice. -/
theorem Wk.apps {α : Type} [Inhabited α] {a b : List α} {sz t : Nat} {enc : α → D} : Wk (.list (a.length + b.length) sz (catG a.length (fun i => enc (a.getD i default)) (fun i => enc (b.getD i default))) (.tok t sz)) (LT (a ++ b) sz enc t) :=
  Wk.app rfl rfl (fun i hi => rfl) (.inr rfl)
theorem Wk.tokL {α : Type} [Inhabited α] {a : List α} {sz t : Nat} {enc : α → D} : Wk (LT a sz enc t) (L a sz enc) := Wk.list rfl (.inl rfl) (fun _ _ => rfl) (.inl rfl)
theorem Wk.snocL {α : Type} [Inhabited α] {a : List α} {x : α} {sz t : Nat} {enc : α → D} : Wk (.list (a.length + 1) sz (catG a.length (fun i => enc (a.getD i default)) (litG [enc x])) (.tok t sz)) (L (a ++ [x]) sz enc) := Wk.snoc.trans Wk.tokL
theorem Wk.appsL {α : Type} [Inhabited α] {a b : List α} {sz t : Nat} {enc : α → D} : Wk (.list (a.length + b.length) sz (catG a.length (fun i => enc (a.getD i default)) (fun i => enc (b.getD i default))) (.tok t sz)) (L (a ++ b) sz enc) := Wk.apps.trans Wk.tokL
/-- nil, an empty slice. -/
theorem Wk.nilL {α : Type} [Inhabited α] {sz sz' : Nat} {enc : α → D} {f : Nat → D} {own : Own} : Wk (.list 0 sz f own) (L ([] : List α) sz' enc) := Wk.list rfl (.inr rfl) (fun _ h => by cases h) (.inl rfl)
/-- A literal. -/
theorem Wk.litL {α : Type} [Inhabited α] {sz : Nat} {enc : α → D} {l : List α} {ds : List D} {n : Nat} {own : Own} (hn : n = l.length) (hd : ds = l.map enc) : Wk (.list n sz (litG ds) own) (L l sz enc) := by
  subst hd; subst hn
  refine Wk.list rfl (.inl rfl) (fun i hi => ?_) (.inl rfl)
  simp [litG, hi]

theorem HeapLe.eqs {h h' : Heap} (hb : h'.box = h.box) (hl : h'.nl = h.nl) (hw : h'.hw = h.hw) (ht : h'.nt = h.nt) : HeapLe h h' := by
  have : h' = h := by cases h; cases h'; simp_all
  subst this; exact HeapLe.refl _

theorem StLe.heap {n : Nat} {sl : Slots} {h h' : Heap} (e : h = h') : StLe n ⟨sl, h⟩ ⟨sl, h'⟩ := by subst e; exact StLe.refl _ _

theorem Inv.le {g : G} {U : Nat → Prop} {h h' : Heap} {w : World} (i : Inv g U h w) (hh : HeapLe h h') : Inv g U h' w := by
  have hbx : ∀ l, h'.box l ≠ none → h.box l ≠ none := fun l hl hx => by
    cases hb : h'.box l with
    | none => exact hl hb
    | some row' => obtain ⟨row, hr, _⟩ := hh.box l row' hb; rw [hx] at hr; cases hr
  refine ⟨i.sub, i.ub, i.muLt, fun l row' e => ?_, fun l l' b e => i.boxInj l l' b (hbx l e), fun t m e => i.tok t m (hh.hw _ _ e), fun t m k b l e e1 e2 e3 e4 => i.tokBox t m k b l (hh.hw _ _ e) e1 e2 e3 (hbx l e4),
    fun t t' m m' k k' b e e' => i.tokInj t t' m m' k k' b (hh.hw _ _ e) (hh.hw _ _ e'), fun l hl => i.frL l (Nat.le_trans hh.nl hl), fun t ht => i.frT t (Nat.le_trans hh.nt ht)⟩
  obtain ⟨row, hr, hle⟩ := hh.box l row' e
  obtain ⟨b, f1, f2, f3, f4⟩ := i.box l row hr
  exact ⟨b, f1, f2.le hle, f3, f4⟩

/-- One slot, weaker. -/
theorem StLe.set {n : Nat} {sl : Slots} {h : Heap} {d d' : D} (t : Nat) (hl : look sl t = some d) (hw : Wk d d') (h0 : isD d = true) (h1 : isD d' = true) : StLe n ⟨sl, h⟩ ⟨setSl sl t d', h⟩ := by
  intro g β U a w r
  have hd : R g d (a.tmps.getD t undef) := by
    have h3 := r.slot t _ hl
    cases d <;> first | exact h3 | exact Bool.noConfusion (show false = true from h0)
  refine ⟨g, β, ⟨r.defers, r.size, by rw [setSl_keys]; exact r.keys, fun s e hs => ?_, fun s e u hs hlive hb => ?_, fun s cs hs => ?_, fun s s' cs cs' hs hs' => ?_, r.inv⟩, Grow.refl U g⟩
  · rcases look_setSl _ _ _ _ _ hs with ⟨rfl, rfl, _⟩ | ⟨_, h2⟩
    · exact RS.ofRS0 (RS0.ofR (hw _ _ hd)) (isD_okMay h1)
    · exact r.slot s e h2
  · rcases look_setSl _ _ _ _ _ hs with ⟨rfl, rfl, _⟩ | ⟨_, h2⟩
    · cases e <;> first | exact Bool.noConfusion (show false = true from h1) | cases hb
    · obtain ⟨cs, hc⟩ := r.base s e u h2 hlive hb
      refine ⟨cs, ?_⟩
      have hut : u ≠ t := fun e => by
        subst e; rw [hl] at hc; cases hc; cases h0
      have key : ∀ (sl : Slots), look sl u = some (.own cs) → look (setSl sl t d') u = some (.own cs) := by
        intro sl
        induction sl with
        | nil => intro h; cases h
        | cons x r ih =>
          obtain ⟨k, x⟩ := x
          intro h
          have hm : setSl ((k, x) :: r) t d' = (bif Nat.beq k t then (t, d') else (k, x)) :: setSl r t d' := rfl
          rw [hm]
          simp only [look] at h
          cases hku : Nat.beq k u with
          | true =>
            have := beq_eq.1 hku; subst this
            rw [hku] at h
            have : Nat.beq k t = false := beq_ff.2 hut
            rw [this]; simp only [cond_false, look, hku]; exact h
          | false =>
            rw [hku] at h
            cases hkt : Nat.beq k t with
            | true =>
              have := beq_eq.1 hkt; subst this
              simp only [cond_true, look, hku]; exact ih h
            | false => simp only [cond_false, look, hku]; exact ih h
      exact key _ hc
  · rcases look_setSl _ _ _ _ _ hs with ⟨rfl, h2, _⟩ | ⟨_, h2⟩
    · subst h2; cases h1
    · exact r.own s cs h2
  · rcases look_setSl _ _ _ _ _ hs with ⟨rfl, h2, _⟩ | ⟨_, h2⟩
    · subst h2; cases h1
    · rcases look_setSl _ _ _ _ _ hs' with ⟨rfl, h3, _⟩ | ⟨_, h3⟩
      · subst h3; cases h1
      · exact r.ownInj s s' cs cs' h2 h3

/-- A frame's own box, weaker. -/
theorem StLe.setOwn {n : Nat} {sl : Slots} {h : Heap} {cs cs' : List D} (hn : (sl.map (·.1)).Nodup) (t : Nat) (hl : look sl t = some (.own cs)) (hw : Wks cs cs') : StLe n ⟨sl, h⟩ ⟨setSl sl t (.own cs'), h⟩ := by
  intro g β U a w r
  have lk : ∀ {s cs0}, look sl s = some (.own cs0) → ∃ c, look (setSl sl t (.own cs')) s = some (.own c) := by
    intro s cs0 hs
    have key : ∀ (sl : Slots), look sl s = some (.own cs0) → ∃ c, look (setSl sl t (.own cs')) s = some (.own c) := by
      intro sl
      induction sl with
      | nil => intro h; cases h
      | cons x r ih =>
        obtain ⟨k, x⟩ := x
        intro h
        have hm : setSl ((k, x) :: r) t (.own cs') = (bif Nat.beq k t then (t, .own cs') else (k, x)) :: setSl r t (.own cs') := rfl
        rw [hm]
        simp only [look] at h
        cases hks : Nat.beq k s with
        | true =>
          have := beq_eq.1 hks; subst this
          rw [hks] at h
          simp only [cond_true, Option.some.injEq] at h; subst h
          cases hkt : Nat.beq k t with
          | true =>
            have := beq_eq.1 hkt; subst this
            exact ⟨cs', by simp [look]⟩
          | false => exact ⟨cs0, by simp [look]⟩
        | false =>
          rw [hks] at h
          obtain ⟨c, hc⟩ := ih h
          refine ⟨c, ?_⟩
          cases hkt : Nat.beq k t with
          | true =>
            have := beq_eq.1 hkt; subst this
            simp only [cond_true, look, hks]; exact hc
          | false => simp only [cond_false, look, hks]; exact hc
    exact key sl hs
  refine ⟨g, β, ⟨r.defers, r.size, by rw [setSl_keys]; exact r.keys, fun s e hs => ?_, fun s e u hs hlive hb => ?_, fun s c hs => ?_, fun s s' c c' hs hs' => ?_, r.inv⟩, Grow.refl U g⟩
  · rcases look_setSl _ _ _ _ _ hs with ⟨rfl, rfl, _⟩ | ⟨_, h2⟩
    · have h3 := r.slot s (.own cs) hl
      exact h3
    · exact r.slot s e h2
  · rcases look_setSl _ _ _ _ _ hs with ⟨rfl, rfl, _⟩ | ⟨_, h2⟩
    · cases hb
    · obtain ⟨c, hc⟩ := r.base s e u h2 hlive hb
      exact lk hc
  · rcases look_setSl _ _ _ _ _ hs with ⟨rfl, h2, _⟩ | ⟨_, h2⟩
    · cases h2
      obtain ⟨e1, e2, e3, e4, e5⟩ := r.own s _ hl
      exact ⟨e1.le (.lit hw), e2, e3, e4, e5⟩
    · exact r.own s c h2
  · have f : ∀ {s c}, look (setSl sl t (.own cs')) s = some (.own c) → ∃ c0, look sl s = some (.own c0) := fun {s c} h => by
      rcases look_setSl _ _ _ _ _ h with ⟨rfl, h2, _⟩ | ⟨_, h2⟩
      · exact ⟨_, hl⟩
      · exact ⟨_, h2⟩
    obtain ⟨c0, h2⟩ := f hs
    obtain ⟨c1, h3⟩ := f hs'
    exact r.ownInj s s' _ _ h2 h3

theorem StLe.tokL (n : Nat) {α : Type} [Inhabited α] {l : List α} {enc : α → D} {sl : Slots} {h : Heap} {t m sz sz' : Nat} {f : Nat → D} (hl : look sl t = some (.list m sz f .full)) (hm : m = l.length) (hf : m = 0 ∨ (sz' = sz ∧ ∀ i, i < m → f i = enc (l.getD i default))) :
    StLe n ⟨sl, h⟩ ⟨setSl sl t (LT l sz' enc h.nt), hT h l.length⟩ := by
  subst hm; exact StLe.tok n sz' _ hl hf

theorem StLe.tok0 (n : Nat) {α : Type} [Inhabited α] {enc : α → D} {sl : Slots} {h : Heap} {sz : Nat} {f : Nat → D} (t sz' : Nat) (hl : look sl t = some (.list 0 sz f .full)) : StLe n ⟨sl, h⟩ ⟨setSl sl t (LT ([] : List α) sz' enc h.nt), hT h 0⟩ := StLe.tokL n hl rfl (.inl rfl)
theorem StLe.tok1 (n : Nat) {α : Type} [Inhabited α] {x : α} {enc : α → D} {sl : Slots} {h : Heap} {sz : Nat} (t : Nat) (hl : look sl t = some (.list 1 sz (litG [enc x]) .full)) : StLe n ⟨sl, h⟩ ⟨setSl sl t (LT [x] sz enc h.nt), hT h 1⟩ :=
  StLe.tokL n (l := [x]) hl rfl (.inr ⟨rfl, fun i hi => by rw [show i = 0 by omega]; rfl⟩)

/-- What is left, weaker. -/
def RetLe (d : D) (h : Heap) (v : D) (h' : Heap) : Prop := ∀ (g : G) (U : Nat → Prop) (w : World) (x : Value), R g d x → Inv g U h w → ∃ g', R g' v x ∧ Inv g' U h' w ∧ Grow U g g'

theorem RetLe.refl (d : D) (h : Heap) : RetLe d h d h := fun g U _ _ hr i => ⟨g, hr, i, Grow.refl U g⟩
theorem RetLe.of {d v : D} {h h' : Heap} (hw : Wk d v) (hh : HeapLe h h') : RetLe d h v h' := fun g U _ _ hr i => ⟨g, hw _ _ hr, i.le hh, Grow.refl U g⟩
theorem RetLe.wk {d v : D} {h h' : Heap} (hw : Wk d v) (hh : h = h') : RetLe d h v h' := by subst hh; exact RetLe.of hw (HeapLe.refl _)

theorem Does.of_call {P : Program} {f : Nat} {args : List D} {h h' : Heap} {v : D} (c : CallA P f args h fun d h'' => RetLe d h'' v h') : Does P f args h v h' := fun K hk =>
  ⟨c.ok, fun g U w vs i hs => Calls.mono (c.calls g U w vs i hs) fun _ _ ⟨x, g', d, h1, e1, e2, e3, e4, e5, e6⟩ => by
    obtain ⟨g2, f1, f2, f3⟩ := e6 g' U _ x e2 e3
    exact ⟨x, g2, v, h', e1, f1, f2, e4.trans f3, e5, hk⟩⟩

theorem Does.of_pure {P : Program} {f : Nat} {args : List D} {h : Heap} {v : D} (p : Pure P f args v) : Does P f args h v h := fun _ hk => CallA.of_pure p (Wks.refl _) hk

end Go.Ab
