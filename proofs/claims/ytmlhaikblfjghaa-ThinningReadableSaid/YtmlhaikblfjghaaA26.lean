/- Loops, weaker states. -/
import Derived.Test.YtmlhaikblfjghaaA25
namespace Go.Ab

/-- Whatever st describes st' describes too (the ghost memory may grow). -/
def StLe (n : Nat) (st st' : St) : Prop :=
  ∀ (g : G) (β : Nat → Nat) (U : Nat → Prop) (a : Act) (w : World), Rel n g β U noY st a w → ∃ g' β', Rel n g' β' U noY st' a w ∧ Grow U g g'

theorem StLe.refl (n : Nat) (st : St) : StLe n st st := fun g β U _ _ r => ⟨g, β, r, Grow.refl U g⟩

theorem StLe.trans {n : Nat} {a b c : St} (h : StLe n a b) (k : StLe n b c) : StLe n a c := fun g β U x w r => by
  obtain ⟨g1, β1, r1, e1⟩ := h g β U x w r
  obtain ⟨g2, β2, r2, e2⟩ := k g1 β1 U x w r1
  exact ⟨g2, β2, r2, e1.trans e2⟩

theorem AWp.le {P : Program} {n : Nat} {c : Code} {st st' : St} {Q : Ex → St → Prop} (h : AWp P n c st' Q) (l : StLe n st st') : AWp P n c st Q := fun g β U a w r => by
  obtain ⟨g1, β1, r1, e1⟩ := l g β U a w r
  exact wp_mono (h g1 β1 U a w r1) fun _ _ _ ⟨ex, g', β', st', h1, h2, h3, h4, h5⟩ => ⟨ex, g', β', st', h1, h2, e1.trans h3, h4, h5⟩

section
variable {E : Env} {fin : St → Prop}

theorem at_le {p : List Nat} {td : List It} {st st' : St} (h : At E fin (.code p :: td) st') (l : StLe E.nt st st') : At E fin (.code p :: td) st :=
  ⟨by obtain ⟨c, hc, hw⟩ := h.it; exact ⟨c, hc, hw.le l⟩⟩

theorem at_run (hmix : E.P.follows .mixedOrders = true) {n : Nat} {td : List It} {st : St} (h : run E fin n td st) : At E fin td st := ⟨run_sound hmix n td st h⟩

/-- A loop: a family of states at its head, and a measure that goes down from round to round. -/
theorem at_loop {α : Type} (I : α → Prop) (S : α → St) (μ : α → Nat) {p : List Nat} {td : List It} {c : Code} (hs : sub E.root p = some (.loop c)) {st : St} {x : α} (hx : I x) (h0 : StLe E.nt st (S x))
    (hr : ∀ x, I x → At E fin (.code (p ++ [0]) :: .stop (fun st' => ∃ y, I y ∧ μ y < μ x ∧ StLe E.nt st' (S y)) :: td) (S x)) : At E fin (.code p :: td) st := by
  refine at_le ⟨⟨_, hs, ?_⟩⟩ h0
  intro g β U a w r
  have key : ∀ (m : Nat) (x : α) (g1 : G) (β1 : Nat → Nat) (a : Act) (w1 : World), I x → μ x < m → Rel E.nt g1 β1 U noY (S x) a w1 → Grow U g g1 → Kept U w w1 →
      Code.rounds E.P c (fun e a' w' => ∃ ex g' β' st', e = exitOf ex ∧ Rel E.nt g' β' U noY st' a' w' ∧ Grow U g g' ∧ Kept U w w' ∧ Cont E fin td ex st') m a w1 := by
    intro m
    induction m with
    | zero => intro x g1 β1 a w1 _ h; exact absurd h (Nat.not_lt_zero _)
    | succ m ih =>
      intro x g1 β1 a w1 hx hm r1 hg hk
      obtain ⟨c', hc', hw⟩ := (hr x hx).it
      rw [sub_append, hs] at hc'
      have hcc : c = c' := by simpa [sub] using hc'
      subst hcc
      refine wp_mono (hw g1 β1 U a w1 r1) fun e a' w' ⟨ex, g', β', st', h1, h2, h3, h4, h5⟩ => ?_
      subst h1
      cases ex with
      | normal =>
        obtain ⟨y, hy, hlt, hle⟩ := h5
        obtain ⟨g2, β2, r2, e2⟩ := hle g' β' U a' w' h2
        exact ih y g2 β2 a' w' hy (by omega) r2 ((hg.trans h3).trans e2) (hk.trans h4)
      | ret => exact ⟨.ret, g', β', st', rfl, h2, hg.trans h3, hk.trans h4, h5⟩
      | exit i => exact ⟨.exit i, g', β', st', rfl, h2, hg.trans h3, hk.trans h4, h5⟩
  exact wp_loop_rounds (μ x + 1) (key (μ x + 1) x g β a w hx (by omega) r (Grow.refl U g) (Kept.refl U w))

end

/-- One slot's value, weaker. -/
inductive SlotLe : D → D → Prop
  | data {d d' : D} (h : Wk d d') (h0 : isD d = true) (hd : isD d' = true) : SlotLe d d'
  | own {cs cs' : List D} (h : Wks cs cs') : SlotLe (.own cs) (.own cs')

def SlLe (sl : Slots) : Slots → Prop
  | [] => True
  | (t, d') :: r => (∃ d, look sl t = some d ∧ SlotLe d d') ∧ SlLe sl r

theorem SlLe.get {sl : Slots} : ∀ {sl' : Slots}, SlLe sl sl' → ∀ {t : Nat} {d' : D}, look sl' t = some d' → ∃ d, look sl t = some d ∧ SlotLe d d'
  | [], _, _, _, h => by cases h
  | (s, e) :: r, h, t, d', hl => by
    simp only [look] at hl
    cases hb : Nat.beq s t with
    | true =>
      rw [hb] at hl; simp only [cond_true, Option.some.injEq] at hl; subst hl
      have := beq_eq.1 hb; subst this
      exact h.1
    | false => rw [hb] at hl; exact SlLe.get h.2 hl

/-- A box's row, weaker. -/
inductive RowLe : Row → Row → Prop
  | lit {cs cs' : List D} (h : Wks cs cs') : RowLe (.lit cs) (.lit cs')
  | arr {n : Nat} {f f' : Nat → D} (h : ∀ i, i < n → Wk (f i) (f' i)) : RowLe (.arr n f) (.arr n f')

structure HeapLe (h h' : Heap) : Prop where
  box : ∀ l row', h'.box l = some row' → ∃ row, h.box l = some row ∧ RowLe row row'
  nl : h.nl ≤ h'.nl
  hw : ∀ t n, h'.hw t = some n → h.hw t = some n
  nt : h.nt ≤ h'.nt

theorem HeapLe.refl (h : Heap) : HeapLe h h := ⟨fun l row' e => ⟨row', e, by cases row' with | lit cs => exact .lit fun _ _ h => h | arr n f => exact .arr fun _ _ _ _ h => h⟩, Nat.le_refl _, fun _ _ h => h, Nat.le_refl _⟩

theorem RowAt.le {g : G} {w : World} {b : Nat} {row row' : Row} (h : RowAt g w b row) (l : RowLe row row') : RowAt g w b row' := by
  obtain ⟨T, vals, hb, hr⟩ := h
  refine ⟨T, vals, hb, ?_⟩
  cases l with
  | lit hw => exact hw _ _ hr
  | arr hw => exact ⟨hr.1, fun i hi => by obtain ⟨v, hv, h1⟩ := hr.2 i hi; exact ⟨v, hv, hw i hi _ _ h1⟩⟩

theorem StLe.of {n : Nat} {st st' : St} (hn : (st'.sl.map (·.1)).Nodup) (hs : SlLe st.sl st'.sl) (hh : HeapLe st.h st'.h) : StLe n st st' := by
  intro g β U a w r
  have i := r.inv
  refine ⟨g, β, ⟨r.defers, r.size, hn, fun t d' h => ?_, fun t d' s h _ hb => ?_, fun t cs' h => ?_, fun t t' cs cs' h h' e => ?_, ?_⟩, Grow.refl U g⟩
  · obtain ⟨d, h1, h2⟩ := hs.get h
    have h3 := r.slot t d h1
    cases h2 with
    | data hw h0 hd =>
      have hR : R g d (a.tmps.getD t undef) := by cases d <;> first | exact h3 | exact Bool.noConfusion (show false = true from h0)
      exact RS.ofRS0 (RS0.ofR (hw _ _ hR)) (isD_okMay hd)
    | own hw => exact h3
  · obtain ⟨d, h1, h2⟩ := hs.get h
    cases h2 with
    | data hw h0 hd => cases d' <;> first | exact Bool.noConfusion (show false = true from hd) | cases hb
    | own hw => cases hb
  · obtain ⟨d, h1, h2⟩ := hs.get h
    cases h2 with
    | data hw h0 hd => cases hd
    | own hw =>
      obtain ⟨e1, e2, e3, e4, e5⟩ := r.own t _ h1
      refine ⟨e1.le (.lit hw), e2, e3, fun l hl => e4 l fun hx => ?_, fun t' m k e => e5 t' m k (hh.hw _ _ e)⟩
      cases hb : st'.h.box l with
      | none => exact hl hb
      | some row' => obtain ⟨row, hr, _⟩ := hh.box l row' hb; rw [hx] at hr; cases hr
  · obtain ⟨d, h1, h2⟩ := hs.get h
    obtain ⟨d', h1', h2'⟩ := hs.get h'
    have hown : ∀ {d : D} {cs : List D}, SlotLe d (.own cs) → ∃ c, d = .own c := by
      intro d cs h
      cases h with
      | data hw h0 hd => cases hd
      | own hw => exact ⟨_, rfl⟩
    obtain ⟨c, rfl⟩ := hown h2
    obtain ⟨c', rfl⟩ := hown h2'
    exact r.ownInj t t' _ _ h1 h1' e
  · have hbx : ∀ l, st'.h.box l ≠ none → st.h.box l ≠ none := fun l hl hx => by
      cases hb : st'.h.box l with
      | none => exact hl hb
      | some row' => obtain ⟨row, hr, _⟩ := hh.box l row' hb; rw [hx] at hr; cases hr
    refine ⟨i.sub, i.ub, i.muLt, fun l row' e => ?_, fun l l' b e => i.boxInj l l' b (hbx l e), fun t m e => i.tok t m (hh.hw _ _ e), fun t m k b l e e1 e2 e3 e4 => i.tokBox t m k b l (hh.hw _ _ e) e1 e2 e3 (hbx l e4),
      fun t t' m m' k k' b e e' => i.tokInj t t' m m' k k' b (hh.hw _ _ e) (hh.hw _ _ e'), fun l hl => i.frL l (Nat.le_trans hh.nl hl), fun t ht => i.frT t (Nat.le_trans hh.nt ht)⟩
    obtain ⟨row, hr, hle⟩ := hh.box l row' e
    obtain ⟨b, f1, f2, f3, f4⟩ := i.box l row hr
    exact ⟨b, f1, f2.le hle, f3, f4⟩

end Go.Ab
