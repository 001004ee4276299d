/- The executor is sound, 1: how the relation is carried over a step. -/
import Derived.Test.YtmlhaikblfjghaaA4
namespace Go.Ab

/-- New memory alone has come, and unchanging cells in it. -/
structure Ext (g : G) (w : World) (g' : G) (w' : World) : Prop where
  le : G.le g g'
  μ : g'.μ = g.μ
  τ : g'.τ = g.τ
  new : ∀ a v, g'.σ a = some v → g.σ a = some v ∨ w.heap.size ≤ a.block
  sub : ∀ a v, g'.σ a = some v → w'.cell? a = some v ∧ a.spot = none
  below : RowKit.Below w.heap.size w w'

theorem Grow.refl (U : Nat → Prop) (g : G) : Grow U g g := ⟨G.le.refl g, fun _ _ h => .inl h⟩

theorem Grow.trans {U : Nat → Prop} {a b c : G} (h : Grow U a b) (k : Grow U b c) : Grow U a c :=
  ⟨h.le.trans k.le, fun x v e => by rcases k.new x v e with h1 | h1; exact h.new x v h1; exact .inr h1⟩

theorem Ext.grow {g g' : G} {w w' : World} (x : Ext g w g' w') {U : Nat → Prop} (u : ∀ b, U b → b < w.heap.size) : Grow U g g' :=
  ⟨x.le, fun a v e => by rcases x.new a v e with h | h; exact .inl h; exact .inr fun hu => by have := u _ hu; omega⟩

theorem Grow.sameσ {U : Nat → Prop} {g g' : G} (l : G.le g g') (h : g'.σ = g.σ) : Grow U g g' := ⟨l, fun a v e => .inl (by rw [h] at e; exact e)⟩

theorem lt_of_heap {w : World} {b : Nat} {o : Obj} (h : w.heap[b]? = some o) : b < w.heap.size := by
  rcases Nat.lt_or_ge b w.heap.size with h1 | h1
  · exact h1
  · rw [Array.getElem?_eq_none h1] at h; cases h

theorem Inv.cellLt {g : G} {U : Nat → Prop} {h : Heap} {w : World} (i : Inv g U h w) {a : Addr} {v : Value} (e : g.σ a = some v) : a.block < w.heap.size :=
  World.block_lt_of_cell? w a (i.sub a v e).1

theorem RowAt.lt {g : G} {w : World} {b : Nat} {row : Row} (h : RowAt g w b row) : b < w.heap.size := by
  obtain ⟨T, vals, e, _⟩ := h; exact lt_of_heap e

theorem RowAt.mono {g g' : G} {w w' : World} {b : Nat} {row : Row} (h : RowAt g w b row) (l : G.le g g') (e : w'.heap[b]? = w.heap[b]?) : RowAt g' w' b row := by
  obtain ⟨T, vals, hb, hr⟩ := h
  refine ⟨T, vals, e.trans hb, ?_⟩
  cases row with
  | lit cs => exact Rs.mono l _ _ hr
  | arr n get => exact ⟨hr.1, fun i hi => by obtain ⟨v, hv, h1⟩ := hr.2 i hi; exact ⟨v, hv, R.mono l _ _ h1⟩⟩

theorem TokAt.blockLt {g : G} {w : World} {U : Nat → Prop} {k : Tok} (h : TokAt g w U k) : ∃ b, k.a = some ⟨b, 0, none⟩ ∧ b < w.heap.size ∧ ¬ U b := by
  obtain ⟨b, e, hu, T, vals, hb, _⟩ := h; exact ⟨b, e, lt_of_heap hb, hu⟩

theorem Inv.ext {g g' : G} {U : Nat → Prop} {h : Heap} {w w' : World} (i : Inv g U h w) (x : Ext g w g' w') : Inv g' U h w' where
  sub := x.sub
  ub b hb := Nat.lt_of_lt_of_le (i.ub b hb) x.below.size
  muLt l b e := by rw [x.μ] at e; exact Nat.lt_of_lt_of_le (i.muLt l b e) x.below.size
  box l row e := by
    obtain ⟨b, e1, e2, e3, e4⟩ := i.box l row e
    refine ⟨b, by rw [x.μ]; exact e1, e2.mono x.le (x.below.block b e2.lt), e3, fun a v hv => ?_⟩
    rcases x.new a v hv with h1 | h1
    · exact e4 a v h1
    · have := e2.lt; omega
  boxInj l l' b e e1 e2 := by rw [x.μ] at e1 e2; exact i.boxInj l l' b e e1 e2
  tok t n e := by
    obtain ⟨k, e1, e2, e3⟩ := i.tok t n e
    refine ⟨k, by rw [x.τ]; exact e1, e2, fun hk => ?_⟩
    obtain ⟨b, e4, hu, T, vals, hb, hc, hs⟩ := e3 hk
    have hl := lt_of_heap hb
    refine ⟨b, e4, hu, T, vals, (x.below.block b hl).trans hb, hc, fun j hj => ?_⟩
    cases hx : g'.σ ⟨b, j, none⟩ with
    | none => rfl
    | some v =>
      rcases x.new _ v hx with h1 | h1
      · rw [hs j hj] at h1; cases h1
      · simp at h1; omega
  tokBox t n k b l e e1 e2 e3 e4 := by rw [x.τ] at e1; rw [x.μ]; exact i.tokBox t n k b l e e1 e2 e3 e4
  tokInj t t' n n' k k' b e e' e1 e1' := by rw [x.τ] at e1 e1'; exact i.tokInj t t' n n' k k' b e e' e1 e1'
  frL l hl := by rw [x.μ]; exact i.frL l hl
  frT t ht := by rw [x.τ]; exact i.frT t ht

theorem RS0.mono {g g' : G} (l : G.le g g') {β : Nat → Nat} {d : D} {v : Value} (h : RS0 g β d v) : RS0 g' β d v := by
  unfold RS0 at *
  split at h <;> first | exact h | exact R.mono l _ _ h

theorem RS.mono {g g' : G} (l : G.le g g') {β : Nat → Nat} {y : Nat → Bool → Prop} {t : Nat} {d : D} {v : Value} (h : RS g β y t d v) : RS g' β y t d v := by
  unfold RS at *
  split at h <;> first | exact h | exact RS0.mono l h | exact fun hy => RS0.mono l (h hy) | trivial

theorem Rel.ext {n : Nat} {g g' : G} {β : Nat → Nat} {U : Nat → Prop} {y : Nat → Bool → Prop} {st : St} {a : Act} {w w' : World} (r : Rel n g β U y st a w) (x : Ext g w g' w') : Rel n g' β U y st a w' where
  defers := r.defers
  size := r.size
  keys := r.keys
  slot t d e := (r.slot t d e).mono x.le
  base := r.base
  own t cs e := by
    obtain ⟨h1, h2, h3, h4, h5⟩ := r.own t cs e
    refine ⟨h1.mono x.le (x.below.block _ h1.lt), h2, fun a v hv => ?_, by rw [x.μ]; exact h4, by rw [x.τ]; exact h5⟩
    rcases x.new a v hv with h | h
    · exact h3 a v h
    · have := h1.lt; omega
  ownInj := r.ownInj
  inv := r.inv.ext x

theorem Ext.refl {g : G} {U : Nat → Prop} {h : Heap} {w : World} (i : Inv g U h w) : Ext g w g w :=
  ⟨G.le.refl g, rfl, rfl, fun _ _ e => .inl e, i.sub, RowKit.Below.refl _ _⟩

theorem Ext.kept {g g' : G} {w w' : World} (x : Ext g w g' w') {U : Nat → Prop} (u : ∀ b, U b → b < w.heap.size) : Kept U w w' :=
  ⟨x.below.os, x.below.tape, x.below.output, x.below.size, fun b hb => x.below.block b (u b hb)⟩

theorem Kept.refl (U : Nat → Prop) (w : World) : Kept U w w := ⟨rfl, rfl, rfl, Nat.le_refl _, fun _ _ => rfl⟩

theorem Kept.trans {U : Nat → Prop} {a b c : World} (h : Kept U a b) (k : Kept U b c) : Kept U a c :=
  ⟨k.os.trans h.os, k.tape.trans h.tape, k.output.trans h.output, Nat.le_trans h.size k.size, fun x hx => (k.block x hx).trans (h.block x hx)⟩

/-! ### Slots -/

theorem beq_eq {a b : Nat} : Nat.beq a b = true ↔ a = b := ⟨Nat.eq_of_beq_eq_true, fun h => by subst h; exact Nat.beq_refl _⟩

theorem beq_ff {a b : Nat} : Nat.beq a b = false ↔ a ≠ b := by
  cases hb : Nat.beq a b with
  | true => simp [beq_eq.1 hb]
  | false => simp only [true_iff]; intro h; rw [beq_eq.2 h] at hb; cases hb

theorem look_mem : ∀ {sl : Slots} {t : Nat} {d : D}, look sl t = some d → (t, d) ∈ sl
  | [], _, _, h => by simp [look] at h
  | (s, e) :: r, t, d, h => by
    simp only [look] at h
    cases hb : Nat.beq s t with
    | true =>
      simp only [hb, cond_true, Option.some.injEq] at h
      have := beq_eq.1 hb; subst this; subst h; exact List.mem_cons_self ..
    | false =>
      simp only [hb, cond_false] at h
      exact List.mem_cons_of_mem _ (look_mem h)

theorem look_of_mem : ∀ {sl : Slots} {t : Nat} {d : D}, (sl.map (·.1)).Nodup → (t, d) ∈ sl → look sl t = some d
  | [], _, _, _, h => by cases h
  | (s, e) :: r, t, d, hn, h => by
    simp only [List.map_cons, List.nodup_cons] at hn
    simp only [look]
    rcases List.mem_cons.1 h with h1 | h1
    · cases h1; simp
    · have : s ≠ t := fun e => hn.1 (e ▸ List.mem_map_of_mem (f := (·.1)) h1)
      have hb : Nat.beq s t = false := beq_ff.2 this
      simp only [hb, cond_false]
      exact look_of_mem hn.2 h1

theorem mem_del : ∀ {sl : Slots} {t s : Nat} {d : D}, (s, d) ∈ del sl t → s ≠ t ∧ isLp d t = false ∧ (s, d) ∈ sl
  | [], _, _, _, h => by cases h
  | (s0, d0) :: r, t, s, d, h => by
    simp only [del] at h
    cases hb : (Nat.beq s0 t || isLp d0 t) with
    | true =>
      simp only [hb, cond_true] at h
      obtain ⟨h1, h2, h3⟩ := mem_del h
      exact ⟨h1, h2, List.mem_cons_of_mem _ h3⟩
    | false =>
      simp only [hb, cond_false] at h
      rcases List.mem_cons.1 h with h1 | h1
      · cases h1
        simp only [Bool.or_eq_false_iff] at hb
        exact ⟨beq_ff.1 hb.1, hb.2, List.mem_cons_self ..⟩
      · obtain ⟨h1, h2, h3⟩ := mem_del h1
        exact ⟨h1, h2, List.mem_cons_of_mem _ h3⟩

theorem mem_del_of : ∀ {sl : Slots} {t s : Nat} {d : D}, (s, d) ∈ sl → s ≠ t → isLp d t = false → (s, d) ∈ del sl t
  | [], _, _, _, h, _, _ => by cases h
  | (s0, d0) :: r, t, s, d, h, h1, h2 => by
    simp only [del]
    cases hb : (Nat.beq s0 t || isLp d0 t) with
    | true =>
      simp only [cond_true]
      rcases List.mem_cons.1 h with h3 | h3
      · cases h3
        have h4 := beq_ff.2 h1
        rw [h4, h2] at hb; cases hb
      · exact mem_del_of h3 h1 h2
    | false =>
      simp only [cond_false]
      rcases List.mem_cons.1 h with h3 | h3
      · cases h3; exact List.mem_cons_self ..
      · exact List.mem_cons_of_mem _ (mem_del_of h3 h1 h2)

theorem del_sublist : ∀ (sl : Slots) (t : Nat), (del sl t).Sublist sl
  | [], _ => List.Sublist.refl _
  | (s, d) :: r, t => by
    simp only [del]
    cases (Nat.beq s t || isLp d t) with
    | true => exact (del_sublist r t).cons _
    | false => exact (del_sublist r t).cons_cons _

theorem nodup_del {sl : Slots} (h : (sl.map (·.1)).Nodup) (t : Nat) : ((del sl t).map (·.1)).Nodup := h.sublist ((del_sublist sl t).map _)

theorem nodup_put {sl : Slots} (h : (sl.map (·.1)).Nodup) (t : Nat) (d : D) : ((put sl t d).map (·.1)).Nodup := by
  simp only [put, List.map_cons, List.nodup_cons]
  refine ⟨fun hm => ?_, nodup_del h t⟩
  obtain ⟨⟨s, e⟩, h1, h2⟩ := List.mem_map.1 hm
  exact (mem_del h1).1 h2

/-- What is found behind a put. -/
theorem look_put {sl : Slots} (hn : (sl.map (·.1)).Nodup) {t s : Nat} {d e : D} (h : look (put sl t d) s = some e) :
    (s = t ∧ e = d) ∨ (s ≠ t ∧ isLp e t = false ∧ look sl s = some e) := by
  have h1 := look_mem h
  rcases List.mem_cons.1 h1 with h2 | h2
  · cases h2; exact .inl ⟨rfl, rfl⟩
  · obtain ⟨h3, h4, h5⟩ := mem_del h2
    exact .inr ⟨h3, h4, look_of_mem hn h5⟩

theorem look_put_same (sl : Slots) (t : Nat) (d : D) : look (put sl t d) t = some d := by simp [put, look]

theorem look_put_other {sl : Slots} (hn : (sl.map (·.1)).Nodup) {t s : Nat} {d e : D} (h : look sl s = some e) (hne : s ≠ t) (hl : isLp e t = false) : look (put sl t d) s = some e :=
  look_of_mem (nodup_put hn t d) (List.mem_cons_of_mem _ (mem_del_of (look_mem h) hne hl))

theorem purge_sublist : ∀ (sl : Slots), (purge sl).Sublist sl
  | [] => List.Sublist.refl _
  | (s, d) :: r => by
    simp only [purge]
    cases isMayLp d with
    | true => exact (purge_sublist r).cons _
    | false => exact (purge_sublist r).cons_cons _

theorem look_purge {sl : Slots} (hn : (sl.map (·.1)).Nodup) {t : Nat} {d : D} (h : look (purge sl) t = some d) : look sl t = some d ∧ isMayLp d = false := by
  refine ⟨look_of_mem hn ((purge_sublist sl).subset (look_mem h)), ?_⟩
  have h1 := look_mem h
  clear h hn
  induction sl with
  | nil => cases h1
  | cons x r ih =>
    obtain ⟨s, e⟩ := x
    simp only [purge] at h1
    cases hb : isMayLp e with
    | true => simp only [hb, cond_true] at h1; exact ih h1
    | false =>
      simp only [hb, cond_false] at h1
      rcases List.mem_cons.1 h1 with h2 | h2
      · cases h2; exact hb
      · exact ih h2

theorem look_purge_of {sl : Slots} (hn : (sl.map (·.1)).Nodup) {t : Nat} {d : D} (h : look sl t = some d) (hm : isMayLp d = false) : look (purge sl) t = some d := by
  refine look_of_mem (hn.sublist ((purge_sublist sl).map _)) ?_
  have h1 := look_mem h
  clear h hn
  induction sl with
  | nil => cases h1
  | cons x r ih =>
    obtain ⟨s, e⟩ := x
    simp only [purge]
    rcases List.mem_cons.1 h1 with h2 | h2
    · cases h2; simp only [hm, cond_false]; exact List.mem_cons_self ..
    · cases hb : isMayLp e with
      | true => simp only [cond_true]; exact ih h2
      | false => simp only [cond_false]; exact List.mem_cons_of_mem _ (ih h2)

/-! ### The frame -/

theorem getD_put_same {a : Act} {d : Nat} {v : Value} (h : d < a.tmps.size) : (a.put (some d) v).tmps.getD d undef = v := by
  simp [Act.put, Array.getElem_setIfInBounds, h]

theorem getD_put_other {a : Act} {d t : Nat} {v : Value} (h : t ≠ d) : (a.put (some d) v).tmps.getD t undef = a.tmps.getD t undef := by
  simp only [Act.put, Array.getD_eq_getD_getElem?]
  rw [Array.getElem?_setIfInBounds_ne (Ne.symm h)]

theorem size_put (a : Act) (d : Option Nat) (v : Value) : (a.put d v).tmps.size = a.tmps.size := by cases d <;> simp [Act.put]

theorem defers_put (a : Act) (d : Option Nat) (v : Value) : (a.put d v).defers = a.defers := by cases d <;> rfl

theorem isLp_base {d : D} {t : Nat} (hb : baseOf d = some t) : isLp d t = true := by
  unfold baseOf at hb
  split at hb <;> first | (cases hb; simp [isLp, beq_eq]) | cases hb

/-- A slot gets a value. -/
theorem Live.back {y y' : Nat → Bool → Prop} {d : D} (h : Live y' d) (hy : ∀ j w e, d = .may j w e → y' j w → y j w) : Live y d := by
  cases d <;> first | trivial | exact hy _ _ _ rfl h

theorem Rel.put {n : Nat} {g : G} {β : Nat → Nat} {U : Nat → Prop} {y y' : Nat → Bool → Prop} {st : St} {a : Act} {w : World} (r : Rel n g β U y st a w) {t : Nat} {d : D} {v : Value}
    (ht : t < n) (hd : RS g β y' t d v) (hno : ∀ cs, d ≠ .own cs) (hb : Live y' d → ∀ s, baseOf d = some s → s ≠ t ∧ ∃ cs, look st.sl s = some (.own cs))
    (hy : ∀ s j w e, s ≠ t → look st.sl s = some (.may j w e) → y' j w → y j w) : Rel n g β U y' { st with sl := put st.sl t d } (a.put (some t) v) w where
  defers := by rw [defers_put]; exact r.defers
  size := by rw [size_put]; exact r.size
  keys := nodup_put r.keys t d
  slot s e h := by
    rcases look_put r.keys h with ⟨rfl, rfl⟩ | ⟨h1, h2, h3⟩
    · rw [getD_put_same (by rw [r.size]; exact ht)]; exact hd
    · rw [getD_put_other h1]
      have h4 := r.slot s e h3
      cases e <;> first | exact h4 | exact fun hh => h4 (hy _ _ _ _ h1 h3 hh)
  base s e u h hl hu := by
    rcases look_put r.keys h with ⟨rfl, rfl⟩ | ⟨h1, h2, h3⟩
    · obtain ⟨h5, cs, h6⟩ := hb hl u hu
      exact ⟨cs, look_put_other r.keys h6 h5 rfl⟩
    · obtain ⟨cs, h6⟩ := r.base s e u h3 (hl.back (fun j w e' he => hy s j w e' h1 (he ▸ h3))) hu
      refine ⟨cs, look_put_other r.keys h6 ?_ rfl⟩
      intro hut
      subst hut
      rw [isLp_base hu] at h2; cases h2
  own s cs h := by
    rcases look_put r.keys h with ⟨rfl, h1⟩ | ⟨h1, h2, h3⟩
    · exact absurd h1.symm (hno cs)
    · exact r.own s cs h3
  ownInj s s' cs cs' h h' e := by
    rcases look_put r.keys h with ⟨rfl, h1⟩ | ⟨h1, h2, h3⟩
    · exact absurd h1.symm (hno cs)
    · rcases look_put r.keys h' with ⟨rfl, h1'⟩ | ⟨h1', h2', h3'⟩
      · exact absurd h1'.symm (hno cs')
      · exact r.ownInj s s' cs cs' h3 h3' e
  inv := r.inv

theorem Rel.purged {n : Nat} {g : G} {β : Nat → Nat} {U : Nat → Prop} {y : Nat → Bool → Prop} {st : St} {a : Act} {w : World} (r : Rel n g β U y st a w) (y' : Nat → Bool → Prop) :
    Rel n g β U y' { st with sl := purge st.sl } a w where
  defers := r.defers
  size := r.size
  keys := r.keys.sublist ((purge_sublist _).map _)
  slot s e h := by
    obtain ⟨h1, h2⟩ := look_purge r.keys h
    have h3 := r.slot s e h1
    cases e <;> first | exact h3 | cases h2
  base s e u h _ hu := by
    obtain ⟨h1, h2⟩ := look_purge r.keys h
    obtain ⟨cs, h3⟩ := r.base s e u h1 (by cases e <;> first | trivial | cases h2) hu
    exact ⟨cs, look_purge_of r.keys h3 rfl⟩
  own s cs h := r.own s cs (look_purge r.keys h).1
  ownInj s s' cs cs' h h' e := r.ownInj s s' cs cs' (look_purge r.keys h).1 (look_purge r.keys h').1 e
  inv := r.inv

theorem heap_alloc_new (w : World) (o : Obj) : (w.alloc o).heap[w.heap.size]? = some o := by
  show (w.heap.push o)[w.heap.size]? = _
  simp
theorem heap_alloc_old (w : World) (o : Obj) {b : Nat} (h : b < w.heap.size) : (w.alloc o).heap[b]? = w.heap[b]? := by
  show (w.heap.push o)[b]? = _
  rw [Array.getElem?_push, if_neg (by omega)]

theorem below_alloc (w : World) (o : Obj) : RowKit.Below w.heap.size w (w.alloc o) :=
  ⟨rfl, rfl, rfl, by simp, fun _ h => heap_alloc_old w o h⟩

/-- A new block of which nothing is known. -/
theorem Ext.alloc {g : G} {U : Nat → Prop} {h : Heap} {w : World} (i : Inv g U h w) (o : Obj) : Ext g w g (w.alloc o) :=
  ⟨G.le.refl g, rfl, rfl, fun _ _ e => .inl e, fun a v e => ⟨(World.cell?_alloc_lt (w := w) (o := o) (h := i.cellLt e)).trans (i.sub a v e).1, (i.sub a v e).2⟩, below_alloc w o⟩

/-- A slot gets a new box of the frame's own. -/
theorem Rel.boxed {n : Nat} {g : G} {β : Nat → Nat} {U : Nat → Prop} {y y' : Nat → Bool → Prop} {st : St} {a : Act} {w : World} (r : Rel n g β U y st a w) {t : Nat} {cs : List D} {vals : Array Value} {T : Nat}
    (ht : t < n) (hr : Rs g cs vals.toList)
    (hy : ∀ s j w e, s ≠ t → look st.sl s = some (.may j w e) → y' j w → y j w) :
    Rel n g (fun s => if s = t then w.heap.size else β s) U y' { st with sl := Ab.put st.sl t (.own cs) } (a.put (some t) (.pointer (some ⟨w.heap.size, 0, none⟩))) (w.alloc (.cells vals T (0, 0))) := by
  have r1 := r.ext (Ext.alloc r.inv (.cells vals T (0, 0)))
  have rl : ∀ s u, look st.sl s = some (.own u) → β s < w.heap.size := fun s u h => (r.own s u h).1.lt
  refine ⟨by rw [defers_put]; exact r1.defers, by rw [size_put]; exact r1.size, nodup_put r1.keys t _, fun s e h => ?_, fun s e u h hl hu => ?_, fun s u h => ?_, fun s s' u u' h h' e => ?_, r1.inv⟩
  · rcases look_put r1.keys h with ⟨rfl, rfl⟩ | ⟨h1, h2, h3⟩
    · rw [getD_put_same (by rw [r1.size]; exact ht)]; simp [RS]
    · rw [getD_put_other h1]
      have h4 := r1.slot s e h3
      have hb : ∀ u, baseOf e = some u → u ≠ t := fun u hu hut => by subst hut; rw [isLp_base hu] at h2; cases h2
      cases e with
      | lp u off => simp only [RS, RS0] at h4 ⊢; rw [if_neg (hb u rfl)]; exact h4
      | own u => simp only [RS] at h4 ⊢; rw [if_neg h1]; exact h4
      | may j w d =>
        intro hh
        have h5 := h4 (hy _ _ _ _ h1 h3 hh)
        cases d with
        | lp u off => simp only [RS0] at h5 ⊢; rw [if_neg (hb u rfl)]; exact h5
        | _ => exact h5
      | _ => exact h4
  · rcases look_put r1.keys h with ⟨rfl, rfl⟩ | ⟨h1, h2, h3⟩
    · cases hu
    · obtain ⟨c, h6⟩ := r1.base s e u h3 (hl.back (fun j w e' he => hy s j w e' h1 (he ▸ h3))) hu
      refine ⟨c, look_put_other r1.keys h6 ?_ rfl⟩
      intro hut
      subst hut
      rw [isLp_base hu] at h2; cases h2
  · rcases look_put r1.keys h with ⟨rfl, h1⟩ | ⟨h1, h2, h3⟩
    · cases h1
      simp only [if_true]
      refine ⟨⟨T, vals, heap_alloc_new _ _, hr⟩, fun hu => absurd (r.inv.ub _ hu) (by omega), fun x v e => ?_, fun l hl e => ?_, fun t' k n' h2 h3 h4 h5 => ?_⟩
      · have := r.inv.cellLt e; omega
      · cases hx : st.h.box l with
        | none => exact hl hx
        | some row =>
          obtain ⟨b, e1, e2, _⟩ := r.inv.box l row hx
          have h9 : b = w.heap.size := by rw [e1] at e; cases e; rfl
          have := e2.lt; omega
      · obtain ⟨k', e1, e2, e3⟩ := r.inv.tok t' k h2
        have : k' = n' := by rw [e1] at h3; cases h3; rfl
        subst this
        obtain ⟨b, e4, e5, _⟩ := (e3 h4).blockLt
        rw [e4] at h5
        simp at h5
    · have := r1.own s u h3
      simp only [if_neg h1]
      exact this
  · rcases look_put r1.keys h with ⟨rfl, h1⟩ | ⟨h1, h2, h3⟩
    · rcases look_put r1.keys h' with ⟨rfl, h1'⟩ | ⟨h1', h2', h3'⟩
      · rfl
      · simp only [if_true, if_neg h1'] at e
        have := rl s' u' h3'; omega
    · rcases look_put r1.keys h' with ⟨rfl, h1'⟩ | ⟨h1', h2', h3'⟩
      · simp only [if_true, if_neg h1] at e
        have := rl s u h3; omega
      · simp only [if_neg h1, if_neg h1'] at e
        exact r1.ownInj s s' u u' h3 h3' e

end Go.Ab
