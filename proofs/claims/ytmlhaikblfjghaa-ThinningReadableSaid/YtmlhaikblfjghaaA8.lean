/- The executor is sound, 4: new boxes, structs, slice literals. -/
import Derived.Test.YtmlhaikblfjghaaA7
namespace Go.Ab

/-- A new block whose cells will never change. -/
def addBlock (g : G) (b : Nat) (vals : Array Value) : G := { g with σ := fun a => if a.block = b then (if a.spot = none then vals[a.off]? else none) else g.σ a }

theorem addBlock_at (g : G) (b : Nat) (vals : Array Value) (j : Nat) : (addBlock g b vals).σ ⟨b, j, none⟩ = vals[j]? := by simp [addBlock]

theorem Ext.addBlock {g : G} {U : Nat → Prop} {h : Heap} {w : World} (i : Inv g U h w) (vals : Array Value) (T : Nat) : Ext g w (addBlock g w.heap.size vals) (w.alloc (.cells vals T (0, 0))) := by
  have old : ∀ a v, g.σ a = some v → (Ab.addBlock g w.heap.size vals).σ a = some v := fun a v e => by
    have := i.cellLt e
    simp only [Ab.addBlock]
    rw [if_neg (by omega)]; exact e
  refine ⟨⟨old, fun _ _ e => e, fun _ k e => ⟨k, e, rfl, Nat.le_refl _, fun _ => rfl⟩⟩, rfl, rfl, fun a v e => ?_, fun a v e => ?_, below_alloc w _⟩
  · simp only [Ab.addBlock] at e
    split at e
    · rename_i hb; exact .inr (by omega)
    · exact .inl e
  · simp only [Ab.addBlock] at e
    split at e
    · rename_i hb
      split at e
      · rename_i hs
        refine ⟨?_, hs⟩
        simp only [World.cell?, hb, heap_alloc_new, hs]
        simpa using e
      · cases e
    · exact ⟨(World.cell?_alloc_lt w _ a (i.cellLt e)).trans (i.sub a v e).1, (i.sub a v e).2⟩

section
variable {P : Program} {n : Nat} {g : G} {β : Nat → Nat} {U : Nat → Prop} {y : Nat → Bool → Prop} {st : St} {a : Act} {w : World} {ev : Operand → D} {o : Oper}

/-- What is read of an abstract row does not hang on where it lies. -/
def RowOf (g : G) (vals : Array Value) (row : Row) : Prop :=
  match row with
  | .lit cs => Rs g cs vals.toList
  | .arr n get => n ≤ vals.size ∧ ∀ i, i < n → ∃ v, vals[i]? = some v ∧ R g (get i) v

theorem RowAt.of {g : G} {w : World} {b T : Nat} {vals : Array Value} {row : Row} (h : w.heap[b]? = some (.cells vals T (0, 0))) (hr : RowOf g vals row) : RowAt g w b row := by
  refine ⟨T, vals, h, ?_⟩; cases row <;> exact hr

theorem RowOf.mono {g g' : G} {vals : Array Value} {row : Row} (h : RowOf g vals row) (l : G.le g g') : RowOf g' vals row := by
  cases row with
  | lit cs => exact Rs.mono l _ _ h
  | arr n get => exact ⟨h.1, fun i hi => by obtain ⟨v, hv, h1⟩ := h.2 i hi; exact ⟨v, hv, R.mono l _ _ h1⟩⟩

def addBox (g : G) (l b : Nat) : G := { g with μ := upd g.μ l (some b) }

theorem upd_same {α : Type} (f : Nat → α) (k : Nat) (v : α) : upd f k v k = v := by simp [upd, beq_eq]
theorem upd_other {α : Type} (f : Nat → α) {k i : Nat} (v : α) (h : i ≠ k) : upd f k v i = f i := by simp only [upd]; rw [beq_ff.2 h]; rfl

theorem addBox_le {g : G} {l b : Nat} (h : g.μ l = none) : G.le g (addBox g l b) :=
  ⟨fun _ _ e => e, fun l' b' e => by
    simp only [addBox]
    rw [upd_other _ _ (by intro hl; subst hl; rw [h] at e; cases e)]; exact e,
   fun _ k e => ⟨k, e, rfl, Nat.le_refl _, fun _ => rfl⟩⟩

/-- A new box in the heap. -/
theorem Rel.newBox (r : Rel n g β U y st a w) {row : Row} {vals : Array Value} {T : Nat} (hr : RowOf g vals row) :
    Rel n (addBox g st.h.nl w.heap.size) β U y { st with h := { st.h with box := upd st.h.box st.h.nl (some row), nl := st.h.nl + 1 } } a (w.alloc (.cells vals T (0, 0))) := by
  have hnone := r.inv.frL st.h.nl (Nat.le_refl _)
  have le := addBox_le (b := w.heap.size) hnone
  have r1 := r.ext (Ext.alloc r.inv (.cells vals T (0, 0)))
  refine ⟨r1.defers, r1.size, r1.keys, fun t d h => (r1.slot t d h).mono le, r1.base, fun t cs h => ?_, r1.ownInj, ?_⟩
  · obtain ⟨h1, h2, h3, h4, h5⟩ := r1.own t cs h
    refine ⟨h1.mono le rfl, h2, h3, fun l hl e => ?_, h5⟩
    by_cases hx : l = st.h.nl
    · subst hx
      simp only [addBox, upd_same, Option.some.injEq] at e
      have := (r.own t cs h).1.lt; omega
    · simp only [addBox, upd_other _ _ hx] at e hl
      exact h4 l hl e
  · have i := r1.inv
    refine ⟨i.sub, i.ub, fun l b e => ?_, fun l row' e => ?_, fun l l' b e e1 e2 => ?_, fun t m e => ?_, fun t m k b l e e1 e2 e3 e4 e5 => ?_, i.tokInj, fun l hl => ?_, i.frT⟩
    · by_cases hx : l = st.h.nl
      · subst hx
        simp only [addBox, upd_same, Option.some.injEq] at e
        subst e; simp
      · simp only [addBox, upd_other _ _ hx] at e
        exact i.muLt l b e
    · have e' : upd st.h.box st.h.nl (some row) l = some row' := e
      clear e
      by_cases hx : l = st.h.nl
      · subst hx
        simp only [upd_same, Option.some.injEq] at e'
        subst e'
        refine ⟨w.heap.size, by simp [addBox, upd_same], RowAt.of (heap_alloc_new w _) (hr.mono le), fun hu => absurd (r.inv.ub _ hu) (by omega), fun x v hv => ?_⟩
        have := r.inv.cellLt hv; omega
      · rw [upd_other _ _ hx] at e'
        obtain ⟨b, e1, e2, e3, e4⟩ := i.box l row' e'
        exact ⟨b, by simp only [addBox, upd_other _ _ hx]; exact e1, e2.mono le rfl, e3, e4⟩
    · by_cases hx : l = st.h.nl
      · subst hx
        simp only [addBox, upd_same, Option.some.injEq] at e1
        by_cases hx' : l' = st.h.nl
        · exact hx'.symm
        · simp only [addBox, upd_other _ _ hx'] at e2
          have := r.inv.muLt l' b e2; omega
      · simp only [upd_other _ _ hx] at e
        simp only [addBox, upd_other _ _ hx] at e1
        by_cases hx' : l' = st.h.nl
        · subst hx'
          simp only [addBox, upd_same, Option.some.injEq] at e2
          have := r.inv.muLt l b e1; omega
        · simp only [addBox, upd_other _ _ hx'] at e2
          exact i.boxInj l l' b e e1 e2
    · obtain ⟨k, e1, e2, e3⟩ := i.tok t m e
      refine ⟨k, e1, e2, fun hk => ?_⟩
      obtain ⟨b, f1, f2, T', vals', f3, f4, f5⟩ := e3 hk
      exact ⟨b, f1, f2, T', vals', f3, f4, f5⟩
    · by_cases hx : l = st.h.nl
      · subst hx
        simp only [addBox, upd_same, Option.some.injEq] at e5
        obtain ⟨k', f1, f2, f3⟩ := r.inv.tok t m e
        have e1' : g.τ t = some k := e1
        have : k' = k := by rw [f1] at e1'; cases e1'; rfl
        subst this
        obtain ⟨b', g1, g2, _⟩ := (f3 e2).blockLt
        rw [g1] at e3; simp at e3
      · simp only [upd_other _ _ hx] at e4
        simp only [addBox, upd_other _ _ hx] at e5
        exact i.tokBox t m k b l e e1 e2 e3 e4 e5
    · simp only [addBox]
      have hl' : st.h.nl + 1 ≤ l := hl
      rw [upd_other _ _ (by omega)]
      exact i.frL l (by omega)

theorem newRes_ok (r : Rel n g β U y st a w) {cfg : Cfg} {cs : List D} {vals : Array Value} {T : Nat} (hr : (execOp a.eval o).run P w = .ok (.value (.pointer (some ⟨w.heap.size, 0, none⟩))) (w.alloc (.cells vals T (0, 0))))
    (hs : Rs g cs vals.toList) : ResOk P n g β U y st a w o (newRes cfg st o.dst cs) := by
  unfold newRes
  cases hd : o.dst with
  | none => trivial
  | some d =>
    simp only
    cases cfg.esc d with
    | false => exact ⟨by rw [hd]; simp, T, vals, .inl hr, hs⟩
    | true =>
      simp only [cond_true]
      intro _
      have hn := r.inv.frL st.h.nl (Nat.le_refl _)
      exact ⟨_, _, addBox g st.h.nl w.heap.size, .inl hr, Rel.newBox r (row := .lit cs) hs, Grow.sameσ (addBox_le hn) rfl, (Ext.alloc r.inv _).kept r.inv.ub, by simp only [RS0, R]; exact ⟨w.heap.size, by simp [addBox, upd_same], rfl⟩, rfl⟩

theorem alloc_ok (r : Rel n g β U y st a w) {cfg : Cfg} {t : Nat} (ho : o.op = .alloc t) :
    ResOk P n g β U y st a w o (match zeroD P t with | some z => bif isD z then newRes cfg st o.dst (cellsD z) else .bad | none => .bad) := by
  cases hz : zeroD P t with
  | none => trivial
  | some z =>
    simp only
    cases hd : isD z with
    | false => trivial
    | true =>
      obtain ⟨v, h1, h2⟩ := zeroD_sound hz hd w
      refine newRes_ok r (vals := v.cells) (T := t) ?_ (h2 g).cells
      simp [execOp, ho, Instr.alloc, h1, newVar, newRow]

theorem box_ok (r : Rel n g β U y st a w) (e : Ev g β st.sl a ev) {cfg : Cfg} {t : Nat} {x : Operand} (ho : o.op = .box t x) :
    ResOk P n g β U y st a w o (bif isD (ev x) then newRes cfg st o.dst (cellsD (ev x)) else .bad) := by
  cases hd : isD (ev x) with
  | false => trivial
  | true =>
    refine newRes_ok r (vals := (a.eval x).cells) (T := t) ?_ (e.data hd).cells
    simp [execOp, ho, Instr.box, newVar, newRow]

/-! ### Structs and slice literals -/

theorem foldl_set (off : Nat) : ∀ (vs : List Value) (k : Nat) (cells : Array Value), off + k + vs.length ≤ cells.size →
    ((vs.zipIdx k).foldl (fun (cs : Array Value) (x : Value × Nat) => cs.setIfInBounds (off + x.2) x.1) cells).toList = cells.toList.take (off + k) ++ vs ++ cells.toList.drop (off + k + vs.length)
  | [], k, cells, h => by simp
  | v :: r, k, cells, h => by
    simp only [List.zipIdx_cons, List.foldl_cons]
    rw [foldl_set off r (k + 1) _ (by simp at h ⊢; omega)]
    simp only [List.length_cons] at h
    have hk : off + k < cells.toList.length := by simp; omega
    obtain ⟨A, x, B, hL, hA⟩ : ∃ A x B, cells.toList = A ++ x :: B ∧ A.length = off + k :=
      ⟨cells.toList.take (off + k), cells.toList[off + k], cells.toList.drop (off + k + 1), by rw [← List.drop_eq_getElem_cons hk, List.take_append_drop], by rw [List.length_take]; omega⟩
    have hset : (cells.setIfInBounds (off + k) v).toList = A ++ v :: B := by
      rw [Array.toList_setIfInBounds, hL, ← hA, List.set_append_right _ _ (Nat.le_refl _)]; simp
    rw [hset, hL, ← hA]
    have e1 : (A ++ v :: B).take (off + (k + 1)) = A ++ [v] := by
      have : off + (k + 1) = A.length + 1 := by omega
      rw [this, List.take_append, List.take_of_length_le (Nat.le_succ _)]; simp
    have e2 : (A ++ v :: B).drop (off + (k + 1) + r.length) = B.drop r.length := by
      have : off + (k + 1) + r.length = A.length + (r.length + 1) := by omega
      rw [this, List.drop_append]; simp
    have e3 : (A ++ x :: B).drop (A.length + (v :: r).length) = B.drop r.length := by
      rw [List.drop_append]; simp
    rw [e1, e2, e3]
    simp

theorem fillD_sound {place placeM : Nat → Option (Nat × Nat)} (hp : ∀ i q, place i = some q → placeM i = some q) :
    ∀ (l : List (Nat × D)) (l' : List (Nat × Value)) (cs : List D) (cells : Array Value) (out : List D), l.length = l'.length → (∀ (i : Nat) (x : Nat × D) (z : Nat × Value), l[i]? = some x → l'[i]? = some z → x.1 = z.1 ∧ (isD x.2 = true → R g x.2 z.2)) →
      Rs g cs cells.toList → fillD place cs l = some out → ∃ res, Instr.fill placeM cells l' = some res ∧ Rs g out res.toList
  | [], [], cs, cells, out, _, _, hs, h => by
    simp only [fillD, Option.some.injEq] at h; subst h
    exact ⟨cells, rfl, hs⟩
  | [], _ :: _, _, _, _, hl, _, _, _ => by simp at hl
  | _ :: _, [], _, _, _, hl, _, _, _ => by simp at hl
  | (i, d) :: l, (i', v) :: l', cs, cells, out, hl, hx, hs, h => by
    obtain ⟨rfl, hd⟩ := hx 0 _ _ rfl rfl
    simp only at hd
    simp only [fillD] at h
    cases hq : place i with
    | none => rw [hq] at h; cases h
    | some q =>
      obtain ⟨off, size⟩ := q
      rw [hq] at h
      simp only at h
      cases hb : (isD d && Nat.beq (cellsD d).length size && Nat.ble (off + size) cs.length) with
      | false => rw [hb] at h; cases h
      | true =>
        rw [hb] at h
        simp only [cond_true] at h
        simp only [Bool.and_eq_true] at hb
        obtain ⟨⟨h1, h2⟩, h3⟩ := hb
        have hr := (hd h1).cells
        have h2' := beq_eq.1 h2
        have h3' := Nat.le_of_ble_eq_true h3
        have hvl : v.cells.size = size := by have := hr.length; simp at this; omega
        have hcl : cells.size = cs.length := by have := hs.length; simpa using this
        have hfold : ((v.cells.zipIdx.foldl (fun (cs : Array Value) (x : Value × Nat) => cs.setIfInBounds (off + x.2) x.1) cells)).toList = cells.toList.take off ++ v.cells.toList ++ cells.toList.drop (off + v.cells.toList.length) := by
          have := foldl_set off v.cells.toList 0 cells (by simp; omega)
          rw [← Array.foldl_toList, Array.toList_zipIdx]
          simpa using this
        have := fillD_sound hp l l' (splice cs off (cellsD d)) _ out (by simpa using hl) (fun j x z h4 h5 => hx (j + 1) x z (by simpa using h4) (by simpa using h5))
          (by rw [hfold]; unfold splice; have hll : v.cells.toList.length = (cellsD d).length := hr.length; rw [hll]; exact ((hs.take off).append hr).append (hs.drop _)) h
        obtain ⟨res, h6, h7⟩ := this
        refine ⟨res, ?_, h7⟩
        simp only [Instr.fill, hp _ _ hq]
        rw [if_neg (by simp; omega)]
        exact h6

theorem mapM_places : ∀ (fs : List Field), fs.all (fun f => (szOf P f.type).isSome) = true →
    (fs.mapM fun f => (do pure (f.offset, ← sizeOf f.type) : Sem (Nat × Nat))).run P w = .ok (fs.map fun f => (f.offset, (szOf P f.type).getD 0)) w
  | [], _ => by simp
  | f :: r, h => by
    simp only [List.all_cons, Bool.and_eq_true] at h
    cases hz : szOf P f.type with
    | none => rw [hz] at h; simp at h
    | some m =>
      have ih := mapM_places r h.2
      simp only [List.mapM_cons, Sem.run_bind, szOf_sound hz, Result.andThen_ok, Sem.run_pure, List.map_cons, hz, Option.getD_some]
      rw [ih]
      rfl

theorem zip_parts (e : Ev g β st.sl a ev) (parts : Array (Nat × Operand)) (i : Nat) (x : Nat × D) (z : Nat × Value) (h1 : (parts.toList.map fun (q : Nat × Operand) => (q.1, ev q.2))[i]? = some x)
    (h2 : (parts.toList.map fun (q : Nat × Operand) => (q.1, a.eval q.2))[i]? = some z) : x.1 = z.1 ∧ (isD x.2 = true → R g x.2 z.2) := by
  rw [List.getElem?_map] at h1 h2
  cases hp : parts.toList[i]? with
  | none => rw [hp] at h1; cases h1
  | some q =>
    rw [hp] at h1 h2
    simp only [Option.map_some, Option.some.injEq] at h1 h2
    subst h1; subst h2
    exact ⟨rfl, fun hd => e.data hd⟩

theorem build_ok (r : Rel n g β U y st a w) (e : Ev g β st.sl a ev) {t : Nat} {parts : Array (Nat × Operand)} (ho : o.op = .build t parts) :
    ResOk P n g β U y st a w o (optRes (buildD P t (parts.toList.map fun (x : Nat × Operand) => (x.1, ev x.2)))) := by
  unfold buildD
  split
  · rename_i z fs hz hu
    cases hc : (isD z && fs.toList.all (fun f => (szOf P f.type).isSome)) with
    | false => trivial
    | true =>
      simp only [Bool.and_eq_true] at hc
      simp only [cond_true]
      cases hf : fillD (fieldD P t) (cellsD z) (parts.toList.map fun (x : Nat × Operand) => (x.1, ev x.2)) with
      | none => trivial
      | some cs =>
        obtain ⟨v, h1, h2⟩ := zeroD_sound hz hc.1 w
        have hplace : ∀ i q, fieldD P t i = some q → (fs.toList.map fun f => (f.offset, (szOf P f.type).getD 0))[i]? = some q := by
          intro i q hq
          obtain ⟨off, sz⟩ := q
          obtain ⟨fs', x, h3, h4, h5, h6, _⟩ := fieldD_sound hq
          rw [hu] at h3; cases h3
          rw [List.getElem?_map]
          have : fs.toList[i]? = some x := by simpa using h4
          rw [this]; simp [h5, h6]
        obtain ⟨res, h3, h4⟩ := fillD_sound (g := g) hplace _ (parts.toList.map fun (q : Nat × Operand) => (q.1, a.eval q.2)) (cellsD z) v.cells cs (by simp) (zip_parts e parts) (h2 g).cells hf
        refine resVal (v := .agg res) r ?_ (by simp only [R]; exact ⟨res.toList, by simp, h4⟩)
        have hm : (fs.mapM fun f => (do pure (f.offset, ← sizeOf f.type) : Sem (Nat × Nat))).run P w = .ok (fs.toList.map fun f => (f.offset, (szOf P f.type).getD 0)).toArray w := by
          rw [Array.mapM_eq_mapM_toList, Sem.run_map, mapM_places fs.toList hc.2]; rfl
        have hpl : (parts.map fun (i, x) => (i, a.eval x)).toList = parts.toList.map fun (q : Nat × Operand) => (q.1, a.eval q.2) := by simp
        have hfill : Instr.fill (fun x => (fs.toList.map fun f => (f.offset, (szOf P f.type).getD 0)).toArray[x]?) v.cells (parts.toList.map fun (q : Nat × Operand) => (q.1, a.eval q.2)) = some res := by
          rw [← h3]; congr 1; funext i; simp
        simp only [execOp, ho, Instr.build, Sem.run_bind, h1, Result.andThen_ok, run_underlying hu, hm, hpl, hfill, Sem.run_pure]
  · trivial

/-- Slice literals: the elements, one behind the other. -/
theorem fill_seq (sz : Nat) : ∀ (vs : List Value) (k : Nat) (cells : Array Value), (∀ v ∈ vs, v.cells.size = sz) → (k + vs.length) * sz ≤ cells.size →
    ∃ out, Instr.fill (fun i => some (i * sz, sz)) cells (vs.zipIdx k |>.map fun x => (x.2, x.1)) = some out ∧ out.size = cells.size ∧ (∀ j, j < k * sz → out[j]? = cells[j]?) ∧
      ∀ i v, vs[i]? = some v → ∀ j, j < sz → out[(k + i) * sz + j]? = v.cells[j]?
  | [], k, cells, _, _ => ⟨cells, rfl, rfl, fun _ _ => rfl, fun i v h => by simp at h⟩
  | v :: r, k, cells, hv, hl => by
    have hs : v.cells.size = sz := hv v (List.mem_cons_self ..)
    have hlen : (v :: r).length = r.length + 1 := rfl
    rw [hlen] at hl
    have hb : k * sz + sz ≤ cells.size := by
      have : (k + 1) * sz ≤ (k + (r.length + 1)) * sz := Nat.mul_le_mul_right _ (by omega)
      rw [Nat.add_mul] at this; omega
    have hfold := foldl_set (k * sz) v.cells.toList 0 cells (by simp; omega)
    let mid := v.cells.zipIdx.foldl (fun (cs : Array Value) (x : Value × Nat) => cs.setIfInBounds (k * sz + x.2) x.1) cells
    have hmid : mid.toList = cells.toList.take (k * sz) ++ v.cells.toList ++ cells.toList.drop (k * sz + sz) := by
      show (v.cells.zipIdx.foldl _ cells).toList = _
      rw [← Array.foldl_toList, Array.toList_zipIdx]
      simpa [hs] using hfold
    have hmsz : mid.size = cells.size := by
      have := congrArg List.length hmid
      simp at this; omega
    have hkr : k + 1 + r.length = k + (r.length + 1) := by omega
    obtain ⟨out, h1, h2, h3, h4⟩ := fill_seq sz r (k + 1) mid (fun x hx => hv x (List.mem_cons_of_mem _ hx)) (by rw [hmsz, hkr]; exact hl)
    have hk1 : (k + 1) * sz = k * sz + sz := by rw [Nat.add_mul, Nat.one_mul]
    have midget : ∀ j, j < k * sz + sz → mid[j]? = if j < k * sz then cells[j]? else v.cells[j - k * sz]? := by
      intro j hj
      have : mid[j]? = mid.toList[j]? := by simp
      rw [this, hmid]
      by_cases hjk : j < k * sz
      · rw [if_pos hjk, List.append_assoc, List.getElem?_append_left (by simp; omega), List.getElem?_take, if_pos hjk]; simp
      · rw [if_neg hjk, List.append_assoc, List.getElem?_append_right (by simp; omega)]
        have hlt : (cells.toList.take (k * sz)).length = k * sz := by simp; omega
        rw [hlt, List.getElem?_append_left (by simp; omega)]; simp
    refine ⟨out, ?_, by rw [h2, hmsz], fun j hj => ?_, fun i u hu j hj => ?_⟩
    · simp only [List.zipIdx_cons, List.map_cons, Instr.fill]
      rw [if_neg (by simp; omega)]
      exact h1
    · rw [h3 j (by rw [hk1]; omega), midget j (by omega), if_pos hj]
    · cases i with
      | zero =>
        simp only [List.getElem?_cons_zero, Option.some.injEq] at hu
        subst hu
        rw [Nat.add_zero, h3 _ (by rw [hk1]; omega), midget _ (by omega), if_neg (by omega)]
        congr 1; omega
      | succ i =>
        have := h4 i u (by simpa using hu) j hj
        rw [show k + (i + 1) = k + 1 + i from by omega]
        exact this

theorem litParts_sound (e : Ev g β st.sl a ev) : ∀ (l : List (Nat × Operand)) (k : Nat) (ds : List D), litParts k (l.map fun (q : Nat × Operand) => (q.1, ev q.2)) = some ds →
    ∃ vs : List Value, (l.map fun (q : Nat × Operand) => (q.1, a.eval q.2)) = ((vs.zipIdx k).map fun x => (x.2, x.1)) ∧ Rs g ds vs
  | [], k, ds, h => by simp only [List.map_nil, litParts, Option.some.injEq] at h; subst h; exact ⟨[], rfl, rfl⟩
  | (i, x) :: l, k, ds, h => by
    simp only [List.map_cons, litParts] at h
    cases hb : (Nat.beq k i && isD (ev x)) with
    | false => rw [hb] at h; cases h
    | true =>
      rw [hb] at h
      simp only [cond_true, Bool.and_eq_true] at h hb
      cases hr : litParts (k + 1) (l.map fun (q : Nat × Operand) => (q.1, ev q.2)) with
      | none => rw [hr] at h; cases h
      | some ds' =>
        rw [hr] at h
        simp only [Option.map_some, Option.some.injEq] at h
        subst h
        obtain ⟨vs, h1, h2⟩ := litParts_sound e l (k + 1) ds' hr
        have hk := beq_eq.1 hb.1
        subst hk
        refine ⟨a.eval x :: vs, ?_, ?_⟩
        · simp only [List.map_cons, List.zipIdx_cons, h1]
        · simp only [Rs]; exact ⟨_, _, rfl, e.data hb.2, h2⟩

/-- A slice over the cells of a new block that will not change. -/
theorem R.newList {g : G} {U : Nat → Prop} {h : Heap} {w : World} (i : Inv g U h w) {ds : List D} {vs : List Value} {cells : Array Value} {sz cap T : Nat} (hs : Rs g ds vs) (hsz : ∀ v ∈ vs, v.cells.size = sz)
    (hc : ∀ (i : Nat) (v : Value), vs[i]? = some v → ∀ j, j < sz → cells[i * sz + j]? = v.cells[j]?) (h1 : ∀ d ∈ ds, ones d = true) (hn : vs.length ≤ lenM) (hcap : vs.length ≤ cap) (own : Own) (hown : own = .none ∨ (own = .full ∧ cap = vs.length)) :
    R (addBlock g w.heap.size cells) (.list vs.length sz (litG ds) own) (.slice (some ⟨w.heap.size, 0, none⟩) vs.length cap) := by
  have le := (Ext.addBlock i cells T).le
  simp only [R]
  refine ⟨hn, _, _, rfl, hcap, ?_, fun k hk => ?_⟩
  · rcases hown with rfl | ⟨rfl, h⟩
    · trivial
    · exact h
  · have hv : vs[k]? = some vs[k] := List.getElem?_eq_getElem hk
    have hdk : k < ds.length := by rw [← hs.length]; exact hk
    obtain ⟨v', hv', hr⟩ := hs.get k ds[k] (List.getElem?_eq_getElem hdk)
    rw [hv] at hv'; cases hv'
    have hlk : litG ds k = ds[k] := by simp [litG, hdk]
    refine ⟨_, vs[k], rfl, rfl, ?_, ⟨hsz _ (List.getElem_mem hk), by rw [hlk]; exact h1 _ (List.getElem_mem hdk)⟩, fun j hj => ?_⟩
    · have : litG ds k = ds[k] := by simp [litG, hdk]
      rw [this]; exact R.mono le _ _ hr
    · rw [addBlock_at, ← hc k _ hv j hj]; simp

theorem buildSlice_ok (r : Rel n g β U y st a w) (e : Ev g β st.sl a ev) {t len : Nat} {parts : Array (Nat × Operand)} (ho : o.op = .buildSlice t len parts) :
    ResOk P n g β U y st a w o (optRes (buildSliceD P t len (parts.toList.map fun (x : Nat × Operand) => (x.1, ev x.2)))) := by
  unfold buildSliceD
  split
  · rename_i el hu
    split
    · rename_i sz z ds hz hze hp
      cases hc : (isD z && Nat.beq (cellsD z).length sz && Nat.beq ds.length len && Nat.ble len 65536 && Nat.ble (len * sz) 65536 && ds.all (fun d => Nat.beq (cellsD d).length sz) && ds.all ones) with
      | false => trivial
      | true =>
        simp only [Bool.and_eq_true, List.all_eq_true] at hc
        obtain ⟨⟨⟨⟨⟨⟨h1, h2⟩, h3⟩, h40⟩, h4⟩, h5⟩, h11⟩ := hc
        have h2 := beq_eq.1 h2
        have h3 := beq_eq.1 h3
        have h4 := Nat.le_of_ble_eq_true h4
        have h40 := Nat.le_of_ble_eq_true h40
        obtain ⟨vs, h6, h7⟩ := litParts_sound e _ 0 ds hp
        obtain ⟨zv, h8, h9⟩ := zeroD_sound hze h1 w
        have hzs : zv.cells.size = sz := by have := (h9 g).cells.length; simp at this; omega
        have hvl : vs.length = len := by rw [h7.length]; exact h3
        have hvs : ∀ v ∈ vs, v.cells.size = sz := by
          intro v hv
          obtain ⟨k, hk, rfl⟩ := List.getElem_of_mem hv
          have hdk : k < ds.length := by rw [← h7.length]; exact hk
          obtain ⟨v', hv', hr⟩ := h7.get k ds[k] (List.getElem?_eq_getElem hdk)
          rw [List.getElem?_eq_getElem hk] at hv'; cases hv'
          have := hr.cells.length
          have h10 := beq_eq.1 (h5 _ (List.getElem_mem hdk))
          simp at this; omega
        let base : Array Value := (Array.range (len * sz)).map (zv.cells[· % zv.cells.size]!)
        have hbs : base.size = len * sz := by simp [base]
        obtain ⟨out, f1, f2, _, f4⟩ := fill_seq sz vs 0 base hvs (by rw [hbs, hvl]; simp)
        have hrun : (execOp a.eval o).run P w = .ok (.value (.slice (some ⟨w.heap.size, 0, none⟩) len len)) (w.alloc (.cells out el (0, 0))) := by
          have hpl : (parts.map fun (i, x) => (i, a.eval x)).toList = parts.toList.map fun (q : Nat × Operand) => (q.1, a.eval q.2) := by simp
          have hle : ¬ (len * sz > 2 ^ 24) := by omega
          simp only [execOp, ho, Instr.buildSlice, Sem.run_bind, run_underlying hu, Result.andThen_ok, szOf_sound hz]
          rw [if_neg hle]
          have hfill : Instr.fill (fun i => some (i * sz, sz)) base (parts.map fun (i, x) => (i, a.eval x)).toList = some out := by rw [hpl, h6]; exact f1
          by_cases h0 : len * sz = 0
          · have hb0 : base = (Array.range (len * sz)).map fun i => (#[] : Array Value)[i % (#[] : Array Value).size]! := by simp [base, h0]
            rw [hb0] at hfill
            rw [if_pos h0]
            simp only [Result.andThen_ok, Sem.run_bind, Sem.run_pure, hfill]
            simp [newRow]
          · rw [if_neg h0]
            simp only [Result.andThen_ok, Sem.run_bind, Sem.run_pure, h8]
            have : Instr.fill (fun i => some (i * sz, sz)) ((Array.range (len * sz)).map fun x => zv.cells[x % zv.cells.size]!) (parts.map fun (i, x) => (i, a.eval x)).toList = some out := hfill
            simp only [this]
            simp [newRow]
        have hx := Ext.addBlock r.inv out el
        refine ⟨DOk.ofD rfl, ⟨_, _, _, .inl hrun, hx, ?_⟩⟩
        have := R.newList r.inv (T := el) h7 hvs (cells := out) (by simpa using f4) h11 (by rw [hvl]; unfold lenM; omega) (cap := vs.length) (Nat.le_refl _) .full (.inr ⟨rfl, rfl⟩)
        rw [hvl] at this
        exact RS0.ofR this
    · trivial
  · trivial

end
end Go.Ab
