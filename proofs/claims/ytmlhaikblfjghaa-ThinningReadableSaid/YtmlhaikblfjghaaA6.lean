/- The executor is sound, 2: the operations. -/
import Derived.Test.YtmlhaikblfjghaaA5
namespace Go.Ab

/-- The operation yields v. -/
def Yields (P : Program) (a : Act) (o : Oper) (w : World) (v : Value) (w' : World) : Prop :=
  (execOp a.eval o).run P w = .ok (.value v) w' ∨ ((execOp a.eval o).run P w = .ok .skip w' ∧ v = undef)

structure VOk (P : Program) (g : G) (β : Nat → Nat) (a : Act) (o : Oper) (w : World) (d : D) : Prop where
  it : ∃ v w' g', Yields P a o w v w' ∧ Ext g w g' w' ∧ RS0 g' β d v

/-- Operands read as they are said to. -/
structure Ev (g : G) (β : Nat → Nat) (sl : Slots) (a : Act) (ev : Operand → D) : Prop where
  ok : ∀ x, ev x ≠ .junk → RS0 g β (ev x) (a.eval x)
  base : ∀ x s off, ev x = .lp s off → ∃ cs, look sl s = some (.own cs)
  noOwn : ∀ x cs, ev x ≠ .own cs
  noMay : ∀ x j w d, ev x ≠ .may j w d

def DOk (sl : Slots) (d : D) : Prop := okMay d = true ∧ ∀ s, baseOf d = some s → ∃ cs, look sl s = some (.own cs)

theorem RS0.ofR {g : G} {β : Nat → Nat} {d : D} {v : Value} (h : R g d v) : RS0 g β d v := by
  cases d <;> first | exact h | (simp [R] at h)

theorem R.ofRS0 {g : G} {β : Nat → Nat} {d : D} {v : Value} (h : RS0 g β d v) (hd : isD d = true) : R g d v := by
  cases d <;> first | exact h | cases hd

theorem Ev.data {g : G} {β : Nat → Nat} {sl : Slots} {a : Act} {ev : Operand → D} (e : Ev g β sl a ev) {x : Operand} (h : isD (ev x) = true) : R g (ev x) (a.eval x) :=
  R.ofRS0 (e.ok x (fun hj => by rw [hj] at h; cases h)) h

theorem isD_okMay {d : D} (h : isD d = true) : okMay d = true := by cases d <;> first | rfl | cases h

theorem DOk.ofD {sl : Slots} {d : D} (h : isD d = true) : DOk sl d := ⟨isD_okMay h, fun s hs => by cases d <;> first | exact Bool.noConfusion (show false = true from h) | cases hs⟩

theorem R.isD {g : G} {d : D} {v : Value} (h : R g d v) : isD d = true := by cases d <;> first | rfl | (simp [R] at h)

/-- A quiet value that needs no new memory. -/
theorem VOk.plain {P : Program} {g : G} {β : Nat → Nat} {U : Nat → Prop} {h : Heap} {a : Act} {o : Oper} {w : World} {d : D} {v : Value} (i : Inv g U h w)
    (hr : (execOp a.eval o).run P w = .ok (.value v) w) (hv : RS0 g β d v) : VOk P g β a o w d := ⟨v, w, g, .inl hr, Ext.refl i, hv⟩

/-! ### Values of the text -/

mutual
theorem R.ofVal (g : G) : ∀ (v : Value), isD (ofVal v) = true → R g (ofVal v) v
  | .bool _, _ => by simp [Ab.ofVal, R]
  | .int _ _, _ => by simp [Ab.ofVal, R]
  | .string s, h => by
    simp only [Ab.ofVal] at h ⊢
    cases hb : Nat.ble s.data.toList.length strM with
    | true => simp only [cond_true, R]; exact ⟨trivial, Nat.le_of_ble_eq_true hb⟩
    | false => rw [hb] at h; cases h
  | .pointer none, _ => by simp [Ab.ofVal, R]
  | .pointer (some _), h => by simp [Ab.ofVal, Ab.isD] at h
  | .slice none 0 0, _ => by
    simp only [Ab.ofVal, R]
    exact ⟨Nat.zero_le _, none, 0, rfl, Nat.le_refl _, rfl, fun i hi => absurd hi (by omega)⟩
  | .slice none 0 (n + 1), h => by simp [Ab.ofVal, Ab.isD] at h
  | .slice none (n + 1) _, h => by simp [Ab.ofVal, Ab.isD] at h
  | .slice (some _) _ _, h => by simp [Ab.ofVal, Ab.isD] at h
  | .map none, _ => by simp [Ab.ofVal, R]
  | .map (some _), h => by simp [Ab.ofVal, Ab.isD] at h
  | .nilFunc, _ => by simp [Ab.ofVal, R]
  | .nilIface, _ => by simp [Ab.ofVal, R]
  | .agg ⟨cs⟩, h => by
    simp only [Ab.ofVal] at h ⊢
    cases hb : (ofVals cs).all Ab.isD with
    | true => simp only [cond_true, R]; exact ⟨cs, rfl, Rs.ofVals g cs hb⟩
    | false => rw [hb] at h; cases h
  | .tuple ⟨cs⟩, h => by
    simp only [Ab.ofVal] at h ⊢
    cases hb : (ofVals cs).all Ab.isD with
    | true => simp only [cond_true, R]; exact ⟨cs, rfl, Rs.ofVals g cs hb⟩
    | false => rw [hb] at h; cases h
  | .float _ _, h | .complex _ _ _, h | .chan _, h | .func _ _ _, h | .iface _ _, h => by simp [Ab.ofVal, Ab.isD] at h
theorem Rs.ofVals (g : G) : ∀ (vs : List Value), (ofVals vs).all Ab.isD = true → Rs g (ofVals vs) vs
  | [], _ => by simp [Ab.ofVals, Rs]
  | v :: r, h => by
    simp only [Ab.ofVals, List.all_cons, Bool.and_eq_true] at h
    simp only [Ab.ofVals, Rs]
    exact ⟨v, r, rfl, R.ofVal g v h.1, Rs.ofVals g r h.2⟩
end

theorem RS0.ofVal (g : G) (β : Nat → Nat) (v : Value) (h : ofVal v ≠ .junk) : RS0 g β (ofVal v) v := by
  refine RS0.ofR (R.ofVal g v ?_)
  have key : ∀ v, Ab.isD (Ab.ofVal v) = true ∨ Ab.ofVal v = .junk := by
    intro v
    unfold Ab.ofVal
    split <;> first
      | exact .inl rfl
      | exact .inr rfl
      | (rename_i s; cases Nat.ble s.data.toList.length strM <;> first | exact .inl rfl | exact .inr rfl)
      | (rename_i cs; cases (ofVals cs).all Ab.isD <;> first | exact .inl rfl | exact .inr rfl)
  exact (key v).resolve_right h

theorem zeroD_sound {P : Program} {t : Nat} {d : D} (h : zeroD P t = some d) (hd : isD d = true) (w : World) : ∃ z, (zeroValue t).run P w = .ok z w ∧ ∀ g, R g d z := by
  unfold zeroD at h
  cases hi : P.info? t with
  | none => rw [hi] at h; cases h
  | some i =>
    rw [hi] at h
    cases hz : i.zero with
    | none => simp [hz] at h
    | some z =>
      simp only [Option.bind_some, hz, Option.map_some, Option.some.injEq] at h
      subst h
      refine ⟨z, ?_, fun g => R.ofVal g z hd⟩
      simp only [zeroValue, Sem.run_bind, run_typeInfo w hi, Result.andThen_ok, hz, Sem.run_pure]

theorem szOf_sound {P : Program} {t n : Nat} (h : szOf P t = some n) (w : World) : (sizeOf t).run P w = .ok n w := by
  unfold szOf at h
  cases hi : P.info? t with
  | none => rw [hi] at h; cases h
  | some i =>
    rw [hi] at h
    simp only [Option.map_some, Option.some.injEq] at h
    simp only [sizeOf, Sem.run_bind, run_typeInfo w hi, Result.andThen_ok, Sem.run_pure, h]

theorem bytesOf_sound {P : Program} {t n : Nat} (h : bytesOf P t = some n) : ∃ i, P.info? t = some i ∧ i.bytes = n := by
  unfold bytesOf at h
  cases hi : P.info? t with
  | none => rw [hi] at h; cases h
  | some i => rw [hi] at h; exact ⟨i, rfl, by simpa using h⟩

theorem isAggT_sound {P : Program} {t : Nat} {b : Bool} (h : isAggT P t = some b) (w : World) : (isAgg t).run P w = .ok b w := by
  unfold isAggT at h
  cases hu : P.underlying t with
  | none => rw [hu] at h; cases h
  | some d =>
    rw [hu] at h
    simp only [Option.map_some, Option.some.injEq] at h
    simp only [isAgg, Sem.run_bind, run_underlying hu, Result.andThen_ok]
    subst h
    cases d <;> rfl

/-! ### Loads -/

theorem add_none (b o j : Nat) : (⟨b, o, none⟩ : Addr).add j = ⟨b, o + j, none⟩ := by
  unfold Addr.add; split
  · rename_i h; subst h; rfl
  · rfl

/-- Cells read one by one from here. -/
def CellsAt (w : World) (b o : Nat) (vs : List Value) : Prop := ∀ j v, vs[j]? = some v → w.cell? ⟨b, o + j, none⟩ = some v

theorem run_loadVar_of {P : Program} {g : G} {t : Nat} {cs : List D} {vs : List Value} {d : D} {w : World} {b o : Nat} (hs : Rs g cs vs) (hc : CellsAt w b o vs) (h : loadD P t cs = some d) :
    ∃ v, (loadVar t ⟨b, o, none⟩).run P w = .ok v w ∧ R g d v := by
  unfold loadD at h
  cases ha : isAggT P t with
  | none => rw [ha] at h; cases h
  | some ag =>
    rw [ha] at h
    cases ag with
    | true =>
      simp only at h
      cases hz : szOf P t with
      | none => rw [hz] at h; cases h
      | some n =>
        rw [hz] at h
        simp only at h
        cases hb : Nat.ble n cs.length with
        | false => rw [hb] at h; cases h
        | true =>
          rw [hb] at h
          simp only [cond_true, Option.some.injEq] at h
          subst h
          have hn := Nat.le_of_ble_eq_true hb
          have hl : (vs.take n).length = n := by rw [List.length_take, hs.length]; omega
          refine ⟨.agg (vs.take n).toArray, ?_, ?_⟩
          · simp only [loadVar, Sem.run_bind, isAggT_sound ha, szOf_sound hz, Result.andThen_ok, if_true]
            have := run_loadCells_list (P := P) (w := w) ⟨b, o, none⟩ (vs.take n) (fun j v hj => by
              rw [add_none]
              rw [List.getElem?_take] at hj
              split at hj
              · exact hc j v hj
              · cases hj)
            rw [hl] at this
            simp [this]
          · simp only [R]
            exact ⟨_, rfl, hs.take n⟩
    | false =>
      simp only at h
      cases cs with
      | nil => cases h
      | cons c r =>
        simp only [List.head?_cons, Option.some.injEq] at h
        subst h
        simp only [Rs] at hs
        obtain ⟨v, s, rfl, hv, _⟩ := hs
        refine ⟨v, ?_, hv⟩
        have := hc 0 v rfl
        simp only [Nat.add_zero] at this
        simp [loadVar, isAggT_sound ha, this]

theorem cellsAt_row {g : G} {w : World} {b : Nat} {cs : List D} (h : RowAt g w b (.lit cs)) (off : Nat) : ∃ vs, Rs g (cs.drop off) vs ∧ CellsAt w b off vs := by
  obtain ⟨T, vals, hb, hs⟩ := h
  refine ⟨vals.toList.drop off, hs.drop off, fun j v hj => ?_⟩
  rw [List.getElem?_drop] at hj
  simp only [World.cell?, hb]
  simpa using hj

theorem optRes_val {x : Option D} {d : D} (h : optRes x = .val d) : x = some d := by
  cases x with
  | none => cases h
  | some e => simp only [optRes] at h; cases h; rfl

/-- What an outcome says is so. -/
def ResOk (P : Program) (n : Nat) (g : G) (β : Nat → Nat) (U : Nat → Prop) (y : Nat → Bool → Prop) (st : St) (a : Act) (w : World) (o : Oper) : Res → Prop
  | .val d => DOk st.sl d ∧ VOk P g β a o w d
  | .nd p d => DOk st.sl d ∧ (p → VOk P g β a o w d)
  | .asm p d => p ∧ DOk st.sl d ∧ VOk P g β a o w d
  | .new cs => o.dst ≠ none ∧ ∃ T vals, Yields P a o w (.pointer (some ⟨w.heap.size, 0, none⟩)) (w.alloc (.cells vals T (0, 0))) ∧ Rs g cs vals.toList
  | .eff p st' d => p → ∃ v w' g', Yields P a o w v w' ∧ Rel n g' β U y st' a w' ∧ Grow U g g' ∧ Kept U w w' ∧ RS0 g' β d v ∧ isD d = true
  | .call f args => Callable P f → ∃ vs : List Value, (execOp a.eval o).run P w = .ok (.enter f vs.toArray) w ∧ Rs g args vs
  | .bad => True

section
variable {P : Program} {n : Nat} {g : G} {β : Nat → Nat} {U : Nat → Prop} {y : Nat → Bool → Prop} {st : St} {a : Act} {w : World} {ev : Operand → D} {o : Oper}

/-- A value of plain data, no new memory. -/
theorem resVal (r : Rel n g β U y st a w) {d : D} {v : Value} (hr : (execOp a.eval o).run P w = .ok (.value v) w) (hv : R g d v) : ResOk P n g β U y st a w o (.val d) :=
  ⟨DOk.ofD hv.isD, VOk.plain r.inv hr (RS0.ofR hv)⟩

theorem resNd (r : Rel n g β U y st a w) {p : Prop} {d : D} (hd : isD d = true) (hr : p → ∃ v, (execOp a.eval o).run P w = .ok (.value v) w ∧ R g d v) : ResOk P n g β U y st a w o (.nd p d) :=
  ⟨DOk.ofD hd, fun hp => by obtain ⟨v, h1, h2⟩ := hr hp; exact VOk.plain r.inv h1 (RS0.ofR h2)⟩

theorem ownCells_look {sl : Slots} {s : Nat} {cs : List D} (h : ownCells sl s = some cs) : look sl s = some (.own cs) := by
  unfold ownCells at h
  split at h
  · cases h; assumption
  · cases h

/-- An address into cells that are known. -/
theorem run_loadAt {t : Nat} {cs : List D} {d : D} {b off : Nat} {vs : List Value} {x : Operand} (ho : o.op = .load t x) (hx : a.eval x = .pointer (some ⟨b, off, none⟩)) (hs : Rs g cs vs) (hc : CellsAt w b off vs)
    (h : loadD P t cs = some d) : ∃ v, (execOp a.eval o).run P w = .ok (.value v) w ∧ R g d v := by
  obtain ⟨v, h1, h2⟩ := run_loadVar_of hs hc h
  refine ⟨v, ?_, h2⟩
  simp [execOp, ho, hx, Instr.loadAt, Instr.sureAddr, h1]

theorem load_ok (r : Rel n g β U y st a w) (e : Ev g β st.sl a ev) {t : Nat} {x : Operand} (ho : o.op = .load t x) : ResOk P n g β U y st a w o (loadRes P st t (ev x)) := by
  unfold loadRes
  cases hx : ev x with
  | lp s off =>
    simp only
    cases hc : ownCells st.sl s with
    | none => trivial
    | some cs =>
      simp only
      cases hl : loadD P t (cs.drop off) with
      | none => trivial
      | some d =>
        have h0 := e.ok x (by rw [hx]; simp)
        rw [hx] at h0
        obtain ⟨vs, h1, h2⟩ := cellsAt_row (r.own s cs (ownCells_look hc)).1 off
        obtain ⟨v, h3, h4⟩ := run_loadAt ho h0 h1 h2 hl
        exact resVal r h3 h4
  | ep cs =>
    simp only
    cases hl : loadD P t cs with
    | none => trivial
    | some d =>
      have h0 := e.data (x := x) (by rw [hx]; rfl)
      rw [hx] at h0
      simp only [R] at h0
      obtain ⟨p, vs, h1, h2, h3, h4⟩ := h0
      have h5 : a.eval x = .pointer (some ⟨p.block, p.off, none⟩) := by rw [h1]; cases p; simp_all
      obtain ⟨v, h6, h7⟩ := run_loadAt ho h5 h3 (fun j v hj => by
        have hjl : j < vs.length := by
          rcases Nat.lt_or_ge j vs.length with h | h
          · exact h
          · rw [List.getElem?_eq_none h] at hj; cases hj
        exact (r.inv.sub _ _ ((h4 j hjl).trans hj)).1) hl
      exact resVal r h6 h7
  | bp l off =>
    simp only
    cases hb : st.h.box l with
    | none => trivial
    | some row =>
      simp only
      have h0 := e.data (x := x) (by rw [hx]; rfl)
      rw [hx] at h0
      simp only [R] at h0
      obtain ⟨b, h1, h2⟩ := h0
      obtain ⟨b', h3, h4, _, _⟩ := r.inv.box l row hb
      rw [h1] at h3; cases h3
      cases row with
      | lit cs =>
        simp only [rowLoad]
        cases hl : loadD P t (cs.drop off) with
        | none => trivial
        | some d =>
          obtain ⟨vs, h5, h6⟩ := cellsAt_row h4 off
          obtain ⟨v, h7, h8⟩ := run_loadAt ho h2 h5 h6 hl
          exact resVal r h7 h8
      | arr m get =>
        obtain ⟨T, vals, hb1, hm, hg⟩ := h4
        simp only [rowLoad]
        split
        · rename_i ha hz
          cases hd : isD (get off) with
          | false => trivial
          | true =>
            refine resNd r hd fun hp => ?_
            obtain ⟨v, hv, hr⟩ := hg off hp
            have hc : w.cell? ⟨b, off, none⟩ = some v := by simp only [World.cell?, hb1]; simpa using hv
            exact ⟨v, by simp [execOp, ho, h2, Instr.loadAt, Instr.sureAddr, loadVar, isAggT_sound ha, hc], hr⟩
        · rename_i k ha hz
          refine resNd r rfl fun hp => ?_
          have hl : ∀ j, j < k → ∃ v, vals[off + j]? = some v ∧ R g (get (off + j)) v := fun j hj => hg (off + j) (by omega)
          have hvl : ((vals.toList.drop off).take k).length = k := by rw [List.length_take, List.length_drop, Array.length_toList]; omega
          have hcl := run_loadCells_list (P := P) (w := w) ⟨b, off, none⟩ ((vals.toList.drop off).take k) (fun j v hj => by
            rw [List.getElem?_take] at hj
            split at hj
            · rw [List.getElem?_drop] at hj
              rw [add_none]
              simp only [World.cell?, hb1]
              simpa using hj
            · cases hj)
          rw [hvl] at hcl
          refine ⟨.agg ((vals.toList.drop off).take k).toArray, ?_, ?_⟩
          · simp [execOp, ho, h2, Instr.loadAt, Instr.sureAddr, loadVar, isAggT_sound ha, szOf_sound hz, hcl]
          · simp only [R]
            refine ⟨_, rfl, Rs.of_get (by rw [hvl]; simp) fun i d v h5 h6 => ?_⟩
            rw [List.getElem?_map] at h5
            have hik : i < k := by
              rcases Nat.lt_or_ge i k with h | h
              · exact h
              · rw [List.getElem?_eq_none (by simpa using h)] at h5; cases h5
            rw [List.getElem?_range hik] at h5
            simp only [Option.map_some, Option.some.injEq] at h5
            subst h5
            obtain ⟨v', hv', hr⟩ := hl i hik
            rw [List.getElem?_take, if_pos hik, List.getElem?_drop] at h6
            have : vals[off + i]? = some v := by simpa using h6
            rw [this] at hv'; cases hv'; exact hr
        · trivial
  | _ => trivial

theorem fieldD_sound {t f off sz : Nat} (h : fieldD P t f = some (off, sz)) : ∃ fs x, P.underlying t = some (.struct fs) ∧ fs[f]? = some x ∧ x.offset = off ∧ szOf P x.type = some sz ∧ sz ≠ 0 := by
  unfold fieldD at h
  split at h
  · rename_i fs hu
    split at h
    · rename_i x hx
      split at h
      · rename_i m hm
        simp only [Option.some.injEq, Prod.mk.injEq] at h
        exact ⟨fs, x, hu, hx, h.1, by rw [hm]; exact congrArg some h.2, by omega⟩
      · cases h
    · cases h
  · cases h

theorem resLp (r : Rel n g β U y st a w) {s off : Nat} {v : Value} (hr : (execOp a.eval o).run P w = .ok (.value v) w) (hv : v = .pointer (some ⟨β s, off, none⟩)) (hb : ∃ cs, look st.sl s = some (.own cs)) :
    ResOk P n g β U y st a w o (.val (.lp s off)) :=
  ⟨⟨rfl, fun s' hs => by cases hs; exact hb⟩, VOk.plain r.inv hr (by simpa [RS0] using hv)⟩

theorem run_fieldAt {t f off sz : Nat} (h : fieldD P t f = some (off, sz)) {x : Operand} (ho : o.op = .fieldAddr t x f) {b k : Nat} (hx : a.eval x = .pointer (some ⟨b, k, none⟩)) :
    (execOp a.eval o).run P w = .ok (.value (.pointer (some ⟨b, k + off, none⟩))) w := by
  obtain ⟨fs, y, h1, h2, h3, h4, h5⟩ := fieldD_sound h
  simp [execOp, ho, hx, Instr.fieldAt, run_underlying h1, h2, Instr.sureAddr, fieldPlace, szOf_sound h4, h5, h3, add_none]

theorem fieldAddr_ok (r : Rel n g β U y st a w) (e : Ev g β st.sl a ev) {t f : Nat} {x : Operand} (ho : o.op = .fieldAddr t x f) : ResOk P n g β U y st a w o (fieldAddrD P t f (ev x)) := by
  unfold fieldAddrD
  cases hf : fieldD P t f with
  | none => trivial
  | some p =>
    obtain ⟨off, sz⟩ := p
    simp only
    cases hx : ev x with
    | lp s k =>
      have h0 := e.ok x (by rw [hx]; simp)
      rw [hx] at h0
      exact resLp r (run_fieldAt hf ho h0) rfl (e.base x s k hx)
    | bp l k =>
      have h0 := e.data (x := x) (by rw [hx]; rfl)
      rw [hx] at h0
      simp only [R] at h0
      obtain ⟨b, h1, h2⟩ := h0
      exact resVal r (run_fieldAt hf ho h2) (by simp only [R]; exact ⟨b, h1, rfl⟩)
    | ep cs =>
      have h0 := e.data (x := x) (by rw [hx]; rfl)
      rw [hx] at h0
      simp only [R] at h0
      obtain ⟨p, vs, h1, h2, h3, h4⟩ := h0
      have h5 : a.eval x = .pointer (some ⟨p.block, p.off, none⟩) := by rw [h1]; cases p; simp_all
      refine resVal r (run_fieldAt hf ho h5) ?_
      simp only [R]
      refine ⟨⟨p.block, p.off + off, none⟩, vs.drop off, rfl, rfl, h3.drop off, fun j hj => ?_⟩
      rw [List.length_drop] at hj
      rw [List.getElem?_drop, ← h4 (off + j) (by omega)]
      simp [Nat.add_assoc]
    | _ => trivial

theorem nilCheck_ok (r : Rel n g β U y st a w) (e : Ev g β st.sl a ev) {x : Operand} (ho : o.op = .nilCheck x) : ResOk P n g β U y st a w o (nilCheckD (ev x)) := by
  unfold nilCheckD
  cases hx : ev x with
  | lp s k =>
    have h0 := e.ok x (by rw [hx]; simp)
    rw [hx] at h0
    simp only [RS0] at h0
    exact resLp r (v := a.eval x) (by simp [execOp, ho, h0]) h0 (e.base x s k hx)
  | bp l k =>
    have h0 := e.data (x := x) (by rw [hx]; rfl)
    rw [hx] at h0
    have h0' := h0
    simp only [R] at h0'
    obtain ⟨b, h1, h2⟩ := h0'
    exact resVal r (v := a.eval x) (by simp [execOp, ho, h2]) h0
  | ep cs =>
    have h0 := e.data (x := x) (by rw [hx]; rfl)
    rw [hx] at h0
    have h0' := h0
    simp only [R] at h0'
    obtain ⟨p, vs, h1, h2, _⟩ := h0'
    exact resVal r (v := a.eval x) (by simp [execOp, ho, h1]) h0
  | clo f cs =>
    have h0 := e.data (x := x) (by rw [hx]; rfl)
    rw [hx] at h0
    have h0' := h0
    simp only [R] at h0'
    obtain ⟨vs, h1, _⟩ := h0'
    exact resVal r (v := a.eval x) (by simp [execOp, ho, h1]) h0
  | _ => trivial

theorem move_ok (r : Rel n g β U y st a w) (e : Ev g β st.sl a ev) {x : Operand} (ho : o.op = .move x ∨ o.op = .assign x) :
    ResOk P n g β U y st a w o (match ev x with | .junk => .bad | .own _ => .bad | .may _ _ _ => .bad | d => .val d) := by
  have hr : (execOp a.eval o).run P w = .ok (.value (a.eval x)) w := by rcases ho with ho | ho <;> simp [execOp, ho]
  cases hx : ev x with
  | lp s k =>
    have h0 := e.ok x (by rw [hx]; simp)
    rw [hx] at h0
    exact resLp r hr h0 (e.base x s k hx)
  | junk => trivial
  | own _ => trivial
  | may _ _ _ => trivial
  | _ =>
    have h0 := e.data (x := x) (by rw [hx]; rfl)
    rw [hx] at h0
    exact resVal r hr h0

end

end Go.Ab
