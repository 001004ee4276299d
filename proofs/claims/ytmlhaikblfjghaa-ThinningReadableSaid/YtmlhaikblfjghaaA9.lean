/- The executor is sound, 5: stores. -/
import Derived.Test.YtmlhaikblfjghaaA8
namespace Go.Ab

/-- One block has turned, nothing else. -/
structure Turn (b : Nat) (w w' : World) : Prop where
  os : w'.os = w.os
  tape : w'.tape = w.tape
  output : w'.output = w.output
  size : w'.heap.size = w.heap.size
  other : ∀ k, k ≠ b → w'.heap[k]? = w.heap[k]?

theorem Turn.kept {b : Nat} {w w' : World} (t : Turn b w w') {U : Nat → Prop} (h : ¬ U b) : Kept U w w' :=
  ⟨t.os, t.tape, t.output, by rw [t.size]; exact Nat.le_refl _, fun k hk => t.other k fun e => h (e ▸ hk)⟩

theorem turn_setRow (w : World) (b : Nat) (cs : Array Value) : Turn b w (w.setRow b cs) :=
  ⟨rfl, rfl, rfl, size_setRow _ _ _, fun k hk => setRow_other w b k cs hk⟩

theorem cell?_of_heap {w w' : World} {x : Addr} (h : w'.heap[x.block]? = w.heap[x.block]?) : w'.cell? x = w.cell? x := by simp [World.cell?, h]

theorem Inv.turn {g : G} {U : Nat → Prop} {h : Heap} {w w' : World} {b : Nat} (i : Inv g U h w) (t : Turn b w w') (h2 : ∀ a v, g.σ a = some v → a.block ≠ b) (h3 : ∀ l, h.box l ≠ none → g.μ l ≠ some b)
    (h4 : ∀ t n k, h.hw t = some n → g.τ t = some k → k.n < k.cap → k.a ≠ some ⟨b, 0, none⟩) : Inv g U h w' where
  sub a v e := ⟨(cell?_of_heap (t.other _ (h2 a v e))).trans (i.sub a v e).1, (i.sub a v e).2⟩
  ub b hb := by rw [t.size]; exact i.ub b hb
  muLt l b e := by rw [t.size]; exact i.muLt l b e
  box l row e := by
    obtain ⟨b', e1, e2, e3, e4⟩ := i.box l row e
    have : b' ≠ b := fun hb => by subst hb; exact h3 l (by rw [e]; simp) e1
    exact ⟨b', e1, e2.mono (G.le.refl g) (t.other _ this), e3, e4⟩
  boxInj := i.boxInj
  tok t' n e := by
    obtain ⟨k, e1, e2, e3⟩ := i.tok t' n e
    refine ⟨k, e1, e2, fun hk => ?_⟩
    obtain ⟨b', f1, f2, T, vals, f3, f4, f5⟩ := e3 hk
    have : b' ≠ b := fun hb => by subst hb; exact h4 t' n k e e1 hk f1
    exact ⟨b', f1, f2, T, vals, (t.other _ this).trans f3, f4, f5⟩
  tokBox := i.tokBox
  tokInj := i.tokInj
  frL := i.frL
  frT := i.frT

def setOwn (sl : Slots) (s : Nat) (cs : List D) : Slots := sl.map fun (x : Nat × D) => bif Nat.beq x.1 s then (s, D.own cs) else x

theorem keys_setOwn (sl : Slots) (s : Nat) (cs : List D) : (setOwn sl s cs).map (·.1) = sl.map (·.1) := by
  simp only [setOwn, List.map_map]
  apply List.map_congr_left
  intro x _
  simp only [Function.comp]
  cases hb : Nat.beq x.1 s with
  | true => exact (beq_eq.1 hb).symm
  | false => rfl

theorem look_setOwn_other : ∀ (sl : Slots) (s : Nat) (cs : List D) (t : Nat), t ≠ s → look (setOwn sl s cs) t = look sl t
  | [], _, _, _, _ => rfl
  | (u, d) :: r, s, cs, t, h => by
    have ih := look_setOwn_other r s cs t h
    simp only [setOwn, List.map_cons] at ih ⊢
    cases hb : Nat.beq u s with
    | true =>
      have := beq_eq.1 hb; subst this
      simp only [cond_true, look, beq_ff.2 (Ne.symm h), cond_false]
      exact ih
    | false =>
      simp only [cond_false, look]
      cases Nat.beq u t with
      | true => rfl
      | false => exact ih

theorem look_setOwn_same : ∀ (sl : Slots) (s : Nat) (cs : List D) {d : D}, look sl s = some d → look (setOwn sl s cs) s = some (.own cs)
  | [], _, _, _, h => by cases h
  | (u, d) :: r, s, cs, d', h => by
    simp only [setOwn, List.map_cons]
    cases hb : Nat.beq u s with
    | true => simp only [cond_true, look, Nat.beq_refl]
    | false =>
      simp only [cond_false, look, hb]
      simp only [look, hb, cond_false] at h
      exact look_setOwn_same r s cs h

section
variable {P : Program} {n : Nat} {g : G} {β : Nat → Nat} {U : Nat → Prop} {y : Nat → Bool → Prop} {st : St} {a : Act} {w : World} {ev : Operand → D} {o : Oper}

theorem Rel.setOwn (r : Rel n g β U y st a w) {s : Nat} {cs cs' : List D} (hs : look st.sl s = some (.own cs)) {arr : Array Value} (ha : Rs g cs' arr.toList) :
    Rel n g β U y { st with sl := Ab.setOwn st.sl s cs' } a (w.setRow (β s) arr) := by
  obtain ⟨⟨T, vals, hb, _⟩, h2, h3, h4, h5⟩ := r.own s cs hs
  have t := turn_setRow w (β s) arr
  refine ⟨r.defers, r.size, by rw [keys_setOwn]; exact r.keys, fun u d h => ?_, fun u d v h hl hu => ?_, fun u c h => ?_, fun u u' c c' h h' e => ?_, r.inv.turn t h3 h4 h5⟩
  · by_cases hx : u = s
    · subst hx
      rw [look_setOwn_same _ _ _ hs] at h; cases h
      have h9 := r.slot u _ hs
      simp only [RS] at h9 ⊢
      exact h9
    · rw [look_setOwn_other _ _ _ _ hx] at h
      exact r.slot u d h
  · have hu' : look st.sl u = some d := by
      by_cases hx : u = s
      · subst hx
        rw [look_setOwn_same _ _ _ hs] at h; cases h; cases hu
      · rw [look_setOwn_other _ _ _ _ hx] at h; exact h
    obtain ⟨c, hc⟩ := r.base u d v hu' hl hu
    by_cases hx : v = s
    · subst hx; exact ⟨_, look_setOwn_same _ _ _ hc⟩
    · exact ⟨c, by rw [look_setOwn_other _ _ _ _ hx]; exact hc⟩
  · by_cases hx : u = s
    · subst hx
      rw [look_setOwn_same _ _ _ hs] at h; cases h
      exact ⟨⟨T, arr, setRow_heap w _ vals arr T (0, 0) hb, ha⟩, h2, h3, h4, h5⟩
    · rw [look_setOwn_other _ _ _ _ hx] at h
      obtain ⟨g1, g2⟩ := r.own u c h
      have hne : β u ≠ β s := fun e => hx (r.ownInj u s _ _ h hs e)
      exact ⟨g1.mono (G.le.refl g) (t.other _ hne), g2⟩
  · have key : ∀ v c, look (Ab.setOwn st.sl s cs') v = some (.own c) → ∃ c', look st.sl v = some (.own c') := fun v c hv => by
      by_cases hx : v = s
      · subst hx; exact ⟨_, hs⟩
      · rw [look_setOwn_other _ _ _ _ hx] at hv; exact ⟨_, hv⟩
    obtain ⟨d, hd⟩ := key u c h
    obtain ⟨d', hd'⟩ := key u' c' h'
    exact r.ownInj u u' d d' hd hd' e

theorem Rel.setBox (r : Rel n g β U y st a w) {l b : Nat} {row row' : Row} (hl : st.h.box l = some row) (hb : g.μ l = some b) {arr : Array Value} (ha : RowOf g arr row') :
    Rel n g β U y { st with h := { st.h with box := upd st.h.box l (some row') } } a (w.setRow b arr) := by
  obtain ⟨b', e1, ⟨T, vals, e2, _⟩, e3, e4⟩ := r.inv.box l row hl
  rw [hb] at e1; cases e1
  have t := turn_setRow w b arr
  have hlive : ∀ l', (upd st.h.box l (some row')) l' ≠ none → st.h.box l' ≠ none := fun l' h => by
    by_cases hx : l' = l
    · subst hx; rw [hl]; simp
    · rw [upd_other _ _ hx] at h; exact h
  refine ⟨r.defers, r.size, r.keys, r.slot, r.base, fun u c h => ?_, r.ownInj, ?_⟩
  · obtain ⟨h1, h2, h3, h4, h5⟩ := r.own u c h
    have hne : β u ≠ b := fun e => h4 l (by rw [hl]; simp) (by rw [hb, e])
    exact ⟨h1.mono (G.le.refl g) (t.other _ hne), h2, h3, fun l' hl' => h4 l' (hlive l' hl'), h5⟩
  · have i := r.inv
    refine ⟨fun x v e => ⟨(cell?_of_heap (t.other _ (e4 x v e))).trans (i.sub x v e).1, (i.sub x v e).2⟩, fun c hc => by rw [t.size]; exact i.ub c hc, fun l' c e => by rw [t.size]; exact i.muLt l' c e, fun l' row'' e => ?_, fun l' l'' c e => i.boxInj l' l'' c (hlive l' e),
      fun t' m e => ?_, fun t' m k c l' e1 e2 e3 e4 e5 => i.tokBox t' m k c l' e1 e2 e3 e4 (hlive l' e5), i.tokInj, i.frL, i.frT⟩
    · have e' : upd st.h.box l (some row') l' = some row'' := e
      by_cases hx : l' = l
      · subst hx
        simp only [upd_same, Option.some.injEq] at e'
        subst e'
        exact ⟨b, hb, RowAt.of (setRow_heap w _ vals arr T (0, 0) e2) ha, e3, e4⟩
      · rw [upd_other _ _ hx] at e'
        obtain ⟨c, f1, f2, f3, f4⟩ := i.box l' row'' e'
        have hne : c ≠ b := fun hc => hx (i.boxInj l' l b (by rw [e']; simp) (by rw [f1, hc]) hb)
        exact ⟨c, f1, f2.mono (G.le.refl g) (t.other _ hne), f3, f4⟩
    · obtain ⟨k, f1, f2, f3⟩ := i.tok t' m e
      refine ⟨k, f1, f2, fun hk => ?_⟩
      obtain ⟨c, h1, h2, T', vals', h3, h4, h5⟩ := f3 hk
      have hne : c ≠ b := fun hc => by subst hc; exact i.tokBox t' m k c l e f1 hk h1 (by rw [hl]; simp) hb
      exact ⟨c, h1, h2, T', vals', (t.other _ hne).trans h3, h4, h5⟩

theorem oneD_sound {d : D} {v : Value} (h : R g d v) (h1 : oneD d = true) : v.oneCell' = true := by
  cases d <;> first
    | exact Bool.noConfusion (show false = true from h1)
    | (simp only [R] at h; done)
    | (simp only [R] at h
       first
         | (subst h; rfl)
         | (obtain ⟨rfl, _⟩ := h; rfl)
         | (obtain ⟨_, _, _, rfl, _⟩ := h; rfl)
         | (obtain ⟨_, _, rfl, _⟩ := h; rfl)
         | (obtain ⟨_, _, rfl⟩ := h; rfl)
         | (obtain ⟨_, _, _, _, rfl, _⟩ := h; rfl)
         | (obtain ⟨_, rfl, _⟩ := h; rfl))

/-- A store of a value into a row. -/
theorem run_storeAt {t m : Nat} {x z : Operand} (ho : o.op = .store t x z) {b off : Nat} (hx : a.eval x = .pointer (some ⟨b, off, none⟩)) (hz : szOf P t = some m) {d : D} (hd : R g d (a.eval z)) (hl : (cellsD d).length = m)
    (h1 : (cellsD d).all oneD = true) {vals : Array Value} {T : Nat} (hb : w.heap[b]? = some (.cells vals T (0, 0))) (hin : off + m ≤ vals.size) :
    (execOp a.eval o).run P w = .ok .skip (w.setRow b (vals.toList.take off ++ (a.eval z).cells.toList ++ vals.toList.drop (off + m)).toArray) := by
  have hc := hd.cells
  have hcl : (a.eval z).cells.toList.length = m := by rw [hc.length, hl]
  have h1c : ∀ v ∈ (a.eval z).cells.toList, v.oneCell' = true := by
    intro v hv
    obtain ⟨k, hk, rfl⟩ := List.getElem_of_mem hv
    have hdk : k < (cellsD d).length := by rw [← hc.length]; exact hk
    obtain ⟨v', hv', hr⟩ := hc.get k _ (List.getElem?_eq_getElem hdk)
    rw [List.getElem?_eq_getElem hk] at hv'; cases hv'
    exact oneD_sound hr (List.all_eq_true.1 h1 _ (List.getElem_mem hdk))
  have hst := run_storeCells_at (P := P) b off T (a.eval z).cells.toList 0 vals w hb (by rw [hcl]; omega) h1c
  simp only [Nat.add_zero, hcl] at hst
  have hsz : (a.eval z).cells.size = m := by simpa using hcl
  simp only [execOp, ho, Instr.storeAt, hx, Instr.sureAddr, storeVar, Sem.run_bind, Sem.run_pure, Result.andThen_ok, szOf_sound hz, hsz]
  rw [if_neg (by simp)]
  simp only [hst, Result.andThen_ok]

theorem undef_tup : R g (.tup []) undef := by simp only [R]; exact ⟨[], rfl, rfl⟩

theorem store_ok (r : Rel n g β U y st a w) (e : Ev g β st.sl a ev) {t : Nat} {x z : Operand} (ho : o.op = .store t x z) : ResOk P n g β U y st a w o (storeRes P st t (ev x) (ev z)) := by
  unfold storeRes
  split
  · rename_i m hz hd
    cases hc : (Nat.beq (cellsD (ev z)).length m && (cellsD (ev z)).all oneD) with
    | false => trivial
    | true =>
      simp only [Bool.and_eq_true] at hc
      have hl := beq_eq.1 hc.1
      have hdz := e.data hd
      have hvl : (a.eval z).cells.toList.length = m := by rw [hdz.cells.length, hl]
      simp only [cond_true]
      split
      · rename_i s off hx
        split
        · rename_i cs hcs
          cases hin : Nat.ble (off + m) cs.length with
          | false => trivial
          | true =>
            simp only [cond_true]
            intro _
            have hin := Nat.le_of_ble_eq_true hin
            have h0 := e.ok x (by rw [hx]; simp)
            rw [hx] at h0
            simp only [RS0] at h0
            have hlk := ownCells_look hcs
            obtain ⟨⟨T, vals, hb, hs⟩, hU, _⟩ := r.own s cs hlk
            have hsl : vals.size = cs.length := by have := hs.length; simpa using this
            have hrun := run_storeAt ho h0 hz hdz hl hc.2 hb (by omega)
            refine ⟨undef, _, g, .inr ⟨hrun, rfl⟩, Rel.setOwn r hlk ?_, Grow.refl U g, (turn_setRow w _ _).kept hU, RS0.ofR undef_tup, rfl⟩
            simp only [splice, hl]
            exact ((hs.take off).append hdz.cells).append (hs.drop _)
        · trivial
      · rename_i l off hx
        split
        · rename_i row hrow
          split
          · rename_i p row' hst
            intro hp
            have h0 := e.data (x := x) (by rw [hx]; rfl)
            rw [hx] at h0
            simp only [R] at h0
            obtain ⟨b, h1, h2⟩ := h0
            obtain ⟨b', h3, ⟨T, vals, hb, hs⟩, hU, _⟩ := r.inv.box l row hrow
            rw [h1] at h3; cases h3
            cases row with
            | lit cs =>
              simp only [rowStore] at hst
              cases hin : Nat.ble (off + (cellsD (ev z)).length) cs.length with
              | false => rw [hin] at hst; cases hst
              | true =>
                rw [hin] at hst
                simp only [cond_true, Option.some.injEq, Prod.mk.injEq] at hst
                obtain ⟨rfl, rfl⟩ := hst
                have hin := Nat.le_of_ble_eq_true hin
                have hs : Rs g cs vals.toList := hs
                have hsl : vals.size = cs.length := by have := hs.length; simpa using this
                have hrun := run_storeAt ho h2 hz hdz hl hc.2 hb (by omega)
                refine ⟨undef, _, g, .inr ⟨hrun, rfl⟩, Rel.setBox r hrow h1 (row' := .lit (splice cs off (cellsD (ev z)))) ?_, Grow.refl U g, (turn_setRow w _ _).kept hU, RS0.ofR undef_tup, rfl⟩
                show Rs g _ _
                simp only [splice, hl]
                exact ((hs.take off).append hdz.cells).append (hs.drop _)
            | arr k get =>
              simp only [rowStore, Option.some.injEq, Prod.mk.injEq] at hst
              obtain ⟨rfl, rfl⟩ := hst
              have hs : k ≤ vals.size ∧ ∀ i, i < k → ∃ v, vals[i]? = some v ∧ R g (get i) v := hs
              have hrun := run_storeAt ho h2 hz hdz hl hc.2 hb (by omega)
              refine ⟨undef, _, g, .inr ⟨hrun, rfl⟩, Rel.setBox r hrow h1 (row' := .arr k _) ?_, Grow.refl U g, (turn_setRow w _ _).kept hU, RS0.ofR undef_tup, rfl⟩
              have hlt : (vals.toList.take off).length = off := by simp; omega
              have hvl' : (a.eval z).cells.size = m := by simpa using hvl
              refine ⟨by simp only [List.size_toArray, List.length_append, hlt, hvl, List.length_drop, Array.length_toList]; omega, fun i hi => ?_⟩
              by_cases h4 : off ≤ i ∧ i < off + m
              · have hdl : i - off < (cellsD (ev z)).length := by omega
                obtain ⟨v, hv, hr⟩ := hdz.cells.get (i - off) _ (List.getElem?_eq_getElem hdl)
                refine ⟨v, ?_, ?_⟩
                · rw [List.getElem?_toArray, List.append_assoc, List.getElem?_append_right (by omega), hlt, List.getElem?_append_left (by omega)]
                  exact hv
                · have hb1 : Nat.ble off i = true := Nat.ble_eq_true_of_le h4.1
                  have hb2 : Nat.blt i (off + (cellsD (ev z)).length) = true := by rw [hl]; exact Nat.ble_eq_true_of_le h4.2
                  simp only [hb1, hb2, Bool.and_self, cond_true]
                  rw [List.getD_eq_getElem?_getD, List.getElem?_eq_getElem hdl]; exact hr
              · have hb : (Nat.ble off i && Nat.blt i (off + (cellsD (ev z)).length)) = false := by
                  cases hx1 : Nat.ble off i with
                  | false => rfl
                  | true =>
                    cases hx2 : Nat.blt i (off + (cellsD (ev z)).length) with
                    | false => rfl
                    | true =>
                      have := Nat.le_of_ble_eq_true hx1
                      have hx2' : i + 1 ≤ off + (cellsD (ev z)).length := Nat.le_of_ble_eq_true hx2
                      omega
                obtain ⟨v, hv, hr⟩ := hs.2 i hi
                refine ⟨v, ?_, by simp only [hb, cond_false]; exact hr⟩
                rw [← hv]
                rw [List.getElem?_toArray]
                by_cases h5 : i < off
                · rw [List.append_assoc, List.getElem?_append_left (by omega), List.getElem?_take, if_pos h5]; simp
                · rw [List.getElem?_append_right (by simp only [List.length_append, hlt, hvl]; omega), List.getElem?_drop]
                  simp only [List.length_append, hlt, hvl, Array.getElem?_toList]
                  congr 1; omega
          · trivial
        · trivial
      · trivial
  · trivial

end
end Go.Ab
