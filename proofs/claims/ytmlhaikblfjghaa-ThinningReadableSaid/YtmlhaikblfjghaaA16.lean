/- The executor is sound, 12: the operations of a region in their order. -/
import Derived.Test.YtmlhaikblfjghaaA15
namespace Go.Ab

theorem Oper.wp_mono' {P : Program} {o : Oper} {a : Act} {w : World} {K K' : Act → World → Prop} {Q Q' : Exit → Act → World → Prop} (h : ∀ a w, K a w → K' a w) (hq : ∀ e a w, Q e a w → Q' e a w)
    (hh : o.wp P a w K Q) : o.wp P a w K' Q' := by
  unfold Oper.wp at *
  generalize (execOp a.eval o).run P w = r at *
  cases r with
  | ok n w' =>
    cases n <;> simp only [Oper.upon] at hh ⊢ <;>
      first
        | exact h _ _ hh
        | exact Calls.mono hh (fun e w'' he => by cases e <;> first | exact h _ _ he | exact hq _ _ _ he | exact he.elim fun a he => he.elim fun w he => ⟨a, w, hq _ _ _ he⟩)
        | exact Rows.mono hh (fun _ _ he => h _ _ he)
  | halt x w' => cases x <;> simp only [Oper.upon] at hh ⊢ <;> first | exact hq _ _ _ hh | exact hh

theorem wpOps_mono {P : Program} {ops : Array Oper} {Q Q' : Exit → Act → World → Prop} (hq : ∀ e a w, Q e a w → Q' e a w) : ∀ (l : List Nat) (a : Act) (w : World), wpOps P ops Q l a w → wpOps P ops Q' l a w
  | [], a, w, h => hq _ _ _ h
  | i :: r, a, w, h => by
    simp only [wpOps] at h ⊢
    cases ho : ops[i]? with
    | none => rw [ho] at h; exact wpOps_mono hq r a w h
    | some o =>
      rw [ho] at h
      simp only at h ⊢
      split
      · rename_i hw
        rw [if_pos hw] at h
        rcases h with h | ⟨h1, a', w', h2⟩
        · exact .inl (Oper.wp_mono' (fun a w => wpOps_mono hq r a w) hq h)
        · exact .inr ⟨h1, a', w', hq _ _ _ h2⟩
      · rename_i hw
        rw [if_neg hw] at h
        exact wpOps_mono hq r _ _ h

def OpsPost (n : Nat) (U : Nat → Prop) (g : G) (w : World) (Q : St → Prop) (e : Exit) (a' : Act) (w' : World) : Prop :=
  e = .normal ∧ ∃ g' β' st', Rel n g' β' U noY st' a' w' ∧ Grow U g g' ∧ Kept U w w' ∧ Q st'

section
variable {P : Program} {n : Nat} {g : G} {β : Nat → Nat} {U : Nat → Prop} {st : St} {a : Act} {w : World} {o : Oper} {ops : List Oper} {i : Nat}

theorem OpsSem.at {Q : St → Prop} {g0 : G} {w0 : World} (h : OpsSem P n ops i st Q) (r : Rel n g β U (yOf ops a) st a w) (hm : MayLt i st) (hc : Chain ops i a) (hg : Grow U g0 g) (hk : Kept U w0 w) :
    wpOps P ops.toArray (OpsPost n U g0 w0 Q) (List.range' i (ops.length - i)) a w :=
  wpOps_mono (fun _ _ _ ⟨e, g', β', st', h1, h2, h3, h4⟩ => ⟨e, g', β', st', h1, hg.trans h2, hk.trans h3, h4⟩) _ _ _ (h g β U a w r hm hc)

theorem apart_dst (h : dstsApart ops = true) {j k t : Nat} (hj : dstOf ops j = some t) (hk : dstOf ops k = some t) : j = k := by
  have hn : (ops.filterMap (·.dst)).Nodup := by simpa [dstsApart] using h
  clear h
  induction ops generalizing j k with
  | nil => simp [dstOf] at hj
  | cons o r ih =>
    cases hd : o.dst with
    | none =>
      rw [List.filterMap_cons, hd] at hn
      cases j with
      | zero => simp [dstOf, hd] at hj
      | succ j =>
        cases k with
        | zero => simp [dstOf, hd] at hk
        | succ k => have := ih (j := j) (k := k) (by simpa [dstOf] using hj) (by simpa [dstOf] using hk) hn; omega
    | some s =>
      rw [List.filterMap_cons, hd] at hn
      simp only [List.nodup_cons] at hn
      have hin : ∀ {m : Nat}, dstOf r m = some s → False := by
        intro m hm
        apply hn.1
        simp only [dstOf] at hm
        cases hr : r[m]? with
        | none => rw [hr] at hm; cases hm
        | some o' => rw [hr] at hm; exact List.mem_filterMap.2 ⟨o', List.mem_of_getElem? hr, by simpa using hm⟩
      cases j with
      | zero =>
        have hs : s = t := by simpa [dstOf, hd] using hj
        subst hs
        cases k with
        | zero => rfl
        | succ k => exact (hin (by simpa [dstOf] using hk)).elim
      | succ j =>
        cases k with
        | zero =>
          have hs : s = t := by simpa [dstOf, hd] using hk
          subst hs
          exact (hin (by simpa [dstOf] using hj)).elim
        | succ k => have := ih (j := j) (k := k) (by simpa [dstOf] using hj) (by simpa [dstOf] using hk) hn.2; omega

theorem guardsBack_at : ∀ {ops : List Oper} {k j : Nat} {o : Oper} {q : Nat × Bool}, guardsBack k ops = true → ops[j]? = some o → o.guard = some q → q.1 < k + j
  | [], _, _, _, _, _, h, _ => by simp at h
  | o' :: r, k, j, o, q, h, ho, hg => by
    simp only [guardsBack, Bool.and_eq_true] at h
    cases j with
    | zero =>
      simp at ho; subst ho
      rw [hg] at h
      have := blt_tt.1 h.1
      omega
    | succ j =>
      have := guardsBack_at (k := k + 1) h.2 (by simpa using ho) hg
      omega

structure OpsOk (n : Nat) (ops : List Oper) : Prop where
  apart : dstsApart ops = true
  isIn : ∀ j t, dstOf ops j = some t → t < n
  back : ∀ {j : Nat} {o : Oper} {q : Nat × Bool}, ops[j]? = some o → o.guard = some q → q.1 < j

theorem opsOk_sound (h : opsOk n ops = true) : OpsOk n ops := by
  simp only [opsOk, Bool.and_eq_true] at h
  obtain ⟨⟨h1, h2⟩, h3⟩ := h
  refine ⟨h1, fun j t hj => ?_, fun ho hg => by have := guardsBack_at h3 ho hg; omega⟩
  simp only [dstOf] at hj
  cases ho : ops[j]? with
  | none => rw [ho] at hj; cases hj
  | some o =>
    rw [ho] at hj
    have hd : o.dst = some t := by simpa using hj
    have := List.all_eq_true.1 h2 o (List.mem_of_getElem? ho)
    rw [hd] at this
    exact blt_tt.1 this

theorem yielded_put {j t : Nat} {v : Value} (h : dstOf ops j ≠ some t) : yielded ops.toArray (a.put (some t) v).tmps j = yielded ops.toArray a.tmps j := by
  unfold yielded
  have h1 : ((ops.toArray[j]?).bind (·.dst)) = dstOf ops j := by simp [dstOf]
  rw [h1]
  cases hd : dstOf ops j with
  | none => rfl
  | some s =>
    have hne : t ≠ s := fun e => h (by rw [hd, e])
    simp [Act.put, Array.getElem?_setIfInBounds_ne hne]

theorem yielded_undef {j : Nat} (h : ∀ t, dstOf ops j = some t → a.tmps.getD t undef = undef) : yielded ops.toArray a.tmps j = none := by
  unfold yielded
  have h1 : ((ops.toArray[j]?).bind (·.dst)) = dstOf ops j := by simp [dstOf]
  rw [h1]
  cases hd : dstOf ops j with
  | none => rfl
  | some s =>
    have := h s hd
    cases hs : a.tmps[s]? with
    | none => simp [hs]
    | some v => simp [hs] at this; simp [hs, this, undef]

/-- Operation number i has put v into its slot. -/
theorem put_step (k : OpsOk n ops) (r : Rel n g β U (yOf ops a) st a w) (hm : MayLt i st) (hc : Chain ops i a) (ho : ops[i]? = some o) {v : Value} {d : D}
    (hv : ∀ t, RS g β (yOf ops (a.put o.dst v)) t d v) (hno : ∀ cs, d ≠ .own cs) (hb : Live (yOf ops (a.put o.dst v)) d → ∀ s, baseOf d = some s → ∃ cs, look st.sl s = some (.own cs))
    (hmay : ∀ j w0 e, d = .may j w0 e → j < i) (hw : ∀ q, o.guard = some q → yielded ops.toArray a.tmps q.1 = some q.2 ∨ v = undef) :
    Rel n g β U (yOf ops (a.put o.dst v)) { st with sl := putO st.sl o.dst d } (a.put o.dst v) w ∧ MayLt (i + 1) { st with sl := putO st.sl o.dst d } ∧ Chain ops (i + 1) (a.put o.dst v) := by
  have hdst : ∀ j, j ≠ i → ∀ t, o.dst = some t → dstOf ops j ≠ some t := fun j hj t ht h => hj (apart_dst k.apart h (by simp [dstOf, ho, ht]))
  have hyield : ∀ j, j ≠ i → yielded ops.toArray (a.put o.dst v).tmps j = yielded ops.toArray a.tmps j := by
    intro j hj
    cases hd : o.dst with
    | none => rfl
    | some t => exact yielded_put (hdst j hj t hd)
  refine ⟨?_, ?_, ?_⟩
  · cases hd : o.dst with
    | none =>
      have h1 : a.put none v = a := rfl
      simp only [h1, putO]
      exact r
    | some t =>
      simp only [putO]
      rw [hd] at hv hb
      refine r.put (y' := yOf ops (a.put (some t) v)) (k.isIn i t (by simp [dstOf, ho, hd])) ?_ (fun cs => ?_) (fun hl s hs => ?_) (fun s j w0 e hs hl hy => ?_)
      · cases isLp d t
        · exact hv t
        · trivial
      · cases isLp d t
        · exact hno cs
        · simp
      · cases hp : isLp d t with
        | true => rw [hp] at hs; cases hs
        | false =>
          rw [hp] at hs hl
          simp only [cond_false] at hs hl
          refine ⟨fun e => ?_, hb hl s hs⟩
          subst e
          rw [isLp_base hs] at hp; cases hp
      · have := hm _ _ _ _ hl
        have h2 := hyield j (by omega)
        rw [hd] at h2
        unfold yOf at hy ⊢
        rw [← h2]; exact hy
  · intro t j w0 e hl
    cases hd : o.dst with
    | none => rw [hd] at hl; have := hm t j w0 e hl; omega
    | some t' =>
      rw [hd] at hl
      rcases look_put r.keys hl with ⟨_, h2⟩ | ⟨_, _, h3⟩
      · cases hp : isLp d t' with
        | true => rw [hp] at h2; cases h2
        | false => rw [hp] at h2; have := hmay j w0 e h2.symm; omega
      · have := hm t j w0 e h3; omega
  · intro j o' j1 w1 hj ho' hg hy
    have hb1 := k.back ho' hg
    simp only at hb1
    by_cases hji : j = i
    · subst hji
      rw [ho] at ho'; cases ho'
      rw [hyield j1 (by omega)]
      rcases hw _ hg with h | h
      · exact h
      · subst h
        refine absurd (yielded_undef fun t ht => ?_) hy
        have hd : o.dst = some t := by simpa [dstOf, ho] using ht
        rw [hd, getD_put_same (by rw [r.size]; exact k.isIn j t ht)]
    · rw [hyield j hji] at hy
      rw [hyield j1 (by omega)]
      exact hc j o' j1 w1 (by omega) ho' hg hy

theorem whoWrote_sound {s : Nat} : ∀ {i j : Nat}, whoWrote ops s i = some j → j < i ∧ dstOf ops j = some s
  | 0, _, h => by simp [whoWrote] at h
  | i + 1, j, h => by
    simp only [whoWrote] at h
    cases hd : dstOf ops i with
    | none => rw [hd] at h; have := whoWrote_sound h; exact ⟨by omega, this.2⟩
    | some t =>
      rw [hd] at h
      simp only at h
      cases hb : Nat.beq s t with
      | true => rw [hb] at h; cases h; have := beq_eq.1 hb; subst this; exact ⟨by omega, hd⟩
      | false => rw [hb] at h; have := whoWrote_sound h; exact ⟨by omega, this.2⟩

theorem pick_ok {D : Nat → Prop} (r : Rel n g β U (yOf ops a) st a w) (hc : ChainD ops D a) (hd : DoneOk ops D) {cl : List (Nat × Bool)} (hcl : ∀ p ∈ cl, yOf ops a p.1 p.2) {c x z : Operand} (hwho : ∀ s j, c = .tmp s → whoWrote ops s i = some j → D j) (ho : o.op = .pick c x z) {d : Ab.D}
    (h : pickD st.sl cl ops i c x z = some d) : ∃ v, (execOp a.eval o).run P w = .ok (.value v) w ∧ R g d v := by
  have e := evO_ev r hcl
  have hclw : ∀ (b : Bool), a.eval c = .bool b → ∀ p ∈ clW ops i cl c b, yOf ops a p.1 p.2 := by
    intro b hb p hp
    cases c with
    | tmp s =>
      simp only [clW] at hp
      cases hw : whoWrote ops s i with
      | none => rw [hw] at hp; exact hcl p hp
      | some j =>
        rw [hw] at hp
        simp only [List.mem_append] at hp
        rcases hp with hp | hp
        · exact clos_sound hc hd 40 (j, b) (fun _ => hwho s j rfl hw) (yielded_of (whoWrote_sound hw).2 hb) p hp
        · exact hcl p hp
    | _ => exact hcl p hp
  unfold pickD at h
  split at h
  · rename_i bc bx bz h1 h2 h3
    cases h
    have hcv : a.eval c = .bool bc := by have := e.data (x := c) (by rw [h1]; rfl); rw [h1] at this; simpa [R] using this
    have hx : bc = true → a.eval x = .bool bx := by
      intro hb
      have e2 := evO_ev r (hclw true (by rw [hcv, hb]))
      have := e2.data (x := x) (by rw [h2]; rfl)
      rw [h2] at this; simpa [R] using this
    have hz : bc = false → a.eval z = .bool bz := by
      intro hb
      have e2 := evO_ev r (hclw false (by rw [hcv, hb]))
      have := e2.data (x := z) (by rw [h3]; rfl)
      rw [h3] at this; simpa [R] using this
    refine ⟨.bool (bif bc then bx else bz), ?_, by simp only [R]⟩
    cases bc with
    | true => simp [execOp, ho, hcv, hx rfl, asBool]
    | false => simp [execOp, ho, hcv, hz rfl, asBool]
  · cases h

theorem Ext.at_ {g' : G} {w' : World} (r : Rel n g β U (yOf ops a) st a w) (x : Ext g w g' w') : Rel n g' β U (yOf ops a) st a w' ∧ Grow U g g' ∧ Kept U w w' :=
  ⟨r.ext x, x.grow r.inv.ub, x.kept r.inv.ub⟩

theorem wp_yield {K : Act → World → Prop} {Q : Exit → Act → World → Prop} {v : Value} {w' : World} (hy : Yields P a o w v w') (h : K (a.put o.dst v) w') : o.wp P a w K Q := by
  unfold Go.Oper.wp
  rcases hy with hy | ⟨hy, rfl⟩
  · rw [hy]; exact h
  · rw [hy]; exact h

theorem wp_calls {K : Act → World → Prop} {Q : Exit → Act → World → Prop} {f : Nat} {vs : Array Value} {w' : World} (hy : (execOp a.eval o).run P w = .ok (.enter f vs) w') {R : Ending → World → Prop} (hc : Calls P f vs w' R)
    (h : ∀ e w'', R e w'' → ∃ v, e = .returned v ∧ K (a.put o.dst v) w'') : o.wp P a w K Q := by
  unfold Go.Oper.wp
  rw [hy]
  exact Calls.mono hc fun e w'' he => by obtain ⟨v, rfl, hk⟩ := h e w'' he; exact hk

theorem Pure.at {f : Nat} {args : List D} {v : D} (p : Pure P f args v) (r : Rel n g β U (yOf ops a) st a w) {vs : List Value} (hs : Rs g args vs) :
    Calls P f vs.toArray w fun e w' => ∃ (x : Value) (g' : G), e = .returned x ∧ R g' v x ∧ Ext g w g' w' :=
  Calls.mono (p.calls g w vs r.inv.sub hs) fun e w' ⟨x, σ', h1, h2, h3, h4, h5, h6⟩ =>
    ⟨x, ⟨σ', g.μ, g.τ⟩, h1, h2, ⟨⟨h3, fun _ _ h => h, fun _ k h => ⟨k, h, rfl, Nat.le_refl _, fun _ => rfl⟩⟩, rfl, rfl, h5, h4, h6⟩⟩

/-- A called function may turn the heap. -/
theorem CallA.at {f : Nat} {args : List D} {K : D → Heap → Prop} (p : CallA P f args st.h K) {y : Nat → Bool → Prop} (r : Rel n g β U y st a w) {vs : List Value} (hs : Rs g args vs) :
    Calls P f vs.toArray w fun e w' => ∃ (x : Value) (g' : G) (d : D) (h' : Heap), e = .returned x ∧ R g' d x ∧ Rel n g' β U y { sl := st.sl, h := h' } a w' ∧ Grow U g g' ∧ Kept U w w' ∧ K d h' := by
  let U' : Nat → Prop := fun b => U b ∨ ∃ t cs, look st.sl t = some (.own cs) ∧ b = β t
  have i := r.inv
  have i' : Inv g U' st.h w := by
    refine ⟨i.sub, fun b hb => ?_, i.muLt, fun l row e => ?_, i.boxInj, fun t m e => ?_, i.tokBox, i.tokInj, i.frL, i.frT⟩
    · rcases hb with hb | ⟨t, cs, h1, rfl⟩
      · exact i.ub b hb
      · exact (r.own t cs h1).1.lt
    · obtain ⟨b, h1, h2, h3, h4⟩ := i.box l row e
      refine ⟨b, h1, h2, fun hu => ?_, h4⟩
      rcases hu with hu | ⟨t, cs, h5, rfl⟩
      · exact h3 hu
      · exact (r.own t cs h5).2.2.2.1 l (by rw [e]; simp) h1
    · obtain ⟨k, h1, h2, h3⟩ := i.tok t m e
      refine ⟨k, h1, h2, fun hk => ?_⟩
      obtain ⟨b, e1, e2, e3⟩ := h3 hk
      refine ⟨b, e1, fun hu => ?_, e3⟩
      rcases hu with hu | ⟨t', cs, h5, rfl⟩
      · exact e2 hu
      · exact (r.own t' cs h5).2.2.2.2 t m k e h1 hk e1
  refine Calls.mono (p.calls g U' w vs i' hs) fun e w' ⟨x, g', d, h', h1, h2, h3, h4, h5, h6⟩ => ⟨x, g', d, h', h1, h2, ?_, ⟨h4.le, fun c v hc => ?_⟩, ⟨h5.os, h5.tape, h5.output, h5.size, fun b hb => h5.block b (.inl hb)⟩, h6⟩
  · refine ⟨r.defers, r.size, r.keys, fun t d h => (r.slot t d h).mono h4.le, r.base, fun t cs h => ?_, r.ownInj, ?_⟩
    · obtain ⟨e1, e2, e3, e4, e5⟩ := r.own t cs h
      have hu : U' (β t) := .inr ⟨t, cs, h, rfl⟩
      refine ⟨e1.mono h4.le (h5.block _ hu), e2, fun c v hc hb => ?_, fun l hl hb => ?_, fun t' m k e f1 f2 f3 => ?_⟩
      · rcases h4.new c v hc with h7 | h7
        · exact e3 c v h7 hb
        · exact h7 (by rw [hb]; exact hu)
      · cases hrow : h'.box l with
        | none => exact hl hrow
        | some row =>
          obtain ⟨b, f1, _, f3, _⟩ := h3.box l row hrow
          rw [hb] at f1; cases f1
          exact f3 hu
      · obtain ⟨k', f4, f5, f6⟩ := h3.tok t' m e
        rw [f1] at f4; cases f4
        obtain ⟨b, f7, f8, _⟩ := f6 f2
        rw [f3] at f7; cases f7
        exact f8 hu
    · refine ⟨h3.sub, fun b hb => h3.ub b (.inl hb), h3.muLt, fun l row e => ?_, h3.boxInj, fun t m e => ?_, h3.tokBox, h3.tokInj, h3.frL, h3.frT⟩
      · obtain ⟨b, f1, f2, f3, f4⟩ := h3.box l row e
        exact ⟨b, f1, f2, fun hu => f3 (.inl hu), f4⟩
      · obtain ⟨k, f1, f2, f3⟩ := h3.tok t m e
        refine ⟨k, f1, f2, fun hk => ?_⟩
        obtain ⟨b, e1, e2, e3⟩ := f3 hk
        exact ⟨b, e1, fun hu => e2 (.inl hu), e3⟩
  · rcases h4.new c v hc with h7 | h7
    · exact .inl h7
    · exact .inr fun hu => h7 (.inl hu)

end
end Go.Ab
