/- The executor is sound, 14: the operations of a region in their order, joined. -/
import Derived.Test.YtmlhaikblfjghaaA17
namespace Go.Ab

section
variable {P : Program} {n : Nat} {cfg : Cfg} {ops : List Oper}

theorem R.noOwn {g : G} {d : D} {v : Value} (h : R g d v) : (∀ cs, d ≠ .own cs) ∧ (∀ j w e, d ≠ .may j w e) ∧ ∀ s, baseOf d ≠ some s := by
  cases d <;> first | (simp [R] at h; done) | exact ⟨by simp, by simp, by simp [baseOf]⟩

theorem RS.ofRS0 {g : G} {β : Nat → Nat} {y : Nat → Bool → Prop} {t : Nat} {d : D} {v : Value} (h : RS0 g β d v) (ho : okMay d = true) : RS g β y t d v := by
  cases d <;> first | exact h | cases ho

theorem okMay_facts {d : D} (h : okMay d = true) : (∀ cs, d ≠ .own cs) ∧ ∀ j w e, d ≠ .may j w e := by
  cases d <;> first | exact Bool.noConfusion (show false = true from h) | exact ⟨by simp, by simp⟩

/-- Operation number i has put v into its slot; the rest goes well. -/
theorem go_on {Q : St → Prop} {i : Nat} {o : Oper} {g0 g : G} {β : Nat → Nat} {U : Nat → Prop} {st : St} {a : Act} {w0 w : World} (k : OpsOk n ops) (r : Rel n g β U (yOf ops a) st a w) (hm : MayLt i st) (hc : Chain ops i a) (ho : ops[i]? = some o)
    (hg : Grow U g0 g) (hk : Kept U w0 w) {v : Value} {d : D}
    (hsem : OpsSem P n ops (i + 1) { st with sl := putO st.sl o.dst d } Q)
    (hv : ∀ t, RS g β (yOf ops (a.put o.dst v)) t d v) (hno : ∀ cs, d ≠ .own cs) (hb : Live (yOf ops (a.put o.dst v)) d → ∀ s, baseOf d = some s → ∃ cs, look st.sl s = some (.own cs))
    (hmay : ∀ j w0 e, d = .may j w0 e → j < i) (hw : ∀ q, o.guard = some q → yielded ops.toArray a.tmps q.1 = some q.2 ∨ v = undef) :
    wpOps P ops.toArray (OpsPost n U g0 w0 Q) (List.range' (i + 1) (ops.length - (i + 1))) (a.put o.dst v) w := by
  obtain ⟨h1, h2, h3⟩ := put_step k r hm hc ho hv hno hb hmay hw
  exact hsem.at h1 h2 h3 hg hk

theorem ops_sound {Q Q0 : St → Prop} {kc : Nat → St → Prop} (k : OpsOk n ops) (hq0 : ∀ st, Q0 st → Q st) (hkc : ∀ i st, kc i st → OpsSem P n ops i st Q) :
    ∀ (rest : List Oper) (i : Nat) (st : St), ops.drop i = rest → execOps P cfg (CallA P) (PCall P) ops (fun _ => false) kc i rest st Q0 → OpsSem P n ops i st Q
  | [], i, st, h, he => by
    intro g β U a w r hm hc
    have hl : ops.length - i = 0 := by have := congrArg List.length h; simpa using this
    rw [hl]
    simp only [execOps] at he
    exact ⟨rfl, g, β, _, r.purged noY, Grow.refl U g, Kept.refl U w, hq0 _ he⟩
  | o :: rest, i, st, h, he => by
    intro g β U a w r hm hc
    have hlt : i < ops.length := by
      rcases Nat.lt_or_ge i ops.length with h1 | h1
      · exact h1
      · rw [List.drop_eq_nil_of_le h1] at h; cases h
    have hcons := List.drop_eq_getElem_cons hlt
    rw [h] at hcons
    have ho : ops[i]? = some o := by
      rw [List.getElem?_eq_getElem hlt]
      exact congrArg some (List.cons.inj hcons).1.symm
    have hrest : ops.drop (i + 1) = rest := (List.cons.inj hcons).2.symm
    have hr : List.range' i (ops.length - i) = i :: List.range' (i + 1) (ops.length - (i + 1)) := by
      have : ops.length - i = (ops.length - (i + 1)) + 1 := by omega
      rw [this, List.range'_succ]
    have ih : ∀ st1, execOps P cfg (CallA P) (PCall P) ops (fun _ => false) kc (i + 1) rest st1 Q0 → OpsSem P n ops (i + 1) st1 Q := fun st1 => ops_sound k hq0 hkc rest (i + 1) st1 hrest
    have hget : ops.toArray[i]? = some o := by simpa using ho
    have hdone : DoneOk ops (· < i) := fun j o' j1 w1 hj ho' hg _ => by have := k.back ho' hg; simp only at this; omega
    have hcD : ChainD ops (· < i) a := hc
    have hwho : ∀ (c : Operand) s j, c = .tmp s → whoWrote ops s i = some j → j < i := fun _ s j _ h => (whoWrote_sound h).1
    show wpOps P ops.toArray (OpsPost n U g w Q) (List.range' i (ops.length - i)) a w
    rw [hr]
    simp only [wpOps, hget]
    simp only [execOps] at he
    cases hgd : o.guard with
    | none =>
      rw [hgd] at he
      simp only at he
      have hwant : Region.wanted o (yielded ops.toArray a.tmps) = true := by simp [Region.wanted, hgd]
      rw [if_pos hwant]
      refine .inl ?_
      have hw : ∀ {v : Value} (q : Nat × Bool), o.guard = some q → yielded ops.toArray a.tmps q.1 = some q.2 ∨ v = undef := fun q hq => by rw [hgd] at hq; cases hq
      have hev := evO_ev r (cl := []) (by simp)
      have hres := opD_ok (P := P) (cfg := cfg) (o := o) r hev
      split at he
      · rename_i c x z hop
        split at he
        · rename_i d hp
          obtain ⟨v, h1, h2⟩ := pick_ok (P := P) r hcD hdone (cl := []) (by simp) (hwho c) hop hp
          obtain ⟨n1, n2, n3⟩ := h2.noOwn
          exact wp_yield (.inl h1) (go_on k r hm hc ho (Grow.refl U g) (Kept.refl U w) (ih _ he) (fun t => RS.ofRS0 (RS0.ofR h2) (isD_okMay h2.isD)) n1 (fun _ s hs => absurd hs (n3 s)) (fun j w0 e hj => absurd hj (n2 j w0 e)) hw)
        · exact he.elim
      · rename_i hnp
        have hval : ∀ {d : D}, DOk st.sl d → VOk P g β a o w d → OpsSem P n ops (i + 1) { st with sl := putO st.sl o.dst d } Q →
            o.wp P a w (wpOps P ops.toArray (OpsPost n U g w Q) (List.range' (i + 1) (ops.length - (i + 1)))) (OpsPost n U g w Q) := by
          intro d hd ⟨v, w', g', h1, h2, h3⟩ hs
          obtain ⟨r1, hg, hk⟩ := Ext.at_ r h2
          obtain ⟨n1, n2⟩ := okMay_facts hd.1
          exact wp_yield h1 (go_on k r1 hm hc ho hg hk hs (fun t => RS.ofRS0 h3 hd.1) n1 (fun _ s hs => hd.2 s hs) (fun j w0 e hj => absurd hj (n2 j w0 e)) hw)
        cases hopd : opD P cfg st (evO st.sl []) o.dst o.op with
        | val d =>
          rw [hopd] at he hres
          exact hval hres.1 hres.2 (ih _ he)
        | nd p d =>
          rw [hopd] at he hres
          exact hval hres.1 (hres.2 he.1) (ih _ he.2)
        | asm p d =>
          rw [hopd] at he hres
          exact hval hres.2.1 hres.2.2 (ih _ (he hres.1))
        | new cs =>
          rw [hopd] at he hres
          obtain ⟨hnd, T, vals, h1, h2⟩ := hres
          have hs := ih _ he
          have hal := Ext.alloc r.inv (.cells vals T (0, 0))
          have hg := hal.grow r.inv.ub
          have hk := hal.kept r.inv.ub
          refine wp_yield h1 ?_
          have hyield : ∀ j, j ≠ i → yielded ops.toArray (a.put o.dst (.pointer (some ⟨w.heap.size, 0, none⟩))).tmps j = yielded ops.toArray a.tmps j := by
            intro j hj
            cases hd : o.dst with
            | none => rfl
            | some t => exact yielded_put (fun hh => hj (apart_dst k.apart hh (by simp [dstOf, ho, hd])))
          cases hd : o.dst with
          | none =>
            exact absurd hd hnd
          | some t =>
            have r1 := r.boxed (t := t) (cs := cs) (T := T) (y' := yOf ops (a.put o.dst (.pointer (some ⟨w.heap.size, 0, none⟩)))) (k.isIn i t (by simp [dstOf, ho, hd])) h2 (fun s j w0 e hs hl hy => by
              have := hm _ _ _ _ hl
              unfold yOf at hy ⊢
              rw [← hyield j (by omega)]; exact hy)
            rw [hd] at r1 hs hyield
            refine hs.at r1 (fun s j w0 e hl => ?_) (fun j o' j1 w1 hj ho' hg' hy => ?_) hg hk
            · rcases look_put r.keys hl with ⟨_, h2⟩ | ⟨_, _, h3⟩
              · cases h2
              · have := hm s j w0 e h3; omega
            · have hb1 := k.back ho' hg'
              simp only at hb1
              by_cases hji : j = i
              · subst hji
                rw [ho] at ho'; cases ho'
                rw [hgd] at hg'; cases hg'
              · rw [hyield j hji] at hy
                rw [hyield j1 (by omega)]
                exact hc j o' j1 w1 (by omega) ho' hg' hy
        | eff p st' d =>
          have hsame := opD_eff hopd
          rw [hopd] at he hres
          simp only [cond_false] at he
          obtain ⟨v, w', g', h1, r1, hg, hk, h3, h4⟩ := hres he.1
          have h3' := R.ofRS0 h3 h4
          obtain ⟨n1, n2, n3⟩ := h3'.noOwn
          exact wp_yield h1 (go_on k r1 (fun t j w0 e hl => hm t j w0 e (hsame.may hl)) hc ho hg hk (ih _ he.2) (fun t => RS.ofRS0 h3 (isD_okMay h4)) n1 (fun _ s hs => absurd hs (n3 s)) (fun j w0 e hj => absurd hj (n2 j w0 e)) hw)
        | call f args =>
          rw [hopd] at he hres
          simp only [cond_false] at he
          obtain ⟨vs, h1, h2⟩ := hres he.ok
          refine wp_calls h1 (he.at r h2) fun e w'' ⟨x, g', d, h', h3, h4, r1, hg, hk, h5⟩ => ⟨x, h3, ?_⟩
          obtain ⟨n1, n2, n3⟩ := h4.noOwn
          exact go_on k r1 (fun t j w0 e hl => hm t j w0 e hl) hc ho hg hk (hkc _ _ h5) (fun t => RS.ofRS0 (RS0.ofR h4) (isD_okMay h4.isD)) n1 (fun _ s hs => absurd hs (n3 s)) (fun j w0 e hj => absurd hj (n2 j w0 e)) hw
        | bad => rw [hopd] at he; exact he.elim
    | some q =>
      obtain ⟨j, w1⟩ := q
      rw [hgd] at he
      simp only at he
      have hji : j < i := k.back ho hgd
      cases hgb : gB st.sl ops i 40 (j, w1) with
      | none => rw [hgb] at he; exact he.elim
      | some b =>
        rw [hgb] at he
        simp only at he
        have hiff := gB_sound r hcD hdone 40 (j, w1) b (fun _ => hji) hgb
        simp only at hiff
        have hyield : ∀ (v : Value), yielded ops.toArray (a.put o.dst v).tmps j = yielded ops.toArray a.tmps j := by
          intro v
          cases hd : o.dst with
          | none => rfl
          | some t => exact yielded_put (fun hh => (by omega : j ≠ i) (apart_dst k.apart hh (by simp [dstOf, ho, hd])))
        -- what hangs on the guard, if it has not said so
        have hskip : ∀ {d : D}, yielded ops.toArray a.tmps j ≠ some w1 → (∀ cs, d ≠ .own cs) → (d = .may j w1 d ∨ d = .junk ∨ ∃ e, d = .may j w1 e) → OpsSem P n ops (i + 1) { st with sl := putO st.sl o.dst d } Q →
            wpOps P ops.toArray (OpsPost n U g w Q) (List.range' (i + 1) (ops.length - (i + 1))) (a.put o.dst undef) w := by
          intro d hny hno hform hs
          have hlive : ∀ e, d = .may j w1 e → ¬ yOf ops (a.put o.dst undef) j w1 := by
            intro e _ hy
            unfold yOf at hy
            rw [hyield] at hy
            exact hny hy
          have hform' : d = .junk ∨ ∃ e, d = .may j w1 e := by
            rcases hform with h | h | h
            · exact .inr ⟨d, h⟩
            · exact .inl h
            · exact .inr h
          refine go_on k r hm hc ho (Grow.refl U g) (Kept.refl U w) hs (fun t => ?_) hno (fun hl s hs => ?_) (fun j' w0 e hj => ?_) (fun q _ => .inr rfl)
          · rcases hform' with rfl | ⟨e, rfl⟩
            · trivial
            · exact fun hy => absurd hy (hlive e rfl)
          · rcases hform' with rfl | ⟨e, rfl⟩
            · cases hs
            · exact absurd hl (hlive e rfl)
          · rcases hform' with rfl | ⟨e', rfl⟩
            · cases hj
            · cases hj; exact hji
        by_cases hy : yielded ops.toArray a.tmps j = some w1
        · -- it has
          have hb : b = true := hiff.1 hy
          subst hb
          have hwant : Region.wanted o (yielded ops.toArray a.tmps) = true := by simp [Region.wanted, hgd, hy]
          rw [if_pos hwant]
          refine .inl ?_
          have hw : ∀ {v : Value} (q : Nat × Bool), o.guard = some q → yielded ops.toArray a.tmps q.1 = some q.2 ∨ v = undef := fun q hq => by rw [hgd] at hq; cases hq; exact .inl hy
          have hcl : ∀ p ∈ clos ops i 40 (j, w1), yOf ops a p.1 p.2 := clos_sound hcD hdone 40 (j, w1) (fun _ => hji) hy
          have hev := evO_ev r hcl
          have hres := opD_ok (P := P) (cfg := cfg) (o := o) r hev
          have hval : ∀ {d : D}, DOk st.sl d → VOk P g β a o w d → OpsSem P n ops (i + 1) { st with sl := putO st.sl o.dst (.may j w1 d) } Q →
              o.wp P a w (wpOps P ops.toArray (OpsPost n U g w Q) (List.range' (i + 1) (ops.length - (i + 1)))) (OpsPost n U g w Q) := by
            intro d hd ⟨v, w', g', h1, h2, h3⟩ hs
            obtain ⟨r1, hg, hk⟩ := Ext.at_ r h2
            refine wp_yield h1 (go_on k r1 hm hc ho hg hk hs (fun t => fun _ => h3) (by simp) (fun _ s hs => ?_) (fun j' w0 e hj => by cases hj; exact hji) hw)
            have : baseOf d = some s := by cases d <;> first | exact hs | cases hs
            exact hd.2 s this
          split at he
          · rename_i c x z hop
            split at he
            · rename_i d hp
              obtain ⟨v, h1, h2⟩ := pick_ok (P := P) r hcD hdone hcl (hwho c) hop hp
              exact hval (DOk.ofD h2.isD) (VOk.plain r.inv h1 (RS0.ofR h2)) (ih _ he)
            · exact he.elim
          · rename_i hnp
            cases hopd : opD P cfg st (evO st.sl (clos ops i 40 (j, w1))) o.dst o.op with
            | val d =>
              rw [hopd] at he hres
              simp only at he
              cases hm' : okMay d with
              | false => rw [hm'] at he; exact he.elim
              | true => rw [hm'] at he; exact hval hres.1 hres.2 (ih _ he)
            | nd p d =>
              rw [hopd] at he hres
              simp only at he
              cases hm' : okMay d with
              | false => rw [hm'] at he; exact he.elim
              | true => rw [hm'] at he; exact hval hres.1 (hres.2 (he.1 (by trivial))) (ih _ he.2)
            | asm p d =>
              rw [hopd] at he hres
              simp only at he
              cases hm' : okMay d with
              | false => rw [hm'] at he; exact he.elim
              | true => rw [hm'] at he; exact hval hres.2.1 hres.2.2 (ih _ (he fun _ => hres.1))
            | new cs => rw [hopd] at he; exact he.elim
            | eff p st' d =>
              have hsame := opD_eff hopd
              rw [hopd] at he hres
              simp only [cond_false, cond_true] at he
              obtain ⟨v, w', g', h1, r1, hg, hk, h3, h4⟩ := hres he.1
              have h3' := R.ofRS0 h3 h4
              obtain ⟨n1, n2, n3⟩ := h3'.noOwn
              exact wp_yield h1 (go_on k r1 (fun t j w0 e hl => hm t j w0 e (hsame.may hl)) hc ho hg hk (ih _ he.2) (fun t => RS.ofRS0 h3 (isD_okMay h4)) n1 (fun _ s hs => absurd hs (n3 s)) (fun j w0 e hj => absurd hj (n2 j w0 e)) hw)
            | call f args =>
              rw [hopd] at he hres
              simp only at he
              obtain ⟨args', d, _, hp, hk'⟩ := he.it
              obtain ⟨hwk, hp⟩ := hp rfl
              obtain ⟨vs, h1, h2⟩ := hres hp.ok
              refine wp_calls h1 (hp.at r (hwk _ _ h2)) fun e w'' ⟨x, g', h3, h4, h5⟩ => ⟨x, h3, ?_⟩
              obtain ⟨r1, hg, hk⟩ := Ext.at_ r h5
              obtain ⟨n1, n2, n3⟩ := h4.noOwn
              exact go_on k r1 hm hc ho hg hk (hkc _ _ hk') (fun t _ => RS0.ofR h4) (by simp) (fun _ s hs => absurd (show baseOf d = some s by cases d <;> first | exact hs | cases hs) (n3 s)) (fun j' w0 e hj => by cases hj; exact hji) hw
            | bad => rw [hopd] at he; exact he.elim
        · have hb : b = false := by
            cases b with
            | false => rfl
            | true => exact absurd (hiff.2 rfl) hy
          subst hb
          have hwant : ¬ (Region.wanted o (yielded ops.toArray a.tmps) = true) := by simp [Region.wanted, hgd, hy]
          rw [if_neg hwant]
          have hmay : ∀ {d : D}, OpsSem P n ops (i + 1) { st with sl := putO st.sl o.dst (.may j w1 d) } Q →
              wpOps P ops.toArray (OpsPost n U g w Q) (List.range' (i + 1) (ops.length - (i + 1))) (a.put o.dst undef) w := fun {d} hs => hskip hy (by simp) (.inr (.inr ⟨d, rfl⟩)) hs
          split at he
          · split at he
            · exact hmay (ih _ he)
            · exact he.elim
          · cases hopd : opD P cfg st (evO st.sl (clos ops i 40 (j, w1))) o.dst o.op with
            | val d =>
              rw [hopd] at he
              simp only at he
              cases hm' : okMay d with
              | false => rw [hm'] at he; exact he.elim
              | true => rw [hm'] at he; exact hmay (ih _ he)
            | nd p d =>
              rw [hopd] at he
              simp only at he
              cases hm' : okMay d with
              | false => rw [hm'] at he; exact he.elim
              | true => rw [hm'] at he; exact hmay (ih _ he.2)
            | asm p d =>
              rw [hopd] at he
              simp only at he
              cases hm' : okMay d with
              | false => rw [hm'] at he; exact he.elim
              | true => rw [hm'] at he; exact hmay (ih _ (he fun h => by cases h))
            | new cs => rw [hopd] at he; exact he.elim
            | eff p st' d =>
              rw [hopd] at he
              simp only [cond_false] at he
              exact hskip hy (by simp) (.inr (.inl rfl)) (ih _ he)
            | call f args =>
              rw [hopd] at he
              simp only at he
              obtain ⟨args', d, _, hp, hk'⟩ := he.it
              exact hmay (hkc _ _ hk')
            | bad => rw [hopd] at he; exact he.elim

end
end Go.Ab
