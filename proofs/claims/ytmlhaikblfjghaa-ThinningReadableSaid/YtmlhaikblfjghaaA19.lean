/- The executor is sound, 15: one operation of a region, whichever were done before. -/
import Derived.Test.YtmlhaikblfjghaaA18
namespace Go.Ab

/-- What is known of an operation that puts d. `b`: it is carried out. -/
inductive Fact (P : Program) (cfg : Cfg) (st : St) (ev : Operand → D) (o : Oper) (b : Bool) : D → Prop
  | val {d : D} (h : opD P cfg st ev o.dst o.op = .val d) : Fact P cfg st ev o b d
  | nd {p : Prop} {d : D} (h : opD P cfg st ev o.dst o.op = .nd p d) (hp : b = true → p) : Fact P cfg st ev o b d
  | asm {p : Prop} {d : D} (h : opD P cfg st ev o.dst o.op = .asm p d) : Fact P cfg st ev o b d
  | new {cs : List D} (h : opD P cfg st ev o.dst o.op = .new cs) : Fact P cfg st ev o b (.own cs)
  | call {f : Nat} {args args' : List D} {v : D} (h : opD P cfg st ev o.dst o.op = .call f args) (hp : b = true → Wks args args' ∧ Pure P f args' v) (hv : isD v = true) : Fact P cfg st ev o b v

/-- Operation number i leads from st to st'. -/
inductive StepFact (P : Program) (cfg : Cfg) (H : Nat) (ops : List Oper) (i : Nat) (o : Oper) (st : St) : St → FP → Prop
  | pick0 {c x z : Operand} {d : D} (hg : o.guard = none) (ho : o.op = .pick c x z) (h : pickD st.sl [] ops i c x z = some d) :
    StepFact P cfg H ops i o st { st with sl := putO st.sl o.dst d } (fpOf H ops o (evO st.sl []) [] false (baseOf d))
  | val0 {d : D} (hg : o.guard = none) (hf : Fact P cfg st (evO st.sl []) o true d) :
    StepFact P cfg H ops i o st { st with sl := putO st.sl o.dst d } (fpOf H ops o (evO st.sl []) [] false (baseOf d))
  | eff0 {p : Prop} {st1 : St} {d : D} (hg : o.guard = none) (h : opD P cfg st (evO st.sl []) o.dst o.op = .eff p st1 d) (hp : p) :
    StepFact P cfg H ops i o st { st1 with sl := putO st1.sl o.dst d } (fpOf H ops o (evO st.sl []) [] true (baseOf d))
  | pick1 {j : Nat} {w : Bool} {b : Bool} {c x z : Operand} {d : D} (hg : o.guard = some (j, w)) (hb : gB st.sl ops i 40 (j, w) = some b) (ho : o.op = .pick c x z) (h : pickD st.sl (clos ops i 40 (j, w)) ops i c x z = some d) :
    StepFact P cfg H ops i o st { st with sl := putO st.sl o.dst (.may j w d) } (fpOf H ops o (evO st.sl (clos ops i 40 (j, w))) (clos ops i 40 (j, w)) false (baseOf (.may j w d)))
  | val1 {j : Nat} {w : Bool} {b : Bool} {d : D} (hg : o.guard = some (j, w)) (hb : gB st.sl ops i 40 (j, w) = some b) (hf : Fact P cfg st (evO st.sl (clos ops i 40 (j, w))) o b d) (hm : okMay d = true) :
    StepFact P cfg H ops i o st { st with sl := putO st.sl o.dst (.may j w d) } (fpOf H ops o (evO st.sl (clos ops i 40 (j, w))) (clos ops i 40 (j, w)) false (baseOf (.may j w d)))

def MayD (ops : List Oper) (D : Nat → Prop) (st : St) : Prop := ∀ t j w d, look st.sl t = some (.may j w d) → dstOf ops j ≠ none → D j

section
variable {P : Program} {n : Nat} {cfg : Cfg} {ops : List Oper} {i : Nat} {o : Oper} {g : G} {β : Nat → Nat} {U : Nat → Prop} {st : St} {a : Act} {w : World} {D : Nat → Prop}

theorem yielded_none {j : Nat} (h : dstOf ops j = none) : yielded ops.toArray a.tmps j = none := by
  unfold yielded
  have h1 : ((ops.toArray[j]?).bind (·.dst)) = dstOf ops j := by simp [dstOf]
  rw [h1, h]; rfl

theorem hyieldD (k : OpsOk n ops) (ho : ops[i]? = some o) (v : Value) {j : Nat} (hj : dstOf ops j ≠ none → j ≠ i) : yielded ops.toArray (a.put o.dst v).tmps j = yielded ops.toArray a.tmps j := by
  cases hd : o.dst with
  | none => rfl
  | some t =>
    refine yielded_put fun hh => ?_
    have := hj (by rw [hh]; simp)
    exact this (apart_dst k.apart hh (by simp [dstOf, ho, hd]))

theorem chain_D (k : OpsOk n ops) (r : Rel n g β U (yOf ops a) st a w) (hc : ChainD ops D a) (hd : DoneOk ops D) (ho : ops[i]? = some o) (hi : ¬ D i) {v : Value}
    (hgd : ∀ q, o.guard = some q → dstOf ops q.1 ≠ none → D q.1) (hw : ∀ q, o.guard = some q → yielded ops.toArray a.tmps q.1 = some q.2 ∨ v = undef) : ChainD ops (fun j => D j ∨ j = i) (a.put o.dst v) := by
  intro j o' j1 w1 hj ho' hg hy
  have hne : ∀ {j1 w1}, D j → ops[j]? = some o' → o'.guard = some (j1, w1) → dstOf ops j1 ≠ none → j1 ≠ i := fun h1 h2 h3 h4 e => by
    subst e; exact hi (hd j o' _ _ h1 h2 h3 h4)
  by_cases hji : j = i
  · subst hji
    rw [ho] at ho'; cases ho'
    have hb1 := k.back ho hg
    simp only at hb1
    rw [hyieldD k ho v (fun _ => by omega)]
    rcases hw _ hg with h | h
    · exact h
    · subst h
      refine absurd (yielded_undef fun t ht => ?_) hy
      have hd : o.dst = some t := by simpa [dstOf, ho] using ht
      rw [hd, getD_put_same (by rw [r.size]; exact k.isIn j t ht)]
  · have hDj : D j := hj.resolve_right hji
    rw [hyieldD k ho v (fun _ => hji)] at hy
    rw [hyieldD k ho v (hne hDj ho' hg)]
    exact hc j o' j1 w1 hDj ho' hg hy

theorem may_D {d : Ab.D} (r : (st.sl.map (·.1)).Nodup) (hm : MayD ops D st) (hmay : ∀ j w0 e, d = .may j w0 e → dstOf ops j ≠ none → D j) : MayD ops (fun j => D j ∨ j = i) { st with sl := putO st.sl o.dst d } := by
  intro t j w0 e hl hj
  cases hd : o.dst with
  | none => rw [hd] at hl; exact .inl (hm t j w0 e hl hj)
  | some t' =>
    rw [hd] at hl
    rcases look_put r hl with ⟨_, h2⟩ | ⟨_, _, h3⟩
    · cases hp : isLp d t' with
      | true => rw [hp] at h2; cases h2
      | false => rw [hp] at h2; exact .inl (hmay j w0 e h2.symm hj)
    · exact .inl (hm t j w0 e h3 hj)

/-- Operation number i has put v into its slot. -/
theorem put_D (k : OpsOk n ops) (r : Rel n g β U (yOf ops a) st a w) (hm : MayD ops D st) (ho : ops[i]? = some o) (hi : ¬ D i) {v : Value} {d : Ab.D}
    (hv : ∀ t, RS g β (yOf ops (a.put o.dst v)) t d v) (hno : ∀ cs, d ≠ .own cs) (hb : Live (yOf ops (a.put o.dst v)) d → ∀ s, baseOf d = some s → ∃ cs, look st.sl s = some (.own cs)) :
    Rel n g β U (yOf ops (a.put o.dst v)) { st with sl := putO st.sl o.dst d } (a.put o.dst v) w := by
  cases hd : o.dst with
  | none =>
    have h1 : a.put none v = a := rfl
    simp only [h1, putO]
    exact r
  | some t =>
    simp only [putO]
    have hyd := fun j hj => hyieldD (a := a) k ho v (j := j) hj
    rw [hd] at hv hb hyd
    refine r.put (y' := yOf ops (a.put (some t) v)) (k.isIn i t (by simp [dstOf, ho, hd])) ?_ (fun cs => ?_) (fun hl s hs => ?_) (fun s j w0 e hs hl hy => ?_)
    · cases isLp d t
      · exact hv t
      · trivial
    · cases isLp d t
      · exact hno cs
      · simp
    · cases hp : isLp d t with
      | true => rw [hp] at hs; cases hs
      | false =>
        rw [hp] at hs hl
        simp only [cond_false] at hs hl
        refine ⟨fun e => ?_, hb hl s hs⟩
        subst e
        rw [isLp_base hs] at hp; cases hp
    · have h2 := hyd j (fun hdj e => by subst e; exact hi (hm _ _ _ _ hl hdj))
      unfold yOf at hy ⊢
      rw [← h2]; exact hy

/-- A value that comes of no more than new memory. -/
theorem fact_D (k : OpsOk n ops) (r : Rel n g β U (yOf ops a) st a w) (hm : MayD ops D st) (ho : ops[i]? = some o) (hi : ¬ D i) {cl : List (Nat × Bool)} (hcl : ∀ p ∈ cl, yOf ops a p.1 p.2) {d : Ab.D} (hf : Fact P cfg st (evO st.sl cl) o true d)
    {mk : Ab.D → Ab.D} (hmk : mk = (fun d => d) ∨ ((∀ cs, d ≠ .own cs) ∧ ∃ j w0, mk = fun d => .may j w0 d)) {K : Act → World → Prop} {Q : Exit → Act → World → Prop}
    (hK : ∀ g' β' v w', Rel n g' β' U (yOf ops (a.put o.dst v)) { st with sl := putO st.sl o.dst (mk d) } (a.put o.dst v) w' → Grow U g g' → Kept U w w' → K (a.put o.dst v) w') : o.wp P a w K Q := by
  have hev := evO_ev r hcl
  have hres := opD_ok (P := P) (cfg := cfg) (o := o) r hev
  have hval : ∀ {d : Ab.D}, (mk = (fun d => d) ∨ ((∀ cs, d ≠ .own cs) ∧ ∃ j w0, mk = fun d => .may j w0 d)) → DOk st.sl d → ∀ {g' : G} {w' : World} {v : Value}, Ext g w g' w' → RS0 g' β d v →
      Rel n g' β U (yOf ops (a.put o.dst v)) { st with sl := putO st.sl o.dst (mk d) } (a.put o.dst v) w' ∧ Grow U g g' ∧ Kept U w w' := by
    intro d hmk hd g' w' v h2 h3
    obtain ⟨r1, hg, hk⟩ := Ext.at_ r h2
    obtain ⟨n1, n2⟩ := okMay_facts hd.1
    refine ⟨?_, hg, hk⟩
    rcases hmk with rfl | ⟨_, j, w0, rfl⟩
    · exact put_D k r1 hm ho hi (fun t => RS.ofRS0 h3 hd.1) n1 (fun _ s hs => hd.2 s hs)
    · refine put_D k r1 hm ho hi (fun t _ => h3) (by simp) (fun _ s hs => hd.2 s ?_)
      cases d <;> first | exact hs | cases hs
  cases hf with
  | val h =>
    rw [h] at hres
    obtain ⟨v, w', g', h1, h2, h3⟩ := hres.2
    obtain ⟨e1, e2, e3⟩ := hval hmk hres.1 h2 h3
    exact wp_yield h1 (hK _ _ _ _ e1 e2 e3)
  | nd h hp =>
    rw [h] at hres
    obtain ⟨v, w', g', h1, h2, h3⟩ := hres.2 (hp rfl)
    obtain ⟨e1, e2, e3⟩ := hval hmk hres.1 h2 h3
    exact wp_yield h1 (hK _ _ _ _ e1 e2 e3)
  | asm h =>
    rw [h] at hres
    obtain ⟨v, w', g', h1, h2, h3⟩ := hres.2.2
    obtain ⟨e1, e2, e3⟩ := hval hmk hres.2.1 h2 h3
    exact wp_yield h1 (hK _ _ _ _ e1 e2 e3)
  | new h =>
    rename_i cs
    rw [h] at hres
    obtain ⟨hnd, T, vals, h1, h2⟩ := hres
    have hmk' : mk = fun d => d := by
      rcases hmk with h | ⟨h, _⟩
      · exact h
      · exact absurd rfl (h cs)
    subst hmk'
    have hal := Ext.alloc r.inv (.cells vals T (0, 0))
    refine wp_yield h1 ?_
    cases hd : o.dst with
    | none => exact absurd hd hnd
    | some t =>
      have hyd := fun j hj => hyieldD (a := a) k ho (.pointer (some ⟨w.heap.size, 0, none⟩)) (j := j) hj
      rw [hd] at hK hyd
      exact hK _ _ _ _ (r.boxed (t := t) (cs := cs) (T := T) (k.isIn i t (by simp [dstOf, ho, hd])) h2 (fun s j w0 e hs hl hy => by
        have h2 := hyd j (fun hdj e => by subst e; exact hi (hm _ _ _ _ hl hdj))
        unfold yOf at hy ⊢
        rw [← h2]; exact hy)) (hal.grow r.inv.ub) (hal.kept r.inv.ub)
  | call h hp hv =>
    rename_i f args args'
    rw [h] at hres
    obtain ⟨hwk, hp⟩ := hp rfl
    obtain ⟨vs, h1, h2⟩ := hres hp.ok
    refine wp_calls h1 (hp.at r (hwk _ _ h2)) fun e w'' ⟨x, g', h3, h4, h5⟩ => ⟨x, h3, ?_⟩
    obtain ⟨e1, e2, e3⟩ := hval hmk (DOk.ofD hv) h5 (RS0.ofR h4)
    exact hK _ _ _ _ e1 e2 e3

theorem step_D (k : OpsOk n ops) (r : Rel n g β U (yOf ops a) st a w) (hm : MayD ops D st) (hc : ChainD ops D a) (hd : DoneOk ops D) (ho : ops[i]? = some o) (hi : ¬ D i) (hgd : ∀ q, o.guard = some q → dstOf ops q.1 ≠ none → D q.1)
    (hwho : ∀ c x z s j, o.op = .pick c x z → c = .tmp s → whoWrote ops s i = some j → D j) {H : Nat} {st' : St} {fp : FP} (hf : StepFact P cfg H ops i o st st' fp) {K : Act → World → Prop} {Q : Exit → Act → World → Prop}
    (hK : ∀ g' β' v w', Rel n g' β' U (yOf ops (a.put o.dst v)) st' (a.put o.dst v) w' → MayD ops (fun j => D j ∨ j = i) st' → ChainD ops (fun j => D j ∨ j = i) (a.put o.dst v) → Grow U g g' → Kept U w w' → K (a.put o.dst v) w') :
    wpOp P ops.toArray Q i K a w := by
  have hget : ops.toArray[i]? = some o := by simpa using ho
  unfold wpOp
  simp only [hget]
  have hwant : o.guard = none → Region.wanted o (yielded ops.toArray a.tmps) = true := fun h => by simp [Region.wanted, h]
  have hw0 : o.guard = none → ∀ {v : Value} (q : Nat × Bool), o.guard = some q → yielded ops.toArray a.tmps q.1 = some q.2 ∨ v = undef := fun h v q hq => by rw [h] at hq; cases hq
  have hmayNo : ∀ {d : Ab.D}, (∀ j w0 e, d ≠ .may j w0 e) → ∀ j w0 e, d = .may j w0 e → dstOf ops j ≠ none → D j := fun h j w0 e hd => absurd hd (h j w0 e)
  cases hf with
  | pick0 hg hop h =>
    rename_i c x z d
    rw [if_pos (hwant hg)]
    refine .inl ?_
    obtain ⟨v, h1, h2⟩ := pick_ok (P := P) r hc hd (cl := []) (by simp) (hwho c x z · · hop) hop h
    obtain ⟨n1, n2, n3⟩ := h2.noOwn
    exact wp_yield (.inl h1) (hK _ _ _ _ (put_D k r hm ho hi (fun t => RS.ofRS0 (RS0.ofR h2) (isD_okMay h2.isD)) n1 (fun _ s hs => absurd hs (n3 s))) (may_D r.keys hm (hmayNo n2)) (chain_D k r hc hd ho hi hgd (hw0 hg)) (Grow.refl U g) (Kept.refl U w))
  | val0 hg hf =>
    rename_i d
    rw [if_pos (hwant hg)]
    refine .inl ?_
    have hnm : ∀ j w0 e, d ≠ .may j w0 e := by
      cases hf with
      | val h => have hres := opD_ok (P := P) (cfg := cfg) (o := o) r (evO_ev r (cl := []) (by simp)); rw [h] at hres; exact (okMay_facts hres.1.1).2
      | nd h hp => have hres := opD_ok (P := P) (cfg := cfg) (o := o) r (evO_ev r (cl := []) (by simp)); rw [h] at hres; exact (okMay_facts hres.1.1).2
      | asm h => have hres := opD_ok (P := P) (cfg := cfg) (o := o) r (evO_ev r (cl := []) (by simp)); rw [h] at hres; exact (okMay_facts hres.2.1.1).2
      | new h => simp
      | call h hp hv => exact (okMay_facts (isD_okMay hv)).2
    exact fact_D k r hm ho hi (cl := []) (by simp) hf (mk := fun d => d) (.inl rfl) fun g' β' v w' h1 h2 h3 => hK g' β' v w' h1 (may_D r.keys hm (hmayNo hnm)) (chain_D k r hc hd ho hi hgd (hw0 hg)) h2 h3
  | eff0 hg h hp =>
    rename_i p st1 d
    rw [if_pos (hwant hg)]
    refine .inl ?_
    have hsame := opD_eff h
    have hres := opD_ok (P := P) (cfg := cfg) (o := o) r (evO_ev r (cl := []) (by simp))
    rw [h] at hres
    obtain ⟨v, w', g', h1, r1, hgr, hkp, h3, h4⟩ := hres hp
    obtain ⟨n1, n2, n3⟩ := (R.ofRS0 h3 h4).noOwn
    have hm1 : MayD ops D st1 := fun t j w0 e hl hj => hm t j w0 e (hsame.may hl) hj
    exact wp_yield h1 (hK _ _ _ _ (put_D k r1 hm1 ho hi (fun t => RS.ofRS0 h3 (isD_okMay h4)) n1 (fun _ s hs => absurd hs (n3 s))) (may_D r1.keys hm1 (hmayNo n2)) (chain_D k r hc hd ho hi hgd (hw0 hg)) hgr hkp)
  | pick1 hg hb hop h =>
    rename_i j w1 b c x z d
    have hiff := gB_sound r hc hd 40 (j, w1) b (hgd _ hg) hb
    simp only at hiff
    by_cases hy : yielded ops.toArray a.tmps j = some w1
    · rw [if_pos (by simp [Region.wanted, hg, hy])]
      refine .inl ?_
      obtain ⟨v, h1, h2⟩ := pick_ok (P := P) r hc hd (clos_sound hc hd 40 (j, w1) (hgd _ hg) hy) (hwho c x z · · hop) hop h
      obtain ⟨n1, n2, n3⟩ := h2.noOwn
      exact wp_yield (.inl h1) (hK _ _ _ _ (put_D k r hm ho hi (fun t _ => RS0.ofR h2) (by simp) (fun _ s hs => absurd (show baseOf d = some s by cases d <;> first | exact hs | cases hs) (n3 s)))
        (may_D r.keys hm (fun j' w0 e he hj => by cases he; exact hgd _ hg hj)) (chain_D k r hc hd ho hi hgd (fun q hq => by rw [hg] at hq; cases hq; exact .inl hy)) (Grow.refl U g) (Kept.refl U w))
    · rw [if_neg (by simp [Region.wanted, hg, hy])]
      have hny : ¬ yOf ops (a.put o.dst undef) j w1 := by
        have := k.back ho hg
        simp only at this
        unfold yOf
        rw [hyieldD k ho undef (fun _ => by omega)]; exact hy
      exact hK _ _ _ _ (put_D k r hm ho hi (fun t h => absurd h hny) (by simp) (fun hl => absurd hl hny)) (may_D r.keys hm (fun j' w0 e he hj => by cases he; exact hgd _ hg hj)) (chain_D k r hc hd ho hi hgd (fun q hq => .inr rfl)) (Grow.refl U g) (Kept.refl U w)
  | val1 hg hb hf hmd =>
    rename_i j w1 b d
    have hiff := gB_sound r hc hd 40 (j, w1) b (hgd _ hg) hb
    simp only at hiff
    by_cases hy : yielded ops.toArray a.tmps j = some w1
    · rw [if_pos (by simp [Region.wanted, hg, hy])]
      refine .inl ?_
      have hbt : b = true := hiff.1 hy
      subst hbt
      exact fact_D k r hm ho hi (clos_sound hc hd 40 (j, w1) (hgd _ hg) hy) hf (mk := fun d => .may j w1 d) (.inr ⟨(okMay_facts hmd).1, j, w1, rfl⟩) fun g' β' v w' h1 h2 h3 =>
        hK g' β' v w' h1 (may_D r.keys hm (fun j' w0 e he hj => by cases he; exact hgd _ hg hj)) (chain_D k r hc hd ho hi hgd (fun q hq => by rw [hg] at hq; cases hq; exact .inl hy)) h2 h3
    · rw [if_neg (by simp [Region.wanted, hg, hy])]
      have hny : ¬ yOf ops (a.put o.dst undef) j w1 := by
        have := k.back ho hg
        simp only at this
        unfold yOf
        rw [hyieldD k ho undef (fun _ => by omega)]; exact hy
      exact hK _ _ _ _ (put_D k r hm ho hi (fun t h => absurd h hny) (by simp) (fun hl => absurd hl hny)) (may_D r.keys hm (fun j' w0 e he hj => by cases he; exact hgd _ hg hj)) (chain_D k r hc hd ho hi hgd (fun q hq => .inr rfl)) (Grow.refl U g) (Kept.refl U w)

end
end Go.Ab
