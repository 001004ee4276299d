/- The executor is sound, 19: regions that draw their order: whatever order is drawn. -/
import Derived.Test.YtmlhaikblfjghaaA22
namespace Go.Ab

section
variable {P : Program} {n : Nat} {cfg : Cfg} {ops : List Oper} {ms : List Nat} {i : Nat} {o : Oper} {st st' : St} {fp : FP} {H : Nat} {A : Nat → St} {F : Nat → FP}

theorem hitB_true {a b : List Nat} {t : Nat} (h1 : t ∈ a) (h2 : t ∈ b) : hitB a b = true := by
  simp only [hitB, List.any_eq_true]
  exact ⟨t, h1, t, h2, beq_eq.2 rfl⟩

/-- What a step's footprint holds. -/
structure FpFacts (H : Nat) (ops : List Oper) (o : Oper) (fp : FP) : Prop where
  wn : ∀ t ∈ fp.w, t ∈ fp.n
  dst : ∀ t, o.dst = some t → t ∈ fp.w
  tmps : ∀ t, .tmp t ∈ o.op.operands → t ∈ fp.n
  rb : ∀ s, fp.rb = some s → s ∈ fp.n

theorem mem_or {c r : Bool} {t H : Nat} (h : t ∈ (bif c then [H] else [])) : t ∈ (bif c || r then [H] else []) := by
  cases c
  · simp at h
  · exact h

theorem fpOf_facts {ev : Operand → D} {cl : List (Nat × Bool)} {eff : Bool} {rb : Option Nat} : FpFacts H ops o (fpOf H ops o ev cl eff rb) := by
  refine ⟨fun t ht => ?_, fun t ht => ?_, fun t ht => ?_, fun s hs => ?_⟩
  · simp only [fpOf, namesOf, List.mem_append] at ht ⊢
    rcases ht with (ht | ht) | ht
    · exact .inl (.inl (.inr ht))
    · cases eff with
      | false => simp at ht
      | true =>
        simp only [cond_true] at ht
        have hs : effOwn ev o.op = some t := by simpa using ht
        refine .inl (.inl (.inl (.inl (.inr ?_))))
        cases hop : o.op <;> rw [hop] at hs <;> try cases hs
        rename_i q x v
        exact List.mem_filterMap.2 ⟨x, by simp [Op.operands], hs⟩
    · exact .inr (mem_or ht)
  · simp only [fpOf, List.mem_append]; exact .inl (.inl (by rw [ht]; simp))
  · simp only [fpOf, namesOf, List.mem_append]; exact .inl (.inl (.inl (.inl (.inl (mem_tmps.2 ht)))))
  · simp only [fpOf] at hs
    simp only [fpOf, List.mem_append]; exact .inl (.inr (by rw [hs]; simp))

theorem StepFact.facts (hf : StepFact P cfg H ops i o st st' fp) : FpFacts H ops o fp := by cases hf <;> exact fpOf_facts

theorem StepFact.guardN (hf : StepFact P cfg H ops i o st st' fp) {q : Nat × Bool} (hg : o.guard = some q) (hlt : q.1 < i) {s : Nat} (hd : dstOf ops q.1 = some s) : s ∈ fp.n := by
  have hin : ∀ {j : Nat} {w : Bool}, j < i → dstOf ops j = some s → s ∈ (clos ops i 40 (j, w)).filterMap fun p => dstOf ops p.1 := fun {j w} h1 h2 =>
    List.mem_filterMap.2 ⟨(j, w), by simp [clos, blt_tt.2 h1], h2⟩
  cases hf with
  | pick0 h => rw [h] at hg; cases hg
  | val0 h => rw [h] at hg; cases hg
  | eff0 h => rw [h] at hg; cases hg
  | pick1 h => rw [h] at hg; cases hg; simp only [fpOf, namesOf, List.mem_append]; exact .inl (.inl (.inl (.inr (hin hlt hd))))
  | val1 h => rw [h] at hg; cases hg; simp only [fpOf, namesOf, List.mem_append]; exact .inl (.inl (.inl (.inr (hin hlt hd))))

theorem nodup_putO {sl : Slots} (h : (sl.map (·.1)).Nodup) (t : Option Nat) (d : D) : ((putO sl t d).map (·.1)).Nodup := by
  cases t with
  | none => exact h
  | some t => exact nodup_put h t _

theorem StepFact.nodup (hf : StepFact P cfg H ops i o st st' fp) (h : (st.sl.map (·.1)).Nodup) : (st'.sl.map (·.1)).Nodup := by
  cases hf with
  | eff0 hg hop hp =>
    refine nodup_putO ?_ _ _
    rcases opD_eff hop with e | ⟨s, cs, e⟩
    · rw [e]; exact h
    · rw [e, keys_setOwn]; exact h
  | _ => exact nodup_putO h _ _

/-- Fewer slots known, nothing that holds inside a region alone. -/
theorem Rel.sub {g : G} {β : Nat → Nat} {U : Nat → Prop} {y : Nat → Bool → Prop} {sc : St} {a : Act} {w : World} (r : Rel n g β U y sc a w) {st' : St} (hn : (st'.sl.map (·.1)).Nodup) (hh : st'.h = sc.h)
    (hl : ∀ t d, look st'.sl t = some d → look sc.sl t = some d ∧ isMayLp d = false) : Rel n g β U noY st' a w := by
  refine ⟨r.defers, r.size, hn, fun t d h => ?_, fun t d s h _ hs => ?_, fun t cs h => ?_, fun t t' cs cs' h h' => r.ownInj t t' cs cs' (hl _ _ h).1 (hl _ _ h').1, by rw [hh]; exact r.inv⟩
  · obtain ⟨h1, h2⟩ := hl t d h
    have h3 := r.slot t d h1
    cases d <;> first | exact h3 | cases h2
  · obtain ⟨h1, h2⟩ := hl t d h
    cases d <;> first | exact Bool.noConfusion (show true = false from h2) | cases hs
  · rw [hh]; exact r.own t cs (hl _ _ h).1

theorem edgesBack_at : ∀ {ops : List Oper} {k j : Nat} {o : Oper} {e : Edge}, edgesBack k ops = true → ops[j]? = some o → e ∈ o.after → Region.binds .any e = true → e.on < k + j
  | [], _, _, _, _, _, h, _, _ => by simp at h
  | o' :: r, k, j, o, e, h, ho, he, hb => by
    simp only [edgesBack, Bool.and_eq_true] at h
    cases j with
    | zero =>
      simp at ho; subst ho
      have := List.all_eq_true.1 h.1 e (by simpa using he)
      rw [hb] at this
      exact blt_tt.1 this
    | succ j =>
      have := edgesBack_at (k := k + 1) h.2 (by simpa using ho) he hb
      omega

theorem pairOk_hit {j m : Nat} {dst : Option Nat} {fj fm : FP} (h : pairOk (masks ops []) j m dst fj fm = true) {t : Nat} (ht : (t ∈ fm.w ∧ t ∈ fj.n) ∨ (t ∈ fm.n ∧ t ∈ fj.w)) : Waits ops j m := by
  simp only [pairOk, Bool.and_eq_true] at h
  have hit : (hitB fm.w fj.n || hitB fm.n fj.w) = true := by
    rcases ht with ⟨h1, h2⟩ | ⟨h1, h2⟩
    · rw [hitB_true h1 h2]; rfl
    · rw [hitB_true h1 h2]; simp
  have := h.1
  rw [hit] at this
  exact masks_sound this

theorem pairOk_rb {j m : Nat} {dst : Option Nat} {fj fm : FP} (h : pairOk ms j m dst fj fm = true) {s : Nat} (h1 : dst = some s) (h2 : fm.rb = some s) : False := by
  simp only [pairOk, Bool.and_eq_true] at h
  have := h.2
  rw [h1, h2] at this
  have hb : Nat.beq s s = true := beq_eq.2 rfl
  simp [hb] at this

/-- What holds at a point of a schedule. -/
structure Sched (P : Program) (n : Nat) (cfg : Cfg) (ops : List Oper) (A : Nat → St) (F : Nat → FP) (S : Nat → Prop) (sc : St) : Prop where
  agree : ∀ t i, i ≤ ops.length → (∀ m, m < ops.length → t ∈ (F m).w → (m < i ↔ S m)) → look (A i).sl t = look sc.sl t
  agreeH : ∀ i, i ≤ ops.length → (∀ m, m < ops.length → n ∈ (F m).w → (m < i ↔ S m)) → (A i).h = sc.h
  lp : ∀ t d s, look sc.sl t = some d → isLp d s = true → ∃ m, m < ops.length ∧ S m ∧ (F m).rb = some s
  closed : ∀ j o e, S j → ops[j]? = some o → e ∈ o.after → Region.binds .any e = true → S e.on

theorem Sched.waits {A : Nat → St} {F : Nat → FP} {S : Nat → Prop} {sc : St} (s : Sched P n cfg ops A F S sc) {j m : Nat} (h : Waits ops j m) (hj : S j ∨ ∀ o e, ops[j]? = some o → e ∈ o.after → Region.binds .any e = true → S e.on) : S m := by
  induction h with
  | one ho he hb hm =>
    subst hm
    rcases hj with hj | hj
    · exact s.closed _ _ _ hj ho he hb
    · exact hj _ _ ho he hb
  | more ho he hb hl h ih =>
    subst hl
    rcases hj with hj | hj
    · exact ih (.inl (s.closed _ _ _ hj ho he hb))
    · exact ih (.inl (hj _ _ ho he hb))

/-- What the trace says of itself. -/
structure TraceOk (P : Program) (n : Nat) (cfg : Cfg) (ops : List Oper) (A : Nat → St) (F : Nat → FP) : Prop where
  step : ∀ j o, ops[j]? = some o → StepFact P cfg n ops j o (A j) (A (j + 1)) (F j)
  pair : ∀ j o m, ops[j]? = some o → m < j → pairOk (masks ops []) j m o.dst (F j) (F m) = true
  start : ∀ t d s, look (A 0).sl t = some d → isLp d s = true → False

theorem TraceOk.lp (T : TraceOk P n cfg ops A F) (ok : OpsOk n ops) : ∀ i, i ≤ ops.length → ∀ t d s, look (A i).sl t = some d → isLp d s = true → ∃ m, m < i ∧ (F m).rb = some s
  | 0, _, t, d, s, h1, h2 => (T.start t d s h1 h2).elim
  | i + 1, hi, t, d, s, h1, h2 => by
    have hlt : i < ops.length := by omega
    have ho := List.getElem?_eq_getElem hlt
    have no : ∀ t0 t e, ops[i].dst = some t0 → look (A i).sl t = some e → isLp e t0 = false := by
      intro t0 t e hd he
      cases hl : isLp e t0 with
      | false => rfl
      | true =>
        obtain ⟨m, hm, hrb⟩ := T.lp ok i (by omega) t e t0 he hl
        exact (pairOk_rb (T.pair i _ m ho hm) hd hrb).elim
    obtain ⟨_, _, tw⟩ := step_agree (sc := A i) ok.back ho (T.step i _ ho) (fun _ _ => rfl) (fun _ => rfl) no no
    rcases tw.lp t d s h1 h2 with ⟨_, h⟩ | h
    · exact ⟨i, by omega, h⟩
    · obtain ⟨m, hm, hrb⟩ := T.lp ok i (by omega) t d s h h2
      exact ⟨m, by omega, hrb⟩

theorem TraceOk.no (T : TraceOk P n cfg ops A F) (ok : OpsOk n ops) {i : Nat} {o : Oper} (ho : ops[i]? = some o) : ∀ t0 t e, o.dst = some t0 → look (A i).sl t = some e → isLp e t0 = false := by
  intro t0 t e hd he
  cases hl : isLp e t0 with
  | false => rfl
  | true =>
    obtain ⟨m, hm, hrb⟩ := T.lp ok i (by have := (List.getElem?_eq_some_iff.1 ho).1; omega) t e t0 he hl
    exact (pairOk_rb (T.pair i _ m ho hm) hd hrb).elim

theorem TraceOk.same (T : TraceOk P n cfg ops A F) (ok : OpsOk n ops) {i : Nat} {o : Oper} (ho : ops[i]? = some o) : (∀ t, t ∉ (F i).w → look (A (i + 1)).sl t = look (A i).sl t) ∧ (n ∉ (F i).w → (A (i + 1)).h = (A i).h) := by
  obtain ⟨_, _, tw⟩ := step_agree (sc := A i) ok.back ho (T.step i _ ho) (fun _ _ => rfl) (fun _ => rfl) (T.no ok ho) (T.no ok ho)
  exact ⟨tw.same, tw.hs⟩

/-- Between two places without a writer nothing turns. -/
theorem TraceOk.span (T : TraceOk P n cfg ops A F) (ok : OpsOk n ops) {i : Nat} : ∀ k, i + k ≤ ops.length →
    (∀ t, (∀ m, i ≤ m → m < i + k → t ∉ (F m).w) → look (A (i + k)).sl t = look (A i).sl t) ∧ ((∀ m, i ≤ m → m < i + k → n ∉ (F m).w) → (A (i + k)).h = (A i).h)
  | 0, _ => ⟨fun _ _ => rfl, fun _ => rfl⟩
  | k + 1, hk => by
    have ho := List.getElem?_eq_getElem (l := ops) (i := i + k) (by omega)
    obtain ⟨h1, h2⟩ := T.same ok ho
    obtain ⟨h3, h4⟩ := T.span ok (i := i) k (by omega)
    refine ⟨fun t ht => ?_, fun ht => ?_⟩
    · rw [show i + (k + 1) = i + k + 1 by omega, h1 t (ht _ (by omega) (by omega))]
      exact h3 t fun m e1 e2 => ht m e1 (by omega)
    · rw [show i + (k + 1) = i + k + 1 by omega, h2 (ht _ (by omega) (by omega))]
      exact h4 fun m e1 e2 => ht m e1 (by omega)

/-- A step of a schedule. -/
theorem Sched.step {S : Nat → Prop} {sc : St} (s : Sched P n cfg ops A F S sc) (T : TraceOk P n cfg ops A F) (ok : OpsOk n ops) {i : Nat} {o : Oper} (ho : ops[i]? = some o) (hi : ¬ S i)
    (hr : ∀ o e, ops[i]? = some o → e ∈ o.after → Region.binds .any e = true → S e.on) :
    ∃ sc', StepFact P cfg n ops i o sc sc' (F i) ∧ Sched P n cfg ops A F (fun j => S j ∨ j = i) sc' := by
  have hlt : i < ops.length := (List.getElem?_eq_some_iff.1 ho).1
  have fi := (T.step i o ho).facts
  have getF : ∀ m, m < ops.length → ∃ om, ops[m]? = some om ∧ FpFacts n ops om (F m) := fun m hm => ⟨ops[m], List.getElem?_eq_getElem hm, (T.step m _ (List.getElem?_eq_getElem hm)).facts⟩
  -- one that is behind in the text and meets this one has not been
  have later : ∀ m t, m < ops.length → i < m → S m → (t ∈ (F m).w ∧ t ∈ (F i).n) ∨ (t ∈ (F m).n ∧ t ∈ (F i).w) → False := by
    intro m t hm him hS ht
    obtain ⟨om, hom, _⟩ := getF m hm
    refine hi (s.waits (pairOk_hit (T.pair m om i hom him) (t := t) ?_) (.inl hS))
    rcases ht with ⟨h1, h2⟩ | ⟨h1, h2⟩
    · exact .inr ⟨h2, h1⟩
    · exact .inl ⟨h2, h1⟩
  have iff : ∀ t ∈ (F i).n, ∀ m, m < ops.length → t ∈ (F m).w → (m < i ↔ S m) := by
    intro t ht m hm hw
    constructor
    · intro hmi
      exact s.waits (pairOk_hit (T.pair i o m ho hmi) (t := t) (.inl ⟨hw, ht⟩)) (.inr hr)
    · intro hS
      rcases Nat.lt_trichotomy m i with h | h | h
      · exact h
      · subst h; exact (hi hS).elim
      · exact (later m t hm h hS (.inl ⟨hw, ht⟩)).elim
  have no' : ∀ t0 t e, o.dst = some t0 → look sc.sl t = some e → isLp e t0 = false := by
    intro t0 t e hd he
    cases hl : isLp e t0 with
    | false => rfl
    | true =>
      obtain ⟨m, hm, hS, hrb⟩ := s.lp t e t0 he hl
      rcases Nat.lt_trichotomy m i with h | h | h
      · exact (pairOk_rb (T.pair i o m ho h) hd hrb).elim
      · subst h; exact (hi hS).elim
      · obtain ⟨om, hom, fm⟩ := getF m hm
        exact (later m t0 hm h hS (.inr ⟨fm.rb t0 hrb, fi.dst t0 hd⟩)).elim
  obtain ⟨sc', hf, tw⟩ := step_agree (sc := sc) ok.back ho (T.step i o ho) (fun t ht => s.agree t i (by omega) (iff t ht)) (fun hH => s.agreeH i (by omega) (iff n hH)) (T.no ok ho) no'
  refine ⟨sc', hf, ⟨fun t j hj hc => ?_, fun j hj hc => ?_, fun t d q h1 h2 => ?_, fun j o' e hj ho' he hb => ?_⟩⟩
  · by_cases ht : t ∈ (F i).w
    · have hij : i < j := (hc i hlt ht).2 (.inr rfl)
      have hnone : ∀ m, i + 1 ≤ m → m < i + 1 + (j - (i + 1)) → t ∉ (F m).w := by
        intro m e1 e2 hw
        have hm : m < ops.length := by omega
        rcases (hc m hm hw).1 (by omega) with h | h
        · exact later m t hm (by omega) h (.inl ⟨hw, fi.wn t ht⟩)
        · omega
      have := (T.span ok (i := i + 1) (j - (i + 1)) (by omega)).1 t hnone
      rw [show i + 1 + (j - (i + 1)) = j by omega] at this
      rw [this]; exact tw.w t ht
    · rw [tw.same' t ht]
      refine s.agree t j hj fun m hm hw => ?_
      have hne : m ≠ i := fun e => ht (e ▸ hw)
      rw [hc m hm hw]
      exact ⟨fun h => h.resolve_right hne, .inl⟩
  · by_cases ht : n ∈ (F i).w
    · have hij : i < j := (hc i hlt ht).2 (.inr rfl)
      have hnone : ∀ m, i + 1 ≤ m → m < i + 1 + (j - (i + 1)) → n ∉ (F m).w := by
        intro m e1 e2 hw
        have hm : m < ops.length := by omega
        rcases (hc m hm hw).1 (by omega) with h | h
        · exact later m n hm (by omega) h (.inl ⟨hw, fi.wn n ht⟩)
        · omega
      have := (T.span ok (i := i + 1) (j - (i + 1)) (by omega)).2 hnone
      rw [show i + 1 + (j - (i + 1)) = j by omega] at this
      rw [this]; exact tw.h ht
    · rw [tw.hs' ht]
      refine s.agreeH j hj fun m hm hw => ?_
      have hne : m ≠ i := fun e => ht (e ▸ hw)
      rw [hc m hm hw]
      exact ⟨fun h => h.resolve_right hne, .inl⟩
  · rcases tw.lp' t d q h1 h2 with ⟨_, h⟩ | h
    · exact ⟨i, hlt, .inr rfl, h⟩
    · obtain ⟨m, hm, hS, hrb⟩ := s.lp t d q h h2
      exact ⟨m, hm, .inl hS, hrb⟩
  · rcases hj with hj | rfl
    · exact .inl (s.closed j o' e hj ho' he hb)
    · exact .inl (hr o' e ho' he hb)

end
end Go.Ab
