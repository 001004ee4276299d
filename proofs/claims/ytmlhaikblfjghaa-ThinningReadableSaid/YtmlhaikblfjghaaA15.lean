/- The executor is sound, 11: the operations of a region in their order. -/
import Derived.Test.YtmlhaikblfjghaaA14
namespace Go.Ab

theorem beqB_eq {a b : Bool} (h : beqB a b = true) : a = b := by cases a <;> cases b <;> first | rfl | exact Bool.noConfusion (show false = true from h)

section
variable {P : Program} {n : Nat} {g : G} {β : Nat → Nat} {U : Nat → Prop} {st : St} {a : Act} {w : World} {o : Oper} {ops : List Oper} {i : Nat}

theorem yielded_of {s : Nat} {b : Bool} {j : Nat} (hj : dstOf ops j = some s) (h : a.tmps.getD s undef = .bool b) : yielded ops.toArray a.tmps j = some b := by
  unfold yielded
  have h1 : ((ops.toArray[j]?).bind (·.dst)) = some s := by simpa [dstOf] using hj
  rw [h1]
  have h2 : a.tmps[s]? = some (.bool b) := by
    cases hs : a.tmps[s]? with
    | none => simp [hs, undef] at h
    | some v => simp [hs] at h; rw [h]
  simp [h2]

/-- Chain, of the operations that are done. -/
def ChainD (ops : List Oper) (D : Nat → Prop) (a : Act) : Prop :=
  ∀ j o j1 w1, D j → ops[j]? = some o → o.guard = some (j1, w1) → yielded ops.toArray a.tmps j ≠ none → yielded ops.toArray a.tmps j1 = some w1

/-- What one that is done hangs on is done. -/
def DoneOk (ops : List Oper) (D : Nat → Prop) : Prop := ∀ j o j1 w1, D j → ops[j]? = some o → o.guard = some (j1, w1) → dstOf ops j1 ≠ none → D j1

theorem gB_sound {D : Nat → Prop} (r : Rel n g β U (yOf ops a) st a w) (hc : ChainD ops D a) (hd : DoneOk ops D) : ∀ (m : Nat) (q : Nat × Bool) (x : Bool), (dstOf ops q.1 ≠ none → D q.1) → gB st.sl ops i m q = some x → (yielded ops.toArray a.tmps q.1 = some q.2 ↔ x = true)
  | 0, _, _, _, h => by simp [gB] at h
  | m + 1, (j, w0), x, hq, h => by
    simp only [gB] at h
    cases hj : dstOf ops j with
    | none => rw [hj] at h; cases h
    | some s =>
      rw [hj] at h
      simp only at h
      split at h
      · rename_i b hl
        cases h
        have := yielded_of hj (by simpa [RS, RS0, R] using r.slot s _ hl)
        simp only [this]
        cases b <;> cases w0 <;> simp
      · rename_i j' w' b hl
        cases hb : Nat.blt j i && guardIs ops j j' w' with
        | false => rw [hb] at h; cases h
        | true =>
          rw [hb] at h
          simp only [cond_true] at h
          simp only [Bool.and_eq_true] at hb
          have hji : D j := hq (by rw [hj]; simp)
          cases hx : gB st.sl ops i m (j', w') with
          | none => rw [hx] at h; cases h
          | some x' =>
            rw [hx] at h
            cases h
            have hguard : ∃ o, ops[j]? = some o ∧ o.guard = some (j', w') := by
              have h2 := hb.2
              unfold guardIs at h2
              cases ho : ops[j]? with
              | none => rw [ho] at h2; simp at h2
              | some o =>
                rw [ho] at h2
                simp only [Option.bind_some] at h2
                cases hg : o.guard with
                | none => rw [hg] at h2; simp at h2
                | some p =>
                  obtain ⟨p1, p2⟩ := p
                  rw [hg] at h2
                  simp only [Bool.and_eq_true] at h2
                  have e1 := beq_eq.1 h2.1
                  have e2 := beqB_eq h2.2
                  subst e1; subst e2
                  exact ⟨o, rfl, hg⟩
            obtain ⟨o, ho, hog⟩ := hguard
            have ih := gB_sound r hc hd m (j', w') x' (hd j o j' w' hji ho hog) hx
            simp only at ih
            have hs : yielded ops.toArray a.tmps j' = some w' → yielded ops.toArray a.tmps j = some b := fun hy =>
              yielded_of hj (by
                have := r.slot s _ hl
                simp only [RS] at this
                simpa [RS0, R] using this hy)
            constructor
            · intro hy
              have h1 := hc j o j' w' hji ho hog (by rw [hy]; simp)
              have h2 := hs h1
              rw [hy] at h2; cases h2
              rw [ih.1 h1]
              cases w0 <;> rfl
            · intro hy
              simp only [Bool.and_eq_true] at hy
              have h1 := hs (ih.2 hy.1)
              rw [h1]
              have := hy.2
              cases b <;> cases w0 <;> simp_all
      · cases h

theorem clos_sound {D : Nat → Prop} (hc : ChainD ops D a) (hd : DoneOk ops D) : ∀ (m : Nat) (q : Nat × Bool), (dstOf ops q.1 ≠ none → D q.1) → yielded ops.toArray a.tmps q.1 = some q.2 → ∀ p ∈ clos ops i m q, yielded ops.toArray a.tmps p.1 = some p.2
  | 0, _, _, _, p, hp => by simp [clos] at hp
  | m + 1, q, hqd, hq, p, hp => by
    simp only [clos] at hp
    cases hb : Nat.blt q.1 i with
    | false => rw [hb] at hp; simp at hp
    | true =>
      rw [hb] at hp
      simp only [cond_true, List.mem_cons] at hp
      rcases hp with rfl | hp
      · exact hq
      · cases ho : ops[q.1]? with
        | none => rw [ho] at hp; simp at hp
        | some o =>
          rw [ho] at hp
          simp only [Option.bind_some] at hp
          cases hg : o.guard with
          | none => rw [hg] at hp; simp at hp
          | some q' =>
            rw [hg] at hp
            have hq0 : D q.1 := hqd (fun h0 => by
              have : yielded ops.toArray a.tmps q.1 = none := by
                unfold yielded
                have h1 : ((ops.toArray[q.1]?).bind (·.dst)) = dstOf ops q.1 := by simp [dstOf]
                rw [h1, h0]; rfl
              rw [this] at hq; cases hq)
            exact clos_sound hc hd m q' (hd q.1 o q'.1 q'.2 hq0 ho (by rw [hg])) (hc q.1 o q'.1 q'.2 hq0 ho (by rw [hg]) (by rw [hq]; simp)) p hp

theorem hasG_sound : ∀ (cl : List (Nat × Bool)) (j : Nat) (w : Bool), hasG cl j w = true → (j, w) ∈ cl
  | [], _, _, h => by simp [hasG] at h
  | (p, q) :: r, j, w, h => by
    simp only [hasG, Bool.or_eq_true, Bool.and_eq_true] at h
    rcases h with ⟨h1, h2⟩ | h
    · have e1 := beq_eq.1 h1
      have e2 := beqB_eq h2
      subst e1; subst e2
      exact List.mem_cons_self ..
    · exact List.mem_cons_of_mem _ (hasG_sound r j w h)

theorem ofVal_may (v : Value) : isD (ofVal v) = true ∨ ofVal v = .junk := by
  have hc : ∀ (c : Bool) (x : D), isD x = true → isD (bif c then x else .junk) = true ∨ (bif c then x else .junk) = .junk := by
    intro c x h; cases c
    · exact .inr rfl
    · exact .inl h
  unfold ofVal
  split <;> first | exact .inl rfl | exact .inr rfl | exact hc _ _ rfl

theorem evO_ev {y : Nat → Bool → Prop} (r : Rel n g β U y st a w) {cl : List (Nat × Bool)} (hcl : ∀ p ∈ cl, y p.1 p.2) : Ev g β st.sl a (evO st.sl cl) := by
  have hmay : ∀ {t j w0 d}, look st.sl t = some (.may j w0 d) → hasG cl j w0 = true → RS0 g β d (a.tmps.getD t undef) ∧ y j w0 := by
    intro t j w0 d hl hg
    have hy := hcl _ (hasG_sound cl j w0 hg)
    exact ⟨r.slot t _ hl hy, hy⟩
  have hcond : ∀ {c : Bool} {d : D}, (bif c then d else D.junk) ≠ .junk → c = true := by
    intro c d h; cases c
    · exact absurd rfl h
    · rfl
  refine ⟨fun x hx => ?_, fun x s off hx => ?_, fun x cs hx => ?_, fun x j w0 d hx => ?_⟩
  · cases x with
    | tmp t =>
      simp only [evO] at hx ⊢
      split at hx <;> rename_i heq
      · have := r.slot t _ heq
        simpa [RS, RS0, Act.eval] using this
      · have hg := hcond hx
        rw [hg]
        exact (hmay heq hg).1
      · have := r.slot t _ heq
        rename_i d h1 h2
        cases d <;> first | exact this | exact absurd rfl hx | exact absurd rfl (h1 _) | exact absurd rfl (h2 _ _ _)
      · exact absurd rfl hx
    | const v => exact RS0.ofVal g β v hx
    | func f => simp only [evO, Act.eval, RS0, R]; exact ⟨[], rfl, rfl⟩
    | global q => exact absurd rfl hx
  · cases x with
    | tmp t =>
      simp only [evO] at hx
      split at hx <;> rename_i heq
      · cases hx; exact ⟨_, heq⟩
      · have hg := hcond (by rw [hx]; simp)
        rw [hg] at hx
        simp only [cond_true] at hx
        subst hx
        exact r.base t _ s heq (hmay heq hg).2 rfl
      · subst hx; exact r.base t _ s heq trivial rfl
      · cases hx
    | const v => simp only [evO] at hx; rcases ofVal_may v with h | h <;> rw [hx] at h <;> cases h
    | func f => cases hx
    | global q => cases hx
  · cases x with
    | tmp t =>
      simp only [evO] at hx
      split at hx <;> rename_i heq
      · cases hx
      · have hg := hcond (by rw [hx]; simp)
        rw [hg] at hx
        simp only [cond_true] at hx
        subst hx
        have := (hmay heq hg).1
        simp [RS0, R] at this
      · rename_i h1 h2
        subst hx
        exact absurd rfl (h1 _)
      · cases hx
    | const v => simp only [evO] at hx; rcases ofVal_may v with h | h <;> rw [hx] at h <;> cases h
    | func f => cases hx
    | global q => cases hx
  · cases x with
    | tmp t =>
      simp only [evO] at hx
      split at hx <;> rename_i heq
      · cases hx
      · have hg := hcond (by rw [hx]; simp)
        rw [hg] at hx
        simp only [cond_true] at hx
        subst hx
        have := (hmay heq hg).1
        simp [RS0, R] at this
      · rename_i h1 h2
        subst hx
        exact absurd rfl (h2 _ _ _)
      · cases hx
    | const v => simp only [evO] at hx; rcases ofVal_may v with h | h <;> rw [hx] at h <;> cases h
    | func f => cases hx
    | global q => cases hx

end
end Go.Ab
