/- The executor is sound, 18: regions that draw their order: the trace in the order of the text, the masks. -/
import Derived.Test.YtmlhaikblfjghaaA21
import Derived.Orders
namespace Go.Ab

/-- What the run in the order of the text has shown. -/
structure Trace (P : Program) (cfg : Cfg) (H : Nat) (ms : List Nat) (ops : List Oper) (k : St → Prop) (i : Nat) (fps : List FP) (st : St) (A : Nat → St) (F : Nat → FP) : Prop where
  start : A i = st
  old : ∀ m f, fps[m]? = some f → F m = f
  step : ∀ j o, i ≤ j → ops[j]? = some o → StepFact P cfg H ops j o (A j) (A (j + 1)) (F j)
  pair : ∀ j o m, i ≤ j → ops[j]? = some o → m < j → pairOk ms j m o.dst (F j) (F m) = true
  fin : k { (A ops.length) with sl := purge (A ops.length).sl }

def TraceSem (P : Program) (n : Nat) (cfg : Cfg) (ms : List Nat) (ops : List Oper) (k : St → Prop) (i : Nat) (fps : List FP) (st : St) : Prop :=
  ∀ (g : G) (β : Nat → Nat) (U : Nat → Prop) (a : Act) (w : World), Rel n g β U (yOf ops a) st a w → MayD ops (· < i) st → ChainD ops (· < i) a → fps.length = i →
    ∃ A F, Trace P cfg n ms ops k i fps st A F

theorem fpOk_sound {ms : List Nat} {j : Nat} {dst : Option Nat} {fj : FP} : ∀ {fps : List FP} {k : Nat}, fpOk ms j dst fj k fps = true → ∀ m f, fps[m]? = some f → pairOk ms j (k + m) dst fj f = true
  | [], _, _, m, f, h => by simp at h
  | x :: r, k, h, m, f, hm => by
    simp only [fpOk, Bool.and_eq_true] at h
    cases m with
    | zero => simp at hm; subst hm; exact h.1
    | succ m =>
      have := fpOk_sound (k := k + 1) h.2 m f (by simpa using hm)
      rw [show k + 1 + m = k + (m + 1) by omega] at this
      exact this

theorem wpOp_some {P : Program} {ops : Array Oper} {i : Nat} {K : Act → World → Prop} {a : Act} {w : World} (h : wpOp P ops (fun _ _ _ => False) i K a w) : ∃ a' w', K a' w' := by
  have hl : ¬ LetsOut (fun (_ : Exit) (_ : Act) (_ : World) => False) := fun ⟨_, _, h⟩ => h
  unfold wpOp at h
  cases ho : ops[i]? with
  | none => rw [ho] at h; exact ⟨_, _, h⟩
  | some o =>
    rw [ho] at h
    simp only at h
    split at h
    · rcases h with h | ⟨_, h⟩
      · unfold Go.Oper.wp at h
        generalize (execOp a.eval o).run P w = r at h
        cases r with
        | ok x w' =>
          cases x with
          | value v => exact ⟨_, _, h⟩
          | skip => exact ⟨_, _, h⟩
          | defer d => exact ⟨_, _, h⟩
          | enter f args =>
            obtain ⟨e, w'', fr, h1, _⟩ := h []
            cases e with
            | returned v => exact ⟨_, _, h1⟩
            | panicked c => exact h1.elim
            | outgrown => exact (hl h1).elim
          | row row args =>
            obtain ⟨v, w'', h1, _⟩ := h default []
            exact ⟨_, _, h1⟩
          | _ => exact (show False from h).elim
        | halt x w' => cases x <;> exact (show False from h).elim
      · exact (hl h).elim
    · exact ⟨_, _, h⟩

section
variable {P : Program} {n : Nat} {cfg : Cfg} {ops : List Oper} {ms : List Nat}

theorem exD_trace {k k0 : St → Prop} {kc : Nat → List FP → St → Prop} (ok : OpsOk n ops) (hk0 : ∀ st, k0 st → k st) (hkc : ∀ i fps st, kc i fps st → TraceSem P n cfg ms ops k i fps st) :
    ∀ (rest : List Oper) (i : Nat) (fps : List FP) (st : St), ops.drop i = rest → exD P cfg (PCall P) n ms ops kc i rest fps st k0 → TraceSem P n cfg ms ops k i fps st
  | [], i, fps, st, h, he => by
    intro g β U a w r hm hc hf
    have hl : ops.length ≤ i := by have := congrArg List.length h; simp at this; omega
    refine ⟨fun _ => st, fun m => (fps[m]?).getD ⟨[], [], none⟩, rfl, fun m f h => by simp [h], fun j o hj ho => ?_, fun j o m hj ho => ?_, hk0 _ he⟩
    · have := (List.getElem?_eq_some_iff.1 ho).1; omega
    · have := (List.getElem?_eq_some_iff.1 ho).1; omega
  | o :: rest, i, fps, st, h, he => by
    intro g β U a w r hm hc hf
    have hlt : i < ops.length := by
      rcases Nat.lt_or_ge i ops.length with h1 | h1
      · exact h1
      · rw [List.drop_eq_nil_of_le h1] at h; cases h
    have hcons := List.drop_eq_getElem_cons hlt
    rw [h] at hcons
    have ho : ops[i]? = some o := by
      rw [List.getElem?_eq_getElem hlt]
      exact congrArg some (List.cons.inj hcons).1.symm
    have hrest : ops.drop (i + 1) = rest := (List.cons.inj hcons).2.symm
    have ih : ∀ fps1 st1, exD P cfg (PCall P) n ms ops kc (i + 1) rest fps1 st1 k0 → TraceSem P n cfg ms ops k (i + 1) fps1 st1 := fun fps1 st1 => exD_trace ok hk0 hkc rest (i + 1) fps1 st1 hrest
    -- a step, and what follows
    suffices hs : ∃ st1 fp, StepFact P cfg n ops i o st st1 fp ∧ fpOk ms i o.dst fp 0 fps = true ∧ TraceSem P n cfg ms ops k (i + 1) (fps ++ [fp]) st1 by
      obtain ⟨st1, fp, h1, h2, h3⟩ := hs
      have hnext := step_D (Q := fun _ _ _ => False) (K := fun a' w' => ∃ g' β', Rel n g' β' U (yOf ops a') st1 a' w' ∧ MayD ops (fun j => j < i ∨ j = i) st1 ∧ ChainD ops (fun j => j < i ∨ j = i) a') ok r hm hc
        (fun j o' j1 w1 hj ho' hg _ => by have := ok.back ho' hg; simp only at this; omega) ho (Nat.lt_irrefl _) (fun q hq _ => by have := ok.back ho hq; exact this) (fun c x z s j _ _ h => (whoWrote_sound h).1) h1
        (fun g' β' v w' e1 e2 e3 _ _ => ⟨g', β', e1, e2, e3⟩)
      obtain ⟨a', w', g', β', r1, m1, c1⟩ := wpOp_some hnext
      obtain ⟨A, F, T⟩ := h3 g' β' U a' w' r1 (fun t j w d e1 e2 => by have := m1 t j w d e1 e2; omega) (fun j o' j1 w1 hj => c1 j o' j1 w1 (by omega)) (by simp [hf])
      have hFi : F i = fp := T.old i fp (by rw [← hf]; simp)
      refine ⟨fun j => if j = i then st else A j, F, by simp, fun m f hm => T.old m f ?_, fun j o' hj ho' => ?_, fun j o' m hj ho' hmj => ?_, ?_⟩
      · rw [List.getElem?_append_left]
        · exact hm
        · exact (List.getElem?_eq_some_iff.1 hm).1
      · by_cases hji : j = i
        · subst hji
          rw [ho] at ho'; cases ho'
          simp only [if_true]
          rw [if_neg (by omega), T.start, hFi]
          exact h1
        · simp only [if_neg hji]
          rw [if_neg (by omega)]
          exact T.step j o' (by omega) ho'
      · by_cases hji : j = i
        · subst hji
          rw [ho] at ho'; cases ho'
          have hm' : fps[m]? = some fps[m] := List.getElem?_eq_getElem (by omega)
          have := fpOk_sound h2 m _ hm'
          rw [Nat.zero_add] at this
          rw [hFi, T.old m fps[m] (by rw [List.getElem?_append_left (by omega)]; exact hm')]
          exact this
        · exact T.pair j o' m (by omega) ho' hmj
      · simp only
        rw [if_neg (by omega)]
        exact T.fin
    have hgo : ∀ {fp : FP} {X : Prop}, (bif fpOk ms i o.dst fp 0 fps then X else False) → fpOk ms i o.dst fp 0 fps = true ∧ X := by
      intro fp X h
      cases hb : fpOk ms i o.dst fp 0 fps with
      | false => rw [hb] at h; exact h.elim
      | true => rw [hb] at h; exact ⟨rfl, h⟩
    simp only [exD] at he
    cases hg : o.guard with
    | none =>
      rw [hg] at he
      simp only at he
      have hres := opD_ok (P := P) (cfg := cfg) (o := o) r (evO_ev r (cl := []) (by simp))
      split at he
      · rename_i c x z hop
        split at he
        · rename_i d hp
          obtain ⟨h1, h2⟩ := hgo he
          exact ⟨_, _, .pick0 hg hop hp, h1, ih _ _ h2⟩
        · exact he.elim
      · cases hopd : opD P cfg st (evO st.sl []) o.dst o.op with
        | val d =>
          rw [hopd] at he
          obtain ⟨h1, h2⟩ := hgo he
          exact ⟨_, _, .val0 hg (.val hopd), h1, ih _ _ h2⟩
        | nd p d =>
          rw [hopd] at he
          obtain ⟨h1, h2⟩ := hgo he.2
          exact ⟨_, _, .val0 hg (.nd hopd fun _ => he.1), h1, ih _ _ h2⟩
        | asm p d =>
          rw [hopd] at he hres
          obtain ⟨h1, h2⟩ := hgo (he hres.1)
          exact ⟨_, _, .val0 hg (.asm hopd), h1, ih _ _ h2⟩
        | new cs =>
          rw [hopd] at he
          obtain ⟨h1, h2⟩ := hgo he
          exact ⟨_, _, .val0 hg (.new hopd), h1, ih _ _ h2⟩
        | eff p st1 d =>
          rw [hopd] at he
          obtain ⟨h1, h2⟩ := hgo he.2
          exact ⟨_, _, .eff0 hg hopd he.1, h1, ih _ _ h2⟩
        | call f args =>
          rw [hopd] at he
          obtain ⟨args', v, hv, hp, hk⟩ := he.it
          obtain ⟨h1, h2⟩ := hgo hk
          exact ⟨_, _, .val0 hg (.call hopd hp hv), h1, hkc _ _ _ h2⟩
        | bad => rw [hopd] at he; exact he.elim
    | some q =>
      obtain ⟨j, w1⟩ := q
      rw [hg] at he
      simp only at he
      have hji : j < i := ok.back ho hg
      cases hgb : gB st.sl ops i 40 (j, w1) with
      | none => rw [hgb] at he; exact he.elim
      | some b =>
        rw [hgb] at he
        simp only at he
        have hdone : DoneOk ops (· < i) := fun j o' j1 w1 hj ho' hg _ => by have := ok.back ho' hg; simp only at this; omega
        have hiff := gB_sound r hc hdone 40 (j, w1) b (fun _ => hji) hgb
        simp only at hiff
        have hres : b = true → ResOk P n g β U (yOf ops a) st a w o (opD P cfg st (evO st.sl (clos ops i 40 (j, w1))) o.dst o.op) := fun hb =>
          opD_ok (P := P) (cfg := cfg) (o := o) r (evO_ev r (clos_sound hc hdone 40 (j, w1) (fun _ => hji) (hiff.2 hb)))
        have hmay : ∀ {d : D} {X : Prop}, (bif okMay d then X else False) → okMay d = true ∧ X := by
          intro d X h
          cases hb : okMay d with
          | false => rw [hb] at h; exact h.elim
          | true => rw [hb] at h; exact ⟨rfl, h⟩
        split at he
        · rename_i c x z hop
          split at he
          · rename_i d hp
            obtain ⟨h1, h2⟩ := hgo he
            exact ⟨_, _, .pick1 hg hgb hop hp, h1, ih _ _ h2⟩
          · exact he.elim
        · cases hopd : opD P cfg st (evO st.sl (clos ops i 40 (j, w1))) o.dst o.op with
          | val d =>
            rw [hopd] at he
            obtain ⟨h0, he⟩ := hmay he
            obtain ⟨h1, h2⟩ := hgo he
            exact ⟨_, _, .val1 hg hgb (.val hopd) h0, h1, ih _ _ h2⟩
          | nd p d =>
            rw [hopd] at he
            obtain ⟨h0, he⟩ := hmay he
            obtain ⟨h1, h2⟩ := hgo he.2
            exact ⟨_, _, .val1 hg hgb (.nd hopd he.1) h0, h1, ih _ _ h2⟩
          | asm p d =>
            rw [hopd] at he
            obtain ⟨h0, he⟩ := hmay he
            obtain ⟨h1, h2⟩ := hgo (he fun hb => by have := hres hb; rw [hopd] at this; exact this.1)
            exact ⟨_, _, .val1 hg hgb (.asm hopd) h0, h1, ih _ _ h2⟩
          | new cs => rw [hopd] at he; exact he.elim
          | eff p st1 d => rw [hopd] at he; exact he.elim
          | call f args =>
            rw [hopd] at he
            obtain ⟨args', v, hv, hp, hk⟩ := he.it
            obtain ⟨h1, h2⟩ := hgo hk
            exact ⟨_, _, .val1 hg hgb (.call hopd hp hv) (isD_okMay hv), h1, hkc _ _ _ h2⟩
          | bad => rw [hopd] at he; exact he.elim

/-- j waits for m, directly or through others. -/
inductive Waits (ops : List Oper) : Nat → Nat → Prop
  | one {j m : Nat} {o : Oper} {e : Edge} (ho : ops[j]? = some o) (he : e ∈ o.after) (hb : Region.binds .any e = true) (hm : e.on = m) : Waits ops j m
  | more {j l m : Nat} {o : Oper} {e : Edge} (ho : ops[j]? = some o) (he : e ∈ o.after) (hb : Region.binds .any e = true) (hl : e.on = l) (h : Waits ops l m) : Waits ops j m

theorem masks_go : ∀ (pre rest : List Oper) (acc : List Nat), ops = pre ++ rest → acc.length = pre.length → (∀ j m, (acc.getD j 0).testBit m = true → Waits ops j m) → ∀ j m, ((masks rest acc).getD j 0).testBit m = true → Waits ops j m
  | pre, [], acc, _, _, h => h
  | pre, o :: r, acc, h1, h2, h => by
    simp only [masks]
    refine masks_go (pre ++ [o]) r _ (by rw [h1]; simp) (by simp [h2]) fun j m hj => ?_
    rcases Nat.lt_trichotomy j acc.length with hlt | heq | hgt
    · rw [List.getD, List.getElem?_append_left hlt] at hj; exact h j m hj
    · subst heq
      rw [List.getD, List.getElem?_append_right (Nat.le_refl _), Nat.sub_self] at hj
      simp only [List.getElem?_cons_zero, Option.getD_some] at hj
      have ho : ops[acc.length]? = some o := by rw [h1, List.getElem?_append_right (by omega), h2]; simp
      have go : ∀ (l : List Edge) (m0 : Nat), (∀ e ∈ l, e ∈ o.after) → (∀ m, m0.testBit m = true → Waits ops acc.length m) →
          ∀ m, (l.foldl (fun m e => bif Region.binds .any e && Nat.blt e.on acc.length then m ||| 2 ^ e.on ||| acc.getD e.on 0 else m) m0).testBit m = true → Waits ops acc.length m := by
        intro l
        induction l with
        | nil => intro m0 _ h0 m hm; exact h0 m hm
        | cons e l ih =>
          intro m0 hl h0 m hm
          simp only [List.foldl_cons] at hm
          refine ih _ (fun x hx => hl x (List.mem_cons_of_mem _ hx)) (fun q hq => ?_) m hm
          cases hb : (Region.binds .any e && Nat.blt e.on acc.length) with
          | false => rw [hb] at hq; exact h0 q hq
          | true =>
            rw [hb] at hq
            simp only [Bool.and_eq_true] at hb
            simp only [cond_true, Nat.testBit_or, Bool.or_eq_true, Nat.testBit_two_pow, decide_eq_true_eq] at hq
            rcases hq with (hq | hq) | hq
            · exact h0 q hq
            · exact .one ho (hl e (List.mem_cons_self ..)) hb.1 hq
            · exact .more ho (hl e (List.mem_cons_self ..)) hb.1 rfl (h _ _ hq)
      exact go o.after.toList 0 (fun e he => by simpa using he) (fun m hm => by simp at hm) m hj
    · rw [List.getD, List.getElem?_eq_none (by simp; omega)] at hj
      simp at hj

theorem masks_sound {j m : Nat} (h : ((masks ops []).getD j 0).testBit m = true) : Waits ops j m :=
  masks_go [] ops [] rfl rfl (fun j m h => by simp at h) j m h

end
end Go.Ab
