/- The executor is sound, 20: regions that draw their order, joined. -/
import Derived.Test.YtmlhaikblfjghaaA23
namespace Go.Ab

section
variable {P : Program} {n : Nat} {cfg : Cfg} {ops : List Oper} {A : Nat → St} {F : Nat → FP} {k : St → Prop}

def Listed (l : Array Bool) (j : Nat) : Prop := l.getD j false = true

def unl (m : Nat) (l : Array Bool) : List Nat := (List.range m).filter fun j => !l.getD j false

theorem Listed.set {l : Array Bool} {i : Nat} (hi : i < l.size) : Listed (l.setIfInBounds i true) = fun j => Listed l j ∨ j = i := by
  funext j
  apply propext
  unfold Listed
  by_cases h : j = i
  · subst h
    simp [hi]
  · rw [getD_set_ne false (fun e => h e.symm)]
    simp [h]

theorem unl_set {l : Array Bool} {i m : Nat} (hi : i < m) (hl : i < l.size) (hn : ¬ Listed l i) : (unl m (l.setIfInBounds i true)).length < (unl m l).length := by
  have : unl m (l.setIfInBounds i true) = (unl m l).filter fun j => decide (j ≠ i) := by
    unfold unl
    rw [List.filter_filter]
    refine List.filter_congr fun j _ => ?_
    have := congrFun (Listed.set hl) j
    unfold Listed at this
    by_cases h : j = i
    · subst h
      have h2 : (l.setIfInBounds j true).getD j false = true := by rw [this]; exact .inr rfl
      rw [h2]; simp
    · rw [getD_set_ne false (fun e => h e.symm)]
      simp [h]
  rw [this]
  refine List.length_filter_lt_length_iff_exists.2 ⟨i, ?_, by simp⟩
  unfold unl
  rw [List.mem_filter]
  refine ⟨List.mem_range.2 hi, ?_⟩
  unfold Listed at hn
  cases h : l.getD i false with
  | true => exact absurd h hn
  | false => rfl

theorem Trace.nodup {ms : List Nat} {st : St} (T : Trace P cfg n ms ops k 0 [] st A F) (h : (st.sl.map (·.1)).Nodup) : ∀ i, i ≤ ops.length → ((A i).sl.map (·.1)).Nodup
  | 0, _ => by rw [T.start]; exact h
  | i + 1, hi => (T.step i _ (Nat.zero_le _) (List.getElem?_eq_getElem (by omega))).nodup (T.nodup h i (by omega))

theorem ready_iff {listed : Array Bool} {j : Nat} (hs : listed.size = ops.length) : j ∈ Region.ready .any ops.toArray listed ↔ j < ops.length ∧ ¬ Listed listed j ∧ ∀ o e, ops[j]? = some o → e ∈ o.after → Region.binds .any e = true → Listed listed e.on := by
  rw [mem_ready]
  constructor
  · rintro ⟨h1, o, h2, h3⟩
    have hlt : j < ops.length := by have := (Array.getElem?_eq_some_iff.1 h2).1; simpa using this
    refine ⟨hlt, fun hl => ?_, fun o' e ho' he hb => ?_⟩
    · unfold Listed at hl
      have : listed[j]? = some listed[j] := Array.getElem?_eq_getElem (by omega)
      simp only [Array.getD_eq_getD_getElem?, this, Option.getD_some] at h1 hl
      rw [h1] at hl; cases hl
    · have : ops.toArray[j]? = some o' := by simpa using ho'
      rw [h2] at this; cases this
      exact h3 e he hb
  · rintro ⟨hlt, h1, h2⟩
    have ho := List.getElem?_eq_getElem hlt
    refine ⟨?_, ops[j], by simp, fun e he hb => h2 _ e ho he hb⟩
    unfold Listed at h1
    have : listed[j]? = some listed[j] := Array.getElem?_eq_getElem (by omega)
    simp only [Array.getD_eq_getD_getElem?, this, Option.getD_some] at h1 ⊢
    simpa using h1

theorem ready_nil {listed : Array Bool} (hs : listed.size = ops.length) (hb : edgesBack 0 ops = true) (h : Region.ready .any ops.toArray listed = []) : ∀ j, j < ops.length → Listed listed j := by
  intro j
  induction j using Nat.strongRecOn with
  | ind j ih =>
    intro hj
    apply Classical.byContradiction
    intro hn
    have : j ∈ Region.ready .any ops.toArray listed := (ready_iff hs).2 ⟨hj, hn, fun o e ho he hbd => by
      have h1 := edgesBack_at hb ho he hbd
      exact ih e.on (by omega) (by omega)⟩
    rw [h] at this; cases this

theorem any_sound {U : Nat → Prop} {g0 : G} {w0 : World} {st : St} (ok : OpsOk n ops) (heb : edgesBack 0 ops = true) (T : Trace P cfg n (masks ops []) ops k 0 [] st A F) (hst : (st.sl.map (·.1)).Nodup) (TO : TraceOk P n cfg ops A F) :
    ∀ (fuel : Nat) (listed : Array Bool) (g : G) (β : Nat → Nat) (a : Act) (w : World) (sc : St), listed.size = ops.length → (unl ops.length listed).length ≤ fuel → Rel n g β U (yOf ops a) sc a w → MayD ops (Listed listed) sc → ChainD ops (Listed listed) a →
      Sched P n cfg ops A F (Listed listed) sc → Grow U g0 g → Kept U w0 w → wpAny P .any ops.toArray (OpsPost n U g0 w0 k) fuel listed a w := by
  have finish : ∀ (listed : Array Bool) (g : G) (β : Nat → Nat) (a : Act) (w : World) (sc : St), (∀ j, j < ops.length → Listed listed j) → Rel n g β U (yOf ops a) sc a w → Sched P n cfg ops A F (Listed listed) sc → Grow U g0 g → Kept U w0 w →
      OpsPost n U g0 w0 k .normal a w := by
    intro listed g β a w sc hall r s hg hk
    refine ⟨rfl, g, β, _, ?_, hg, hk, T.fin⟩
    have hnd := T.nodup hst ops.length (Nat.le_refl _)
    have hiff : ∀ m, m < ops.length → (m < ops.length ↔ Listed listed m) := fun m hm => ⟨fun _ => hall m hm, fun _ => hm⟩
    refine r.sub (hnd.sublist ((purge_sublist _).map _)) (s.agreeH _ (Nat.le_refl _) fun m hm _ => hiff m hm) fun t d h => ?_
    obtain ⟨h1, h2⟩ := look_purge hnd h
    exact ⟨by rw [← s.agree t _ (Nat.le_refl _) fun m hm _ => hiff m hm]; exact h1, h2⟩
  intro fuel
  induction fuel with
  | zero =>
    intro listed g β a w sc hs hu r hm hc s hg hk
    have hall : ∀ j, j < ops.length → Listed listed j := by
      intro j hj
      apply Classical.byContradiction
      intro hn
      have hnil : unl ops.length listed = [] := List.eq_nil_of_length_eq_zero (by omega)
      have : j ∈ unl ops.length listed := by
        unfold unl
        rw [List.mem_filter]
        refine ⟨List.mem_range.2 hj, ?_⟩
        unfold Listed at hn
        cases h : listed.getD j false with
        | true => exact absurd h hn
        | false => rfl
      rw [hnil] at this; cases this
    refine ⟨?_, finish listed g β a w sc hall r s hg hk⟩
    rw [List.eq_nil_iff_forall_not_mem]
    intro j hj
    obtain ⟨h1, h2, _⟩ := (ready_iff hs).1 hj
    exact h2 (hall j h1)
  | succ fuel ih =>
    intro listed g β a w sc hs hu r hm hc s hg hk
    refine ⟨fun hnil => finish listed g β a w sc (ready_nil hs heb hnil) r s hg hk, fun i hi => ?_⟩
    obtain ⟨hlt, hni, hr⟩ := (ready_iff hs).1 hi
    have ho := List.getElem?_eq_getElem hlt
    obtain ⟨sc', hf, s'⟩ := s.step TO ok ho hni hr
    have fi := (TO.step i _ ho).facts
    have wait : ∀ m t, m < i → t ∈ (F m).w → t ∈ (F i).n → Listed listed m := fun m t hmi h1 h2 =>
      s.waits (pairOk_hit (TO.pair i _ m ho hmi) (t := t) (.inl ⟨h1, h2⟩)) (.inr hr)
    have dstW : ∀ m t, m < ops.length → dstOf ops m = some t → t ∈ (F m).w := fun m t hml hd => by
      have hom := List.getElem?_eq_getElem hml
      refine (TO.step m _ hom).facts.dst t ?_
      simpa [dstOf, hom] using hd
    have hdone : DoneOk ops (Listed listed) := by
      intro j o' j1 w1 hj ho' hg' hd'
      have hjl := (List.getElem?_eq_some_iff.1 ho').1
      have hb := ok.back ho' hg'
      simp only at hb
      cases hd : dstOf ops j1 with
      | none => exact absurd hd hd'
      | some t =>
        have h1 := dstW j1 t (by omega) hd
        have h2 := (TO.step j _ ho').guardN hg' hb hd
        exact s.waits (pairOk_hit (TO.pair j _ j1 ho' hb) (t := t) (.inl ⟨h1, h2⟩)) (.inl hj)
    refine step_D ok r hm hc hdone ho hni (fun q hq hd' => ?_) (fun c x z t j hop hcx hw => ?_) hf fun g' β' v w' r1 m1 c1 gr kp => ?_
    · have hb := ok.back ho hq
      cases hd : dstOf ops q.1 with
      | none => exact absurd hd hd'
      | some t => exact wait q.1 t hb (dstW q.1 t (by omega) hd) ((TO.step i _ ho).guardN hq hb hd)
    · obtain ⟨hji, hd⟩ := whoWrote_sound hw
      refine wait j t hji (dstW j t (by omega) hd) (fi.tmps t ?_)
      rw [hop, hcx]; simp [Op.operands]
    · have hset := Listed.set (l := listed) (i := i) (by omega)
      refine ih _ g' β' _ w' sc' (by simpa using hs) ?_ r1 (by rw [hset]; exact m1) (by rw [hset]; exact c1) (by rw [hset]; exact s') (hg.trans gr) (hk.trans kp)
      have := unl_set (l := listed) hlt (by omega) hni
      omega

theorem draw_sound (hmix : P.follows .mixedOrders = true) (ok : OpsOk n ops) (heb : edgesBack 0 ops = true) {id : Nat} {st : St} (hT : TraceSem P n cfg (masks ops []) ops k 0 [] { st with sl := purge st.sl })
    {g : G} {β : Nat → Nat} {U : Nat → Prop} {a : Act} {w : World} (r : Rel n g β U noY st a w) : (Code.region id ops.toArray true).wp P (OpsPost n U g w k) a w := by
  have r1 := (r.purged (yOf ops a)).ext (draw_ext r.inv)
  have hp : ∀ t d, look (purge st.sl) t = some d → isMayLp d = false := fun t d h => (look_purge r.keys h).2
  obtain ⟨A, F, T⟩ := hT g β U a w.drew r1 (fun t j w d h _ => by cases hp _ _ h) (fun j _ _ _ h => absurd h (Nat.not_lt_zero _)) rfl
  have TO : TraceOk P n cfg ops A F := ⟨fun j o ho => T.step j o (Nat.zero_le _) ho, fun j o m ho hm => T.pair j o m (Nat.zero_le _) ho hm, fun t d s h1 h2 => by
    rw [T.start] at h1
    have h3 := hp t d h1
    cases d <;> first | exact Bool.noConfusion (show true = false from h3) | cases h2⟩
  have hnot : ∀ j, ¬ Listed (Array.replicate ops.toArray.size false) j := by
    intro j h
    unfold Listed at h
    simp only [Array.getD_eq_getD_getElem?, Array.getElem?_replicate] at h
    split at h <;> simp at h
  have kd := (draw_ext r.inv).kept r.inv.ub
  refine wp_region_any hmix (any_sound ok heb T r1.keys TO _ _ g β a w.drew _ (by simp) ?_ r1 (fun t j w d h _ => by cases hp _ _ h) (fun j _ _ _ h => absurd h (hnot j)) ⟨fun t i hi hc => ?_, fun i hi hc => ?_, fun t d s h1 h2 => ?_, fun j o e h => absurd h (hnot j)⟩ (Grow.refl U g) kd)
  · unfold unl
    have := List.length_filter_le (fun j => !(Array.replicate ops.toArray.size false).getD j false) (List.range ops.length)
    simpa using this
  · have := (TO.span ok (i := 0) i (by omega)).1 t fun m _ hm hw => hnot m ((hc m (by omega) hw).1 (by omega))
    rw [Nat.zero_add] at this
    rw [this, T.start]
  · have := (TO.span ok (i := 0) i (by omega)).2 fun m _ hm hw => hnot m ((hc m (by omega) hw).1 (by omega))
    rw [Nat.zero_add] at this
    rw [this, T.start]
  · have h3 := hp t d h1
    cases d <;> first | exact Bool.noConfusion (show true = false from h3) | cases h2

end
end Go.Ab
