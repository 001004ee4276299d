/- Entering a function: its contract from the run of its body. -/
import Derived.Test.YtmlhaikblfjghaaA26
namespace Go.Ab

def argSlots : Nat → List D → Slots
  | _, [] => []
  | k, d :: r => (k, d) :: argSlots (k + 1) r

def resD1 (P : Program) (st : St) : ResultVar → Option D
  | .tmp t => match look st.sl t with
    | some d => bif isD d then some d else none
    | none => none
  | .cell a t => match look st.sl a with
    | some (.own cs) => loadD P t cs
    | some (.bp l off) => match st.h.box l with
      | some (.lit cs) => loadD P t (cs.drop off)
      | _ => none
    | _ => none

def resDs (P : Program) (st : St) : List ResultVar → Option (List D)
  | [] => some []
  | r :: rs => match resD1 P st r, resDs P st rs with
    | some d, some ds => some (d :: ds)
    | _, _ => none

/-- What a function returns. -/
def resultsD (P : Program) (st : St) (rs : List ResultVar) : Option D :=
  match resDs P st rs with
  | some [d] => some d
  | some ds => some (.tup ds)
  | none => none

def finK (P : Program) (rs : List ResultVar) (K : D → Heap → Prop) (st : St) : Prop :=
  match resultsD P st rs with
  | some d => K d st.h
  | none => False

section
variable {P : Program} {n : Nat} {g : G} {β : Nat → Nat} {U : Nat → Prop} {st : St} {a : Act} {w : World}

def resM (tmps : Array Value) : ResultVar → Sem Value
  | .tmp t => pure (tmps.getD t undef)
  | .cell a t => do loadVar t (← asAddr (tmps.getD a undef))

theorem resD1_sound (r : Rel n g β U noY st a w) {rv : ResultVar} {d : D} (h : resD1 P st rv = some d) : ∃ v, (resM a.tmps rv).run P w = .ok v w ∧ R g d v := by
  cases rv with
  | tmp t =>
    simp only [resD1] at h
    cases hl : look st.sl t with
    | none => rw [hl] at h; cases h
    | some e =>
      rw [hl] at h
      simp only at h
      cases hd : isD e with
      | false => rw [hd] at h; cases h
      | true =>
        rw [hd] at h; simp only [cond_true, Option.some.injEq] at h; subst h
        have h1 := r.slot t _ hl
        refine ⟨_, rfl, ?_⟩
        cases e <;> first | exact h1 | exact Bool.noConfusion (show false = true from hd)
  | cell x t =>
    simp only [resD1] at h
    split at h
    · rename_i cs hl
      have h1 := r.slot x _ hl
      simp only [RS] at h1
      obtain ⟨vs, h2, h3⟩ := cellsAt_row (r.own x cs hl).1 0
      obtain ⟨v, h4, h5⟩ := run_loadVar_of (P := P) h2 h3 h
      exact ⟨v, by simp [resM, h1, asAddr, h4], h5⟩
    · rename_i l off hl
      have h1 := r.slot x _ hl
      simp only [RS, RS0, R] at h1
      obtain ⟨b, hb, hv⟩ := h1
      split at h
      · rename_i cs hc
        obtain ⟨b', e1, e2, _⟩ := r.inv.box l _ hc
        rw [hb] at e1; cases e1
        obtain ⟨vs, h2, h3⟩ := cellsAt_row e2 off
        obtain ⟨v, h4, h5⟩ := run_loadVar_of (P := P) h2 h3 h
        exact ⟨v, by simp [resM, hv, asAddr, h4], h5⟩
      · cases h
    · cases h

theorem resDs_sound (r : Rel n g β U noY st a w) : ∀ {rs : List ResultVar} {ds : List D}, resDs P st rs = some ds → ∃ vs : List Value, (rs.mapM (resM a.tmps)).run P w = .ok vs w ∧ Rs g ds vs
  | [], ds, h => by
    simp only [resDs, Option.some.injEq] at h; subst h
    exact ⟨[], by simp, rfl⟩
  | rv :: rs, ds, h => by
    simp only [resDs] at h
    split at h
    · rename_i d ds' h1 h2
      cases h
      obtain ⟨v, e1, e2⟩ := resD1_sound r h1
      obtain ⟨vs, e3, e4⟩ := resDs_sound r h2
      refine ⟨v :: vs, ?_, ?_⟩
      · simp only [List.mapM_cons, Sem.run_bind, e1, Result.andThen_ok, e3, Sem.run_pure]
      · simp only [Rs]; exact ⟨v, vs, rfl, e2, e4⟩
    · cases h

theorem results_eq (fn : Func) (tmps : Array Value) : results fn tmps = (do let vs ← fn.results.toList.mapM (resM tmps); pure (if h : vs.toArray.size = 1 then vs.toArray[0] else .tuple vs.toArray)) := by
  unfold results
  have hf : (fun (x : ResultVar) => match x with | .tmp t => (pure (tmps.getD t undef) : Sem Value) | .cell a t => do loadVar t (← asAddr (tmps.getD a undef))) = resM tmps := by
    funext x; cases x <;> rfl
  rw [← hf]
  rw [Array.mapM_eq_mapM_toList]
  simp only [map_eq_pure_bind, bind_assoc, pure_bind]
  rfl

theorem resultsD_sound (r : Rel n g β U noY st a w) {fn : Func} {d : D} (h : resultsD P st fn.results.toList = some d) : ∃ v, (results fn a.tmps).run P w = .ok v w ∧ R g d v := by
  unfold resultsD at h
  split at h
  · rename_i d' hd
    cases h
    obtain ⟨vs, h1, h2⟩ := resDs_sound (P := P) r hd
    obtain ⟨v, rfl, hv⟩ := h2.one
    exact ⟨v, by rw [results_eq]; simp [Sem.run_bind, h1], hv⟩
  · rename_i ds hne hd
    cases h
    obtain ⟨vs, h1, h2⟩ := resDs_sound (P := P) r hd
    refine ⟨.tuple vs.toArray, ?_, by simp only [R]; exact ⟨vs, rfl, h2⟩⟩
    have hl : ¬ (vs.toArray.size = 1) := by
      intro hl
      have hl2 := h2.length
      cases ds with
      | nil => simp at hl2; subst hl2; simp at hl
      | cons x t =>
        cases t with
        | nil => exact hne x rfl
        | cons y t => simp at hl2 hl; omega
    rw [results_eq]
    simp only [Sem.run_bind, h1, Result.andThen_ok, dif_neg hl, Sem.run_pure]
  · cases h

theorem argSlots_look : ∀ (ds : List D) (k t : Nat) (d : D), look (argSlots k ds) t = some d → k ≤ t ∧ ds[t - k]? = some d
  | [], _, _, _, h => by cases h
  | e :: r, k, t, d, h => by
    simp only [argSlots, look] at h
    cases hb : Nat.beq k t with
    | true =>
      rw [hb] at h; simp only [cond_true, Option.some.injEq] at h; subst h
      have := beq_eq.1 hb; subst this
      simp
    | false =>
      rw [hb] at h
      obtain ⟨h1, h2⟩ := argSlots_look r (k + 1) t d h
      refine ⟨by omega, ?_⟩
      rw [show t - k = (t - (k + 1)) + 1 by omega]
      simpa using h2

theorem argSlots_keys : ∀ (ds : List D) (k : Nat), ((argSlots k ds).map (·.1)).Nodup ∧ ∀ t ∈ (argSlots k ds).map (·.1), k ≤ t
  | [], _ => ⟨List.nodup_nil, fun _ h => by cases h⟩
  | d :: r, k => by
    obtain ⟨h1, h2⟩ := argSlots_keys r (k + 1)
    refine ⟨?_, fun t ht => ?_⟩
    · simp only [argSlots, List.map_cons, List.nodup_cons]
      exact ⟨fun h => by have := h2 k h; omega, h1⟩
    · simp only [argSlots, List.map_cons, List.mem_cons] at ht
      rcases ht with rfl | ht
      · exact Nat.le_refl _
      · have := h2 t ht; omega

/-- A frame just entered. -/
theorem rel_enter {args : List D} {vs : List Value} {h : Heap} (hn : args.length ≤ n) (hs : Rs g args vs) (i : Inv g U h w) :
    Rel n g β U noY ⟨argSlots 0 args, h⟩ { tmps := vs.toArray ++ Array.replicate (n - vs.toArray.size) undef, defers := [] } w := by
  have hl := hs.length
  have hdata : ∀ t d, look (argSlots 0 args) t = some d → ∃ v, vs[t]? = some v ∧ R g d v := fun t d h => by
    obtain ⟨_, h2⟩ := argSlots_look args 0 t d h
    exact hs.get t d (by simpa using h2)
  refine ⟨rfl, by simp; omega, (argSlots_keys args 0).1, fun t d h => ?_, fun t d s h _ hb => ?_, fun t cs h => ?_, fun t t' cs cs' h => ?_, i⟩
  · obtain ⟨v, h1, h2⟩ := hdata t d h
    have ht : t < vs.length := (List.getElem?_eq_some_iff.1 h1).1
    have : (vs.toArray ++ Array.replicate (n - vs.toArray.size) undef).getD t undef = v := by
      simp [Array.getElem?_append_left, ht, h1]
      have := List.getElem?_eq_some_iff.1 h1
      obtain ⟨_, e⟩ := this
      exact e
    rw [this]
    exact RS.ofRS0 (RS0.ofR h2) (isD_okMay h2.isD)
  · obtain ⟨v, _, h2⟩ := hdata t d h
    have := h2.noOwn.2.2 s
    exact absurd hb this
  · obtain ⟨v, _, h2⟩ := hdata t _ h
    exact absurd rfl (h2.noOwn.1 cs)
  · obtain ⟨v, _, h2⟩ := hdata t _ h
    exact absurd rfl (h2.noOwn.1 cs)

end

section
variable {P : Program} {f : Nat} {fn : Func} {c : Code}

/-- What a call of f leaves, from the run of its body. -/
theorem callA_of_run (hmix : P.follows .mixedOrders = true) (hf : P.funcs[f]? = some fn) (hb : fn.body = some c) (hname : (fn.name == "runtime.NumGoroutine") = false) {cfg : Cfg} {args : List D} {h : Heap} {K : D → Heap → Prop}
    (hn : Nat.ble args.length fn.ntmps = true) {N : Nat} (hr : run ⟨P, cfg, c, fn.ntmps⟩ (finK P fn.results.toList K) N [.code []] ⟨argSlots 0 args, h⟩) : CallA P f args h K := by
  refine ⟨⟨fn, hf, by rw [hb]; rfl, hname⟩, fun g U w vs i hs => calls_of_wp hf hb ?_⟩
  obtain ⟨c', hc', hw⟩ := run_sound (E := ⟨P, cfg, c, fn.ntmps⟩) hmix N _ _ hr
  have hcc : c = c' := by
    have : sub c [] = some c := by cases c <;> rfl
    have h2 : sub c [] = some c' := hc'
    rw [this] at h2; cases h2; rfl
  subst hcc
  refine wp_mono (hw g (fun _ => 0) U _ w (rel_enter (Nat.le_of_ble_eq_true hn) hs i)) fun e a' w' ⟨ex, g', β', st', h1, h2, h3, h4, h5⟩ => ?_
  subst h1
  have done : finK P fn.results.toList K st' → a'.defers = [] ∧ ∃ v, (results fn a'.tmps).run P w' = .ok v w' ∧ ∃ (x : Value) (g' : G) (d : D) (h' : Heap), Ending.returned v = .returned x ∧ R g' d x ∧ Inv g' U h' w' ∧ Grow U g g' ∧ Kept U w w' ∧ K d h' := by
    intro hk
    unfold finK at hk
    split at hk
    · rename_i d hd
      obtain ⟨v, e1, e2⟩ := resultsD_sound h2 hd
      exact ⟨h2.defers, v, e1, v, g', d, st'.h, rfl, e2, h2.inv, h3, h4, hk⟩
    · exact hk.elim
  cases ex with
  | normal => exact done h5
  | ret => exact done h5
  | exit i => exact h5.elim

theorem Datas.of_rs {g g' : G} (h : ∀ a v, g.σ a = some v → g'.σ a = some v) {ds : List D} {vs : List Value} (hd : Datas ds) (hr : Rs g ds vs) : Rs g' ds vs := Rs.data h ds vs hd hr

/-- The contract of a function that only computes, from the run of its body. -/
theorem pure_of_run (hmix : P.follows .mixedOrders = true) (hf : P.funcs[f]? = some fn) (hb : fn.body = some c) (hname : (fn.name == "runtime.NumGoroutine") = false) {cfg : Cfg} {args : List D} {v : D} (da : Datas args) (dv : Data v)
    (hn : Nat.ble args.length fn.ntmps = true) {N : Nat} (hr : run ⟨P, cfg, c, fn.ntmps⟩ (finK P fn.results.toList fun d _ => Wk d v) N [.code []] ⟨argSlots 0 args, .empty⟩) : Pure P f args v := by
  have hc := callA_of_run hmix hf hb hname hn hr
  refine ⟨hc.ok, da, dv, fun g w vs sub hs => ?_⟩
  let g0 : G := ⟨g.σ, fun _ => none, fun _ => none⟩
  have i : Inv g0 (fun b => b < w.heap.size) .empty w := ⟨sub, fun _ h => h, fun _ _ h => (by cases h), fun _ _ h => (by cases h), fun l _ _ h => absurd rfl h, fun _ _ h => (by cases h), fun _ _ _ _ _ h => (by cases h), fun _ _ _ _ _ _ _ h => (by cases h), fun _ _ => rfl, fun _ _ => rfl⟩
  refine Calls.mono (hc.calls g0 (fun b => b < w.heap.size) w vs i (Rs.data (g := g) (g' := g0) (fun _ _ h => h) args vs da hs)) fun e w' ⟨x, g', d, h', h1, h2, h3, h4, h5, h6⟩ => ⟨x, g'.σ, h1, R.data (g := g') (g' := ⟨g'.σ, g.μ, g.τ⟩) (fun _ _ h => h) v x dv (h6 _ _ h2), h4.le.σ, h3.sub, fun a y h => ?_, ⟨h5.os, h5.tape, h5.output, h5.size, fun b hb => h5.block b hb⟩⟩
  rcases h4.new a y h with h | h
  · exact .inl h
  · exact .inr (Nat.le_of_not_lt h)

theorem CallA.of_pure {args args' : List D} {v : D} {h : Heap} {K : D → Heap → Prop} (p : Pure P f args' v) (hw : Wks args args') (hk : K v h) : CallA P f args h K := by
  refine ⟨p.ok, fun g U w vs i hs => Calls.mono (p.calls g w vs i.sub (hw _ _ hs)) fun e w' ⟨x, σ', h1, h2, h3, h4, h5, h6⟩ => ?_⟩
  have hx : Ext g w ⟨σ', g.μ, g.τ⟩ w' := ⟨⟨h3, fun _ _ h => h, fun _ k h => ⟨k, h, rfl, Nat.le_refl _, fun _ => rfl⟩⟩, rfl, rfl, h5, h4, h6⟩
  exact ⟨x, _, v, h, h1, h2, i.ext hx, hx.grow i.ub, hx.kept i.ub, hk⟩

theorem PCall.of_pure {args args' : List D} {v : D} {h : Heap} {b : Bool} {K : D → Heap → Prop} (p : b = true → Wks args args' ∧ Pure P f args' v) (hv : isD v = true) (hk : K v h) : PCall P b f args h K := ⟨args', v, hv, p, hk⟩

end
end Go.Ab
