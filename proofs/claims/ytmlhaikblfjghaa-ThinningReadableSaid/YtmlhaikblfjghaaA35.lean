/- A box that turns no more is data; contracts whose results leave the heap. -/
import Derived.Test.YtmlhaikblfjghaaA34
namespace Go.Ab

/-- The cells of a block from now on unchanging. -/
def frozenG (g : G) (b m : Nat) (vals : Array Value) : G := { g with σ := fun x => if x.block = b ∧ x.spot = none ∧ x.off < m then vals[x.off]? else g.σ x }

/-- A box laid off: its cells change no more. -/
def hLay (h : Heap) (l : Nat) : Heap := { h with box := upd h.box l none }

/-- The elements that n cells from off on hold. -/
def ElemsOf (cg : Nat → D) (off n sz : Nat) (get : Nat → D) : Prop := ∀ k, k < n → isD (get k) = true ∧ ones (get k) = true ∧ (cellsD (get k)).length = sz ∧ ∀ j, j < sz → (cellsD (get k))[j]? = some (cg (off + k * sz + j))

theorem Inv.lay {g : G} {U : Nat → Prop} {h : Heap} {w : World} {l m : Nat} {cg : Nat → D} (i : Inv g U h w) (hb : h.box l = some (.arr m cg)) :
    ∃ g', Inv g' U (hLay h l) w ∧ Grow U g g' ∧ ∀ (v : Value) (off n sz : Nat) (get : Nat → D), R g (.sl l off n) v → off + n * sz ≤ m → ElemsOf cg off n sz get → R g' (.list n sz get .none) v := by
  obtain ⟨b, hmu, ⟨T, vals, hvals, hm, hel⟩, hU, hσ⟩ := i.box l _ hb
  have le : G.le g (frozenG g b m vals) := ⟨fun x v e => by
    simp only [frozenG]; rw [if_neg (fun hh => hσ x v e hh.1)]; exact e, fun _ _ e => e, fun _ k e => ⟨k, e, rfl, Nat.le_refl _, fun _ => rfl⟩⟩
  have σold : ∀ {x : Addr} {v : Value}, (frozenG g b m vals).σ x = some v → (x.block = b ∧ x.spot = none ∧ vals[x.off]? = some v) ∨ g.σ x = some v := by
    intro x v e
    simp only [frozenG] at e
    split at e
    · rename_i hc; exact .inl ⟨hc.1, hc.2.1, e⟩
    · exact .inr e
  have bx : ∀ {l' : Nat}, (hLay h l).box l' ≠ none → h.box l' ≠ none ∧ l' ≠ l := fun {l'} hh => by
    by_cases hx : l' = l
    · subst hx; exact absurd (upd_same _ _ _) hh
    · exact ⟨by simpa only [hLay, upd_other _ _ hx] using hh, hx⟩
  refine ⟨frozenG g b m vals, ⟨fun x v e => ?_, i.ub, i.muLt, fun l' row e => ?_, fun l1 l2 b' e => i.boxInj l1 l2 b' (bx e).1, fun t q e => ?_, fun t q k b' l' e e1 e2 e3 e4 => i.tokBox t q k b' l' e e1 e2 e3 (bx e4).1, i.tokInj, i.frL, i.frT⟩, ⟨le, fun x v e => ?_⟩, fun v off n sz get hr hle he => ?_⟩
  · rcases σold e with ⟨h1, h2, h3⟩ | h1
    · exact ⟨by simp only [World.cell?, h1, hvals, h2]; simpa using h3, h2⟩
    · exact i.sub x v h1
  · by_cases hx : l' = l
    · subst hx
      have e' : upd h.box l' none l' = some row := e
      rw [upd_same] at e'; cases e'
    · have e' : h.box l' = some row := by simpa only [hLay, upd_other _ _ hx] using e
      obtain ⟨b', f1, ⟨T', vals', f2, f3⟩, f4, f5⟩ := i.box l' row e'
      refine ⟨b', f1, ⟨T', vals', f2, ?_⟩, f4, fun x v hh => ?_⟩
      · cases row with
        | lit cs => exact Rs.mono le _ _ f3
        | arr n' get' => exact ⟨f3.1, fun q hq => by obtain ⟨v, h1, h2⟩ := f3.2 q hq; exact ⟨v, h1, R.mono le _ _ h2⟩⟩
      · rcases σold hh with ⟨h1, _⟩ | h1
        · intro h2
          exact hx (i.boxInj l' l b' (by rw [e']; simp) f1 (by rw [hmu, ← h1, h2]))
        · exact f5 x v h1
  · obtain ⟨k, f1, f2, f3⟩ := i.tok t q e
    refine ⟨k, f1, f2, fun hk => ?_⟩
    obtain ⟨bt, c1, c2, T', vals', c3, c4, c5⟩ := f3 hk
    refine ⟨bt, c1, c2, T', vals', c3, c4, fun j hj => ?_⟩
    have hne : bt ≠ b := fun hh => by subst hh; exact i.tokBox t q k _ l e f1 hk c1 (by rw [hb]; simp) hmu
    simp only [frozenG]
    rw [if_neg (fun hh => hne hh.1)]
    exact c5 j hj
  · rcases σold e with ⟨h1, _⟩ | h1
    · exact .inr (by rw [h1]; exact hU)
    · exact .inl h1
  · simp only [R] at hr
    obtain ⟨b', hb', ba, cap, rfl, hcap, hlen, hba⟩ := hr
    rw [hmu] at hb'; cases hb'
    simp only [R]
    refine ⟨hlen, ba, cap, rfl, hcap, trivial, fun k hk => ?_⟩
    obtain ⟨d1, d2, d3, d4⟩ := he k hk
    have hlt : ∀ j, j < sz → off + k * sz + j < m := fun j hj => by
      have : (k + 1) * sz ≤ n * sz := Nat.mul_le_mul_right _ hk
      rw [Nat.add_mul] at this; omega
    have hcs : ∃ cs : List Value, cs.length = sz ∧ ∀ j, j < sz → cs[j]? = vals[off + k * sz + j]? := by
      refine ⟨(List.range sz).map fun j => vals.getD (off + k * sz + j) undef, by simp, fun j hj => ?_⟩
      have h1 := hlt j hj
      have h2 : off + k * sz + j < vals.size := by omega
      simp [hj, Array.getElem?_eq_getElem h2, Array.getD, h2]
    obtain ⟨cs, hcl, hcg⟩ := hcs
    have hrs : Rs g (cellsD (get k)) cs := Rs.of_get (by omega) fun j d v hd hv => by
      have hj : j < sz := by
        rcases Nat.lt_or_ge j sz with h1 | h1
        · exact h1
        · rw [List.getElem?_eq_none (by omega)] at hd; cases hd
      rw [d4 j hj] at hd; cases hd
      obtain ⟨v', h1, h2⟩ := hel _ (hlt j hj)
      rw [hcg j hj, h1] at hv; cases hv
      exact h2
    obtain ⟨u, hu1, hu2⟩ := Rs.value d1 hrs
    have husz : u.cells.size = sz := by have := congrArg List.length hu2; simpa [hcl] using this
    refine ⟨⟨b, off, none⟩, u, hba (by omega), rfl, R.mono le _ _ hu1, ⟨husz, d2⟩, fun j hj => ?_⟩
    simp only [frozenG]
    rw [if_pos ⟨trivial, trivial, hlt j hj⟩, ← hcg j hj, ← hu2]
    simp

theorem RetLe.lay {h : Heap} {l n m sz : Nat} {cg get : Nat → D} (hb : h.box l = some (.arr m cg)) (hm : n * sz ≤ m) (he : ElemsOf cg 0 n sz get) : RetLe (.sl l 0 n) h (.list n sz get .none) (hLay h l) := fun g U w x hr i => by
  obtain ⟨g', h1, h2, h3⟩ := i.lay hb
  exact ⟨g', h3 x 0 n sz get hr (by omega) he, h1, h2⟩

theorem RetLe.layTup {h : Heap} {l n m sz : Nat} {cg get : Nat → D} {ds : List D} (hb : h.box l = some (.arr m cg)) (hm : n * sz ≤ m) (he : ElemsOf cg 0 n sz get) : RetLe (.tup (.sl l 0 n :: ds)) h (.tup (.list n sz get .none :: ds)) (hLay h l) := fun g U w x hr i => by
  obtain ⟨g', h1, h2, h3⟩ := i.lay hb
  refine ⟨g', ?_, h1, h2⟩
  simp only [R, Rs] at hr ⊢
  obtain ⟨vs, e, v, r, rfl, hv, hs⟩ := hr
  have hv' := h3 v 0 n sz get (by simpa only [R] using hv) (by omega) he
  exact ⟨_, e, v, r, rfl, by simpa only [R] using hv', Rs.mono h2.le _ _ hs⟩

theorem RetLe.trans {d v x : D} {h h' h'' : Heap} (a : RetLe d h v h') (b : RetLe v h' x h'') : RetLe d h x h'' := fun g U w y hr i => by
  obtain ⟨g1, r1, i1, e1⟩ := a g U w y hr i
  obtain ⟨g2, r2, i2, e2⟩ := b g1 U w y r1 i1
  exact ⟨g2, r2, i2, e1.trans e2⟩

theorem ElemsOf.one {cg get : Nat → D} {off n : Nat} (h : ∀ k, k < n → isD (get k) = true ∧ cellsD (get k) = [get k] ∧ oneD (get k) = true ∧ cg (off + k) = get k) : ElemsOf cg off n 1 get := fun k hk => by
  obtain ⟨h1, h2, h3, h4⟩ := h k hk
  refine ⟨h1, by simp [ones, h2, h3], by rw [h2]; rfl, fun j hj => ?_⟩
  have : j = 0 := by omega
  subst this
  rw [h2]
  simp [h4]

theorem ElemsOf.cells {get : Nat → D} {n sz : Nat} (h : ∀ k, k < n → isD (get k) = true ∧ ones (get k) = true ∧ (cellsD (get k)).length = sz) : ElemsOf (cellsG sz get) 0 n sz get := fun k hk => by
  obtain ⟨h1, h2, h3⟩ := h k hk
  refine ⟨h1, h2, h3, fun j hj => ?_⟩
  have e1 : (0 + k * sz + j) / sz = k := by
    rw [Nat.zero_add, Nat.mul_comm, Nat.mul_add_div (by omega), Nat.div_eq_of_lt hj]; rfl
  have e2 : (0 + k * sz + j) % sz = j := by
    rw [Nat.zero_add, Nat.mul_comm, Nat.mul_add_mod, Nat.mod_eq_of_lt hj]
  rw [cellsG_get get (by rw [e1]; exact h3), e1, e2]
  rw [List.getElem?_eq_getElem (by omega)]
  simp [List.getD, List.getElem?_eq_getElem (show j < (cellsD (get k)).length by omega)]

/-- The contract of a function that only computes, its result read where the heap has been laid off. -/
theorem pure_of_runR {P : Program} {f : Nat} {fn : Func} {c : Code} (hmix : P.follows .mixedOrders = true) (hf : P.funcs[f]? = some fn) (hb : fn.body = some c) (hname : (fn.name == "runtime.NumGoroutine") = false) {cfg : Cfg} {args : List D} {v : D} (da : Datas args) (dv : Data v)
    (hn : Nat.ble args.length fn.ntmps = true) {sc : List Nat → Nat → Option Ans} {lv : List (List Nat × List Nat)} {N : Nat} (hr : runS ⟨P, cfg, c, fn.ntmps⟩ (finK P fn.results.toList fun d h => ∃ h', RetLe d h v h') sc lv N [.code []] ⟨argSlots 0 args, .empty⟩) : Pure P f args v := by
  have hc := callA_of_runS hmix hf hb hname hn hr
  refine ⟨hc.ok, da, dv, fun g w vs sub hs => ?_⟩
  let g0 : G := ⟨g.σ, fun _ => none, fun _ => none⟩
  have i : Inv g0 (fun b => b < w.heap.size) .empty w := ⟨sub, fun _ h => h, fun _ _ h => (by cases h), fun _ _ h => (by cases h), fun l _ _ h => absurd rfl h, fun _ _ h => (by cases h), fun _ _ _ _ _ h => (by cases h), fun _ _ _ _ _ _ _ h => (by cases h), fun _ _ => rfl, fun _ _ => rfl⟩
  refine Calls.mono (hc.calls g0 (fun b => b < w.heap.size) w vs i (Rs.data (g := g) (g' := g0) (fun _ _ h => h) args vs da hs)) fun e w' ⟨x, g1, d, h1, e1, e2, e3, e4, e5, h2, e6⟩ => ?_
  obtain ⟨g', f1, f2, f3⟩ := e6 g1 _ w' x e2 e3
  have e7 := e4.trans f3
  refine ⟨x, g'.σ, e1, R.data (g := g') (g' := ⟨g'.σ, g.μ, g.τ⟩) (fun _ _ h => h) v x dv f1, e7.le.σ, f2.sub, fun a y h => ?_, ⟨e5.os, e5.tape, e5.output, e5.size, fun b hb => e5.block b hb⟩⟩
  rcases e7.new a y h with h | h
  · exact .inl h
  · exact .inr (Nat.le_of_not_lt h)

/-- A contract out of what a call does to the model's memory. -/
theorem Does.of_calls {P : Program} {f : Nat} {args : List D} {h h' : Heap} {v : D} (ok : Callable P f)
    (hc : ∀ (g : G) (U : Nat → Prop) (w : World) (vs : List Value), Inv g U h w → Rs g args vs → Calls P f vs.toArray w fun e w' => ∃ (x : Value) (g' : G), e = .returned x ∧ R g' v x ∧ Inv g' U h' w' ∧ Grow U g g' ∧ Kept U w w') : Does P f args h v h' := fun K hk =>
  ⟨ok, fun g U w vs i hs => Calls.mono (hc g U w vs i hs) fun _ _ ⟨x, g', e1, e2, e3, e4, e5⟩ => ⟨x, g', v, h', e1, e2, e3, e4, e5, hk⟩⟩

end Go.Ab
