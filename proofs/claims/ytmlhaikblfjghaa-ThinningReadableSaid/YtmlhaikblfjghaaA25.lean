/- The run is sound; loops. -/
import Derived.Test.YtmlhaikblfjghaaA24
import Derived.LoopN
namespace Go.Ab

theorem sub_append : ∀ (c : Code) (p q : List Nat), sub c (p ++ q) = (sub c p).bind fun d => sub d q
  | c, [], q => by cases c <;> rfl
  | .seq a b, 0 :: p, q => by simpa [sub] using sub_append a p q
  | .seq a b, 1 :: p, q => by simpa [sub] using sub_append b p q
  | .seq a b, (k + 2) :: p, q => by simp [sub]
  | .cond c a b, 0 :: p, q => by simpa [sub] using sub_append a p q
  | .cond c a b, 1 :: p, q => by simpa [sub] using sub_append b p q
  | .cond c a b, (k + 2) :: p, q => by simp [sub]
  | .block i c, 0 :: p, q => by simpa [sub] using sub_append c p q
  | .block i c, (k + 1) :: p, q => by simp [sub]
  | .loop c, 0 :: p, q => by simpa [sub] using sub_append c p q
  | .loop c, (k + 1) :: p, q => by simp [sub]
  | .skip, k :: p, q => by simp [sub]
  | .region .., k :: p, q => by simp [sub]
  | .exit .., k :: p, q => by simp [sub]
  | .ret, k :: p, q => by simp [sub]
  | .scope .., k :: p, q => by simp [sub]
  | .rangeFunc .., k :: p, q => by simp [sub]
  | .label .., k :: p, q => by simp [sub]
  | .goto .., k :: p, q => by simp [sub]
  | .refuse .., k :: p, q => by simp [sub]

section
variable {E : Env} {fin : St → Prop}

theorem cont_ret : ∀ (td : List It) {st : St}, fin st → Cont E fin td .ret st
  | [], _, h => h
  | .code _ :: td, _, h => cont_ret td h
  | .ops _ _ :: td, _, h => cont_ret td h
  | .blk _ :: td, _, h => cont_ret td h
  | .stop _ :: td, _, h => cont_ret td h

theorem cont_exit {id : Nat} : ∀ (td : List It) {td' : List It} {st : St}, popTo id td = some td' → Cont E fin td' .normal st → Cont E fin td (.exit id) st
  | [], _, _, h, _ => by cases h
  | .code _ :: td, _, _, h, k => cont_exit td h k
  | .ops _ _ :: td, _, _, h, k => cont_exit td h k
  | .stop _ :: td, _, _, h, k => cont_exit td h k
  | .blk i :: td, td', st, h, k => by
    simp only [popTo] at h
    simp only [Cont]
    cases hb : Nat.beq i id with
    | true =>
      rw [hb] at h; simp only [cond_true, Option.some.injEq] at h; subst h
      rw [if_pos (beq_eq.1 hb)]; exact k
    | false =>
      rw [hb] at h
      rw [if_neg (beq_ff.1 hb)]; exact cont_exit td h k

/-- From a code's end on. -/
theorem AWp.mono {P : Program} {n : Nat} {c : Code} {st : St} {Q Q' : Ex → St → Prop} (h : AWp P n c st Q) (hq : ∀ e st, Q e st → Q' e st) : AWp P n c st Q' :=
  fun g β U a w r => wp_mono (h g β U a w r) fun _ _ _ ⟨ex, g', β', st', h1, h2, h3, h4, h5⟩ => ⟨ex, g', β', st', h1, h2, h3, h4, hq _ _ h5⟩

theorem awp_here {P : Program} {n : Nat} {c : Code} {st : St} {Q : Ex → St → Prop} {ex : Ex} (hc : ∀ (a : Act) (w : World) (Q : Exit → Act → World → Prop), Q (exitOf ex) a w → c.wp P Q a w) (h : Q ex st) : AWp P n c st Q :=
  fun g β U a w r => hc a w _ ⟨ex, g, β, st, rfl, r, Grow.refl U g, Kept.refl U w, h⟩

theorem awp_seq {P : Program} {n : Nat} {x z : Code} {st : St} {Q : Ex → St → Prop} (h : AWp P n x st fun e st' => match e with | .normal => AWp P n z st' Q | e => Q e st') : AWp P n (.seq x z) st Q := by
  intro g β U a w r
  refine wp_seq (wp_mono (h g β U a w r) fun e a' w' ⟨ex, g', β', st', h1, h2, h3, h4, h5⟩ => ?_)
  subst h1
  cases ex with
  | normal => exact wp_mono (h5 g' β' U a' w' h2) fun e2 a2 w2 ⟨ex2, g2, β2, st2, k1, k2, k3, k4, k5⟩ => ⟨ex2, g2, β2, st2, k1, k2, h3.trans k3, h4.trans k4, k5⟩
  | ret => exact ⟨.ret, g', β', st', rfl, h2, h3, h4, h5⟩
  | exit i => exact ⟨.exit i, g', β', st', rfl, h2, h3, h4, h5⟩

theorem awp_block {P : Program} {n : Nat} {id : Nat} {x : Code} {st : St} {Q : Ex → St → Prop} (h : AWp P n x st fun e st' => match e with | .exit i => if id = i then Q .normal st' else Q (.exit i) st' | e => Q e st') : AWp P n (.block id x) st Q := by
  intro g β U a w r
  refine wp_block (wp_mono (h g β U a w r) fun e a' w' ⟨ex, g', β', st', h1, h2, h3, h4, h5⟩ => ?_)
  subst h1
  cases ex with
  | normal => exact ⟨.normal, g', β', st', rfl, h2, h3, h4, h5⟩
  | ret => exact ⟨.ret, g', β', st', rfl, h2, h3, h4, h5⟩
  | exit i =>
    simp only [exitOf, Exit.inBlock]
    by_cases hi : i = id
    · rw [if_pos hi]
      simp only [if_pos hi.symm] at h5
      exact ⟨.normal, g', β', st', rfl, h2, h3, h4, h5⟩
    · rw [if_neg hi]
      simp only [if_neg (fun e => hi e.symm : ¬ id = i)] at h5
      exact ⟨.exit i, g', β', st', rfl, h2, h3, h4, h5⟩

theorem purge_may {st : St} (h : (st.sl.map (·.1)).Nodup) : MayLt 0 { st with sl := purge st.sl } := fun t j w d hl => by
  have := (look_purge h hl).2
  cases this

theorem exq_trace {ops : List Oper} (ok : OpsOk E.nt ops) {k : St → Prop} : ∀ (m i : Nat) (fps : List FP) (st : St), exQ E ops k m i fps st → TraceSem E.P E.nt E.cfg (masks ops []) ops k i fps st
  | 0, _, _, _, h => h.elim
  | m + 1, i, fps, st, h => exD_trace (kc := exQ E ops k m) ok (fun _ h => h) (fun i fps st h => exq_trace ok m i fps st h) _ i fps st rfl h

theorem opsPost_awp {n : Nat} {U : Nat → Prop} {g : G} {w : World} {Q : Ex → St → Prop} {e : Exit} {a' : Act} {w' : World} (h : OpsPost n U g w (Q .normal) e a' w') :
    ∃ ex g' β' st', e = exitOf ex ∧ Rel n g' β' U noY st' a' w' ∧ Grow U g g' ∧ Kept U w w' ∧ Q ex st' := by
  obtain ⟨h1, g', β', st', h2, h3, h4, h5⟩ := h
  exact ⟨.normal, g', β', st', h1, h2, h3, h4, h5⟩

/-- A region, entered. -/
theorem run_region {p : List Nat} {td : List It} {st : St} {id : Nat} {ops : Array Oper} {K : St → Prop} (hs : sub E.root p = some (.region id ops false)) (hcont : ∀ st, K st → Cont E fin td .normal st)
    (h : opsOk E.nt ops.toList = true) (he : execOps E.P E.cfg (CallA E.P) (PCall E.P) ops.toList (fun _ => false) (fun i st => At E fin (.ops p i :: td) st) 0 ops.toList { st with sl := purge st.sl } K) :
    AWp E.P E.nt (.region id ops false) st (Cont E fin td) := by
  intro g β U a w r
  have hops : opsOf E.root p = ops.toList := by simp [opsOf, hs]
  have hk : ∀ i st, At E fin (.ops p i :: td) st → OpsSem E.P E.nt ops.toList i st (Cont E fin td .normal) := fun i st h => by have := h.it; rw [← hops]; exact this
  have hsem := ops_sound (cfg := E.cfg) (opsOk_sound h) hcont hk ops.toList 0 _ rfl he
  have r1 := r.purged (yOf ops.toList a)
  have := hsem g β U a w r1 (purge_may r.keys) (fun j _ _ _ h => absurd h (Nat.not_lt_zero _))
  have hr : List.range' 0 (ops.toList.length - 0) = List.range ops.size := by rw [List.range_eq_range']; simp
  rw [hr] at this
  refine wp_region ?_
  have ha : ops.toList.toArray = ops := by simp
  rw [ha] at this
  exact wpOps_mono (fun e a' w' h => opsPost_awp h) _ _ _ this

theorem run_draw {p : List Nat} {td : List It} {st : St} {id : Nat} {ops : Array Oper} {K : St → Prop} (hmix : E.P.follows .mixedOrders = true) (hs : sub E.root p = some (.region id ops true)) (hcont : ∀ st, K st → Cont E fin td .normal st)
    (h : opsOk E.nt ops.toList = true) (heb : edgesBack 0 ops.toList = true) (he : exD E.P E.cfg (PCall E.P) E.nt (masks ops.toList []) ops.toList (AtQ E fin p td) 0 ops.toList [] { st with sl := purge st.sl } K) :
    AWp E.P E.nt (.region id ops true) st (Cont E fin td) := by
  intro g β U a w r
  have hops : opsOf E.root p = ops.toList := by simp [opsOf, hs]
  have ok := opsOk_sound h
  have hk : ∀ i fps st, AtQ E fin p td i fps st → TraceSem E.P E.nt E.cfg (masks ops.toList []) ops.toList (At E fin td) i fps st := fun i fps st h => by
    obtain ⟨m, h⟩ := h.it
    rw [hops] at h
    exact exq_trace ok m i fps st h
  have hT := exD_trace (k := At E fin td) ok (fun st h => ⟨hcont st h⟩) hk ops.toList 0 [] _ rfl he
  have := draw_sound (id := id) hmix ok heb hT r
  have ha : ops.toList.toArray = ops := by simp
  rw [ha] at this
  exact wp_mono this fun e a' w' ⟨h1, g', β', st', h2, h3, h4, h5⟩ => ⟨.normal, g', β', st', h1, h2, h3, h4, h5.it⟩

theorem run_sound (hmix : E.P.follows .mixedOrders = true) : ∀ (n : Nat) (td : List It) (st : St), run E fin n td st → Cont E fin td .normal st
  | 0, td, st, h => by unfold run at h; exact h.it
  | n + 1, [], st, h => by unfold run at h; exact h
  | n + 1, .blk _ :: td, st, h => by unfold run at h; exact run_sound hmix n td st h
  | n + 1, .stop J :: td, st, h => by unfold run at h; exact h
  | n + 1, .ops p i :: td, st, h => by
    unfold run at h
    cases hok : opsOk E.nt (opsOf E.root p) with
    | false => rw [hok] at h; exact h.elim
    | true =>
      rw [hok] at h
      exact ops_sound (cfg := E.cfg) (opsOk_sound hok) (fun st h => run_sound hmix n td st h) (fun i st h => h.it) _ i st rfl h
  | n + 1, .code p :: td, st, h => by
    unfold run at h
    have ih := fun td st => run_sound hmix n td st
    split at h
    · rename_i hs
      exact ⟨_, hs, awp_here (ex := .normal) (fun a w Q hq => wp_skip hq) (ih _ _ h)⟩
    · rename_i x z hs
      have h1 := ih _ _ h
      obtain ⟨c, hc, hw⟩ := h1
      rw [sub_append, hs] at hc
      have hcx : x = c := by simpa [sub] using hc
      subst hcx
      refine ⟨_, hs, awp_seq (hw.mono fun e st' hh => ?_)⟩
      cases e with
      | normal =>
        obtain ⟨c2, hc2, hw2⟩ := hh
        rw [sub_append, hs] at hc2
        have hcz : z = c2 := by simpa [sub] using hc2
        subst hcz
        exact hw2
      | ret => exact hh
      | exit i => exact hh
    · rename_i c x z hs
      split at h
      · rename_i b hb
        refine ⟨_, hs, fun g β U a w r => ?_⟩
        have hv := (evO_ev r (cl := []) (by simp)).data (x := c) (by rw [hb]; rfl)
        rw [hb] at hv
        have hv : a.eval c = .bool b := by simpa [R] using hv
        cases b with
        | true =>
          obtain ⟨c1, hc1, hw1⟩ := ih _ _ h
          rw [sub_append, hs] at hc1
          have hcx : x = c1 := by simpa [sub] using hc1
          subst hcx
          exact wp_cond_true hv (hw1 g β U a w r)
        | false =>
          obtain ⟨c1, hc1, hw1⟩ := ih _ _ h
          rw [sub_append, hs] at hc1
          have hcx : z = c1 := by simpa [sub] using hc1
          subst hcx
          exact wp_cond_false hv (hw1 g β U a w r)
      · exact h.elim
    · rename_i id x hs
      obtain ⟨c, hc, hw⟩ := ih _ _ h
      rw [sub_append, hs] at hc
      have hcx : x = c := by simpa [sub] using hc
      subst hcx
      refine ⟨_, hs, awp_block (hw.mono fun e st' hh => ?_)⟩
      cases e with
      | normal => exact hh
      | ret => exact hh
      | exit i => exact hh
    · rename_i id hs
      split at h
      · rename_i td' hp
        exact ⟨_, hs, awp_here (ex := .exit id) (fun a w Q hq => wp_exit hq) (cont_exit td hp (ih _ _ h))⟩
      · exact h.elim
    · rename_i hs
      exact ⟨_, hs, awp_here (ex := .ret) (fun a w Q hq => wp_ret hq) (cont_ret td h)⟩
    · rename_i id ops hs
      cases hok : opsOk E.nt ops.toList with
      | false => rw [hok] at h; exact h.elim
      | true => rw [hok] at h; exact ⟨_, hs, run_region hs (ih td) hok h⟩
    · rename_i id ops hs
      cases hok : (opsOk E.nt ops.toList && edgesBack 0 ops.toList) with
      | false => rw [hok] at h; exact h.elim
      | true =>
        rw [hok] at h
        simp only [Bool.and_eq_true] at hok
        exact ⟨_, hs, run_draw hmix hs (ih td) hok.1 hok.2 h⟩
    · exact h.it
    · exact h.it

end
end Go.Ab
