/- Entering a function by the run with a script; loops; append rights at a loop's head. -/
import Derived.Test.YtmlhaikblfjghaaA32
namespace Go.Ab

theorem callA_of_runS {P : Program} {f : Nat} {fn : Func} {c : Code} (hmix : P.follows .mixedOrders = true) (hf : P.funcs[f]? = some fn) (hb : fn.body = some c) (hname : (fn.name == "runtime.NumGoroutine") = false) {cfg : Cfg} {args : List D} {h : Heap} {K : D → Heap → Prop}
    (hn : Nat.ble args.length fn.ntmps = true) {sc : List Nat → Nat → Option Ans} {lv : List (List Nat × List Nat)} {N : Nat} (hr : runS ⟨P, cfg, c, fn.ntmps⟩ (finK P fn.results.toList K) sc lv N [.code []] ⟨argSlots 0 args, h⟩) : CallA P f args h K :=
  callA_of_run hmix hf hb hname hn (N := 0) (by unfold run; exact runS_sound hmix N _ _ hr)

theorem pure_of_runS {P : Program} {f : Nat} {fn : Func} {c : Code} (hmix : P.follows .mixedOrders = true) (hf : P.funcs[f]? = some fn) (hb : fn.body = some c) (hname : (fn.name == "runtime.NumGoroutine") = false) {cfg : Cfg} {args : List D} {v : D} (da : Datas args) (dv : Data v)
    (hn : Nat.ble args.length fn.ntmps = true) {sc : List Nat → Nat → Option Ans} {lv : List (List Nat × List Nat)} {N : Nat} (hr : runS ⟨P, cfg, c, fn.ntmps⟩ (finK P fn.results.toList fun d _ => Wk d v) sc lv N [.code []] ⟨argSlots 0 args, .empty⟩) : Pure P f args v :=
  pure_of_run hmix hf hb hname da dv hn (N := 0) (by unfold run; exact runS_sound hmix N _ _ hr)

/-- What a call that only computes owes. -/
theorem PureW.mk {P : Program} {f : Nat} {args : List D} {v : D} (p : Pure P f args v) : PureW P f args args v := ⟨Wks.refl _, p⟩

/-- A value by a Bool: what is left behind each branch. -/
theorem ck {α : Type} {e : α → D} {b : Bool} {x y : α} {K : D → Prop} {p q : Prop} (h1 : K (e x) → p) (h2 : K (e y) → q) (h : K (e (bif b then x else y))) : (bif b then p else q) := by
  cases b
  · exact h2 h
  · exact h1 h
theorem wkB {b : Bool} {x y : Bool} {v : D} {p q : Prop} (h1 : Wk (B x) v → p) (h2 : Wk (B y) v → q) (h : Wk (B (bif b then x else y)) v) : (bif b then p else q) := by
  cases b
  · exact h2 h
  · exact h1 h
theorem wkI {b : Bool} {x y : Int} {v : D} {p q : Prop} (h1 : Wk (I x) v → p) (h2 : Wk (I y) v → q) (h : Wk (I (bif b then x else y)) v) : (bif b then p else q) := by
  cases b
  · exact h2 h
  · exact h1 h
/-- Two results, the first of them a number. -/
theorem wk2 {α β : Type} {e : α → D} {f : β → D} {b : Bool} {x y : α × β} {v : D} {p q : Prop} (h1 : Wk (.tup [e x.1, f x.2]) v → p) (h2 : Wk (.tup [e y.1, f y.2]) v → q) (h : Wk (.tup [e (bif b then x else y).1, f (bif b then x else y).2]) v) : (bif b then p else q) := by
  cases b
  · exact h2 h
  · exact h1 h

/-- At a seq's head. -/
theorem at_seq {E : Env} (hmix : E.P.follows .mixedOrders = true) {fin : St → Prop} {p : List Nat} {td : List It} {st : St} {a b : Code} (hs : sub E.root p = some (.seq a b)) (h : At E fin (.code (p ++ [0]) :: .code (p ++ [1]) :: td) st) : At E fin (.code p :: td) st :=
  at_run hmix (n := 1) (by simp only [run, hs]; exact h)

/-- At a round's end: a state of the family, further on. -/
def Nx {α : Type} (n : Nat) (I : α → Prop) (S : α → St) (μ : α → Nat) (m : Nat) (st : St) : Prop := ∃ y, I y ∧ μ y < m ∧ StLe n st (S y)

theorem Nx.mk {α : Type} {n : Nat} {I : α → Prop} {S : α → St} {μ : α → Nat} {m : Nat} (y : α) (h : I y) (hm : μ y < m) : Nx n I S μ m (S y) := ⟨y, h, hm, StLe.refl _ _⟩
theorem Nx.of {α : Type} {n : Nat} {I : α → Prop} {S : α → St} {μ : α → Nat} {m : Nat} {st : St} (y : α) (h : I y) (hm : μ y < m) (l : StLe n st (S y)) : Nx n I S μ m st := ⟨y, h, hm, l⟩

section
variable {E : Env} {fin : St → Prop}

/-- A loop; l: the slots that count at its head. -/
theorem at_loopK {α : Type} (I : α → Prop) (S : α → St) (μ : α → Nat) (l : List Nat) {p : List Nat} {td : List It} {c : Code} (hs : sub E.root p = some (.loop c))
    (hr : ∀ x, I x → At E fin (.code (p ++ [0]) :: .stop (fun st => Nx E.nt I S μ (μ x) (keepSt l st)) :: td) (S x)) (x : α) (hx : I x) : At E fin (.code p :: td) (S x) :=
  at_loop I S μ hs hx (StLe.refl _ _) fun x hx => by
    obtain ⟨c, hc, hw⟩ := (hr x hx).it
    refine ⟨c, hc, hw.mono fun e st h => ?_⟩
    cases e with
    | normal => obtain ⟨y, h1, h2, h3⟩ := h; exact ⟨y, h1, h2, (keepSt_le _ l st).trans h3⟩
    | ret => exact h
    | exit i => exact h

theorem at_loopS (hmix : E.P.follows .mixedOrders = true) {α : Type} (I : α → Prop) (S : α → St) (μ : α → Nat) (l : List Nat) {p : List Nat} {td : List It} {c : Code} (hs : sub E.root p = some (.loop c)) {N : Nat} {sc : α → List Nat → Nat → Option Ans} {lv : List (List Nat × List Nat)}
    (hr : ∀ x, I x → runS E fin (sc x) lv N (.code (p ++ [0]) :: .stop (fun st => Nx E.nt I S μ (μ x) (keepSt l st)) :: td) (S x)) (x : α) (hx : I x) : At E fin (.code p :: td) (S x) :=
  at_loopK I S μ l hs (fun x hx => runS_sound hmix N _ _ (hr x hx)) x hx

end

/-- A slot's value put in its place. -/
def setSl (sl : Slots) (t : Nat) (d : D) : Slots := sl.map fun x => bif Nat.beq x.1 t then (t, d) else x

theorem setSl_keys (sl : Slots) (t : Nat) (d : D) : (setSl sl t d).map (·.1) = sl.map (·.1) := by
  unfold setSl
  rw [List.map_map]
  refine List.map_congr_left fun x _ => ?_
  simp only [Function.comp]
  cases hb : Nat.beq x.1 t with
  | true => simp only [cond_true]; exact (beq_eq.1 hb).symm
  | false => rfl

theorem look_setSl : ∀ (sl : Slots) (t s : Nat) (d e : D), look (setSl sl t d) s = some e → (s = t ∧ e = d ∧ look sl t ≠ none) ∨ (s ≠ t ∧ look sl s = some e)
  | [], _, _, _, _, h => by cases h
  | (k, x) :: r, t, s, d, e, h => by
    have ih := look_setSl r t s d e
    have hm : setSl ((k, x) :: r) t d = (bif Nat.beq k t then (t, d) else (k, x)) :: setSl r t d := rfl
    rw [hm] at h
    cases hb : Nat.beq k t with
    | true =>
      have hkt := beq_eq.1 hb; subst hkt
      rw [hb] at h
      simp only [cond_true, look] at h
      cases hs : Nat.beq k s with
      | true =>
        have := beq_eq.1 hs; subst this
        rw [hs] at h; simp only [cond_true, Option.some.injEq] at h
        exact .inl ⟨rfl, h.symm, by simp [look]⟩
      | false =>
        rw [hs] at h
        rcases ih h with ⟨h1, h2, h3⟩ | ⟨h1, h2⟩
        · exact absurd h1.symm (beq_ff.1 hs)
        · exact .inr ⟨h1, by simp only [look, hs, cond_false]; exact h2⟩
    | false =>
      rw [hb] at h
      simp only [cond_false, look] at h
      cases hs : Nat.beq k s with
      | true =>
        have := beq_eq.1 hs; subst this
        rw [hs] at h; simp only [cond_true, Option.some.injEq] at h; subst h
        exact .inr ⟨fun e => (beq_ff.1 hb) e, by simp [look]⟩
      | false =>
        rw [hs] at h
        rcases ih h with ⟨h1, h2, h3⟩ | ⟨h1, h2⟩
        · exact .inl ⟨h1, h2, by simp only [look, hb, cond_false]; exact h3⟩
        · exact .inr ⟨h1, by simp only [look, hs, cond_false]; exact h2⟩

/-- A slice whose capacity is its length gets an append right of its own. -/
theorem StLe.tok (n : Nat) {sl : Slots} {h : Heap} {t m sz : Nat} {f : Nat → D} (sz' : Nat) (f' : Nat → D) (hl : look sl t = some (.list m sz f .full)) (hw : m = 0 ∨ (sz' = sz ∧ ∀ i, i < m → f i = f' i)) :
    StLe n ⟨sl, h⟩ ⟨setSl sl t (.list m sz' f' (.tok h.nt sz')), { h with hw := upd h.hw h.nt (some m), nt := h.nt + 1 }⟩ := by
  intro g β U a w r
  have h1 := r.slot t _ hl
  simp only [RS, RS0, R] at h1
  obtain ⟨e1, ad, cap, e2, e3, e4, e5⟩ := h1
  have e4' : cap = m := e4
  subst e4'
  obtain ⟨r1, le⟩ := r.idleTok (t := h.nt) (k := ⟨ad, cap, cap, sz'⟩) (by simp) rfl
  refine ⟨_, β, ⟨r1.defers, r1.size, by rw [setSl_keys]; exact r1.keys, fun s d hs => ?_, fun s d u hs hlive hb => ?_, fun s cs hs => ?_, fun s s' cs cs' hs hs' => ?_, r1.inv⟩, ⟨le, fun _ _ h => .inl h⟩⟩
  · rcases look_setSl _ _ _ _ _ hs with ⟨rfl, rfl, _⟩ | ⟨_, h2⟩
    · simp only [RS, RS0, R]
      refine ⟨e1, ad, cap, e2, e3, ⟨⟨ad, cap, cap, sz'⟩, by simp only [upd_same], rfl, Nat.le_refl _, fun _ => ⟨rfl, rfl⟩⟩, fun i hi => ?_⟩
      rcases hw with hw | ⟨rfl, hf⟩
      · omega
      · rw [← hf i hi]
        obtain ⟨p, u, f1, f2, f3, f4, f5⟩ := e5 i hi
        exact ⟨p, u, f1, f2, f3.mono le, f4, f5⟩
    · exact r1.slot s d h2
  · rcases look_setSl _ _ _ _ _ hs with ⟨rfl, rfl, _⟩ | ⟨_, h2⟩
    · cases hb
    · obtain ⟨cs, hc⟩ := r1.base s d u h2 hlive hb
      refine ⟨cs, ?_⟩
      have hut : u ≠ t := fun e => by subst e; rw [hl] at hc; cases hc
      have key : ∀ (sl : Slots), look sl u = some (.own cs) → look (setSl sl t (.list cap sz' f' (.tok h.nt sz'))) u = some (.own cs) := by
        intro sl
        induction sl with
        | nil => intro h; cases h
        | cons x r ih =>
          obtain ⟨k, x⟩ := x
          intro h
          have hm : ∀ d, setSl ((k, x) :: r) t d = (bif Nat.beq k t then (t, d) else (k, x)) :: setSl r t d := fun _ => rfl
          rw [hm]
          simp only [look] at h
          cases hku : Nat.beq k u with
          | true =>
            have := beq_eq.1 hku; subst this
            rw [hku] at h
            have : Nat.beq k t = false := beq_ff.2 hut
            rw [this]; simp only [cond_false, look, hku]; exact h
          | false =>
            rw [hku] at h
            cases hkt : Nat.beq k t with
            | true =>
              have := beq_eq.1 hkt; subst this
              simp only [cond_true, look, hku]; exact ih h
            | false => simp only [cond_false, look, hku]; exact ih h
      exact key _ hc
  · rcases look_setSl _ _ _ _ _ hs with ⟨rfl, h2, _⟩ | ⟨_, h2⟩
    · cases h2
    · exact r1.own s cs h2
  · rcases look_setSl _ _ _ _ _ hs with ⟨rfl, h2, _⟩ | ⟨_, h2⟩
    · cases h2
    · rcases look_setSl _ _ _ _ _ hs' with ⟨rfl, h3, _⟩ | ⟨_, h3⟩
      · cases h3
      · exact r1.ownInj s s' cs cs' h2 h3

end Go.Ab
