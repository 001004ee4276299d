/- The executor is sound, 17: a step hangs on what it names alone. -/
import Derived.Test.YtmlhaikblfjghaaA20
namespace Go.Ab

theorem look_put_ne {sl : Slots} {t t0 : Nat} {e : D} (h : ∀ d, look sl t = some d → isLp d t0 = false) (hne : t ≠ t0) : look (put sl t0 e) t = look sl t := by
  have : look (del sl t0) t = look sl t := by
    induction sl with
    | nil => rfl
    | cons x r ih =>
      obtain ⟨s, d⟩ := x
      simp only [look] at h
      cases hb : Nat.beq s t with
      | true =>
        rw [hb] at h
        simp only [cond_true, Option.some.injEq] at h
        have h0 := h d rfl
        have hst : s ≠ t0 := by have := beq_eq.1 hb; omega
        simp only [del, beq_ff.2 hst, h0, Bool.or_self, cond_false, look, hb, cond_true]
      | false =>
        rw [hb] at h
        simp only [cond_false] at h
        have ih := ih h
        simp only [del]
        cases hc : (Nat.beq s t0 || isLp d t0) with
        | true => simp only [cond_true, look, hb, cond_false]; exact ih
        | false => simp only [cond_false, look, hb]; exact ih
  simp only [put, look]
  rw [beq_ff.2 (fun e => hne e.symm)]
  exact this

theorem look_setOwn_eq {a b : Slots} {s : Nat} (h : look a s = look b s) (cs : List D) : look (setOwn a s cs) s = look (setOwn b s cs) s := by
  have hn : ∀ sl : Slots, look sl s = none → look (setOwn sl s cs) s = none := by
    intro sl; induction sl with
    | nil => intro _; rfl
    | cons x r ih =>
      obtain ⟨x1, x2⟩ := x
      intro h1
      simp only [look] at h1
      cases hb : Nat.beq x1 s with
      | true => rw [hb] at h1; simp at h1
      | false =>
        rw [hb] at h1
        simp only [cond_false] at h1
        simp only [setOwn, List.map_cons, hb, cond_false, look]
        exact ih h1
  cases ha : look a s with
  | none => rw [hn a ha, hn b (by rw [← h, ha])]
  | some d => rw [look_setOwn_same a s cs ha, look_setOwn_same b s cs (by rw [← h, ha])]

theorem setOwn_lp {sl : Slots} {s : Nat} {cs : List D} {t : Nat} {d : D} {u : Nat} (h : look (setOwn sl s cs) t = some d) (hl : isLp d u = true) : look sl t = some d := by
  by_cases hs : t = s
  · subst hs
    have := look_setOwn_eq (a := sl) (b := sl) (s := t) rfl cs
    cases h0 : look sl t with
    | none =>
      have hn := look_setOwn_eq (a := sl) (b := []) (s := t) (by rw [h0]; rfl) cs
      rw [hn] at h; cases h
    | some e => rw [look_setOwn_same sl t cs h0] at h; cases h; cases hl
  · rw [look_setOwn_other _ _ _ _ hs] at h; exact h

section
variable {P : Program} {n : Nat} {cfg : Cfg} {ops : List Oper} {i : Nat} {o : Oper} {st st' sc : St} {H : Nat} {fp : FP}

theorem fm_congr {α β : Type} {f f' : α → Option β} : ∀ {l : List α}, (∀ x ∈ l, f x = f' x) → l.filterMap f = l.filterMap f'
  | [], _ => rfl
  | x :: r, h => by
    rw [List.filterMap_cons, List.filterMap_cons, h x (List.mem_cons_self ..), fm_congr fun y hy => h y (List.mem_cons_of_mem _ hy)]

theorem mem_tmps {op : Op} {t : Nat} : t ∈ tmpsOf op ↔ .tmp t ∈ op.operands := by
  unfold tmpsOf
  rw [List.mem_filterMap]
  constructor
  · rintro ⟨x, hx, h⟩
    cases x <;> simp at h
    subst h; simpa using hx
  · intro h
    exact ⟨.tmp t, by simpa using h, rfl⟩

theorem evO_agree {cl : List (Nat × Bool)} {x : Operand} (h : ∀ t, x = .tmp t → look st.sl t = look sc.sl t) : evO st.sl cl x = evO sc.sl cl x := by
  cases x with
  | tmp t => simp only [evO, h t rfl]
  | _ => rfl

theorem gB_agree (hback : ∀ {j : Nat} {o : Oper} {q : Nat × Bool}, ops[j]? = some o → o.guard = some q → q.1 < j) : ∀ (m : Nat) (q : Nat × Bool), q.1 < i →
    (∀ p ∈ clos ops i m q, ∀ s, dstOf ops p.1 = some s → look st.sl s = look sc.sl s) → gB st.sl ops i m q = gB sc.sl ops i m q
  | 0, _, _, _ => rfl
  | m + 1, (j, w), hq, h => by
    simp only at hq
    have hc : clos ops i (m + 1) (j, w) = (j, w) :: (match (ops[j]?).bind (·.guard) with | some g' => clos ops i m g' | none => []) := by
      simp only [clos, blt_tt.2 hq, cond_true]
      rfl
    rw [hc] at h
    simp only [gB]
    cases hd : dstOf ops j with
    | none => rfl
    | some s =>
      have hl := h (j, w) (List.mem_cons_self ..) s hd
      simp only [hl]
      split
      · rfl
      · rename_i j' w' b _
        cases hb : (Nat.blt j i && guardIs ops j j' w') with
        | false => rfl
        | true =>
          simp only [cond_true]
          simp only [Bool.and_eq_true] at hb
          have h2 := hb.2
          unfold guardIs at h2
          cases hg : (ops[j]?).bind (·.guard) with
          | none => rw [hg] at h2; simp at h2
          | some p =>
            obtain ⟨p1, p2⟩ := p
            rw [hg] at h2 h
            simp only [Bool.and_eq_true] at h2
            have e1 := beq_eq.1 h2.1
            have e2 := beqB_eq h2.2
            subst e1; subst e2
            have hlt : p1 < i := by
              cases ho : ops[j]? with
              | none => rw [ho] at hg; cases hg
              | some o' =>
                rw [ho] at hg
                have := hback ho (by simpa using hg)
                simp only at this; omega
            rw [gB_agree hback m (p1, p2) hlt fun p hp => h p (List.mem_cons_of_mem _ hp)]
      · rfl

theorem pick_agree {cl : List (Nat × Bool)} {c x z : Operand} (h : ∀ t, (c = .tmp t ∨ x = .tmp t ∨ z = .tmp t) → look st.sl t = look sc.sl t) : pickD st.sl cl ops i c x z = pickD sc.sl cl ops i c x z := by
  unfold pickD
  rw [evO_agree (sc := sc) fun t ht => h t (.inl ht), evO_agree (sc := sc) (x := x) fun t ht => h t (.inr (.inl ht)), evO_agree (sc := sc) (x := z) fun t ht => h t (.inr (.inr ht))]

theorem fpOf_ev {ev ev' : Operand → D} (h : ∀ x ∈ o.op.operands, ev x = ev' x) (cl : List (Nat × Bool)) (eff : Bool) (rb : Option Nat) : fpOf H ops o ev cl eff rb = fpOf H ops o ev' cl eff rb := by
  have h1 : (o.op.operands.toList.filterMap fun x => baseOf (ev x)) = (o.op.operands.toList.filterMap fun x => baseOf (ev' x)) := by
    refine fm_congr fun x hx => ?_
    rw [h x (by simpa using hx)]
  have h2 : effOwn ev o.op = effOwn ev' o.op := by
    cases hop : o.op <;> first | rfl | skip
    rename_i t a v
    simp only [effOwn]
    rw [h a (by rw [hop]; simp [Op.operands])]
  have h3 : readsH ev o.op = readsH ev' o.op := by
    cases hop : o.op <;> first | rfl | skip
    rename_i t a
    simp only [readsH]
    rw [h a (by rw [hop]; simp [Op.operands])]
  simp only [fpOf, namesOf, h1, h2, h3]

/-- What a step leaves, of two states that agree on what it names. -/
structure Twin (H : Nat) (o : Oper) (st st' sc sc' : St) (fp : FP) : Prop where
  w : ∀ t, t ∈ fp.w → look st'.sl t = look sc'.sl t
  same : ∀ t, t ∉ fp.w → look st'.sl t = look st.sl t
  same' : ∀ t, t ∉ fp.w → look sc'.sl t = look sc.sl t
  h : H ∈ fp.w → st'.h = sc'.h
  hs : H ∉ fp.w → st'.h = st.h
  hs' : H ∉ fp.w → sc'.h = sc.h
  lp : ∀ t d s, look st'.sl t = some d → isLp d s = true → (o.dst = some t ∧ fp.rb = some s) ∨ look st.sl t = some d
  lp' : ∀ t d s, look sc'.sl t = some d → isLp d s = true → (o.dst = some t ∧ fp.rb = some s) ∨ look sc.sl t = some d

theorem isLp_baseOf {d : D} {s : Nat} (h : isLp d s = true) : baseOf d = some s := by
  unfold isLp at h
  split at h
  · have := beq_eq.1 h; subst this; rfl
  · have := beq_eq.1 h; subst this; rfl
  · cases h

/-- Where a value is put alone. -/
theorem twin_put {d : D} {s1 sc1 : St} (hw : fp.w = o.dst.toList ++ (fp.w.drop o.dst.toList.length)) (hrb : fp.rb = baseOf d)
    (no : ∀ t0 t e, o.dst = some t0 → look s1.sl t = some e → isLp e t0 = false) (no' : ∀ t0 t e, o.dst = some t0 → look sc1.sl t = some e → isLp e t0 = false)
    (tw : (∀ t, t ∈ fp.w → o.dst ≠ some t → look s1.sl t = look sc1.sl t) ∧ (∀ t, t ∉ fp.w → look s1.sl t = look st.sl t) ∧ (∀ t, t ∉ fp.w → look sc1.sl t = look sc.sl t) ∧ (H ∈ fp.w → s1.h = sc1.h) ∧ (H ∉ fp.w → s1.h = st.h) ∧ (H ∉ fp.w → sc1.h = sc.h))
    (lp : ∀ t d s, look s1.sl t = some d → isLp d s = true → look st.sl t = some d) (lp' : ∀ t d s, look sc1.sl t = some d → isLp d s = true → look sc.sl t = some d) :
    Twin H o st { s1 with sl := putO s1.sl o.dst d } sc { sc1 with sl := putO sc1.sl o.dst d } fp := by
  obtain ⟨t1, t2, t3, t4, t5, t6⟩ := tw
  cases hd : o.dst with
  | none =>
    simp only [putO]
    exact ⟨fun t ht => t1 t ht (by rw [hd]; simp), t2, t3, t4, t5, t6, fun t d s h1 h2 => .inr (lp t d s h1 h2), fun t d s h1 h2 => .inr (lp' t d s h1 h2)⟩
  | some t0 =>
    have hin : t0 ∈ fp.w := by rw [hw, hd]; simp
    have key : ∀ {s1 : St}, (∀ t e, look s1.sl t = some e → isLp e t0 = false) → ∀ t, t ≠ t0 → look (putO s1.sl (some t0) d) t = look s1.sl t := fun h t hne => look_put_ne (fun e he => h t e he) hne
    have key0 : ∀ {s1 : St}, look (putO s1.sl (some t0) d) t0 = some (bif isLp d t0 then .junk else d) := fun {s1} => look_put_same _ _ _
    have k1 := key (s1 := s1) fun t e he => no t0 t e hd he
    have k2 := key (s1 := sc1) fun t e he => no' t0 t e hd he
    have lpp : ∀ {s1 sx : St}, (∀ t, t ≠ t0 → look (putO s1.sl (some t0) d) t = look s1.sl t) → (∀ t d s, look s1.sl t = some d → isLp d s = true → look sx.sl t = some d) →
        ∀ t e s, look (putO s1.sl (some t0) d) t = some e → isLp e s = true → (o.dst = some t ∧ fp.rb = some s) ∨ look sx.sl t = some e := by
      intro s1 sx k1 lp t e s h1 h2
      by_cases hx : t = t0
      · subst hx
        rw [key0] at h1
        cases hp : isLp d t with
        | true => rw [hp] at h1; cases h1; cases h2
        | false => rw [hp] at h1; simp only [cond_false, Option.some.injEq] at h1; subst h1; exact .inl ⟨hd, by rw [hrb, isLp_baseOf h2]⟩
      · rw [k1 t hx] at h1; exact .inr (lp t e s h1 h2)
    refine ⟨fun t ht => ?_, fun t ht => ?_, fun t ht => ?_, t4, t5, t6, lpp k1 lp, lpp k2 lp'⟩
    · by_cases hx : t = t0
      · subst hx
        show look (putO s1.sl (some t) d) t = look (putO sc1.sl (some t) d) t
        rw [key0, key0]
      · show look (putO s1.sl (some t0) d) t = look (putO sc1.sl (some t0) d) t
        rw [k1 t hx, k2 t hx]; exact t1 t ht (by rw [hd]; simp; exact fun h => hx h.symm)
    · have hx : t ≠ t0 := fun h => ht (h ▸ hin)
      show look (putO s1.sl (some t0) d) t = _
      rw [k1 t hx]; exact t2 t ht
    · have hx : t ≠ t0 := fun h => ht (h ▸ hin)
      show look (putO sc1.sl (some t0) d) t = _
      rw [k2 t hx]; exact t3 t ht

theorem step_agree (hback : ∀ {j : Nat} {o : Oper} {q : Nat × Bool}, ops[j]? = some o → o.guard = some q → q.1 < j) (ho : ops[i]? = some o) (hf : StepFact P cfg H ops i o st st' fp)
    (hN : ∀ t ∈ fp.n, look st.sl t = look sc.sl t) (hH : H ∈ fp.n → st.h = sc.h)
    (no : ∀ t0 t e, o.dst = some t0 → look st.sl t = some e → isLp e t0 = false) (no' : ∀ t0 t e, o.dst = some t0 → look sc.sl t = some e → isLp e t0 = false) :
    ∃ sc', StepFact P cfg H ops i o sc sc' fp ∧ Twin H o st st' sc sc' fp := by
  -- what is named
  have nm : ∀ {ev : Operand → D} {cl : List (Nat × Bool)} {eff : Bool} {rb : Option Nat}, fp = fpOf H ops o ev cl eff rb → (∀ t, .tmp t ∈ o.op.operands → t ∈ fp.n) ∧ (∀ x ∈ o.op.operands, ∀ s, baseOf (ev x) = some s → s ∈ fp.n) ∧
      (∀ p ∈ cl, ∀ s, dstOf ops p.1 = some s → s ∈ fp.n) ∧ (readsH ev o.op = true → H ∈ fp.n) := by
    intro ev cl eff rb h
    subst h
    simp only [fpOf, namesOf, List.mem_append]
    refine ⟨fun t ht => .inl (.inl (.inl (.inl (.inl (mem_tmps.2 ht))))), fun x hx s hs => .inl (.inl (.inl (.inl (.inr (List.mem_filterMap.2 ⟨x, by simpa using hx, hs⟩))))),
      fun p hp s hs => .inl (.inl (.inl (.inr (List.mem_filterMap.2 ⟨p, hp, hs⟩)))), fun hr => .inr (by rw [hr]; simp)⟩
  have evs : ∀ {cl : List (Nat × Bool)}, (∀ t, .tmp t ∈ o.op.operands → t ∈ fp.n) → ∀ x ∈ o.op.operands, evO st.sl cl x = evO sc.sl cl x := fun h x hx => evO_agree fun t ht => hN t (h t (ht ▸ hx))
  have plain : ∀ {d : D} {ev : Operand → D} {cl : List (Nat × Bool)}, fp = fpOf H ops o ev cl false (baseOf d) → Twin H o st { st with sl := putO st.sl o.dst d } sc { sc with sl := putO sc.sl o.dst d } fp := by
    intro d ev cl h
    have hw : fp.w = o.dst.toList := by subst h; simp [fpOf]
    have hnm := nm h
    refine twin_put (by rw [hw]; simp) (by subst h; rfl) no no' ⟨fun t ht hne => ?_, fun _ _ => rfl, fun _ _ => rfl, fun hh => hH ?_, fun _ => rfl, fun _ => rfl⟩ (fun _ _ _ h _ => h) (fun _ _ _ h _ => h)
    · rw [hw] at ht; exact absurd (by simpa using ht) hne
    · rw [hw] at hh
      subst h
      simp only [fpOf, namesOf, List.mem_append]
      exact .inl (.inl (.inr hh))
  have factSame : ∀ {cl : List (Nat × Bool)} {b : Bool} {d : D}, fp = fpOf H ops o (evO st.sl cl) cl false (baseOf d) ∨ (∃ j w, fp = fpOf H ops o (evO st.sl cl) cl false (baseOf (.may j w d))) → Fact P cfg st (evO st.sl cl) o b d → Fact P cfg sc (evO sc.sl cl) o b d := by
    intro cl b d hf0 hf
    have hnm : (∀ t, .tmp t ∈ o.op.operands → t ∈ fp.n) ∧ (∀ x ∈ o.op.operands, ∀ s, baseOf (evO st.sl cl x) = some s → s ∈ fp.n) ∧ (∀ p ∈ cl, ∀ s, dstOf ops p.1 = some s → s ∈ fp.n) ∧ (readsH (evO st.sl cl) o.op = true → H ∈ fp.n) := by
      rcases hf0 with h | ⟨j, w, h⟩
      · exact nm h
      · exact nm h
    have hs := opD_st (P := P) (cfg := cfg) (st := st) (st' := sc) (ev := evO st.sl cl) (dst := o.dst) (op := o.op) (fun x hx s hs => hN s (hnm.2.1 x hx s hs)) (fun hr => hH (hnm.2.2.2 hr))
    rw [opD_ev (ev := evO st.sl cl) (ev' := evO sc.sl cl) (st := sc) (evs hnm.1)] at hs
    clear hf0
    cases hf with
    | val h => rw [h] at hs; exact .val hs
    | nd h hp => rw [h] at hs; exact .nd hs hp
    | asm h => rw [h] at hs; exact .asm hs
    | new h => rw [h] at hs; exact .new hs
    | call h hp hv => rw [h] at hs; exact .call hs hp hv
  generalize hfp : fp = fp' at hf
  cases hf with
  | pick0 hg hop h =>
    have hnm := nm hfp
    have e := evs (cl := []) hnm.1
    rw [fpOf_ev e] at hfp ⊢
    rw [hfp] at plain
    refine ⟨_, .pick0 hg hop ?_, plain rfl⟩
    rw [← pick_agree fun t ht => hN t (hnm.1 t ?_)]
    · exact h
    · rw [hop]; simp only [Op.operands]; rcases ht with rfl | rfl | rfl <;> simp
  | val0 hg hf =>
    have hnm := nm hfp
    have e := evs (cl := []) hnm.1
    have hf' := factSame (.inl hfp) hf
    rw [fpOf_ev e] at hfp ⊢
    rw [hfp] at plain
    exact ⟨_, .val0 hg hf', plain rfl⟩
  | eff0 hg h hp =>
    rename_i p st1 d
    have hnm := nm hfp
    have e := evs (cl := []) hnm.1
    have hs := opD_st (P := P) (cfg := cfg) (st := st) (st' := sc) (ev := evO st.sl []) (dst := o.dst) (op := o.op) (fun x hx s hs => hN s (hnm.2.1 x hx s hs)) (fun hr => hH (hnm.2.2.2 hr))
    rw [opD_ev (ev := evO st.sl []) (ev' := evO sc.sl []) (st := sc) e, h] at hs
    cases hown : effOwn (evO st.sl []) o.op with
    | some s =>
      obtain ⟨cs, rfl, h2⟩ := hs.1 s hown
      have hw : fp.w = o.dst.toList ++ [s] := by rw [hfp]; simp [fpOf, hown]
      have hrb : fp.rb = baseOf d := by rw [hfp]; rfl
      have hsn : s ∈ fp.n := by
        cases hop : o.op <;> rw [hop] at hown <;> try cases hown
        rename_i t a v
        exact hnm.2.1 a (by rw [hop]; simp [Op.operands]) s hown
      have hwn : ∀ t, t ∈ fp.w → t ∈ fp.n := by
        intro t ht
        rw [hw] at ht
        rcases List.mem_append.1 ht with ht | ht
        · rw [hfp]; simp only [fpOf, namesOf, List.mem_append]; exact .inl (.inl (.inr ht))
        · simp at ht; subst ht; exact hsn
      refine ⟨{ sc with sl := putO (setOwn sc.sl s cs) o.dst d }, ?_, ?_⟩
      · have := StepFact.eff0 (H := H) (ops := ops) (i := i) hg h2 hp
        rw [← fpOf_ev e] at this
        exact this
      · refine hfp ▸ twin_put (s1 := { st with sl := setOwn st.sl s cs }) (sc1 := { sc with sl := setOwn sc.sl s cs }) (by rw [hw]; simp) hrb (fun t0 t u h1 h2 => ?_) (fun t0 t u h1 h2 => ?_)
          ⟨fun t ht hne => ?_, fun t ht => look_setOwn_other _ _ _ _ (fun e => ht (by rw [hw, e]; simp)), fun t ht => look_setOwn_other _ _ _ _ (fun e => ht (by rw [hw, e]; simp)), fun hh => hH (hwn _ hh), fun _ => rfl, fun _ => rfl⟩
          (fun t d s h1 h2 => setOwn_lp h1 h2) (fun t d s h1 h2 => setOwn_lp h1 h2)
        · cases hl : isLp u t0 with
          | false => rfl
          | true => have := no t0 t u h1 (setOwn_lp h2 hl); rw [hl] at this; cases this
        · cases hl : isLp u t0 with
          | false => rfl
          | true => have := no' t0 t u h1 (setOwn_lp h2 hl); rw [hl] at this; cases this
        · by_cases hx : t = s
          · subst hx; exact look_setOwn_eq (hN t hsn) cs
          · rw [look_setOwn_other _ _ _ _ hx, look_setOwn_other _ _ _ _ hx]
            exact hN t (hwn t ht)
    | none =>
      have hHn : H ∈ fp.n := by rw [hfp]; simp [fpOf, hown]
      obtain ⟨h1, rfl, h2⟩ := hs.2 hown (hH hHn)
      have hw : fp.w = o.dst.toList ++ [H] := by rw [hfp]; simp [fpOf, hown]
      have hrb : fp.rb = baseOf d := by rw [hfp]; rfl
      refine ⟨{ { sc with h := h1 } with sl := putO sc.sl o.dst d }, ?_, ?_⟩
      · have := StepFact.eff0 (H := H) (ops := ops) (i := i) hg h2 hp
        rw [← fpOf_ev e] at this
        exact this
      · refine hfp ▸ twin_put (s1 := { st with h := h1 }) (sc1 := { sc with h := h1 }) (by rw [hw]; simp) hrb no no'
          ⟨fun t ht hne => ?_, fun _ _ => rfl, fun _ _ => rfl, fun _ => rfl, fun hh => absurd (by rw [hw]; simp) hh, fun hh => absurd (by rw [hw]; simp) hh⟩ (fun _ _ _ h _ => h) (fun _ _ _ h _ => h)
        rw [hw] at ht
        rcases List.mem_append.1 ht with ht | ht
        · exact absurd (by simpa using ht) hne
        · simp at ht; subst ht; exact hN _ hHn
  | pick1 hg hb hop h =>
    rename_i j w b c x z d
    have hnm := nm hfp
    have e := evs (cl := clos ops i 40 (j, w)) hnm.1
    have hlt : j < i := hback ho hg
    rw [fpOf_ev e] at hfp ⊢
    rw [hfp] at plain
    refine ⟨_, .pick1 (b := b) hg ?_ hop ?_, plain rfl⟩
    · rw [← gB_agree hback 40 (j, w) hlt fun p hp s hs => hN s (hnm.2.2.1 p hp s hs)]; exact hb
    · rw [← pick_agree fun t ht => hN t (hnm.1 t ?_)]
      · exact h
      · rw [hop]; simp only [Op.operands]; rcases ht with rfl | rfl | rfl <;> simp
  | val1 hg hb hf hm =>
    rename_i j w b d
    have hnm := nm hfp
    have e := evs (cl := clos ops i 40 (j, w)) hnm.1
    have hlt : j < i := hback ho hg
    have hf' := factSame (.inr ⟨j, w, hfp⟩) hf
    rw [fpOf_ev e] at hfp ⊢
    rw [hfp] at plain
    refine ⟨_, .val1 (b := b) hg ?_ hf' hm, plain rfl⟩
    rw [← gB_agree hback 40 (j, w) hlt fun p hp s hs => hN s (hnm.2.2.1 p hp s hs)]; exact hb

end
end Go.Ab
