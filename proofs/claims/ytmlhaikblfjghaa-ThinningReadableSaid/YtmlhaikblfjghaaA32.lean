/- The run that goes on behind calls by what they answer (a script), and stops at chosen places with the slots that count. -/
import Derived.Test.YtmlhaikblfjghaaA31
namespace Go.Ab

/-- What a call answers: a function that only computes; one that turns the heap; by a Bool. -/
inductive Ans
  | pure (args : List D) (v : D)
  | eff (v : D) (h : Heap)
  | br (b : Bool) (x y : Ans)

/-- f called in this heap answers v and leaves h'. -/
def Does (P : Program) (f : Nat) (args : List D) (h : Heap) (v : D) (h' : Heap) : Prop := ∀ K : D → Heap → Prop, K v h' → CallA P f args h K

/-- f only computes, and answers v. -/
def PureW (P : Program) (f : Nat) (args args' : List D) (v : D) : Prop := Wks args args' ∧ Pure P f args' v

def ansC (P : Program) (f : Nat) (args : List D) (h : Heap) (next : D → Heap → Prop) : Ans → Prop
  | .pure args' v => PureW P f args args' v ∧ next v h
  | .eff v h' => Does P f args h v h' ∧ next v h'
  | .br b x y => bif b then ansC P f args h next x else ansC P f args h next y

/-- An answer that only computes: what is asked of it. -/
def ansPure (e : Prop) (k : List D → D → Prop) : Option Ans → Prop
  | none => e
  | some (.pure a v) => k a v
  | some (.eff _ _) => e
  | some (.br _ _ _) => e

def ansCall (e : Prop) (k : Ans → Prop) : Option Ans → Prop
  | none => e
  | some x => k x

abbrev Scr := List (List Nat × Nat × Ans)

def eqL : List Nat → List Nat → Bool
  | [], [] => true
  | a :: r, b :: s => Nat.beq a b && eqL r s
  | _, _ => false

def scrAt : Scr → List Nat → Nat → Option Ans
  | [], _, _ => none
  | (p, i, x) :: r, q, j => bif eqL p q && Nat.beq i j then some x else scrAt r q j

def keepAt : List (List Nat × List Nat) → List Nat → Option (List Nat)
  | [], _ => none
  | (p, l) :: r, q => bif eqL p q then some l else keepAt r q

/-- These slots alone. -/
def keepSl : List Nat → Slots → Slots
  | [], _ => []
  | t :: r, sl => match look sl t with
    | some d => bif isMayLp d then keepSl r sl else (t, d) :: keepSl r sl
    | none => keepSl r sl

def nodupB : List Nat → Bool
  | [] => true
  | t :: r => !(r.any (Nat.beq t)) && nodupB r

def keepSt (l : List Nat) (st : St) : St := bif nodupB l then { st with sl := keepSl l st.sl } else st

/-- As execOps, going on behind calls. -/
def execS (P : Program) (cfg : Cfg) (sc : Nat → Option Ans) (ops : List Oper) (kc : KontT) : Nat → List Oper → St → (St → Prop) → Prop
  | _, [], st, k => k { st with sl := purge st.sl }
  | i, o :: rest, st, k =>
    let next (st : St) : Prop := execS P cfg sc ops kc (i + 1) rest st k
    match o.guard with
    | none => match o.op with
      | .pick c a b => match pickD st.sl [] ops i c a b with
        | some d => next { st with sl := putO st.sl o.dst d }
        | none => False
      | op => match opD P cfg st (evO st.sl []) o.dst op with
        | .val d => next { st with sl := putO st.sl o.dst d }
        | .nd p d => p ∧ next { st with sl := putO st.sl o.dst d }
        | .asm p d => p → next { st with sl := putO st.sl o.dst d }
        | .new cs => next { st with sl := putO st.sl o.dst (.own cs) }
        | .eff p st' d => p ∧ next { st' with sl := putO st'.sl o.dst d }
        | .call f args => ansCall (CallA P f args st.h (fun v h' => kc (i + 1) { sl := putO st.sl o.dst v, h := h' })) (ansC P f args st.h (fun v h' => next { sl := putO st.sl o.dst v, h := h' })) (sc i)
        | .bad => False
    | some (j, w) => match gB st.sl ops i 40 (j, w) with
      | none => False
      | some g => match o.op with
        | .pick c a b => match pickD st.sl (clos ops i 40 (j, w)) ops i c a b with
          | some d => next { st with sl := putO st.sl o.dst (.may j w d) }
          | none => False
        | op => match opD P cfg st (evO st.sl (clos ops i 40 (j, w))) o.dst op with
          | .val d => bif okMay d then next { st with sl := putO st.sl o.dst (.may j w d) } else False
          | .nd p d => bif okMay d then (g = true → p) ∧ next { st with sl := putO st.sl o.dst (.may j w d) } else False
          | .asm p d => bif okMay d then (g = true → p) → next { st with sl := putO st.sl o.dst (.may j w d) } else False
          | .call f args => ansPure (PCall P g f args st.h (fun v _ => kc (i + 1) { st with sl := putO st.sl o.dst (.may j w v) }))
              (fun args' v => bif isD v then (g = true → PureW P f args args' v) ∧ next { st with sl := putO st.sl o.dst (.may j w v) } else False) (sc i)
          | .eff p st' d => cond g (p ∧ next { st' with sl := putO st'.sl o.dst d }) (next { st with sl := putO st.sl o.dst .junk })
          | .new _ => False
          | .bad => False

/-- As exD, going on behind calls. -/
def exS (P : Program) (cfg : Cfg) (sc : Nat → Option Ans) (H : Nat) (ms : List Nat) (ops : List Oper) : Nat → List Oper → List FP → St → (St → Prop) → Prop
  | _, [], _, st, k => k { st with sl := purge st.sl }
  | i, o :: rest, fps, st, k =>
    let go (ev : Operand → D) (cl : List (Nat × Bool)) (eff : Bool) (d : D) (st' : St) : Prop :=
      bif fpOk ms i o.dst (fpOf H ops o ev cl eff (baseOf d)) 0 fps then exS P cfg sc H ms ops (i + 1) rest (fps ++ [fpOf H ops o ev cl eff (baseOf d)]) { st' with sl := putO st'.sl o.dst d } k else False
    match o.guard with
    | none => match o.op with
      | .pick c a b => match pickD st.sl [] ops i c a b with
        | some d => go (evO st.sl []) [] false d st
        | none => False
      | op => match opD P cfg st (evO st.sl []) o.dst op with
        | .val d => go (evO st.sl []) [] false d st
        | .nd p d => p ∧ go (evO st.sl []) [] false d st
        | .asm p d => p → go (evO st.sl []) [] false d st
        | .new cs => go (evO st.sl []) [] false (.own cs) st
        | .eff p st' d => p ∧ go (evO st.sl []) [] true d st'
        | .call f args => ansPure False (fun args' v => bif isD v then PureW P f args args' v ∧ go (evO st.sl []) [] false v st else False) (sc i)
        | .bad => False
    | some (j, w) => match gB st.sl ops i 40 (j, w) with
      | none => False
      | some g => match o.op with
        | .pick c a b => match pickD st.sl (clos ops i 40 (j, w)) ops i c a b with
          | some d => go (evO st.sl (clos ops i 40 (j, w))) (clos ops i 40 (j, w)) false (.may j w d) st
          | none => False
        | op => match opD P cfg st (evO st.sl (clos ops i 40 (j, w))) o.dst op with
          | .val d => bif okMay d then go (evO st.sl (clos ops i 40 (j, w))) (clos ops i 40 (j, w)) false (.may j w d) st else False
          | .nd p d => bif okMay d then (g = true → p) ∧ go (evO st.sl (clos ops i 40 (j, w))) (clos ops i 40 (j, w)) false (.may j w d) st else False
          | .asm p d => bif okMay d then (g = true → p) → go (evO st.sl (clos ops i 40 (j, w))) (clos ops i 40 (j, w)) false (.may j w d) st else False
          | .call f args => ansPure False (fun args' v => bif isD v then (g = true → PureW P f args args' v) ∧ go (evO st.sl (clos ops i 40 (j, w))) (clos ops i 40 (j, w)) false (.may j w v) st else False) (sc i)
          | .eff .. => False
          | .new _ => False
          | .bad => False

def runS (E : Env) (fin : St → Prop) (sc : List Nat → Nat → Option Ans) (lv : List (List Nat × List Nat)) : Nat → List It → St → Prop
  | 0, td, st => At E fin td st
  | _ + 1, [], st => fin st
  | n + 1, .blk _ :: td, st => runS E fin sc lv n td st
  | _ + 1, .stop J :: _, st => J st
  | n + 1, .ops p i :: td, st => bif opsOk E.nt (opsOf E.root p) then execS E.P E.cfg (sc p) (opsOf E.root p) (fun i st => At E fin (.ops p i :: td) st) i ((opsOf E.root p).drop i) st (runS E fin sc lv n td) else False
  | n + 1, .code p :: td, st => match keepAt lv p with
    | some l => At E fin (.code p :: td) (keepSt l st)
    | none => match sub E.root p with
    | some .skip => runS E fin sc lv n td st
    | some (.seq _ _) => runS E fin sc lv n (.code (p ++ [0]) :: .code (p ++ [1]) :: td) st
    | some (.cond c _ _) => match evO st.sl [] c with
      | .bool b => cond b (runS E fin sc lv n (.code (p ++ [0]) :: td) st) (runS E fin sc lv n (.code (p ++ [1]) :: td) st)
      | _ => False
    | some (.block id _) => runS E fin sc lv n (.code (p ++ [0]) :: .blk id :: td) st
    | some (.exit id) => match popTo id td with
      | some td' => runS E fin sc lv n td' st
      | none => False
    | some .ret => fin st
    | some (.region _ ops false) => bif opsOk E.nt ops.toList then execS E.P E.cfg (sc p) ops.toList (fun i st => At E fin (.ops p i :: td) st) 0 ops.toList { st with sl := purge st.sl } (runS E fin sc lv n td) else False
    | some (.region _ ops true) => bif opsOk E.nt ops.toList && edgesBack 0 ops.toList then exS E.P E.cfg (sc p) E.nt (masks ops.toList []) ops.toList 0 ops.toList [] { st with sl := purge st.sl } (runS E fin sc lv n td) else False
    | some (.loop _) => At E fin (.code p :: td) st
    | _ => At E fin (.code p :: td) st

theorem keepSl_look : ∀ {l : List Nat} {sl : Slots} {t : Nat} {d : D}, look (keepSl l sl) t = some d → (look sl t = some d ∧ isMayLp d = false) ∧ t ∈ l
  | [], _, _, _, h => by cases h
  | s :: r, sl, t, d, h => by
    unfold keepSl at h
    have ih := fun h => (keepSl_look (l := r) (sl := sl) (t := t) (d := d) h)
    split at h
    · rename_i e he
      cases hm : isMayLp e with
      | true => rw [hm] at h; exact ⟨(ih h).1, List.mem_cons_of_mem _ (ih h).2⟩
      | false =>
        rw [hm] at h
        simp only [cond_false, look] at h
        cases hb : Nat.beq s t with
        | true =>
          rw [hb] at h; simp only [cond_true, Option.some.injEq] at h; subst h
          have := beq_eq.1 hb; subst this
          exact ⟨⟨he, hm⟩, List.mem_cons_self ..⟩
        | false => rw [hb] at h; exact ⟨(ih h).1, List.mem_cons_of_mem _ (ih h).2⟩
    · exact ⟨(ih h).1, List.mem_cons_of_mem _ (ih h).2⟩

theorem keepSl_keys : ∀ {l : List Nat} {sl : Slots}, nodupB l = true → ((keepSl l sl).map (·.1)).Nodup ∧ ∀ t ∈ (keepSl l sl).map (·.1), t ∈ l
  | [], _, _ => ⟨List.nodup_nil, fun _ h => h⟩
  | s :: r, sl, h => by
    simp only [nodupB, Bool.and_eq_true, Bool.not_eq_true'] at h
    obtain ⟨h1, h2⟩ := keepSl_keys (sl := sl) h.2
    have h3 : s ∉ r := fun hm => by
      have : r.any (Nat.beq s) = true := List.any_eq_true.2 ⟨s, hm, by simp⟩
      rw [h.1] at this; cases this
    unfold keepSl
    split
    · rename_i e he
      cases isMayLp e with
      | true => exact ⟨h1, fun t ht => List.mem_cons_of_mem _ (h2 t ht)⟩
      | false =>
        simp only [cond_false, List.map_cons, List.nodup_cons, List.mem_cons]
        exact ⟨⟨fun hm => h3 (h2 _ hm), h1⟩, fun t ht => ht.elim .inl fun ht => .inr (h2 t ht)⟩
    · exact ⟨h1, fun t ht => List.mem_cons_of_mem _ (h2 t ht)⟩

theorem keepSt_le (n : Nat) (l : List Nat) (st : St) : StLe n st (keepSt l st) := by
  unfold keepSt
  cases h : nodupB l with
  | false => exact StLe.refl n st
  | true => exact fun g β U a w r => ⟨g, β, Rel.sub r (keepSl_keys h).1 rfl fun t d e => (keepSl_look e).1, Grow.refl U g⟩

theorem CallA.mono {P : Program} {f : Nat} {args : List D} {h : Heap} {K K' : D → Heap → Prop} (c : CallA P f args h K) (hk : ∀ d h, K d h → K' d h) : CallA P f args h K' :=
  ⟨c.ok, fun g U w vs i hs => Calls.mono (c.calls g U w vs i hs) fun _ _ ⟨x, g', d, h', h1, h2, h3, h4, h5, h6⟩ => ⟨x, g', d, h', h1, h2, h3, h4, h5, hk _ _ h6⟩⟩

theorem ansC_call {P : Program} {f : Nat} {args : List D} {h : Heap} {next K : D → Heap → Prop} (hk : ∀ d h, next d h → K d h) : ∀ (x : Ans), ansC P f args h next x → CallA P f args h K := by
  intro x
  induction x with
  | pure _ _ => exact fun ⟨⟨hw, hp⟩, hn⟩ => CallA.of_pure hp hw (hk _ _ hn)
  | eff _ _ => exact fun ⟨hd, hn⟩ => hd K (hk _ _ hn)
  | br b x y ihx ihy =>
    cases b with
    | true => exact ihx
    | false => exact ihy

section
variable {E : Env} {fin : St → Prop}

theorem execS_exec {sc : Nat → Option Ans} {ops : List Oper} {kc : Nat → St → Prop} {k k0 : St → Prop} (hk : ∀ st, k st → k0 st)
    (hkc : ∀ i st, execOps E.P E.cfg (CallA E.P) (PCall E.P) ops (fun _ => false) kc i (ops.drop i) st k0 → kc i st) :
    ∀ (rest : List Oper) (i : Nat) (st : St), ops.drop i = rest → execS E.P E.cfg sc ops kc i rest st k → execOps E.P E.cfg (CallA E.P) (PCall E.P) ops (fun _ => false) kc i rest st k0
  | [], i, st, _, h => hk _ h
  | o :: rest, i, st, hd, h => by
    have hrest : ops.drop (i + 1) = rest := by rw [← List.drop_drop, hd]; rfl
    have ih : ∀ st, execS E.P E.cfg sc ops kc (i + 1) rest st k → execOps E.P E.cfg (CallA E.P) (PCall E.P) ops (fun _ => false) kc (i + 1) rest st k0 := fun st h => execS_exec hk hkc rest (i + 1) st hrest h
    have ihc : ∀ st, execS E.P E.cfg sc ops kc (i + 1) rest st k → kc (i + 1) st := fun st h => hkc _ _ (by rw [hrest]; exact ih st h)
    unfold execS at h
    unfold execOps
    split at h
    · rename_i hg
      simp only [hg]
      split at h
      · rename_i hop
        simp only [hop]
        split at h
        · rename_i hp
          simp only [hp]; exact ih _ h
        · exact h.elim
      · rename_i hne
        split
        · rename_i hop; exact absurd hop (hne _ _ _)
        · generalize opD E.P E.cfg st (evO st.sl []) o.dst o.op = res at h ⊢
          cases res with
          | val d => exact ih _ h
          | nd p d => exact ⟨h.1, ih _ h.2⟩
          | asm p d => exact fun hp => ih _ (h hp)
          | new cs => exact ih _ h
          | eff p st' d => exact ⟨h.1, ih _ h.2⟩
          | call f args =>
            simp only [cond_false] at h ⊢
            generalize sc i = x at h
            cases x with
            | none => exact h
            | some x => exact ansC_call (fun d h' hh => ihc _ hh) x h
          | bad => exact h.elim
    · rename_i j w hg
      simp only [hg]
      split at h
      · exact h.elim
      · rename_i g hgb
        simp only [hgb]
        split at h
        · rename_i hop
          simp only [hop]
          split at h
          · rename_i hp
            simp only [hp]; exact ih _ h
          · exact h.elim
        · rename_i hne
          split
          · rename_i hop; exact absurd hop (hne _ _ _)
          · generalize opD E.P E.cfg st (evO st.sl (clos ops i 40 (j, w))) o.dst o.op = res at h ⊢
            cases res with
            | val d =>
              cases hd : okMay d with
              | false => simp only [hd, cond_false] at h
              | true => simp only [hd, cond_true] at h ⊢; exact ih _ h
            | nd p d =>
              cases hd : okMay d with
              | false => simp only [hd, cond_false] at h
              | true => simp only [hd, cond_true] at h ⊢; exact ⟨h.1, ih _ h.2⟩
            | asm p d =>
              cases hd : okMay d with
              | false => simp only [hd, cond_false] at h
              | true => simp only [hd, cond_true] at h ⊢; exact fun hp => ih _ (h hp)
            | new cs => exact h.elim
            | eff p st' d =>
              cases g with
              | true => exact ⟨h.1, ih _ h.2⟩
              | false => exact ih _ h
            | call f args =>
              simp only at h ⊢
              generalize sc i = x at h
              rcases x with _ | ⟨args', v⟩ | ⟨_, _⟩ | ⟨_, _, _⟩
              · exact h
              · simp only [ansPure] at h
                cases hd : isD v with
                | false => simp only [hd, cond_false] at h
                | true =>
                  simp only [hd, cond_true] at h
                  exact PCall.of_pure h.1 hd (ihc _ h.2)
              · exact h
              · exact h
            | bad => exact h.elim

theorem exS_exD {sc : Nat → Option Ans} {ops : List Oper} {k k0 : St → Prop} (hk : ∀ st, k st → k0 st) :
    ∀ (rest : List Oper) (m i : Nat) (fps : List FP) (st : St) (kc : Nat → List FP → St → Prop), (∀ i fps st, exQ E ops k0 m i fps st → kc i fps st) → ops.drop i = rest → rest.length ≤ m → exS E.P E.cfg sc E.nt (masks ops []) ops i rest fps st k →
      exD E.P E.cfg (PCall E.P) E.nt (masks ops []) ops kc i rest fps st k0
  | [], _, i, _, st, _, _, _, _, h => hk _ h
  | o :: rest, 0, _, _, _, _, _, _, hm, _ => by simp at hm
  | o :: rest, m + 1, i, fps, st, kc, hkc, hd, hm, h => by
    have hrest : ops.drop (i + 1) = rest := by rw [← List.drop_drop, hd]; rfl
    have hm' : rest.length ≤ m := by simpa using hm
    have ih : ∀ fps st, exS E.P E.cfg sc E.nt (masks ops []) ops (i + 1) rest fps st k → exD E.P E.cfg (PCall E.P) E.nt (masks ops []) ops kc (i + 1) rest fps st k0 :=
      fun fps st h => exS_exD hk rest (m + 1) (i + 1) fps st kc hkc hrest (by omega) h
    have ihc : ∀ fps st, exS E.P E.cfg sc E.nt (masks ops []) ops (i + 1) rest fps st k → kc (i + 1) fps st :=
      fun fps st h => hkc _ _ _ (by unfold exQ; rw [hrest]; exact exS_exD hk rest m (i + 1) fps st (exQ E ops k0 m) (fun _ _ _ h => h) hrest hm' h)
    have go : ∀ {b : Bool} {fps : List FP} {st : St}, (bif b then exS E.P E.cfg sc E.nt (masks ops []) ops (i + 1) rest fps st k else False) →
        (bif b then exD E.P E.cfg (PCall E.P) E.nt (masks ops []) ops kc (i + 1) rest fps st k0 else False) := fun {b _ _} h => by
      cases b with
      | true => exact ih _ _ h
      | false => exact h
    have goC : ∀ {b : Bool} {fps : List FP} {st : St}, (bif b then exS E.P E.cfg sc E.nt (masks ops []) ops (i + 1) rest fps st k else False) →
        (bif b then kc (i + 1) fps st else False) := fun {b _ _} h => by
      cases b with
      | true => exact ihc _ _ h
      | false => exact h
    unfold exS at h
    unfold exD
    split at h
    · rename_i hg
      simp only [hg]
      split at h
      · rename_i hop
        simp only [hop]
        split at h
        · rename_i hp
          simp only [hp]; exact go h
        · exact h.elim
      · rename_i hne
        split
        · rename_i hop; exact absurd hop (hne _ _ _)
        · generalize opD E.P E.cfg st (evO st.sl []) o.dst o.op = res at h ⊢
          cases res with
          | val d => exact go h
          | nd p d => exact ⟨h.1, go h.2⟩
          | asm p d => exact fun hp => go (h hp)
          | new cs => exact go h
          | eff p st' d => exact ⟨h.1, go h.2⟩
          | call f args =>
            simp only at h ⊢
            generalize sc i = x at h
            rcases x with _ | ⟨args', v⟩ | ⟨_, _⟩ | ⟨_, _, _⟩
            · exact h.elim
            · simp only [ansPure] at h
              cases hd : isD v with
              | false => simp only [hd, cond_false] at h
              | true =>
                simp only [hd, cond_true] at h
                exact PCall.of_pure (fun _ => h.1) hd (goC h.2)
            · exact h.elim
            · exact h.elim
          | bad => exact h.elim
    · rename_i j w hg
      simp only [hg]
      split at h
      · exact h.elim
      · rename_i g hgb
        simp only [hgb]
        split at h
        · rename_i hop
          simp only [hop]
          split at h
          · rename_i hp
            simp only [hp]; exact go h
          · exact h.elim
        · rename_i hne
          split
          · rename_i hop; exact absurd hop (hne _ _ _)
          · generalize opD E.P E.cfg st (evO st.sl (clos ops i 40 (j, w))) o.dst o.op = res at h ⊢
            cases res with
            | val d =>
              cases hd : okMay d with
              | false => simp only [hd, cond_false] at h
              | true => simp only [hd, cond_true] at h ⊢; exact go h
            | nd p d =>
              cases hd : okMay d with
              | false => simp only [hd, cond_false] at h
              | true => simp only [hd, cond_true] at h ⊢; exact ⟨h.1, go h.2⟩
            | asm p d =>
              cases hd : okMay d with
              | false => simp only [hd, cond_false] at h
              | true => simp only [hd, cond_true] at h ⊢; exact fun hp => go (h hp)
            | new cs => exact h.elim
            | eff p st' d => exact h.elim
            | call f args =>
              simp only at h ⊢
              generalize sc i = x at h
              rcases x with _ | ⟨args', v⟩ | ⟨_, _⟩ | ⟨_, _, _⟩
              · exact h.elim
              · simp only [ansPure] at h
                cases hd : isD v with
                | false => simp only [hd, cond_false] at h
                | true =>
                  simp only [hd, cond_true] at h
                  exact PCall.of_pure h.1 hd (goC h.2)
              · exact h.elim
              · exact h.elim
            | bad => exact h.elim

end

section
variable {E : Env} {fin : St → Prop}

/-- From all that is still to do being fine to being at it. -/
theorem at_ops (hmix : E.P.follows .mixedOrders = true) {sc : Nat → Option Ans} {p : List Nat} {td : List It} {k : St → Prop} (hk : ∀ st, k st → Cont E fin td .normal st) (hok : opsOk E.nt (opsOf E.root p) = true) :
    ∀ (i : Nat) (st : St), execS E.P E.cfg sc (opsOf E.root p) (fun i st => At E fin (.ops p i :: td) st) i ((opsOf E.root p).drop i) st k → At E fin (.ops p i :: td) st := by
  have key : ∀ i st, execOps E.P E.cfg (CallA E.P) (PCall E.P) (opsOf E.root p) (fun _ => false) (fun i st => At E fin (.ops p i :: td) st) i ((opsOf E.root p).drop i) st (Cont E fin td .normal) → At E fin (.ops p i :: td) st :=
    fun i st h => ⟨ops_sound (cfg := E.cfg) (opsOk_sound hok) (fun _ h => h) (fun i st h => h.it) _ i st rfl h⟩
  exact fun i st h => key i st (execS_exec hk key _ i st rfl h)

theorem runS_sound (hmix : E.P.follows .mixedOrders = true) {sc : List Nat → Nat → Option Ans} {lv : List (List Nat × List Nat)} : ∀ (n : Nat) (td : List It) (st : St), runS E fin sc lv n td st → At E fin td st
  | 0, td, st, h => by unfold runS at h; exact h
  | n + 1, [], st, h => by unfold runS at h; exact ⟨h⟩
  | n + 1, .blk _ :: td, st, h => by unfold runS at h; exact ⟨(runS_sound hmix n td st h).it⟩
  | n + 1, .stop J :: td, st, h => by unfold runS at h; exact ⟨h⟩
  | n + 1, .ops p i :: td, st, h => by
    unfold runS at h
    cases hok : opsOk E.nt (opsOf E.root p) with
    | false => rw [hok] at h; exact h.elim
    | true =>
      rw [hok] at h
      exact at_ops hmix (fun st h => (runS_sound hmix n td st h).it) hok i st h
  | n + 1, .code p :: td, st, h => by
    have ih : ∀ td st, runS E fin sc lv n td st → At E fin td st := fun td st => runS_sound hmix n td st
    have use : ∀ {st}, run E fin 1 (.code p :: td) st → At E fin (.code p :: td) st := fun h => at_run hmix h
    unfold runS at h
    split at h
    · exact at_le h (keepSt_le _ _ _)
    · split at h
      · rename_i hs
        exact use (by simp only [run, hs]; exact ih _ _ h)
      · rename_i hs
        exact use (by simp only [run, hs]; exact ih _ _ h)
      · rename_i c x z hs
        split at h
        · rename_i b hb
          refine use ?_
          simp only [run, hs, hb]
          cases b with
          | true => exact ih _ _ h
          | false => exact ih _ _ h
        · exact h.elim
      · rename_i hs
        exact use (by simp only [run, hs]; exact ih _ _ h)
      · rename_i hs
        split at h
        · rename_i td' hp
          exact use (by simp only [run, hs, hp]; exact ih _ _ h)
        · exact h.elim
      · rename_i hs
        exact use (by simp only [run, hs]; exact h)
      · rename_i id ops hs
        cases hok : opsOk E.nt ops.toList with
        | false => rw [hok] at h; exact h.elim
        | true =>
          rw [hok] at h
          have hops : opsOf E.root p = ops.toList := by simp [opsOf, hs]
          refine ⟨_, hs, run_region hs (fun st h => (ih td st h).it) hok (execS_exec (k := runS E fin sc lv n td) (fun _ h => h) (fun i st h' => ?_) _ 0 _ rfl h)⟩
          rw [← hops] at h' hok
          exact ⟨ops_sound (cfg := E.cfg) (opsOk_sound hok) (fun st h => (ih td st h).it) (fun i st h => h.it) _ i st rfl h'⟩
      · rename_i id ops hs
        cases hok : (opsOk E.nt ops.toList && edgesBack 0 ops.toList) with
        | false => rw [hok] at h; exact h.elim
        | true =>
          rw [hok] at h
          simp only [Bool.and_eq_true] at hok
          have hops : opsOf E.root p = ops.toList := by simp [opsOf, hs]
          exact ⟨_, hs, run_draw (K := At E fin td) hmix hs (fun st h => h.it) hok.1 hok.2 (exS_exD (E := E) (k := runS E fin sc lv n td) (k0 := At E fin td) (fun st h => ih td st h) ops.toList ops.toList.length 0 [] _ (AtQ E fin p td)
            (fun i fps st h => ⟨⟨_, by rw [hops]; exact h⟩⟩) rfl (Nat.le_refl _) h)⟩
      · exact h
      · exact h

end
attribute [irreducible] runS

end Go.Ab
