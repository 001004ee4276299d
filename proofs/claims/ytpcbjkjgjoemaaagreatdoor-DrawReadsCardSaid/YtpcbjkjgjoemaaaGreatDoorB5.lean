/- The executor is sound, 16: an operation's outcome hangs on what it names alone. -/
import Derived.Test.YtpcbjkjgjoemaaaGreatDoorB4
import Derived.OrdersIn
import Derived.LoopN
namespace Go.Ab

/-- The same outcome in another state. `own`: the slot whose box is stored into. -/
def ResSame (st st' : St) (own : Option Nat) : Res → Res → Prop
  | .eff p st1 d, r' => (∀ s, own = some s → ∃ cs, st1 = { st with sl := setOwn st.sl s cs } ∧ r' = .eff p { st' with sl := setOwn st'.sl s cs } d) ∧
      (own = none → st.h = st'.h → ∃ h1, st1 = { st with h := h1 } ∧ r' = .eff p { st' with h := h1 } d)
  | .bad, _ => True
  | r, r' => r' = r

theorem ResSame.refl {st st' : St} {own : Option Nat} {r : Res} (h : ∀ p st1 d, r ≠ .eff p st1 d) : ResSame st st' own r r := by
  cases r <;> first | rfl | trivial | exact absurd rfl (h _ _ _)

theorem ResSame.cond {st st' : St} {own : Option Nat} {c : Bool} {r r' : Res} (h : ResSame st st' own r r') : ResSame st st' own (bif c then r else .bad) (bif c then r' else .bad) := by
  cases c
  · trivial
  · exact h

theorem ResSame.heap {st st' : St} {p : Prop} {h1 h1' : Heap} {d d' : D} (h : st.h = st'.h → h1' = h1 ∧ d' = d) : ResSame st st' none (.eff p { st with h := h1 } d) (.eff p { st' with h := h1' } d') :=
  ⟨fun s hs => (by cases hs), fun _ hh => ⟨h1, rfl, (by obtain ⟨e1, e2⟩ := h hh; rw [e1, e2])⟩⟩

theorem optRes_same {st st' : St} {own : Option Nat} {x : Option D} : ResSame st st' own (optRes x) (optRes x) := .refl fun _ _ _ h => optRes_eff h

section
variable {P : Program} {cfg : Cfg} {st st' : St} {ev ev' : Operand → D} {dst : Option Nat}

theorem newRes_same {tag : Option Nat} {cs : List D} : ResSame st st' none (newRes cfg st dst tag cs) (newRes cfg st' dst tag cs) := by
  unfold newRes
  cases dst with
  | none => trivial
  | some t =>
    simp only
    cases cfg.esc t with
    | false => rfl
    | true =>
      refine ⟨fun s hs => (by cases hs), fun _ hh => ?_⟩
      exact ⟨{ st.h with box := upd st.h.box st.h.nl (some (rowNew tag cs)), nl := st.h.nl + 1 }, rfl, by rw [hh]; rfl⟩

theorem ResSame.ne (hh : st.h ≠ st'.h) {p : Prop} {st1 : St} {d : D} {r' : Res} : ResSame st st' none (.eff p st1 d) r' := ⟨fun s hs => (by cases hs), fun _ h => absurd h hh⟩

theorem appD_same {bx vx : Bool} {t : Nat} {x z : D} : ResSame st st' none (appD P st bx vx t x z) (appD P st' bx vx t x z) := by
  unfold appD
  split
  · split
    · refine .cond ?_
      split
      · refine .cond ?_
        split
        · first | rfl | trivial
        · first | rfl | trivial
        · cases vx with
          | true => exact ⟨fun s hs => (by cases hs), fun _ hh => ⟨_, rfl, by rw [hh]; rfl⟩⟩
          | false =>
            cases bx with
            | true => exact ⟨fun s hs => (by cases hs), fun _ hh => ⟨_, rfl, by rw [hh]; rfl⟩⟩
            | false => exact ⟨fun s hs => (by cases hs), fun _ hh => ⟨_, rfl, by rw [hh]; rfl⟩⟩
        · by_cases hh : st.h = st'.h
          · rw [← hh]
            split
            · trivial
            · refine .cond ?_
              exact ⟨fun s hs => (by cases hs), fun _ _ => ⟨_, rfl, by rw [hh]⟩⟩
          · split
            · trivial
            · generalize (Nat.beq _ _) = c
              cases c
              · trivial
              · exact .ne hh
      · refine .cond ?_
        by_cases hh : st.h = st'.h
        · rw [← hh]
          split
          · exact ⟨fun s hs => (by cases hs), fun _ _ => ⟨_, rfl, by rw [hh]⟩⟩
          · trivial
        · split
          · exact .ne hh
          · trivial
      · refine .cond ?_
        by_cases hh : st.h = st'.h
        · rw [← hh]
          split
          · exact ⟨fun s hs => (by cases hs), fun _ _ => ⟨_, rfl, by rw [hh]⟩⟩
          · trivial
        · split
          · exact .ne hh
          · trivial
      · first | rfl | trivial
    · first | rfl | trivial
  · first | rfl | trivial

theorem builtinD_same {bx vx : Bool} {b : Builtin} {ts : List Nat} {l : List D} : ResSame st st' none (builtinD P st bx vx b ts l) (builtinD P st' bx vx b ts l) := by
  unfold builtinD
  split
  · split <;> first | rfl | trivial
  · split <;> first | rfl | trivial
  · split <;> first | rfl | trivial
  · split <;> first | rfl | trivial
  · split <;> first | rfl | trivial
  · split
    · exact appD_same
    · exact appD_same
    · first | rfl | trivial
  · split <;> first | rfl | trivial
  · split <;> first | rfl | trivial
  · first | rfl | trivial

theorem makeD_same {vx : Bool} {t : Nat} {l c : D} : ResSame st st' none (makeD P st vx t l c) (makeD P st' vx t l c) := by
  unfold makeD
  split
  · split
    · refine .cond ?_
      cases vx with
      | true => simp only [cond_true]; refine .cond ?_; exact ⟨fun s hs => (by cases hs), fun _ hh => ⟨_, rfl, by rw [hh]⟩⟩
      | false => simp only [cond_false]; exact ⟨fun s hs => (by cases hs), fun _ hh => ⟨_, rfl, by rw [hh]⟩⟩
    · first | rfl | trivial
  · first | rfl | trivial

theorem convW_same {s t : Nat} {x : D} : ResSame st st' none (convW P st s t x) (convW P st' s t x) := by
  unfold convW
  split
  · split
    · exact ⟨fun s hs => (by cases hs), fun _ hh => ⟨_, rfl, by rw [hh]⟩⟩
    · first | rfl | trivial
  · first | rfl | trivial

theorem bldS_same {vx : Bool} {r : Option D} : ResSame st st' none (bldS st vx r) (bldS st' vx r) := by
  unfold bldS
  split
  · cases hc : (vx && Nat.blt 0 _) with
    | true => simp only [cond_true]; exact ⟨fun s hs => (by cases hs), fun _ hh => ⟨_, rfl, by rw [hh]⟩⟩
    | false => simp only [cond_false]; first | rfl | trivial
  · first | rfl | trivial
  · first | rfl | trivial

theorem makeMapD_same {t : Nat} {r : Option D} : ResSame st st' none (makeMapD P st t r) (makeMapD P st' t r) := by
  unfold makeMapD
  split
  · split
    · refine .cond ?_
      exact ⟨fun s hs => (by cases hs), fun _ hh => ⟨_, rfl, by rw [hh]⟩⟩
    · trivial
  · trivial

theorem mapPutD_same {t : Nat} {m k v : D} : ResSame st st' none (mapPutD P st t m k v) (mapPutD P st' t m k v) := by
  unfold mapPutD
  by_cases hh : st.h = st'.h
  · rw [← hh]
    split
    · split
      · split
        · exact ⟨fun s hs => (by cases hs), fun _ _ => ⟨_, rfl, by rw [hh]⟩⟩
        · trivial
      · trivial
    · trivial
  · split
    · split
      · split
        · exact .ne hh
        · trivial
      · trivial
    · trivial

theorem ownCells_same {s : Nat} (h : look st.sl s = look st'.sl s) : ownCells st'.sl s = ownCells st.sl s := by simp [ownCells, h]

theorem loadRes_same {t : Nat} {a : D} (hb : ∀ s, baseOf a = some s → look st.sl s = look st'.sl s) (hh : isBp a = true → st.h = st'.h) {own : Option Nat} :
    ResSame st st' own (loadRes P st t a) (loadRes P st' t a) := by
  unfold loadRes
  split
  · rename_i s off
    rw [ownCells_same (hb s rfl)]
    split
    · exact optRes_same
    · first | rfl | trivial
  · exact optRes_same
  · rename_i l off
    rw [hh rfl]
    refine .refl fun p st1 d he => ?_
    split at he
    · unfold rowLoad at he
      split at he
      · exact optRes_eff he
      · split at he
        · replace he := cond_eff he; cases he
        · cases he
        · cases he
      · cases he
      · exact optRes_eff he
      · cases he
    · cases he
  · rename_i t' m i sz j
    rw [hh rfl]
    refine .refl fun p st1 d he => ?_
    split at he
    · split at he
      · replace he := cond_eff he; cases he
      · cases he
    · cases he
  · first | rfl | trivial

theorem storeRes_same {t : Nat} {a v : D} (hb : ∀ s, baseOf a = some s → look st.sl s = look st'.sl s) : ResSame st st' (baseOf a) (storeRes P st t a v) (storeRes P st' t a v) := by
  unfold storeRes
  split
  · refine .cond ?_
    split
    · rename_i s off
      rw [ownCells_same (hb s rfl)]
      split
      · refine .cond ?_
        exact ⟨fun s' hs => (by cases hs; exact ⟨_, rfl, rfl⟩), fun hn => (by cases hn)⟩
      · first | rfl | trivial
    · rename_i l off
      by_cases hh : st.h = st'.h
      · rw [← hh]
        split
        · split
          · exact ⟨fun s hs => (by cases hs), fun _ _ => ⟨_, rfl, by rw [hh]⟩⟩
          · first | rfl | trivial
        · first | rfl | trivial
      · cases hbx : st.h.box l with
        | none => exact True.intro
        | some row =>
          simp only
          cases hrs : rowStore off (cellsD v) row with
          | none => exact True.intro
          | some q =>
            obtain ⟨p, row'⟩ := q
            exact ⟨fun s hs => (by cases hs), fun _ h2 => absurd h2 hh⟩
    · by_cases hh : st.h = st'.h
      · rw [← hh]
        split
        · refine .cond ?_
          exact ⟨fun s hs => (by cases hs), fun _ _ => ⟨_, rfl, by rw [hh]⟩⟩
        · trivial
      · split
        · generalize (Nat.ble _ _) = c
          cases c
          · trivial
          · exact .ne hh
        · trivial
    · first | rfl | trivial
  · first | rfl | trivial

theorem sliceD_noEff {T : Nat} {x : D} {lo hi mx : Option D} {p : Prop} {st1 : St} {d : D} (h : sliceD P T x lo hi mx = .eff p st1 d) : False := by
  unfold sliceD at h
  split at h
  · split at h
    · replace h := cond_eff h; split at h <;> cases h
    · cases h
  · split at h <;> cases h
  · split at h <;> cases h
  · cases h

theorem opD_st {op : Op} (hb : ∀ x ∈ op.operands, ∀ s, baseOf (ev x) = some s → look st.sl s = look st'.sl s) (hh : readsH ev op = true → st.h = st'.h) :
    ResSame st st' (effOwn ev op) (opD P cfg st ev dst op) (opD P cfg st' ev dst op) := by
  cases op with
  | alloc t =>
    simp only [opD]
    split
    · exact .cond newRes_same
    · first | rfl | trivial
  | box t x => exact .cond newRes_same
  | load t a => exact loadRes_same (hb a (by simp [Op.operands])) hh
  | store t a v => exact storeRes_same (hb a (by simp [Op.operands]))
  | makeSlice t l c => exact makeD_same
  | call c =>
    simp only [opD]
    split
    · split
      · exact .cond rfl
      · exact .cond rfl
      · trivial
    · exact .cond builtinD_same
    · split
      · split
        · exact .cond rfl
        · trivial
      · trivial
  | move x => simp only [opD]; split <;> first | rfl | trivial
  | assign x => simp only [opD]; split <;> first | rfl | trivial
  | build t parts => exact optRes_same
  | buildSlice t len parts => exact bldS_same
  | nilCheck x => exact .refl fun p st1 d h => by change nilCheckD P (ev x) = _ at h; unfold nilCheckD at h; split at h <;> first | cases h | (replace h := cond_eff h; cases h)
  | makeFunc f first caps =>
    cases f with
    | func f =>
      simp only [opD]
      cases h1 : (first.isEmpty && allD (caps.toList.map ev)) with
      | true => rfl
      | false => exact .cond rfl
    | method m => simp only [opD, methF]; split <;> first | exact .cond rfl | trivial
    | _ => trivial
  | extract x i =>
    simp only [opD]
    split
    · exact optRes_same
    · trivial
  | binOp bop t x z t' => exact .refl fun p st1 d h => binOD_noEff h
  | unOp uop t x => exact .refl fun p st1 d h => by change unD uop (ev x) = _ at h; unfold unD at h; split at h <;> cases h
  | convert s t x =>
    have hsame : convRes P st.h s t (ev x) = convRes P st'.h s t (ev x) := by
      cases hx : isVec (ev x) with
      | true => rw [hh hx]
      | false =>
        unfold convRes
        generalize ev x = d at hx
        generalize P.underlying s = u1
        generalize P.underlying t = u2
        cases d with
        | vec a b c => exact Bool.noConfusion (show true = false from hx)
        | _ =>
          split
          all_goals first | rfl | (rename_i heq; exact D.noConfusion heq) | (rename_i heq _; exact D.noConfusion heq)
    have key : ∀ b : Bool, ResSame st st' none (bif b then convW P st s t (ev x) else convRes P st.h s t (ev x)) (bif b then convW P st' s t (ev x) else convRes P st'.h s t (ev x)) := fun b => by
      cases b with
      | true => exact convW_same
      | false =>
        simp only [cond_false]
        rw [← hsame]
        exact .refl fun p st1 d h => convRes_noEff h
    exact key _
  | makeMap t r => exact makeMapD_same
  | lookup t x i ok =>
    have he : opD P cfg st' ev dst (.lookup t x i ok) = opD P cfg st ev dst (.lookup t x i ok) := by
      show lookupD P st'.h t (ev x) (ev i) ok = lookupD P st.h t (ev x) (ev i) ok
      rw [hh rfl]
    rw [he]
    exact .refl fun p st1 d h => lookupD_noEff h
  | mapUpdate t m k v => exact mapPutD_same
  | insert t m k v => exact mapPutD_same
  | slice t x lo hi mx => exact .refl fun p st1 d h => sliceD_noEff h
  | makeInterface t x =>
    refine .refl fun p st1 d h => ?_
    change mkIfaceD P t (ev x) = _ at h
    unfold mkIfaceD at h
    split at h
    · cases h
    · replace h := cond_eff h; cases h
    · cases h
  | fieldAddr t x f =>
    refine .refl fun p st1 d h => ?_
    change fieldAddrD P t f (ev x) = _ at h
    unfold fieldAddrD at h
    split at h
    · split at h <;> cases h
    · cases h
  | indexAddr t x i =>
    have hsame : indexAddrD P st.h t (ev x) (ev i) = indexAddrD P st'.h t (ev x) (ev i) := by
      cases hx : isVec (ev x) with
      | true => rw [hh hx]
      | false =>
        unfold indexAddrD
        generalize ev x = d at hx
        generalize ev i = q
        generalize P.underlying t = u
        cases d with
        | vec a b c => exact Bool.noConfusion (show true = false from hx)
        | _ =>
          split
          all_goals first | rfl | (rename_i heq _; exact D.noConfusion heq) | (rename_i heq; exact D.noConfusion heq) | (rename_i heq _ _; exact D.noConfusion heq)
    have he : opD P cfg st' ev dst (.indexAddr t x i) = opD P cfg st ev dst (.indexAddr t x i) := hsame.symm
    rw [he]
    refine .refl fun p st1 d h => ?_
    change indexAddrD P st.h t (ev x) (ev i) = _ at h
    unfold indexAddrD at h
    split at h
    · split at h
      · replace h := cond_eff h; cases h
      · cases h
    · split at h
      · replace h := cond_eff h; cases h
      · cases h
    · split at h <;> cases h
    · cases h
  | index t x i => exact .refl fun p st1 d h => by change indexD P t (ev x) (ev i) = _ at h; unfold indexD at h; split at h <;> cases h
  | _ => trivial

theorem opD_ev {op : Op} (h : ∀ x ∈ op.operands, ev x = ev' x) : opD P cfg st ev dst op = opD P cfg st ev' dst op := by
  have pairs : ∀ ps : Array (Nat × Operand), (∀ x ∈ ps.map (·.2), ev x = ev' x) → (ps.toList.map fun (x : Nat × Operand) => (x.1, ev x.2)) = (ps.toList.map fun (x : Nat × Operand) => (x.1, ev' x.2)) := fun ps hp =>
    List.map_congr_left fun p hm => by
      rw [hp p.2 (Array.mem_map.2 ⟨p, by simpa using hm, rfl⟩)]
  have arr : ∀ ps : Array Operand, (∀ x ∈ ps, ev x = ev' x) → ps.toList.map ev = ps.toList.map ev' := fun ps hp => List.map_congr_left fun x hx => hp x (by simpa using hx)
  cases op <;> simp only [Op.operands] at h <;> simp only [opD]
  case build t ps => rw [pairs ps fun x hx => h x (by simpa using hx)]
  case buildSlice t m ps => rw [pairs ps fun x hx => h x (by simpa using hx)]
  case makeFunc f first caps =>
    cases f <;> simp only []
    · rw [arr caps fun x hx => h x (by simp [hx]), arr first fun x hx => h x (by simp [hx])]
    · rw [arr first fun x hx => h x (by simp [hx])]
  case call c =>
    have ha : c.args.toList.map ev = c.args.toList.map ev' := arr c.args fun x hx => h x (by simp [Call.operands, hx])
    simp only [ha]
    cases hc : c.callee with
    | value f => have hf : ev f = ev' f := h f (by simp [Call.operands, hc]); simp only [hf]
    | invoke r m => have hf : ev r = ev' r := h r (by simp [Call.operands, hc]); simp only [hf]
    | builtin b => rfl
  case makeMap t r => cases r <;> simp_all
  case slice t x lo hi mx => cases lo <;> cases hi <;> cases mx <;> simp_all
  all_goals (first | rfl | (simp_all; done))

end
end Go.Ab
/- The executor is sound, 17: a step hangs on what it names alone. -/
namespace Go.Ab

theorem look_put_ne {sl : Slots} {t t0 : Nat} {e : D} (h : ∀ d, look sl t = some d → isLp d t0 = false) (hne : t ≠ t0) : look (put sl t0 e) t = look sl t := by
  have : look (del sl t0) t = look sl t := by
    induction sl with
    | nil => rfl
    | cons x r ih =>
      obtain ⟨s, d⟩ := x
      simp only [look] at h
      cases hb : Nat.beq s t with
      | true =>
        rw [hb] at h
        simp only [cond_true, Option.some.injEq] at h
        have h0 := h d rfl
        have hst : s ≠ t0 := by have := beq_eq.1 hb; omega
        simp only [del, beq_ff.2 hst, h0, Bool.or_self, cond_false, look, hb, cond_true]
      | false =>
        rw [hb] at h
        simp only [cond_false] at h
        have ih := ih h
        simp only [del]
        cases hc : (Nat.beq s t0 || isLp d t0) with
        | true => simp only [cond_true, look, hb, cond_false]; exact ih
        | false => simp only [cond_false, look, hb]; exact ih
  simp only [put, look]
  rw [beq_ff.2 (fun e => hne e.symm)]
  exact this

theorem look_setOwn_eq {a b : Slots} {s : Nat} (h : look a s = look b s) (cs : List D) : look (setOwn a s cs) s = look (setOwn b s cs) s := by
  have hn : ∀ sl : Slots, look sl s = none → look (setOwn sl s cs) s = none := by
    intro sl; induction sl with
    | nil => intro _; rfl
    | cons x r ih =>
      obtain ⟨x1, x2⟩ := x
      intro h1
      simp only [look] at h1
      cases hb : Nat.beq x1 s with
      | true => rw [hb] at h1; simp at h1
      | false =>
        rw [hb] at h1
        simp only [cond_false] at h1
        simp only [setOwn, List.map_cons, hb, cond_false, look]
        exact ih h1
  cases ha : look a s with
  | none => rw [hn a ha, hn b (by rw [← h, ha])]
  | some d => rw [look_setOwn_same a s cs ha, look_setOwn_same b s cs (by rw [← h, ha])]

theorem setOwn_lp {sl : Slots} {s : Nat} {cs : List D} {t : Nat} {d : D} {u : Nat} (h : look (setOwn sl s cs) t = some d) (hl : isLp d u = true) : look sl t = some d := by
  by_cases hs : t = s
  · subst hs
    have := look_setOwn_eq (a := sl) (b := sl) (s := t) rfl cs
    cases h0 : look sl t with
    | none =>
      have hn := look_setOwn_eq (a := sl) (b := []) (s := t) (by rw [h0]; rfl) cs
      rw [hn] at h; cases h
    | some e => rw [look_setOwn_same sl t cs h0] at h; cases h; cases hl
  · rw [look_setOwn_other _ _ _ _ hs] at h; exact h

section
variable {P : Program} {n : Nat} {cfg : Cfg} {ops : List Oper} {i : Nat} {o : Oper} {st st' sc : St} {H : Nat} {fp : FP}

theorem fm_congr {α β : Type} {f f' : α → Option β} : ∀ {l : List α}, (∀ x ∈ l, f x = f' x) → l.filterMap f = l.filterMap f'
  | [], _ => rfl
  | x :: r, h => by
    rw [List.filterMap_cons, List.filterMap_cons, h x (List.mem_cons_self ..), fm_congr fun y hy => h y (List.mem_cons_of_mem _ hy)]

theorem mem_tmps {op : Op} {t : Nat} : t ∈ tmpsOf op ↔ .tmp t ∈ op.operands := by
  unfold tmpsOf
  rw [List.mem_filterMap]
  constructor
  · rintro ⟨x, hx, h⟩
    cases x <;> simp at h
    subst h; simpa using hx
  · intro h
    exact ⟨.tmp t, by simpa using h, rfl⟩

theorem evO_agree {cl : List (Nat × Bool)} {x : Operand} (h : ∀ t, x = .tmp t → look st.sl t = look sc.sl t) : evO st.sl cl x = evO sc.sl cl x := by
  cases x with
  | tmp t => simp only [evO, h t rfl]
  | _ => rfl

theorem gB_agree (hback : ∀ {j : Nat} {o : Oper} {q : Nat × Bool}, ops[j]? = some o → o.guard = some q → q.1 < j) : ∀ (m : Nat) (q : Nat × Bool), q.1 < i →
    (∀ p ∈ clos ops i m q, ∀ s, dstOf ops p.1 = some s → look st.sl s = look sc.sl s) → gB st.sl ops i m q = gB sc.sl ops i m q
  | 0, _, _, _ => rfl
  | m + 1, (j, w), hq, h => by
    simp only at hq
    have hc : clos ops i (m + 1) (j, w) = (j, w) :: (match (ops[j]?).bind (·.guard) with | some g' => clos ops i m g' | none => []) := by
      simp only [clos, blt_tt.2 hq, cond_true]
      rfl
    rw [hc] at h
    simp only [gB]
    cases hd : dstOf ops j with
    | none => rfl
    | some s =>
      have hl := h (j, w) (List.mem_cons_self ..) s hd
      simp only [hl]
      split
      · rfl
      · rename_i j' w' b _
        cases hb : (Nat.blt j i && guardIs ops j j' w') with
        | false => rfl
        | true =>
          simp only [cond_true]
          simp only [Bool.and_eq_true] at hb
          have h2 := hb.2
          unfold guardIs at h2
          cases hg : (ops[j]?).bind (·.guard) with
          | none => rw [hg] at h2; simp at h2
          | some p =>
            obtain ⟨p1, p2⟩ := p
            rw [hg] at h2 h
            simp only [Bool.and_eq_true] at h2
            have e1 := beq_eq.1 h2.1
            have e2 := beqB_eq h2.2
            subst e1; subst e2
            have hlt : p1 < i := by
              cases ho : ops[j]? with
              | none => rw [ho] at hg; cases hg
              | some o' =>
                rw [ho] at hg
                have := hback ho (by simpa using hg)
                simp only at this; omega
            rw [gB_agree hback m (p1, p2) hlt fun p hp => h p (List.mem_cons_of_mem _ hp)]
      · rfl

theorem pick_agree {cl : List (Nat × Bool)} {c x z : Operand} (h : ∀ t, (c = .tmp t ∨ x = .tmp t ∨ z = .tmp t) → look st.sl t = look sc.sl t) : pickD st.sl cl ops i c x z = pickD sc.sl cl ops i c x z := by
  unfold pickD
  rw [evO_agree (sc := sc) fun t ht => h t (.inl ht), evO_agree (sc := sc) (x := x) fun t ht => h t (.inr (.inl ht)), evO_agree (sc := sc) (x := z) fun t ht => h t (.inr (.inr ht))]

theorem fpOf_ev {ev ev' : Operand → D} (h : ∀ x ∈ o.op.operands, ev x = ev' x) (cl : List (Nat × Bool)) (eff : Bool) (rb : Option Nat) : fpOf H ops o ev cl eff rb = fpOf H ops o ev' cl eff rb := by
  have h1 : (o.op.operands.toList.filterMap fun x => baseOf (ev x)) = (o.op.operands.toList.filterMap fun x => baseOf (ev' x)) := by
    refine fm_congr fun x hx => ?_
    rw [h x (by simpa using hx)]
  have h2 : effOwn ev o.op = effOwn ev' o.op := by
    cases hop : o.op <;> first | rfl | skip
    rename_i t a v
    simp only [effOwn]
    rw [h a (by rw [hop]; simp [Op.operands])]
  have h3 : readsH ev o.op = readsH ev' o.op := by
    cases hop : o.op with
    | load t a => simp only [readsH]; rw [h a (by rw [hop]; simp [Op.operands])]
    | indexAddr t a q => simp only [readsH]; rw [h a (by rw [hop]; simp [Op.operands])]
    | convert s t a => simp only [readsH]; rw [h a (by rw [hop]; simp [Op.operands])]
    | _ => rfl
  simp only [fpOf, namesOf, h1, h2, h3]

/-- What a step leaves, of two states that agree on what it names. -/
structure Twin (H : Nat) (o : Oper) (st st' sc sc' : St) (fp : FP) : Prop where
  w : ∀ t, t ∈ fp.w → look st'.sl t = look sc'.sl t
  same : ∀ t, t ∉ fp.w → look st'.sl t = look st.sl t
  same' : ∀ t, t ∉ fp.w → look sc'.sl t = look sc.sl t
  h : H ∈ fp.w → st'.h = sc'.h
  hs : H ∉ fp.w → st'.h = st.h
  hs' : H ∉ fp.w → sc'.h = sc.h
  lp : ∀ t d s, look st'.sl t = some d → isLp d s = true → (o.dst = some t ∧ fp.rb = some s) ∨ look st.sl t = some d
  lp' : ∀ t d s, look sc'.sl t = some d → isLp d s = true → (o.dst = some t ∧ fp.rb = some s) ∨ look sc.sl t = some d

theorem isLp_baseOf {d : D} {s : Nat} (h : isLp d s = true) : baseOf d = some s := by
  unfold isLp at h
  split at h
  · have := beq_eq.1 h; subst this; rfl
  · have := beq_eq.1 h; subst this; rfl
  · cases h

/-- Where a value is put alone. -/
theorem twin_put {d : D} {s1 sc1 : St} (hw : fp.w = o.dst.toList ++ (fp.w.drop o.dst.toList.length)) (hrb : fp.rb = baseOf d)
    (no : ∀ t0 t e, o.dst = some t0 → look s1.sl t = some e → isLp e t0 = false) (no' : ∀ t0 t e, o.dst = some t0 → look sc1.sl t = some e → isLp e t0 = false)
    (tw : (∀ t, t ∈ fp.w → o.dst ≠ some t → look s1.sl t = look sc1.sl t) ∧ (∀ t, t ∉ fp.w → look s1.sl t = look st.sl t) ∧ (∀ t, t ∉ fp.w → look sc1.sl t = look sc.sl t) ∧ (H ∈ fp.w → s1.h = sc1.h) ∧ (H ∉ fp.w → s1.h = st.h) ∧ (H ∉ fp.w → sc1.h = sc.h))
    (lp : ∀ t d s, look s1.sl t = some d → isLp d s = true → look st.sl t = some d) (lp' : ∀ t d s, look sc1.sl t = some d → isLp d s = true → look sc.sl t = some d) :
    Twin H o st { s1 with sl := putO s1.sl o.dst d } sc { sc1 with sl := putO sc1.sl o.dst d } fp := by
  obtain ⟨t1, t2, t3, t4, t5, t6⟩ := tw
  cases hd : o.dst with
  | none =>
    simp only [putO]
    exact ⟨fun t ht => t1 t ht (by rw [hd]; simp), t2, t3, t4, t5, t6, fun t d s h1 h2 => .inr (lp t d s h1 h2), fun t d s h1 h2 => .inr (lp' t d s h1 h2)⟩
  | some t0 =>
    have hin : t0 ∈ fp.w := by rw [hw, hd]; simp
    have key : ∀ {s1 : St}, (∀ t e, look s1.sl t = some e → isLp e t0 = false) → ∀ t, t ≠ t0 → look (putO s1.sl (some t0) d) t = look s1.sl t := fun h t hne => look_put_ne (fun e he => h t e he) hne
    have key0 : ∀ {s1 : St}, look (putO s1.sl (some t0) d) t0 = some (bif isLp d t0 then .junk else d) := fun {s1} => look_put_same _ _ _
    have k1 := key (s1 := s1) fun t e he => no t0 t e hd he
    have k2 := key (s1 := sc1) fun t e he => no' t0 t e hd he
    have lpp : ∀ {s1 sx : St}, (∀ t, t ≠ t0 → look (putO s1.sl (some t0) d) t = look s1.sl t) → (∀ t d s, look s1.sl t = some d → isLp d s = true → look sx.sl t = some d) →
        ∀ t e s, look (putO s1.sl (some t0) d) t = some e → isLp e s = true → (o.dst = some t ∧ fp.rb = some s) ∨ look sx.sl t = some e := by
      intro s1 sx k1 lp t e s h1 h2
      by_cases hx : t = t0
      · subst hx
        rw [key0] at h1
        cases hp : isLp d t with
        | true => rw [hp] at h1; cases h1; cases h2
        | false => rw [hp] at h1; simp only [cond_false, Option.some.injEq] at h1; subst h1; exact .inl ⟨hd, by rw [hrb, isLp_baseOf h2]⟩
      · rw [k1 t hx] at h1; exact .inr (lp t e s h1 h2)
    refine ⟨fun t ht => ?_, fun t ht => ?_, fun t ht => ?_, t4, t5, t6, lpp k1 lp, lpp k2 lp'⟩
    · by_cases hx : t = t0
      · subst hx
        show look (putO s1.sl (some t) d) t = look (putO sc1.sl (some t) d) t
        rw [key0, key0]
      · show look (putO s1.sl (some t0) d) t = look (putO sc1.sl (some t0) d) t
        rw [k1 t hx, k2 t hx]; exact t1 t ht (by rw [hd]; simp; exact fun h => hx h.symm)
    · have hx : t ≠ t0 := fun h => ht (h ▸ hin)
      show look (putO s1.sl (some t0) d) t = _
      rw [k1 t hx]; exact t2 t ht
    · have hx : t ≠ t0 := fun h => ht (h ▸ hin)
      show look (putO sc1.sl (some t0) d) t = _
      rw [k2 t hx]; exact t3 t ht

theorem cond_ne_call {b : Bool} {p : Prop} {st : St} {d : D} {f : Nat} {args : List D} : (bif b then Res.eff p st d else Res.bad) ≠ .call f args := by cases b <;> intro h <;> cases h

theorem step_agree [Lay] (hback : ∀ {j : Nat} {o : Oper} {q : Nat × Bool}, ops[j]? = some o → o.guard = some q → q.1 < j) (ho : ops[i]? = some o) (hf : StepFact P cfg H ops i o st st' fp)
    (hN : ∀ t ∈ fp.n, look st.sl t = look sc.sl t) (hH : H ∈ fp.n → st.h = sc.h)
    (no : ∀ t0 t e, o.dst = some t0 → look st.sl t = some e → isLp e t0 = false) (no' : ∀ t0 t e, o.dst = some t0 → look sc.sl t = some e → isLp e t0 = false) :
    ∃ sc', StepFact P cfg H ops i o sc sc' fp ∧ Twin H o st st' sc sc' fp := by
  -- what is named
  have nm : ∀ {ev : Operand → D} {cl : List (Nat × Bool)} {eff : Bool} {rb : Option Nat}, fp = fpOf H ops o ev cl eff rb → (∀ t, .tmp t ∈ o.op.operands → t ∈ fp.n) ∧ (∀ x ∈ o.op.operands, ∀ s, baseOf (ev x) = some s → s ∈ fp.n) ∧
      (∀ p ∈ cl, ∀ s, dstOf ops p.1 = some s → s ∈ fp.n) ∧ (readsH ev o.op = true → H ∈ fp.n) := by
    intro ev cl eff rb h
    subst h
    simp only [fpOf, namesOf, List.mem_append]
    refine ⟨fun t ht => .inl (.inl (.inl (.inl (.inl (mem_tmps.2 ht))))), fun x hx s hs => .inl (.inl (.inl (.inl (.inr (List.mem_filterMap.2 ⟨x, by simpa using hx, hs⟩))))),
      fun p hp s hs => .inl (.inl (.inl (.inr (List.mem_filterMap.2 ⟨p, hp, hs⟩)))), fun hr => .inr (by rw [hr]; simp)⟩
  have evs : ∀ {cl : List (Nat × Bool)}, (∀ t, .tmp t ∈ o.op.operands → t ∈ fp.n) → ∀ x ∈ o.op.operands, evO st.sl cl x = evO sc.sl cl x := fun h x hx => evO_agree fun t ht => hN t (h t (ht ▸ hx))
  have plain : ∀ {d : D} {ev : Operand → D} {cl : List (Nat × Bool)}, fp = fpOf H ops o ev cl false (baseOf d) → Twin H o st { st with sl := putO st.sl o.dst d } sc { sc with sl := putO sc.sl o.dst d } fp := by
    intro d ev cl h
    have hw : fp.w = o.dst.toList := by subst h; simp [fpOf]
    have hnm := nm h
    refine twin_put (by rw [hw]; simp) (by subst h; rfl) no no' ⟨fun t ht hne => ?_, fun _ _ => rfl, fun _ _ => rfl, fun hh => hH ?_, fun _ => rfl, fun _ => rfl⟩ (fun _ _ _ h _ => h) (fun _ _ _ h _ => h)
    · rw [hw] at ht; exact absurd (by simpa using ht) hne
    · rw [hw] at hh
      subst h
      simp only [fpOf, namesOf, List.mem_append]
      exact .inl (.inl (.inr hh))
  have factSame : ∀ {cl : List (Nat × Bool)} {b : Bool} {d : D}, fp = fpOf H ops o (evO st.sl cl) cl false (baseOf d) ∨ (∃ j w, fp = fpOf H ops o (evO st.sl cl) cl false (baseOf (.may j w d))) → Fact P cfg st (evO st.sl cl) o b d → Fact P cfg sc (evO sc.sl cl) o b d := by
    intro cl b d hf0 hf
    have hnm : (∀ t, .tmp t ∈ o.op.operands → t ∈ fp.n) ∧ (∀ x ∈ o.op.operands, ∀ s, baseOf (evO st.sl cl x) = some s → s ∈ fp.n) ∧ (∀ p ∈ cl, ∀ s, dstOf ops p.1 = some s → s ∈ fp.n) ∧ (readsH (evO st.sl cl) o.op = true → H ∈ fp.n) := by
      rcases hf0 with h | ⟨j, w, h⟩
      · exact nm h
      · exact nm h
    have hs := opD_st (P := P) (cfg := cfg) (st := st) (st' := sc) (ev := evO st.sl cl) (dst := o.dst) (op := o.op) (fun x hx s hs => hN s (hnm.2.1 x hx s hs)) (fun hr => hH (hnm.2.2.2 hr))
    rw [opD_ev (ev := evO st.sl cl) (ev' := evO sc.sl cl) (st := sc) (evs hnm.1)] at hs
    clear hf0
    cases hf with
    | val h => rw [h] at hs; exact .val hs
    | nd h hp => rw [h] at hs; exact .nd hs hp
    | asm h => rw [h] at hs; exact .asm hs
    | new h => rw [h] at hs; exact .new hs
    | call h hp hv => rw [h] at hs; exact .call hs hp hv
  generalize hfp : fp = fp' at hf
  cases hf with
  | pick0 hg hop h =>
    have hnm := nm hfp
    have e := evs (cl := []) hnm.1
    rw [fpOf_ev e] at hfp ⊢
    rw [hfp] at plain
    refine ⟨_, .pick0 hg hop ?_, plain rfl⟩
    rw [← pick_agree fun t ht => hN t (hnm.1 t ?_)]
    · exact h
    · rw [hop]; simp only [Op.operands]; rcases ht with rfl | rfl | rfl <;> simp
  | val0 hg hf =>
    have hnm := nm hfp
    have e := evs (cl := []) hnm.1
    have hf' := factSame (.inl hfp) hf
    rw [fpOf_ev e] at hfp ⊢
    rw [hfp] at plain
    exact ⟨_, .val0 hg hf', plain rfl⟩
  | eff0 hg h hp =>
    rename_i p st1 d
    have hnm := nm hfp
    have e := evs (cl := []) hnm.1
    have hs := opD_st (P := P) (cfg := cfg) (st := st) (st' := sc) (ev := evO st.sl []) (dst := o.dst) (op := o.op) (fun x hx s hs => hN s (hnm.2.1 x hx s hs)) (fun hr => hH (hnm.2.2.2 hr))
    rw [opD_ev (ev := evO st.sl []) (ev' := evO sc.sl []) (st := sc) e, h] at hs
    cases hown : effOwn (evO st.sl []) o.op with
    | some s =>
      obtain ⟨cs, rfl, h2⟩ := hs.1 s hown
      have hw : fp.w = o.dst.toList ++ [s] := by rw [hfp]; simp [fpOf, hown]
      have hrb : fp.rb = baseOf d := by rw [hfp]; rfl
      have hsn : s ∈ fp.n := by
        cases hop : o.op <;> rw [hop] at hown <;> try cases hown
        rename_i t a v
        exact hnm.2.1 a (by rw [hop]; simp [Op.operands]) s hown
      have hwn : ∀ t, t ∈ fp.w → t ∈ fp.n := by
        intro t ht
        rw [hw] at ht
        rcases List.mem_append.1 ht with ht | ht
        · rw [hfp]; simp only [fpOf, namesOf, List.mem_append]; exact .inl (.inl (.inr ht))
        · simp at ht; subst ht; exact hsn
      refine ⟨{ sc with sl := putO (setOwn sc.sl s cs) o.dst d }, ?_, ?_⟩
      · have := StepFact.eff0 (H := H) (ops := ops) (i := i) hg h2 hp
        rw [← fpOf_ev e] at this
        exact this
      · refine hfp ▸ twin_put (s1 := { st with sl := setOwn st.sl s cs }) (sc1 := { sc with sl := setOwn sc.sl s cs }) (by rw [hw]; simp) hrb (fun t0 t u h1 h2 => ?_) (fun t0 t u h1 h2 => ?_)
          ⟨fun t ht hne => ?_, fun t ht => look_setOwn_other _ _ _ _ (fun e => ht (by rw [hw, e]; simp)), fun t ht => look_setOwn_other _ _ _ _ (fun e => ht (by rw [hw, e]; simp)), fun hh => hH (hwn _ hh), fun _ => rfl, fun _ => rfl⟩
          (fun t d s h1 h2 => setOwn_lp h1 h2) (fun t d s h1 h2 => setOwn_lp h1 h2)
        · cases hl : isLp u t0 with
          | false => rfl
          | true => have := no t0 t u h1 (setOwn_lp h2 hl); rw [hl] at this; cases this
        · cases hl : isLp u t0 with
          | false => rfl
          | true => have := no' t0 t u h1 (setOwn_lp h2 hl); rw [hl] at this; cases this
        · by_cases hx : t = s
          · subst hx; exact look_setOwn_eq (hN t hsn) cs
          · rw [look_setOwn_other _ _ _ _ hx, look_setOwn_other _ _ _ _ hx]
            exact hN t (hwn t ht)
    | none =>
      have hHn : H ∈ fp.n := by rw [hfp]; simp [fpOf, hown]
      obtain ⟨h1, rfl, h2⟩ := hs.2 hown (hH hHn)
      have hw : fp.w = o.dst.toList ++ [H] := by rw [hfp]; simp [fpOf, hown]
      have hrb : fp.rb = baseOf d := by rw [hfp]; rfl
      refine ⟨{ { sc with h := h1 } with sl := putO sc.sl o.dst d }, ?_, ?_⟩
      · have := StepFact.eff0 (H := H) (ops := ops) (i := i) hg h2 hp
        rw [← fpOf_ev e] at this
        exact this
      · refine hfp ▸ twin_put (s1 := { st with h := h1 }) (sc1 := { sc with h := h1 }) (by rw [hw]; simp) hrb no no'
          ⟨fun t ht hne => ?_, fun _ _ => rfl, fun _ _ => rfl, fun _ => rfl, fun hh => absurd (by rw [hw]; simp) hh, fun hh => absurd (by rw [hw]; simp) hh⟩ (fun _ _ _ h _ => h) (fun _ _ _ h _ => h)
        rw [hw] at ht
        rcases List.mem_append.1 ht with ht | ht
        · exact absurd (by simpa using ht) hne
        · simp at ht; subst ht; exact hN _ hHn
  | callE0 hg h hv hp =>
    rename_i f args v h1
    have hnm := nm hfp
    have e := evs (cl := []) hnm.1
    have hs := opD_st (P := P) (cfg := cfg) (st := st) (st' := sc) (ev := evO st.sl []) (dst := o.dst) (op := o.op) (fun x hx s hs => hN s (hnm.2.1 x hx s hs)) (fun hr => hH (hnm.2.2.2 hr))
    rw [opD_ev (ev := evO st.sl []) (ev' := evO sc.sl []) (st := sc) e, h] at hs
    have hs : opD P cfg sc (evO sc.sl []) o.dst o.op = .call f args := hs
    have hown : effOwn (evO st.sl []) o.op = none := by
      cases hop : o.op <;> first | rfl | skip
      rename_i t x z
      rw [hop] at h
      simp only [opD] at h
      have hne : ∀ r, storeRes P st t (evO st.sl [] x) (evO st.sl [] z) = r → r ≠ .call f args := fun r hr hc => by
        subst hr
        unfold storeRes at hc
        split at hc
        · rename_i m hz hd
          cases hb : (Nat.beq (cellsD (evO st.sl [] z)).length m && (cellsD (evO st.sl [] z)).all oneD) with
          | false => rw [hb] at hc; cases hc
          | true =>
            rw [hb] at hc
            simp only [cond_true] at hc
            split at hc
            · split at hc
              · exact absurd hc cond_ne_call
              · cases hc
            · split at hc
              · split at hc <;> cases hc
              · cases hc
            · split at hc
              · exact absurd hc cond_ne_call
              · cases hc
            · cases hc
        · cases hc
      exact absurd h (hne _ rfl)
    have hHn : H ∈ fp.n := by rw [hfp]; simp [fpOf, hown]
    have hw : fp.w = o.dst.toList ++ [H] := by rw [hfp]; simp [fpOf, hown]
    have hrb : fp.rb = baseOf v := by rw [hfp]; rfl
    refine ⟨{ sl := putO sc.sl o.dst v, h := h1 }, ?_, ?_⟩
    · have := StepFact.callE0 (H := H) (ops := ops) (i := i) hg hs hv (by rw [← hH hHn]; exact hp)
      rw [← fpOf_ev e] at this
      exact this
    · refine hfp ▸ twin_put (s1 := { st with h := h1 }) (sc1 := { sc with h := h1 }) (by rw [hw]; simp) hrb no no'
        ⟨fun t ht hne => ?_, fun _ _ => rfl, fun _ _ => rfl, fun _ => rfl, fun hh => absurd (by rw [hw]; simp) hh, fun hh => absurd (by rw [hw]; simp) hh⟩ (fun _ _ _ h _ => h) (fun _ _ _ h _ => h)
      rw [hw] at ht
      rcases List.mem_append.1 ht with ht | ht
      · exact absurd (by simpa using ht) hne
      · simp at ht; subst ht; exact hN _ hHn
  | pick1 hg hb hop h =>
    rename_i j w b c x z d
    have hnm := nm hfp
    have e := evs (cl := clos ops i 40 (j, w)) hnm.1
    have hlt : j < i := hback ho hg
    rw [fpOf_ev e] at hfp ⊢
    rw [hfp] at plain
    refine ⟨_, .pick1 (b := b) hg ?_ hop ?_, plain rfl⟩
    · rw [← gB_agree hback 40 (j, w) hlt fun p hp s hs => hN s (hnm.2.2.1 p hp s hs)]; exact hb
    · rw [← pick_agree fun t ht => hN t (hnm.1 t ?_)]
      · exact h
      · rw [hop]; simp only [Op.operands]; rcases ht with rfl | rfl | rfl <;> simp
  | val1 hg hb hf hm =>
    rename_i j w b d
    have hnm := nm hfp
    have e := evs (cl := clos ops i 40 (j, w)) hnm.1
    have hlt : j < i := hback ho hg
    have hf' := factSame (.inr ⟨j, w, hfp⟩) hf
    rw [fpOf_ev e] at hfp ⊢
    rw [hfp] at plain
    refine ⟨_, .val1 (b := b) hg ?_ hf' hm, plain rfl⟩
    rw [← gB_agree hback 40 (j, w) hlt fun p hp s hs => hN s (hnm.2.2.1 p hp s hs)]; exact hb

end
end Go.Ab
/- The executor is sound, 18: regions that draw their order: the trace in the order of the text, the masks. -/
namespace Go.Ab

/-- What the run in the order of the text has shown. -/
structure Trace [Lay] (P : Program) (cfg : Cfg) (H : Nat) (ms : List Nat) (ops : List Oper) (k : St → Prop) (i : Nat) (fps : List FP) (st : St) (A : Nat → St) (F : Nat → FP) : Prop where
  start : A i = st
  old : ∀ m f, fps[m]? = some f → F m = f
  step : ∀ j o, i ≤ j → ops[j]? = some o → StepFact P cfg H ops j o (A j) (A (j + 1)) (F j)
  pair : ∀ j o m, i ≤ j → ops[j]? = some o → m < j → pairOk ms j m o.dst (F j) (F m) = true
  fin : k { (A ops.length) with sl := purge (A ops.length).sl }

def TraceSem [Lay] (P : Program) (n : Nat) (cfg : Cfg) (ms : List Nat) (ops : List Oper) (k : St → Prop) (i : Nat) (fps : List FP) (st : St) : Prop :=
  ∀ (g : G) (β : Nat → Nat) (U : Nat → Prop) (a : Act) (w : World), Rel n g β U (yOf ops a) st a w → MayD ops (· < i) st → ChainD ops (· < i) a → fps.length = i →
    ∃ A F, Trace P cfg n ms ops k i fps st A F

theorem fpOk_sound {ms : List Nat} {j : Nat} {dst : Option Nat} {fj : FP} : ∀ {fps : List FP} {k : Nat}, fpOk ms j dst fj k fps = true → ∀ m f, fps[m]? = some f → pairOk ms j (k + m) dst fj f = true
  | [], _, _, m, f, h => by simp at h
  | x :: r, k, h, m, f, hm => by
    simp only [fpOk, Bool.and_eq_true] at h
    cases m with
    | zero => simp at hm; subst hm; exact h.1
    | succ m =>
      have := fpOk_sound (k := k + 1) h.2 m f (by simpa using hm)
      rw [show k + 1 + m = k + (m + 1) by omega] at this
      exact this

theorem wpOp_some {P : Program} {ops : Array Oper} {i : Nat} {K : Act → World → Prop} {a : Act} {w : World} (h : wpOpIn (fen none) 0 P ops (fun _ _ _ => False) i K a w) : ∃ a' w', K a' w' := by
  have hl : ¬ LetsOut (fun (_ : Exit) (_ : Act) (_ : World) => False) := fun ⟨_, _, h⟩ => h
  unfold wpOpIn at h
  cases ho : ops[i]? with
  | none => rw [ho] at h; exact ⟨_, _, h⟩
  | some o =>
    rw [ho] at h
    simp only at h
    split at h
    · unfold Go.Oper.wpIn at h
      have h := h.2
      generalize (o.semAt (fen none).round a.eval).run P w = r at h
      cases r with
      | ok x w' =>
        cases x with
        | value v => exact ⟨_, _, h⟩
        | skip => exact ⟨_, _, h⟩
        | defer d => exact ⟨_, _, h⟩
        | enter f args =>
          obtain ⟨e, w'', fr, h1, _⟩ := h.2.2 [] (room_wide _)
          cases e with
          | returned v => exact ⟨_, _, h1⟩
          | panicked c => exact h1.elim
          | outgrown => exact (hl h1).elim
        | row row args =>
          obtain ⟨v, w'', h1, _⟩ := h.2 default [] (room_wide _)
          exact ⟨_, _, h1⟩
        | round l f tmps assign body =>
          obtain ⟨e, w'', h1, _⟩ := h.2.2 default [] (room_wide _)
          cases e with
          | returned v => exact ⟨_, _, h1⟩
          | panicked c => exact h1.elim
          | outgrown => exact (hl h1).elim
        | _ => exact (show False from h).elim
      | halt x w' => cases x <;> exact (show False from h).elim
    · exact ⟨_, _, h.2⟩

section
variable {P : Program} {n : Nat} {cfg : Cfg} {ops : List Oper} {ms : List Nat}

theorem exD_trace [Lay] {k k0 : St → Prop} {kc : Nat → List FP → St → Prop} (ok : OpsOk n ops) (hk0 : ∀ st, k0 st → k st) (hkc : ∀ i fps st, kc i fps st → TraceSem P n cfg ms ops k i fps st) :
    ∀ (rest : List Oper) (i : Nat) (fps : List FP) (st : St), ops.drop i = rest → exD P cfg (PCall P) (ECall P) n ms ops kc i rest fps st k0 → TraceSem P n cfg ms ops k i fps st
  | [], i, fps, st, h, he => by
    intro g β U a w r hm hc hf
    have hl : ops.length ≤ i := by have := congrArg List.length h; simp at this; omega
    refine ⟨fun _ => st, fun m => (fps[m]?).getD ⟨[], [], none⟩, rfl, fun m f h => by simp [h], fun j o hj ho => ?_, fun j o m hj ho => ?_, hk0 _ he⟩
    · have := (List.getElem?_eq_some_iff.1 ho).1; omega
    · have := (List.getElem?_eq_some_iff.1 ho).1; omega
  | o :: rest, i, fps, st, h, he => by
    intro g β U a w r hm hc hf
    have hlt : i < ops.length := by
      rcases Nat.lt_or_ge i ops.length with h1 | h1
      · exact h1
      · rw [List.drop_eq_nil_of_le h1] at h; cases h
    have hcons := List.drop_eq_getElem_cons hlt
    rw [h] at hcons
    have ho : ops[i]? = some o := by
      rw [List.getElem?_eq_getElem hlt]
      exact congrArg some (List.cons.inj hcons).1.symm
    have hrest : ops.drop (i + 1) = rest := (List.cons.inj hcons).2.symm
    have ih : ∀ fps1 st1, exD P cfg (PCall P) (ECall P) n ms ops kc (i + 1) rest fps1 st1 k0 → TraceSem P n cfg ms ops k (i + 1) fps1 st1 := fun fps1 st1 => exD_trace ok hk0 hkc rest (i + 1) fps1 st1 hrest
    -- a step, and what follows
    suffices hs : ∃ st1 fp, StepFact P cfg n ops i o st st1 fp ∧ fpOk ms i o.dst fp 0 fps = true ∧ TraceSem P n cfg ms ops k (i + 1) (fps ++ [fp]) st1 by
      obtain ⟨st1, fp, h1, h2, h3⟩ := hs
      have hnext := step_D (ρ := none) (Q := fun _ _ _ => False) (K := fun a' w' => ∃ g' β', Rel n g' β' U (yOf ops a') st1 a' w' ∧ MayD ops (fun j => j < i ∨ j = i) st1 ∧ ChainD ops (fun j => j < i ∨ j = i) a') ok r hm hc
        (fun j o' j1 w1 hj ho' hg _ => by have := ok.back ho' hg; simp only at this; omega) ho (Nat.lt_irrefl _) (fun q hq _ => by have := ok.back ho hq; exact this) (fun c x z s j _ _ h => (whoWrote_sound h).1) h1
        (fun g' β' v w' e1 e2 e3 _ _ => ⟨g', β', e1, e2, e3⟩)
      obtain ⟨a', w', g', β', r1, m1, c1⟩ := wpOp_some hnext
      obtain ⟨A, F, T⟩ := h3 g' β' U a' w' r1 (fun t j w d e1 e2 => by have := m1 t j w d e1 e2; omega) (fun j o' j1 w1 hj => c1 j o' j1 w1 (by omega)) (by simp [hf])
      have hFi : F i = fp := T.old i fp (by rw [← hf]; simp)
      refine ⟨fun j => if j = i then st else A j, F, by simp, fun m f hm => T.old m f ?_, fun j o' hj ho' => ?_, fun j o' m hj ho' hmj => ?_, ?_⟩
      · rw [List.getElem?_append_left]
        · exact hm
        · exact (List.getElem?_eq_some_iff.1 hm).1
      · by_cases hji : j = i
        · subst hji
          rw [ho] at ho'; cases ho'
          simp only [if_true]
          rw [if_neg (by omega), T.start, hFi]
          exact h1
        · simp only [if_neg hji]
          rw [if_neg (by omega)]
          exact T.step j o' (by omega) ho'
      · by_cases hji : j = i
        · subst hji
          rw [ho] at ho'; cases ho'
          have hm' : fps[m]? = some fps[m] := List.getElem?_eq_getElem (by omega)
          have := fpOk_sound h2 m _ hm'
          rw [Nat.zero_add] at this
          rw [hFi, T.old m fps[m] (by rw [List.getElem?_append_left (by omega)]; exact hm')]
          exact this
        · exact T.pair j o' m (by omega) ho' hmj
      · simp only
        rw [if_neg (by omega)]
        exact T.fin
    have hgo : ∀ {fp : FP} {X : Prop}, (bif fpOk ms i o.dst fp 0 fps then X else False) → fpOk ms i o.dst fp 0 fps = true ∧ X := by
      intro fp X h
      cases hb : fpOk ms i o.dst fp 0 fps with
      | false => rw [hb] at h; exact h.elim
      | true => rw [hb] at h; exact ⟨rfl, h⟩
    simp only [exD] at he
    cases hg : o.guard with
    | none =>
      rw [hg] at he
      simp only at he
      have hres := opD_ok (P := P) (cfg := cfg) (o := o) r (evO_ev r (cl := []) (by simp))
      split at he
      · rename_i c x z hop
        split at he
        · rename_i d hp
          obtain ⟨h1, h2⟩ := hgo he
          exact ⟨_, _, .pick0 hg hop hp, h1, ih _ _ h2⟩
        · exact he.elim
      · cases hopd : opD P cfg st (evO st.sl []) o.dst o.op with
        | val d =>
          rw [hopd] at he
          obtain ⟨h1, h2⟩ := hgo he
          exact ⟨_, _, .val0 hg (.val hopd), h1, ih _ _ h2⟩
        | nd p d =>
          rw [hopd] at he
          obtain ⟨h1, h2⟩ := hgo he.2
          exact ⟨_, _, .val0 hg (.nd hopd fun _ => he.1), h1, ih _ _ h2⟩
        | asm p d =>
          rw [hopd] at he hres
          obtain ⟨h1, h2⟩ := hgo (he hres.1)
          exact ⟨_, _, .val0 hg (.asm hopd), h1, ih _ _ h2⟩
        | new cs =>
          rw [hopd] at he
          obtain ⟨h1, h2⟩ := hgo he
          exact ⟨_, _, .val0 hg (.new hopd), h1, ih _ _ h2⟩
        | eff p st1 d =>
          rw [hopd] at he
          obtain ⟨h1, h2⟩ := hgo he.2
          exact ⟨_, _, .eff0 hg hopd he.1, h1, ih _ _ h2⟩
        | call f args =>
          rw [hopd] at he
          rcases he with he | he
          · obtain ⟨args', v, hv, hp, hk⟩ := he.it
            obtain ⟨h1, h2⟩ := hgo hk
            exact ⟨_, _, .val0 hg (.call hopd hp hv), h1, hkc _ _ _ h2⟩
          · obtain ⟨v, h', hv, hp, hk⟩ := he.it
            obtain ⟨h1, h2⟩ := hgo hk
            exact ⟨_, _, .callE0 hg hopd hv hp, h1, hkc _ _ _ h2⟩
        | ycall l args => rw [hopd] at he; exact he.elim
        | bad => rw [hopd] at he; exact he.elim
    | some q =>
      obtain ⟨j, w1⟩ := q
      rw [hg] at he
      simp only at he
      have hji : j < i := ok.back ho hg
      cases hgb : gB st.sl ops i 40 (j, w1) with
      | none => rw [hgb] at he; exact he.elim
      | some b =>
        rw [hgb] at he
        simp only at he
        have hdone : DoneOk ops (· < i) := fun j o' j1 w1 hj ho' hg _ => by have := ok.back ho' hg; simp only at this; omega
        have hiff := gB_sound r hc hdone 40 (j, w1) b (fun _ => hji) hgb
        simp only at hiff
        have hres : b = true → ResOk P n g β U (yOf ops a) st a w o (opD P cfg st (evO st.sl (clos ops i 40 (j, w1))) o.dst o.op) := fun hb =>
          opD_ok (P := P) (cfg := cfg) (o := o) r (evO_ev r (clos_sound hc hdone 40 (j, w1) (fun _ => hji) (hiff.2 hb)))
        have hmay : ∀ {d : D} {X : Prop}, (bif okMay d then X else False) → okMay d = true ∧ X := by
          intro d X h
          cases hb : okMay d with
          | false => rw [hb] at h; exact h.elim
          | true => rw [hb] at h; exact ⟨rfl, h⟩
        split at he
        · rename_i c x z hop
          split at he
          · rename_i d hp
            obtain ⟨h1, h2⟩ := hgo he
            exact ⟨_, _, .pick1 hg hgb hop hp, h1, ih _ _ h2⟩
          · exact he.elim
        · cases hopd : opD P cfg st (evO st.sl (clos ops i 40 (j, w1))) o.dst o.op with
          | val d =>
            rw [hopd] at he
            obtain ⟨h0, he⟩ := hmay he
            obtain ⟨h1, h2⟩ := hgo he
            exact ⟨_, _, .val1 hg hgb (.val hopd) h0, h1, ih _ _ h2⟩
          | nd p d =>
            rw [hopd] at he
            obtain ⟨h0, he⟩ := hmay he
            obtain ⟨h1, h2⟩ := hgo he.2
            exact ⟨_, _, .val1 hg hgb (.nd hopd he.1) h0, h1, ih _ _ h2⟩
          | asm p d =>
            rw [hopd] at he
            obtain ⟨h0, he⟩ := hmay he
            obtain ⟨h1, h2⟩ := hgo (he fun hb => by have := hres hb; rw [hopd] at this; exact this.1)
            exact ⟨_, _, .val1 hg hgb (.asm hopd) h0, h1, ih _ _ h2⟩
          | new cs => rw [hopd] at he; exact he.elim
          | eff p st1 d => rw [hopd] at he; exact he.elim
          | call f args =>
            rw [hopd] at he
            obtain ⟨args', v, hv, hp, hk⟩ := he.it
            obtain ⟨h1, h2⟩ := hgo hk
            exact ⟨_, _, .val1 hg hgb (.call hopd hp hv) (isD_okMay hv), h1, hkc _ _ _ h2⟩
          | ycall l args => rw [hopd] at he; exact he.elim
          | bad => rw [hopd] at he; exact he.elim

/-- j waits for m, directly or through others. -/
inductive Waits (ops : List Oper) : Nat → Nat → Prop
  | one {j m : Nat} {o : Oper} {e : Edge} (ho : ops[j]? = some o) (he : e ∈ o.after) (hb : Region.binds .any e = true) (hm : e.on = m) : Waits ops j m
  | more {j l m : Nat} {o : Oper} {e : Edge} (ho : ops[j]? = some o) (he : e ∈ o.after) (hb : Region.binds .any e = true) (hl : e.on = l) (h : Waits ops l m) : Waits ops j m

theorem masks_go : ∀ (pre rest : List Oper) (acc : List Nat), ops = pre ++ rest → acc.length = pre.length → (∀ j m, (acc.getD j 0).testBit m = true → Waits ops j m) → ∀ j m, ((masks rest acc).getD j 0).testBit m = true → Waits ops j m
  | pre, [], acc, _, _, h => h
  | pre, o :: r, acc, h1, h2, h => by
    simp only [masks]
    refine masks_go (pre ++ [o]) r _ (by rw [h1]; simp) (by simp [h2]) fun j m hj => ?_
    rcases Nat.lt_trichotomy j acc.length with hlt | heq | hgt
    · rw [List.getD, List.getElem?_append_left hlt] at hj; exact h j m hj
    · subst heq
      rw [List.getD, List.getElem?_append_right (Nat.le_refl _), Nat.sub_self] at hj
      simp only [List.getElem?_cons_zero, Option.getD_some] at hj
      have ho : ops[acc.length]? = some o := by rw [h1, List.getElem?_append_right (by omega), h2]; simp
      have go : ∀ (l : List Edge) (m0 : Nat), (∀ e ∈ l, e ∈ o.after) → (∀ m, m0.testBit m = true → Waits ops acc.length m) →
          ∀ m, (l.foldl (fun m e => bif Region.binds .any e && Nat.blt e.on acc.length then m ||| 2 ^ e.on ||| acc.getD e.on 0 else m) m0).testBit m = true → Waits ops acc.length m := by
        intro l
        induction l with
        | nil => intro m0 _ h0 m hm; exact h0 m hm
        | cons e l ih =>
          intro m0 hl h0 m hm
          simp only [List.foldl_cons] at hm
          refine ih _ (fun x hx => hl x (List.mem_cons_of_mem _ hx)) (fun q hq => ?_) m hm
          cases hb : (Region.binds .any e && Nat.blt e.on acc.length) with
          | false => rw [hb] at hq; exact h0 q hq
          | true =>
            rw [hb] at hq
            simp only [Bool.and_eq_true] at hb
            simp only [cond_true, Nat.testBit_or, Bool.or_eq_true, Nat.testBit_two_pow, decide_eq_true_eq] at hq
            rcases hq with (hq | hq) | hq
            · exact h0 q hq
            · exact .one ho (hl e (List.mem_cons_self ..)) hb.1 hq
            · exact .more ho (hl e (List.mem_cons_self ..)) hb.1 rfl (h _ _ hq)
      exact go o.after.toList 0 (fun e he => by simpa using he) (fun m hm => by simp at hm) m hj
    · rw [List.getD, List.getElem?_eq_none (by simp; omega)] at hj
      simp at hj

theorem masks_sound {j m : Nat} (h : ((masks ops []).getD j 0).testBit m = true) : Waits ops j m :=
  masks_go [] ops [] rfl rfl (fun j m h => by simp at h) j m h

end
end Go.Ab
/- The executor is sound, 19: regions that draw their order: whatever order is drawn. -/
namespace Go.Ab

section
variable {P : Program} {n : Nat} {cfg : Cfg} {ops : List Oper} {ms : List Nat} {i : Nat} {o : Oper} {st st' : St} {fp : FP} {H : Nat} {A : Nat → St} {F : Nat → FP}

theorem hitB_true {a b : List Nat} {t : Nat} (h1 : t ∈ a) (h2 : t ∈ b) : hitB a b = true := by
  simp only [hitB, List.any_eq_true]
  exact ⟨t, h1, t, h2, beq_eq.2 rfl⟩

/-- What a step's footprint holds. -/
structure FpFacts (H : Nat) (ops : List Oper) (o : Oper) (fp : FP) : Prop where
  wn : ∀ t ∈ fp.w, t ∈ fp.n
  dst : ∀ t, o.dst = some t → t ∈ fp.w
  tmps : ∀ t, .tmp t ∈ o.op.operands → t ∈ fp.n
  rb : ∀ s, fp.rb = some s → s ∈ fp.n

theorem mem_or {c r : Bool} {t H : Nat} (h : t ∈ (bif c then [H] else [])) : t ∈ (bif c || r then [H] else []) := by
  cases c
  · simp at h
  · exact h

theorem fpOf_facts {ev : Operand → D} {cl : List (Nat × Bool)} {eff : Bool} {rb : Option Nat} : FpFacts H ops o (fpOf H ops o ev cl eff rb) := by
  refine ⟨fun t ht => ?_, fun t ht => ?_, fun t ht => ?_, fun s hs => ?_⟩
  · simp only [fpOf, namesOf, List.mem_append] at ht ⊢
    rcases ht with (ht | ht) | ht
    · exact .inl (.inl (.inr ht))
    · cases eff with
      | false => simp at ht
      | true =>
        simp only [cond_true] at ht
        have hs : effOwn ev o.op = some t := by simpa using ht
        refine .inl (.inl (.inl (.inl (.inr ?_))))
        cases hop : o.op <;> rw [hop] at hs <;> try cases hs
        rename_i q x v
        exact List.mem_filterMap.2 ⟨x, by simp [Op.operands], hs⟩
    · exact .inr (mem_or ht)
  · simp only [fpOf, List.mem_append]; exact .inl (.inl (by rw [ht]; simp))
  · simp only [fpOf, namesOf, List.mem_append]; exact .inl (.inl (.inl (.inl (.inl (mem_tmps.2 ht)))))
  · simp only [fpOf] at hs
    simp only [fpOf, List.mem_append]; exact .inl (.inr (by rw [hs]; simp))

theorem StepFact.facts [Lay] (hf : StepFact P cfg H ops i o st st' fp) : FpFacts H ops o fp := by cases hf <;> exact fpOf_facts

theorem StepFact.guardN [Lay] (hf : StepFact P cfg H ops i o st st' fp) {q : Nat × Bool} (hg : o.guard = some q) (hlt : q.1 < i) {s : Nat} (hd : dstOf ops q.1 = some s) : s ∈ fp.n := by
  have hin : ∀ {j : Nat} {w : Bool}, j < i → dstOf ops j = some s → s ∈ (clos ops i 40 (j, w)).filterMap fun p => dstOf ops p.1 := fun {j w} h1 h2 =>
    List.mem_filterMap.2 ⟨(j, w), by simp [clos, blt_tt.2 h1], h2⟩
  cases hf with
  | pick0 h => rw [h] at hg; cases hg
  | val0 h => rw [h] at hg; cases hg
  | eff0 h => rw [h] at hg; cases hg
  | callE0 h => rw [h] at hg; cases hg
  | pick1 h => rw [h] at hg; cases hg; simp only [fpOf, namesOf, List.mem_append]; exact .inl (.inl (.inl (.inr (hin hlt hd))))
  | val1 h => rw [h] at hg; cases hg; simp only [fpOf, namesOf, List.mem_append]; exact .inl (.inl (.inl (.inr (hin hlt hd))))

theorem nodup_putO {sl : Slots} (h : (sl.map (·.1)).Nodup) (t : Option Nat) (d : D) : ((putO sl t d).map (·.1)).Nodup := by
  cases t with
  | none => exact h
  | some t => exact nodup_put h t _

theorem StepFact.nodup [Lay] (hf : StepFact P cfg H ops i o st st' fp) (h : (st.sl.map (·.1)).Nodup) : (st'.sl.map (·.1)).Nodup := by
  cases hf with
  | eff0 hg hop hp =>
    refine nodup_putO ?_ _ _
    rcases opD_eff hop with e | ⟨s, cs, e⟩
    · rw [e]; exact h
    · rw [e, keys_setOwn]; exact h
  | _ => exact nodup_putO h _ _

/-- Fewer slots known, nothing that holds inside a region alone. -/
theorem Rel.sub [Lay] {g : G} {β : Nat → Nat} {U : Nat → Prop} {y : Nat → Bool → Prop} {sc : St} {a : Act} {w : World} (r : Rel n g β U y sc a w) {st' : St} (hn : (st'.sl.map (·.1)).Nodup) (hh : st'.h = sc.h)
    (hl : ∀ t d, look st'.sl t = some d → look sc.sl t = some d ∧ isMayLp d = false) : Rel n g β U noY st' a w := by
  refine ⟨r.defers, r.size, hn, fun t d h => ?_, fun t d s h _ hs => ?_, fun t cs h => ?_, fun t t' cs cs' h h' => r.ownInj t t' cs cs' (hl _ _ h).1 (hl _ _ h').1, by rw [hh]; exact r.inv⟩
  · obtain ⟨h1, h2⟩ := hl t d h
    have h3 := r.slot t d h1
    cases d <;> first | exact h3 | cases h2
  · obtain ⟨h1, h2⟩ := hl t d h
    cases d <;> first | exact Bool.noConfusion (show true = false from h2) | cases hs
  · rw [hh]; exact r.own t cs (hl _ _ h).1

theorem edgesBack_at : ∀ {ops : List Oper} {k j : Nat} {o : Oper} {e : Edge}, edgesBack k ops = true → ops[j]? = some o → e ∈ o.after → Region.binds .any e = true → e.on < k + j
  | [], _, _, _, _, _, h, _, _ => by simp at h
  | o' :: r, k, j, o, e, h, ho, he, hb => by
    simp only [edgesBack, Bool.and_eq_true] at h
    cases j with
    | zero =>
      simp at ho; subst ho
      have := List.all_eq_true.1 h.1 e (by simpa using he)
      rw [hb] at this
      exact blt_tt.1 this
    | succ j =>
      have := edgesBack_at (k := k + 1) h.2 (by simpa using ho) he hb
      omega

theorem pairOk_hit {j m : Nat} {dst : Option Nat} {fj fm : FP} (h : pairOk (masks ops []) j m dst fj fm = true) {t : Nat} (ht : (t ∈ fm.w ∧ t ∈ fj.n) ∨ (t ∈ fm.n ∧ t ∈ fj.w)) : Waits ops j m := by
  simp only [pairOk, Bool.and_eq_true] at h
  have hit : (hitB fm.w fj.n || hitB fm.n fj.w) = true := by
    rcases ht with ⟨h1, h2⟩ | ⟨h1, h2⟩
    · rw [hitB_true h1 h2]; rfl
    · rw [hitB_true h1 h2]; simp
  have := h.1
  rw [hit] at this
  exact masks_sound this

theorem pairOk_rb {j m : Nat} {dst : Option Nat} {fj fm : FP} (h : pairOk ms j m dst fj fm = true) {s : Nat} (h1 : dst = some s) (h2 : fm.rb = some s) : False := by
  simp only [pairOk, Bool.and_eq_true] at h
  have := h.2
  rw [h1, h2] at this
  have hb : Nat.beq s s = true := beq_eq.2 rfl
  simp [hb] at this

/-- What holds at a point of a schedule. -/
structure Sched (P : Program) (n : Nat) (cfg : Cfg) (ops : List Oper) (A : Nat → St) (F : Nat → FP) (S : Nat → Prop) (sc : St) : Prop where
  agree : ∀ t i, i ≤ ops.length → (∀ m, m < ops.length → t ∈ (F m).w → (m < i ↔ S m)) → look (A i).sl t = look sc.sl t
  agreeH : ∀ i, i ≤ ops.length → (∀ m, m < ops.length → n ∈ (F m).w → (m < i ↔ S m)) → (A i).h = sc.h
  lp : ∀ t d s, look sc.sl t = some d → isLp d s = true → ∃ m, m < ops.length ∧ S m ∧ (F m).rb = some s
  closed : ∀ j o e, S j → ops[j]? = some o → e ∈ o.after → Region.binds .any e = true → S e.on

theorem Sched.waits {A : Nat → St} {F : Nat → FP} {S : Nat → Prop} {sc : St} (s : Sched P n cfg ops A F S sc) {j m : Nat} (h : Waits ops j m) (hj : S j ∨ ∀ o e, ops[j]? = some o → e ∈ o.after → Region.binds .any e = true → S e.on) : S m := by
  induction h with
  | one ho he hb hm =>
    subst hm
    rcases hj with hj | hj
    · exact s.closed _ _ _ hj ho he hb
    · exact hj _ _ ho he hb
  | more ho he hb hl h ih =>
    subst hl
    rcases hj with hj | hj
    · exact ih (.inl (s.closed _ _ _ hj ho he hb))
    · exact ih (.inl (hj _ _ ho he hb))

/-- What the trace says of itself. -/
structure TraceOk [Lay] (P : Program) (n : Nat) (cfg : Cfg) (ops : List Oper) (A : Nat → St) (F : Nat → FP) : Prop where
  step : ∀ j o, ops[j]? = some o → StepFact P cfg n ops j o (A j) (A (j + 1)) (F j)
  pair : ∀ j o m, ops[j]? = some o → m < j → pairOk (masks ops []) j m o.dst (F j) (F m) = true
  start : ∀ t d s, look (A 0).sl t = some d → isLp d s = true → False

theorem TraceOk.lp [Lay] (T : TraceOk P n cfg ops A F) (ok : OpsOk n ops) : ∀ i, i ≤ ops.length → ∀ t d s, look (A i).sl t = some d → isLp d s = true → ∃ m, m < i ∧ (F m).rb = some s
  | 0, _, t, d, s, h1, h2 => (T.start t d s h1 h2).elim
  | i + 1, hi, t, d, s, h1, h2 => by
    have hlt : i < ops.length := by omega
    have ho := List.getElem?_eq_getElem hlt
    have no : ∀ t0 t e, ops[i].dst = some t0 → look (A i).sl t = some e → isLp e t0 = false := by
      intro t0 t e hd he
      cases hl : isLp e t0 with
      | false => rfl
      | true =>
        obtain ⟨m, hm, hrb⟩ := T.lp ok i (by omega) t e t0 he hl
        exact (pairOk_rb (T.pair i _ m ho hm) hd hrb).elim
    obtain ⟨_, _, tw⟩ := step_agree (sc := A i) ok.back ho (T.step i _ ho) (fun _ _ => rfl) (fun _ => rfl) no no
    rcases tw.lp t d s h1 h2 with ⟨_, h⟩ | h
    · exact ⟨i, by omega, h⟩
    · obtain ⟨m, hm, hrb⟩ := T.lp ok i (by omega) t d s h h2
      exact ⟨m, by omega, hrb⟩

theorem TraceOk.no [Lay] (T : TraceOk P n cfg ops A F) (ok : OpsOk n ops) {i : Nat} {o : Oper} (ho : ops[i]? = some o) : ∀ t0 t e, o.dst = some t0 → look (A i).sl t = some e → isLp e t0 = false := by
  intro t0 t e hd he
  cases hl : isLp e t0 with
  | false => rfl
  | true =>
    obtain ⟨m, hm, hrb⟩ := T.lp ok i (by have := (List.getElem?_eq_some_iff.1 ho).1; omega) t e t0 he hl
    exact (pairOk_rb (T.pair i _ m ho hm) hd hrb).elim

theorem TraceOk.same [Lay] (T : TraceOk P n cfg ops A F) (ok : OpsOk n ops) {i : Nat} {o : Oper} (ho : ops[i]? = some o) : (∀ t, t ∉ (F i).w → look (A (i + 1)).sl t = look (A i).sl t) ∧ (n ∉ (F i).w → (A (i + 1)).h = (A i).h) := by
  obtain ⟨_, _, tw⟩ := step_agree (sc := A i) ok.back ho (T.step i _ ho) (fun _ _ => rfl) (fun _ => rfl) (T.no ok ho) (T.no ok ho)
  exact ⟨tw.same, tw.hs⟩

/-- Between two places without a writer nothing turns. -/
theorem TraceOk.span [Lay] (T : TraceOk P n cfg ops A F) (ok : OpsOk n ops) {i : Nat} : ∀ k, i + k ≤ ops.length →
    (∀ t, (∀ m, i ≤ m → m < i + k → t ∉ (F m).w) → look (A (i + k)).sl t = look (A i).sl t) ∧ ((∀ m, i ≤ m → m < i + k → n ∉ (F m).w) → (A (i + k)).h = (A i).h)
  | 0, _ => ⟨fun _ _ => rfl, fun _ => rfl⟩
  | k + 1, hk => by
    have ho := List.getElem?_eq_getElem (l := ops) (i := i + k) (by omega)
    obtain ⟨h1, h2⟩ := T.same ok ho
    obtain ⟨h3, h4⟩ := T.span ok (i := i) k (by omega)
    refine ⟨fun t ht => ?_, fun ht => ?_⟩
    · rw [show i + (k + 1) = i + k + 1 by omega, h1 t (ht _ (by omega) (by omega))]
      exact h3 t fun m e1 e2 => ht m e1 (by omega)
    · rw [show i + (k + 1) = i + k + 1 by omega, h2 (ht _ (by omega) (by omega))]
      exact h4 fun m e1 e2 => ht m e1 (by omega)

/-- A step of a schedule. -/
theorem Sched.step [Lay] {S : Nat → Prop} {sc : St} (s : Sched P n cfg ops A F S sc) (T : TraceOk P n cfg ops A F) (ok : OpsOk n ops) {i : Nat} {o : Oper} (ho : ops[i]? = some o) (hi : ¬ S i)
    (hr : ∀ o e, ops[i]? = some o → e ∈ o.after → Region.binds .any e = true → S e.on) :
    ∃ sc', StepFact P cfg n ops i o sc sc' (F i) ∧ Sched P n cfg ops A F (fun j => S j ∨ j = i) sc' := by
  have hlt : i < ops.length := (List.getElem?_eq_some_iff.1 ho).1
  have fi := (T.step i o ho).facts
  have getF : ∀ m, m < ops.length → ∃ om, ops[m]? = some om ∧ FpFacts n ops om (F m) := fun m hm => ⟨ops[m], List.getElem?_eq_getElem hm, (T.step m _ (List.getElem?_eq_getElem hm)).facts⟩
  -- one that is behind in the text and meets this one has not been
  have later : ∀ m t, m < ops.length → i < m → S m → (t ∈ (F m).w ∧ t ∈ (F i).n) ∨ (t ∈ (F m).n ∧ t ∈ (F i).w) → False := by
    intro m t hm him hS ht
    obtain ⟨om, hom, _⟩ := getF m hm
    refine hi (s.waits (pairOk_hit (T.pair m om i hom him) (t := t) ?_) (.inl hS))
    rcases ht with ⟨h1, h2⟩ | ⟨h1, h2⟩
    · exact .inr ⟨h2, h1⟩
    · exact .inl ⟨h2, h1⟩
  have iff : ∀ t ∈ (F i).n, ∀ m, m < ops.length → t ∈ (F m).w → (m < i ↔ S m) := by
    intro t ht m hm hw
    constructor
    · intro hmi
      exact s.waits (pairOk_hit (T.pair i o m ho hmi) (t := t) (.inl ⟨hw, ht⟩)) (.inr hr)
    · intro hS
      rcases Nat.lt_trichotomy m i with h | h | h
      · exact h
      · subst h; exact (hi hS).elim
      · exact (later m t hm h hS (.inl ⟨hw, ht⟩)).elim
  have no' : ∀ t0 t e, o.dst = some t0 → look sc.sl t = some e → isLp e t0 = false := by
    intro t0 t e hd he
    cases hl : isLp e t0 with
    | false => rfl
    | true =>
      obtain ⟨m, hm, hS, hrb⟩ := s.lp t e t0 he hl
      rcases Nat.lt_trichotomy m i with h | h | h
      · exact (pairOk_rb (T.pair i o m ho h) hd hrb).elim
      · subst h; exact (hi hS).elim
      · obtain ⟨om, hom, fm⟩ := getF m hm
        exact (later m t0 hm h hS (.inr ⟨fm.rb t0 hrb, fi.dst t0 hd⟩)).elim
  obtain ⟨sc', hf, tw⟩ := step_agree (sc := sc) ok.back ho (T.step i o ho) (fun t ht => s.agree t i (by omega) (iff t ht)) (fun hH => s.agreeH i (by omega) (iff n hH)) (T.no ok ho) no'
  refine ⟨sc', hf, ⟨fun t j hj hc => ?_, fun j hj hc => ?_, fun t d q h1 h2 => ?_, fun j o' e hj ho' he hb => ?_⟩⟩
  · by_cases ht : t ∈ (F i).w
    · have hij : i < j := (hc i hlt ht).2 (.inr rfl)
      have hnone : ∀ m, i + 1 ≤ m → m < i + 1 + (j - (i + 1)) → t ∉ (F m).w := by
        intro m e1 e2 hw
        have hm : m < ops.length := by omega
        rcases (hc m hm hw).1 (by omega) with h | h
        · exact later m t hm (by omega) h (.inl ⟨hw, fi.wn t ht⟩)
        · omega
      have := (T.span ok (i := i + 1) (j - (i + 1)) (by omega)).1 t hnone
      rw [show i + 1 + (j - (i + 1)) = j by omega] at this
      rw [this]; exact tw.w t ht
    · rw [tw.same' t ht]
      refine s.agree t j hj fun m hm hw => ?_
      have hne : m ≠ i := fun e => ht (e ▸ hw)
      rw [hc m hm hw]
      exact ⟨fun h => h.resolve_right hne, .inl⟩
  · by_cases ht : n ∈ (F i).w
    · have hij : i < j := (hc i hlt ht).2 (.inr rfl)
      have hnone : ∀ m, i + 1 ≤ m → m < i + 1 + (j - (i + 1)) → n ∉ (F m).w := by
        intro m e1 e2 hw
        have hm : m < ops.length := by omega
        rcases (hc m hm hw).1 (by omega) with h | h
        · exact later m n hm (by omega) h (.inl ⟨hw, fi.wn n ht⟩)
        · omega
      have := (T.span ok (i := i + 1) (j - (i + 1)) (by omega)).2 hnone
      rw [show i + 1 + (j - (i + 1)) = j by omega] at this
      rw [this]; exact tw.h ht
    · rw [tw.hs' ht]
      refine s.agreeH j hj fun m hm hw => ?_
      have hne : m ≠ i := fun e => ht (e ▸ hw)
      rw [hc m hm hw]
      exact ⟨fun h => h.resolve_right hne, .inl⟩
  · rcases tw.lp' t d q h1 h2 with ⟨_, h⟩ | h
    · exact ⟨i, hlt, .inr rfl, h⟩
    · obtain ⟨m, hm, hS, hrb⟩ := s.lp t d q h h2
      exact ⟨m, hm, .inl hS, hrb⟩
  · rcases hj with hj | rfl
    · exact .inl (s.closed j o' e hj ho' he hb)
    · exact .inl (hr o' e ho' he hb)

end
end Go.Ab
/- The executor is sound, 20: regions that draw their order, joined. -/
namespace Go.Ab

section
variable {P : Program} {n : Nat} {cfg : Cfg} {ops : List Oper} {A : Nat → St} {F : Nat → FP} {k : St → Prop}

def Listed (l : Array Bool) (j : Nat) : Prop := l.getD j false = true

def unl (m : Nat) (l : Array Bool) : List Nat := (List.range m).filter fun j => !l.getD j false

theorem Listed.set {l : Array Bool} {i : Nat} (hi : i < l.size) : Listed (l.setIfInBounds i true) = fun j => Listed l j ∨ j = i := by
  funext j
  apply propext
  unfold Listed
  by_cases h : j = i
  · subst h
    simp [hi]
  · rw [getD_set_ne false (fun e => h e.symm)]
    simp [h]

theorem unl_set {l : Array Bool} {i m : Nat} (hi : i < m) (hl : i < l.size) (hn : ¬ Listed l i) : (unl m (l.setIfInBounds i true)).length < (unl m l).length := by
  have : unl m (l.setIfInBounds i true) = (unl m l).filter fun j => decide (j ≠ i) := by
    unfold unl
    rw [List.filter_filter]
    refine List.filter_congr fun j _ => ?_
    have := congrFun (Listed.set hl) j
    unfold Listed at this
    by_cases h : j = i
    · subst h
      have h2 : (l.setIfInBounds j true).getD j false = true := by rw [this]; exact .inr rfl
      rw [h2]; simp
    · rw [getD_set_ne false (fun e => h e.symm)]
      simp [h]
  rw [this]
  refine List.length_filter_lt_length_iff_exists.2 ⟨i, ?_, by simp⟩
  unfold unl
  rw [List.mem_filter]
  refine ⟨List.mem_range.2 hi, ?_⟩
  unfold Listed at hn
  cases h : l.getD i false with
  | true => exact absurd h hn
  | false => rfl

theorem Trace.nodup [Lay] {ms : List Nat} {st : St} (T : Trace P cfg n ms ops k 0 [] st A F) (h : (st.sl.map (·.1)).Nodup) : ∀ i, i ≤ ops.length → ((A i).sl.map (·.1)).Nodup
  | 0, _ => by rw [T.start]; exact h
  | i + 1, hi => (T.step i _ (Nat.zero_le _) (List.getElem?_eq_getElem (by omega))).nodup (T.nodup h i (by omega))

theorem ready_iff {listed : Array Bool} {j : Nat} (hs : listed.size = ops.length) : j ∈ Region.ready .any ops.toArray listed ↔ j < ops.length ∧ ¬ Listed listed j ∧ ∀ o e, ops[j]? = some o → e ∈ o.after → Region.binds .any e = true → Listed listed e.on := by
  rw [mem_ready]
  constructor
  · rintro ⟨h1, o, h2, h3⟩
    have hlt : j < ops.length := by have := (Array.getElem?_eq_some_iff.1 h2).1; simpa using this
    refine ⟨hlt, fun hl => ?_, fun o' e ho' he hb => ?_⟩
    · unfold Listed at hl
      have : listed[j]? = some listed[j] := Array.getElem?_eq_getElem (by omega)
      simp only [Array.getD_eq_getD_getElem?, this, Option.getD_some] at h1 hl
      rw [h1] at hl; cases hl
    · have : ops.toArray[j]? = some o' := by simpa using ho'
      rw [h2] at this; cases this
      exact h3 e he hb
  · rintro ⟨hlt, h1, h2⟩
    have ho := List.getElem?_eq_getElem hlt
    refine ⟨?_, ops[j], by simp, fun e he hb => h2 _ e ho he hb⟩
    unfold Listed at h1
    have : listed[j]? = some listed[j] := Array.getElem?_eq_getElem (by omega)
    simp only [Array.getD_eq_getD_getElem?, this, Option.getD_some] at h1 ⊢
    simpa using h1

theorem ready_nil {listed : Array Bool} (hs : listed.size = ops.length) (hb : edgesBack 0 ops = true) (h : Region.ready .any ops.toArray listed = []) : ∀ j, j < ops.length → Listed listed j := by
  intro j
  induction j using Nat.strongRecOn with
  | ind j ih =>
    intro hj
    apply Classical.byContradiction
    intro hn
    have : j ∈ Region.ready .any ops.toArray listed := (ready_iff hs).2 ⟨hj, hn, fun o e ho he hbd => by
      have h1 := edgesBack_at hb ho he hbd
      exact ih e.on (by omega) (by omega)⟩
    rw [h] at this; cases this

theorem any_sound [Lay] {ρ : Option Nat} {U : Nat → Prop} {g0 : G} {w0 : World} {st : St} (ok : OpsOk n ops) (heb : edgesBack 0 ops = true) (T : Trace P cfg n (masks ops []) ops k 0 [] st A F) (hst : (st.sl.map (·.1)).Nodup) (TO : TraceOk P n cfg ops A F) :
    ∀ (fuel : Nat) (listed : Array Bool) (g : G) (β : Nat → Nat) (a : Act) (w : World) (sc : St), listed.size = ops.length → (unl ops.length listed).length ≤ fuel → Rel n g β U (yOf ops a) sc a w → MayD ops (Listed listed) sc → ChainD ops (Listed listed) a →
      Sched P n cfg ops A F (Listed listed) sc → Grow U g0 g → Kept U w0 w → wpAnyIn (fen ρ) 0 P .any ops.toArray (OpsPost n U g0 w0 k) fuel listed a w := by
  have finish : ∀ (listed : Array Bool) (g : G) (β : Nat → Nat) (a : Act) (w : World) (sc : St), (∀ j, j < ops.length → Listed listed j) → Rel n g β U (yOf ops a) sc a w → Sched P n cfg ops A F (Listed listed) sc → Grow U g0 g → Kept U w0 w →
      OpsPost n U g0 w0 k .normal a w := by
    intro listed g β a w sc hall r s hg hk
    refine ⟨rfl, g, β, _, ?_, hg, hk, T.fin⟩
    have hnd := T.nodup hst ops.length (Nat.le_refl _)
    have hiff : ∀ m, m < ops.length → (m < ops.length ↔ Listed listed m) := fun m hm => ⟨fun _ => hall m hm, fun _ => hm⟩
    refine r.sub (hnd.sublist ((purge_sublist _).map _)) (s.agreeH _ (Nat.le_refl _) fun m hm _ => hiff m hm) fun t d h => ?_
    obtain ⟨h1, h2⟩ := look_purge hnd h
    exact ⟨by rw [← s.agree t _ (Nat.le_refl _) fun m hm _ => hiff m hm]; exact h1, h2⟩
  intro fuel
  induction fuel with
  | zero =>
    intro listed g β a w sc hs hu r hm hc s hg hk
    have hall : ∀ j, j < ops.length → Listed listed j := by
      intro j hj
      apply Classical.byContradiction
      intro hn
      have hnil : unl ops.length listed = [] := List.eq_nil_of_length_eq_zero (by omega)
      have : j ∈ unl ops.length listed := by
        unfold unl
        rw [List.mem_filter]
        refine ⟨List.mem_range.2 hj, ?_⟩
        unfold Listed at hn
        cases h : listed.getD j false with
        | true => exact absurd h hn
        | false => rfl
      rw [hnil] at this; cases this
    refine ⟨?_, finish listed g β a w sc hall r s hg hk⟩
    rw [List.eq_nil_iff_forall_not_mem]
    intro j hj
    obtain ⟨h1, h2, _⟩ := (ready_iff hs).1 hj
    exact h2 (hall j h1)
  | succ fuel ih =>
    intro listed g β a w sc hs hu r hm hc s hg hk
    refine ⟨fun hnil => finish listed g β a w sc (ready_nil hs heb hnil) r s hg hk, fun i hi => ?_⟩
    obtain ⟨hlt, hni, hr⟩ := (ready_iff hs).1 hi
    have ho := List.getElem?_eq_getElem hlt
    obtain ⟨sc', hf, s'⟩ := s.step TO ok ho hni hr
    have fi := (TO.step i _ ho).facts
    have wait : ∀ m t, m < i → t ∈ (F m).w → t ∈ (F i).n → Listed listed m := fun m t hmi h1 h2 =>
      s.waits (pairOk_hit (TO.pair i _ m ho hmi) (t := t) (.inl ⟨h1, h2⟩)) (.inr hr)
    have dstW : ∀ m t, m < ops.length → dstOf ops m = some t → t ∈ (F m).w := fun m t hml hd => by
      have hom := List.getElem?_eq_getElem hml
      refine (TO.step m _ hom).facts.dst t ?_
      simpa [dstOf, hom] using hd
    have hdone : DoneOk ops (Listed listed) := by
      intro j o' j1 w1 hj ho' hg' hd'
      have hjl := (List.getElem?_eq_some_iff.1 ho').1
      have hb := ok.back ho' hg'
      simp only at hb
      cases hd : dstOf ops j1 with
      | none => exact absurd hd hd'
      | some t =>
        have h1 := dstW j1 t (by omega) hd
        have h2 := (TO.step j _ ho').guardN hg' hb hd
        exact s.waits (pairOk_hit (TO.pair j _ j1 ho' hb) (t := t) (.inl ⟨h1, h2⟩)) (.inl hj)
    refine step_D ok r hm hc hdone ho hni (fun q hq hd' => ?_) (fun c x z t j hop hcx hw => ?_) hf fun g' β' v w' r1 m1 c1 gr kp => ?_
    · have hb := ok.back ho hq
      cases hd : dstOf ops q.1 with
      | none => exact absurd hd hd'
      | some t => exact wait q.1 t hb (dstW q.1 t (by omega) hd) ((TO.step i _ ho).guardN hq hb hd)
    · obtain ⟨hji, hd⟩ := whoWrote_sound hw
      refine wait j t hji (dstW j t (by omega) hd) (fi.tmps t ?_)
      rw [hop, hcx]; simp [Op.operands]
    · have hset := Listed.set (l := listed) (i := i) (by omega)
      refine ih _ g' β' _ w' sc' (by simpa using hs) ?_ r1 (by rw [hset]; exact m1) (by rw [hset]; exact c1) (by rw [hset]; exact s') (hg.trans gr) (hk.trans kp)
      have := unl_set (l := listed) hlt (by omega) hni
      omega

theorem draw_sound [Lay] (hmix : P.follows .mixedOrders = true) (ok : OpsOk n ops) (heb : edgesBack 0 ops = true) {id : Nat} {ρ : Option Nat} {st : St} (hT : TraceSem P n cfg (masks ops []) ops k 0 [] { st with sl := purge st.sl })
    {g : G} {β : Nat → Nat} {U : Nat → Prop} {a : Act} {w : World} (r : Rel n g β U noY st a w) : (Code.region id ops.toArray true).wpIn (fen ρ) 0 P (OpsPost n U g w k) a w := by
  have r1 := (r.purged (yOf ops a)).ext (draw_ext r.inv)
  have hp : ∀ t d, look (purge st.sl) t = some d → isMayLp d = false := fun t d h => (look_purge r.keys h).2
  obtain ⟨A, F, T⟩ := hT g β U a w.drew r1 (fun t j w d h _ => by cases hp _ _ h) (fun j _ _ _ h => absurd h (Nat.not_lt_zero _)) rfl
  have TO : TraceOk P n cfg ops A F := ⟨fun j o ho => T.step j o (Nat.zero_le _) ho, fun j o m ho hm => T.pair j o m (Nat.zero_le _) ho hm, fun t d s h1 h2 => by
    rw [T.start] at h1
    have h3 := hp t d h1
    cases d <;> first | exact Bool.noConfusion (show true = false from h3) | cases h2⟩
  have hnot : ∀ j, ¬ Listed (Array.replicate ops.toArray.size false) j := by
    intro j h
    unfold Listed at h
    simp only [Array.getD_eq_getD_getElem?, Array.getElem?_replicate] at h
    split at h <;> simp at h
  have kd := (draw_ext r.inv).kept r.inv.ub
  refine wpIn_region_any hmix (any_sound ok heb T r1.keys TO _ _ g β a w.drew _ (by simp) ?_ r1 (fun t j w d h _ => by cases hp _ _ h) (fun j _ _ _ h => absurd h (hnot j)) ⟨fun t i hi hc => ?_, fun i hi hc => ?_, fun t d s h1 h2 => ?_, fun j o e h => absurd h (hnot j)⟩ (Grow.refl U g) kd)
  · unfold unl
    have := List.length_filter_le (fun j => !(Array.replicate ops.toArray.size false).getD j false) (List.range ops.length)
    simpa using this
  · have := (TO.span ok (i := 0) i (by omega)).1 t fun m _ hm hw => hnot m ((hc m (by omega) hw).1 (by omega))
    rw [Nat.zero_add] at this
    rw [this, T.start]
  · have := (TO.span ok (i := 0) i (by omega)).2 fun m _ hm hw => hnot m ((hc m (by omega) hw).1 (by omega))
    rw [Nat.zero_add] at this
    rw [this, T.start]
  · have h3 := hp t d h1
    cases d <;> first | exact Bool.noConfusion (show true = false from h3) | cases h2

end
end Go.Ab
/- The run is sound; loops. -/
namespace Go.Ab

theorem sub_append : ∀ (c : Code) (p q : List Nat), sub c (p ++ q) = (sub c p).bind fun d => sub d q
  | c, [], q => by cases c <;> rfl
  | .seq a b, 0 :: p, q => by simpa [sub] using sub_append a p q
  | .seq a b, 1 :: p, q => by simpa [sub] using sub_append b p q
  | .seq a b, (k + 2) :: p, q => by simp [sub]
  | .cond c a b, 0 :: p, q => by simpa [sub] using sub_append a p q
  | .cond c a b, 1 :: p, q => by simpa [sub] using sub_append b p q
  | .cond c a b, (k + 2) :: p, q => by simp [sub]
  | .block i c, 0 :: p, q => by simpa [sub] using sub_append c p q
  | .block i c, (k + 1) :: p, q => by simp [sub]
  | .loop c, 0 :: p, q => by simpa [sub] using sub_append c p q
  | .loop c, (k + 1) :: p, q => by simp [sub]
  | .skip, k :: p, q => by simp [sub]
  | .region .., k :: p, q => by simp [sub]
  | .exit .., k :: p, q => by simp [sub]
  | .ret, k :: p, q => by simp [sub]
  | .scope .., k :: p, q => by simp [sub]
  | .rangeFunc _ _ a _, 0 :: p, q => by simpa [sub] using sub_append a p q
  | .rangeFunc _ _ _ b, 1 :: p, q => by simpa [sub] using sub_append b p q
  | .rangeFunc .., (k + 2) :: p, q => by simp [sub]
  | .label .., k :: p, q => by simp [sub]
  | .goto .., k :: p, q => by simp [sub]
  | .refuse .., k :: p, q => by simp [sub]

section
variable {E : Env} {fin : St → Prop}

theorem cont_ret [Lay] : ∀ (td : List It) {st : St}, fin st → Cont E fin td .ret st
  | [], _, h => h
  | .code _ :: td, _, h => cont_ret td h
  | .ops _ _ :: td, _, h => cont_ret td h
  | .blk _ :: td, _, h => cont_ret td h
  | .stop _ :: td, _, h => cont_ret td h

theorem cont_exit [Lay] {id : Nat} : ∀ (td : List It) {td' : List It} {st : St}, popTo id td = some td' → Cont E fin td' .normal st → Cont E fin td (.exit id) st
  | [], _, _, h, _ => by cases h
  | .code _ :: td, _, _, h, k => cont_exit td h k
  | .ops _ _ :: td, _, _, h, k => cont_exit td h k
  | .stop _ :: td, _, _, h, k => cont_exit td h k
  | .blk i :: td, td', st, h, k => by
    simp only [popTo] at h
    simp only [Cont]
    cases hb : Nat.beq i id with
    | true =>
      rw [hb] at h; simp only [cond_true, Option.some.injEq] at h; subst h
      rw [if_pos (beq_eq.1 hb)]; exact k
    | false =>
      rw [hb] at h
      rw [if_neg (beq_ff.1 hb)]; exact cont_exit td h k

/-- From a code's end on. -/
theorem ROk.kept {ρ : Option Nat} {U : Nat → Prop} {w w' : World} (o : ROk ρ U w) (k : Kept U w w') : ROk ρ U w' := fun l e => by
  obtain ⟨h1, r, h2⟩ := o l e
  exact ⟨h1, r, (k.block l h1).trans h2⟩

theorem AWp.mono [Lay] {P : Program} {n : Nat} {c : Code} {st : St} {Q Q' : Ex → St → Prop} (h : AWp P n c st Q) (hq : ∀ e st, Q e st → Q' e st) : AWp P n c st Q' :=
  fun ρ g β U a w o r => wpIn_mono (h ρ g β U a w o r) fun _ _ _ ⟨ex, g', β', st', h1, h2, h3, h4, h5⟩ => ⟨ex, g', β', st', h1, h2, h3, h4, hq _ _ h5⟩

theorem awp_here [Lay] {P : Program} {n : Nat} {c : Code} {st : St} {Q : Ex → St → Prop} {ex : Ex} (hc : ∀ (ρ : Option Nat) (a : Act) (w : World) (Q : Exit → Act → World → Prop), Q (exitOf ex) a w → c.wpIn (fen ρ) 0 P Q a w) (h : Q ex st) : AWp P n c st Q :=
  fun ρ g β U a w _ r => hc ρ a w _ ⟨ex, g, β, st, rfl, r, Grow.refl U g, Kept.refl U w, h⟩

theorem awp_seq [Lay] {P : Program} {n : Nat} {x z : Code} {st : St} {Q : Ex → St → Prop} (h : AWp P n x st fun e st' => match e with | .normal => AWp P n z st' Q | e => Q e st') : AWp P n (.seq x z) st Q := by
  intro ρ g β U a w o r
  refine wpIn_seq (wpIn_mono (h ρ g β U a w o r) fun e a' w' ⟨ex, g', β', st', h1, h2, h3, h4, h5⟩ => ?_)
  subst h1
  cases ex with
  | normal => exact wpIn_mono (h5 ρ g' β' U a' w' (o.kept h4) h2) fun e2 a2 w2 ⟨ex2, g2, β2, st2, k1, k2, k3, k4, k5⟩ => ⟨ex2, g2, β2, st2, k1, k2, h3.trans k3, h4.trans k4, k5⟩
  | ret => exact ⟨.ret, g', β', st', rfl, h2, h3, h4, h5⟩
  | exit i => exact ⟨.exit i, g', β', st', rfl, h2, h3, h4, h5⟩

theorem awp_block [Lay] {P : Program} {n : Nat} {id : Nat} {x : Code} {st : St} {Q : Ex → St → Prop} (h : AWp P n x st fun e st' => match e with | .exit i => if id = i then Q .normal st' else Q (.exit i) st' | e => Q e st') : AWp P n (.block id x) st Q := by
  intro ρ g β U a w o r
  refine wpIn_block (wpIn_mono (h ρ g β U a w o r) fun e a' w' ⟨ex, g', β', st', h1, h2, h3, h4, h5⟩ => ?_)
  subst h1
  cases ex with
  | normal => exact ⟨.normal, g', β', st', rfl, h2, h3, h4, h5⟩
  | ret => exact ⟨.ret, g', β', st', rfl, h2, h3, h4, h5⟩
  | exit i =>
    simp only [exitOf, Exit.inBlock]
    by_cases hi : i = id
    · rw [if_pos hi]
      simp only [if_pos hi.symm] at h5
      exact ⟨.normal, g', β', st', rfl, h2, h3, h4, h5⟩
    · rw [if_neg hi]
      simp only [if_neg (fun e => hi e.symm : ¬ id = i)] at h5
      exact ⟨.exit i, g', β', st', rfl, h2, h3, h4, h5⟩

theorem purge_may {st : St} (h : (st.sl.map (·.1)).Nodup) : MayLt 0 { st with sl := purge st.sl } := fun t j w d hl => by
  have := (look_purge h hl).2
  cases this

theorem exq_trace [Lay] {ops : List Oper} (ok : OpsOk E.nt ops) {k : St → Prop} : ∀ (m i : Nat) (fps : List FP) (st : St), exQ E ops k m i fps st → TraceSem E.P E.nt E.cfg (masks ops []) ops k i fps st
  | 0, _, _, _, h => h.elim
  | m + 1, i, fps, st, h => exD_trace (kc := exQ E ops k m) ok (fun _ h => h) (fun i fps st h => exq_trace ok m i fps st h) _ i fps st rfl h

theorem opsPost_awp [Lay] {n : Nat} {U : Nat → Prop} {g : G} {w : World} {Q : Ex → St → Prop} {e : Exit} {a' : Act} {w' : World} (h : OpsPost n U g w (Q .normal) e a' w') :
    ∃ ex g' β' st', e = exitOf ex ∧ Rel n g' β' U noY st' a' w' ∧ Grow U g g' ∧ Kept U w w' ∧ Q ex st' := by
  obtain ⟨h1, g', β', st', h2, h3, h4, h5⟩ := h
  exact ⟨.normal, g', β', st', h1, h2, h3, h4, h5⟩

/-- A region, entered. -/
theorem run_region [Lay] {p : List Nat} {td : List It} {st : St} {id : Nat} {ops : Array Oper} {K : St → Prop} (hs : sub E.root p = some (.region id ops false)) (hcont : ∀ st, K st → Cont E fin td .normal st)
    (h : opsOk E.nt ops.toList = true) (he : execOps E.P E.cfg (CallA E.P) (CallY E.P) (PCall E.P) ops.toList (fun _ => false) (fun i st => At E fin (.ops p i :: td) st) 0 ops.toList { st with sl := purge st.sl } K) :
    AWp E.P E.nt (.region id ops false) st (Cont E fin td) := by
  intro ρ g β U a w o r
  have hops : opsOf E.root p = ops.toList := by simp [opsOf, hs]
  have hk : ∀ i st, At E fin (.ops p i :: td) st → OpsSem E.P E.nt ops.toList i st (Cont E fin td .normal) := fun i st h => by have := h.it; rw [← hops]; exact this
  have hsem := ops_sound (cfg := E.cfg) (opsOk_sound h) hcont hk ops.toList 0 _ rfl he
  have r1 := r.purged (yOf ops.toList a)
  have := hsem ρ g β U a w r1 (purge_may r.keys) (fun j _ _ _ h => absurd h (Nat.not_lt_zero _))
  have hr : List.range' 0 (ops.toList.length - 0) = List.range ops.size := by rw [List.range_eq_range']; simp
  rw [hr] at this
  refine wpIn_region ?_
  have ha : ops.toList.toArray = ops := by simp
  rw [ha] at this
  exact wpOps_mono (fun e a' w' h => opsPost_awp h) _ _ _ this

theorem run_draw [Lay] {p : List Nat} {td : List It} {st : St} {id : Nat} {ops : Array Oper} {K : St → Prop} (hmix : E.P.follows .mixedOrders = true) (hs : sub E.root p = some (.region id ops true)) (hcont : ∀ st, K st → Cont E fin td .normal st)
    (h : opsOk E.nt ops.toList = true) (heb : edgesBack 0 ops.toList = true) (he : exD E.P E.cfg (PCall E.P) (ECall E.P) E.nt (masks ops.toList []) ops.toList (AtQ E fin p td) 0 ops.toList [] { st with sl := purge st.sl } K) :
    AWp E.P E.nt (.region id ops true) st (Cont E fin td) := by
  intro ρ g β U a w o r
  have hops : opsOf E.root p = ops.toList := by simp [opsOf, hs]
  have ok := opsOk_sound h
  have hk : ∀ i fps st, AtQ E fin p td i fps st → TraceSem E.P E.nt E.cfg (masks ops.toList []) ops.toList (At E fin td) i fps st := fun i fps st h => by
    obtain ⟨m, h⟩ := h.it
    rw [hops] at h
    exact exq_trace ok m i fps st h
  have hT := exD_trace (k := At E fin td) ok (fun st h => ⟨hcont st h⟩) hk ops.toList 0 [] _ rfl he
  have := draw_sound (id := id) (ρ := ρ) hmix ok heb hT r
  have ha : ops.toList.toArray = ops := by simp
  rw [ha] at this
  exact wpIn_mono this fun e a' w' ⟨h1, g', β', st', h2, h3, h4, h5⟩ => ⟨.normal, g', β', st', h1, h2, h3, h4, h5.it⟩

theorem run_sound [Lay] (hmix : E.P.follows .mixedOrders = true) : ∀ (n : Nat) (td : List It) (st : St), run E fin n td st → Cont E fin td .normal st
  | 0, td, st, h => by unfold run at h; exact h.it
  | n + 1, [], st, h => by unfold run at h; exact h
  | n + 1, .blk _ :: td, st, h => by unfold run at h; exact run_sound hmix n td st h
  | n + 1, .stop J :: td, st, h => by unfold run at h; exact h
  | n + 1, .ops p i :: td, st, h => by
    unfold run at h
    cases hok : opsOk E.nt (opsOf E.root p) with
    | false => rw [hok] at h; exact h.elim
    | true =>
      rw [hok] at h
      exact ops_sound (cfg := E.cfg) (opsOk_sound hok) (fun st h => run_sound hmix n td st h) (fun i st h => h.it) _ i st rfl h
  | n + 1, .code p :: td, st, h => by
    unfold run at h
    have ih := fun td st => run_sound hmix n td st
    split at h
    · rename_i hs
      exact ⟨_, hs, awp_here (ex := .normal) (fun ρ a w Q hq => wpIn_skip hq) (ih _ _ h)⟩
    · rename_i x z hs
      have h1 := ih _ _ h
      obtain ⟨c, hc, hw⟩ := h1
      rw [sub_append, hs] at hc
      have hcx : x = c := by simpa [sub] using hc
      subst hcx
      refine ⟨_, hs, awp_seq (hw.mono fun e st' hh => ?_)⟩
      cases e with
      | normal =>
        obtain ⟨c2, hc2, hw2⟩ := hh
        rw [sub_append, hs] at hc2
        have hcz : z = c2 := by simpa [sub] using hc2
        subst hcz
        exact hw2
      | ret => exact hh
      | exit i => exact hh
    · rename_i c x z hs
      split at h
      · rename_i b hb
        refine ⟨_, hs, fun ρ g β U a w o r => ?_⟩
        have hv := (evO_ev r (cl := []) (by simp)).data (x := c) (by rw [hb]; rfl)
        rw [hb] at hv
        have hv : a.eval c = .bool b := by simpa [R] using hv
        cases b with
        | true =>
          obtain ⟨c1, hc1, hw1⟩ := ih _ _ h
          rw [sub_append, hs] at hc1
          have hcx : x = c1 := by simpa [sub] using hc1
          subst hcx
          exact wpIn_cond_true hv (hw1 ρ g β U a w o r)
        | false =>
          obtain ⟨c1, hc1, hw1⟩ := ih _ _ h
          rw [sub_append, hs] at hc1
          have hcx : z = c1 := by simpa [sub] using hc1
          subst hcx
          exact wpIn_cond_false hv (hw1 ρ g β U a w o r)
      · exact h.elim
    · rename_i id x hs
      obtain ⟨c, hc, hw⟩ := ih _ _ h
      rw [sub_append, hs] at hc
      have hcx : x = c := by simpa [sub] using hc
      subst hcx
      refine ⟨_, hs, awp_block (hw.mono fun e st' hh => ?_)⟩
      cases e with
      | normal => exact hh
      | ret => exact hh
      | exit i => exact hh
    · rename_i id hs
      split at h
      · rename_i td' hp
        exact ⟨_, hs, awp_here (ex := .exit id) (fun ρ a w Q hq => wpIn_exit hq) (cont_exit td hp (ih _ _ h))⟩
      · exact h.elim
    · rename_i hs
      exact ⟨_, hs, awp_here (ex := .ret) (fun ρ a w Q hq => wpIn_ret hq) (cont_ret td h)⟩
    · rename_i id ops hs
      cases hok : opsOk E.nt ops.toList with
      | false => rw [hok] at h; exact h.elim
      | true => rw [hok] at h; exact ⟨_, hs, run_region hs (ih td) hok h⟩
    · rename_i id ops hs
      cases hok : (opsOk E.nt ops.toList && edgesBack 0 ops.toList) with
      | false => rw [hok] at h; exact h.elim
      | true =>
        rw [hok] at h
        simp only [Bool.and_eq_true] at hok
        exact ⟨_, hs, run_draw hmix hs (ih td) hok.1 hok.2 h⟩
    · exact h.it
    · exact h.it

end
end Go.Ab
/- Loops, weaker states. -/
namespace Go.Ab

/-- Whatever st describes st' describes too (the ghost memory may grow). -/
def StLe [Lay] (n : Nat) (st st' : St) : Prop :=
  ∀ (g : G) (β : Nat → Nat) (U : Nat → Prop) (a : Act) (w : World), Rel n g β U noY st a w → ∃ g' β', Rel n g' β' U noY st' a w ∧ Grow U g g'

theorem StLe.refl [Lay] (n : Nat) (st : St) : StLe n st st := fun g β U _ _ r => ⟨g, β, r, Grow.refl U g⟩

theorem StLe.trans [Lay] {n : Nat} {a b c : St} (h : StLe n a b) (k : StLe n b c) : StLe n a c := fun g β U x w r => by
  obtain ⟨g1, β1, r1, e1⟩ := h g β U x w r
  obtain ⟨g2, β2, r2, e2⟩ := k g1 β1 U x w r1
  exact ⟨g2, β2, r2, e1.trans e2⟩

theorem AWp.le [Lay] {P : Program} {n : Nat} {c : Code} {st st' : St} {Q : Ex → St → Prop} (h : AWp P n c st' Q) (l : StLe n st st') : AWp P n c st Q := fun ρ g β U a w o r => by
  obtain ⟨g1, β1, r1, e1⟩ := l g β U a w r
  exact wpIn_mono (h ρ g1 β1 U a w o r1) fun _ _ _ ⟨ex, g', β', st', h1, h2, h3, h4, h5⟩ => ⟨ex, g', β', st', h1, h2, e1.trans h3, h4, h5⟩

section
variable {E : Env} {fin : St → Prop}

theorem at_le [Lay] {p : List Nat} {td : List It} {st st' : St} (h : At E fin (.code p :: td) st') (l : StLe E.nt st st') : At E fin (.code p :: td) st :=
  ⟨by obtain ⟨c, hc, hw⟩ := h.it; exact ⟨c, hc, hw.le l⟩⟩

theorem at_run [Lay] (hmix : E.P.follows .mixedOrders = true) {n : Nat} {td : List It} {st : St} (h : run E fin n td st) : At E fin td st := ⟨run_sound hmix n td st h⟩

/-- A loop's rounds, in whatever round it stands. -/
def roundsIn (ρ : Option Nat) (P : Program) (c : Code) (Q : Exit → Act → World → Prop) : Nat → Act → World → Prop
  | 0, _, _ => False
  | n + 1, a, w => c.wpIn (fen ρ) 0 P (Exit.then (roundsIn ρ P c Q n) Q) a w

theorem wpIn_loop_rounds {ρ : Option Nat} {P : Program} {Q : Exit → Act → World → Prop} {c : Code} (m : Nat) {a : Act} {w : World} (h : roundsIn ρ P c Q m a w) : (Code.loop c).wpIn (fen ρ) 0 P Q a w := by
  classical
  have hleast : ∀ (p : Nat → Prop) (m : Nat), p m → ∃ m, p m ∧ ∀ k, k < m → ¬ p k := fun p m => by
    induction m using Nat.strongRecOn with
    | _ m ih =>
      intro hm
      by_cases hk : ∃ k, k < m ∧ p k
      · obtain ⟨k, h1, h2⟩ := hk
        exact ih k h1 h2
      · exact ⟨m, hm, fun k h1 h2 => hk ⟨k, h1, h2⟩⟩
  have hex : ∀ a w, (∃ m, roundsIn ρ P c Q m a w) → ∃ m, roundsIn ρ P c Q m a w ∧ ∀ k, k < m → ¬ roundsIn ρ P c Q k a w := fun a w h => hleast _ h.choose h.choose_spec
  refine wpIn_loop (fun a w => ∃ m, roundsIn ρ P c Q m a w) (fun a w => if h : ∃ m, roundsIn ρ P c Q m a w then Classical.choose (hex a w h) else 0) ⟨m, h⟩ fun a w h => ?_
  obtain ⟨h1, h2⟩ := Classical.choose_spec (hex a w h)
  simp only [dif_pos h]
  generalize Classical.choose (hex a w h) = m at h1 h2
  cases m with
  | zero => exact h1.elim
  | succ m =>
    refine wpIn_mono h1 fun e a' w' hq => ?_
    cases e <;> first | exact hq | skip
    have h' : ∃ m, roundsIn ρ P c Q m a' w' := ⟨m, hq⟩
    refine ⟨h', ?_⟩
    simp only [dif_pos h']
    obtain ⟨k1, k2⟩ := Classical.choose_spec (hex a' w' h')
    exact Nat.lt_succ_of_le (Nat.le_of_not_lt fun hlt => k2 m hlt hq)

/-- A loop: a family of states at its head, and a measure that goes down from round to round. -/
theorem at_loop [Lay] {α : Type} (I : α → Prop) (S : α → St) (μ : α → Nat) {p : List Nat} {td : List It} {c : Code} (hs : sub E.root p = some (.loop c)) {st : St} {x : α} (hx : I x) (h0 : StLe E.nt st (S x))
    (hr : ∀ x, I x → At E fin (.code (p ++ [0]) :: .stop (fun st' => ∃ y, I y ∧ μ y < μ x ∧ StLe E.nt st' (S y)) :: td) (S x)) : At E fin (.code p :: td) st := by
  refine at_le ⟨⟨_, hs, ?_⟩⟩ h0
  intro ρ g β U a w o r
  have key : ∀ (m : Nat) (x : α) (g1 : G) (β1 : Nat → Nat) (a : Act) (w1 : World), I x → μ x < m → Rel E.nt g1 β1 U noY (S x) a w1 → Grow U g g1 → Kept U w w1 →
      roundsIn ρ E.P c (fun e a' w' => ∃ ex g' β' st', e = exitOf ex ∧ Rel E.nt g' β' U noY st' a' w' ∧ Grow U g g' ∧ Kept U w w' ∧ Cont E fin td ex st') m a w1 := by
    intro m
    induction m with
    | zero => intro x g1 β1 a w1 _ h; exact absurd h (Nat.not_lt_zero _)
    | succ m ih =>
      intro x g1 β1 a w1 hx hm r1 hg hk
      obtain ⟨c', hc', hw⟩ := (hr x hx).it
      rw [sub_append, hs] at hc'
      have hcc : c = c' := by simpa [sub] using hc'
      subst hcc
      refine wpIn_mono (hw ρ g1 β1 U a w1 (o.kept hk) r1) fun e a' w' ⟨ex, g', β', st', h1, h2, h3, h4, h5⟩ => ?_
      subst h1
      cases ex with
      | normal =>
        obtain ⟨y, hy, hlt, hle⟩ := h5
        obtain ⟨g2, β2, r2, e2⟩ := hle g' β' U a' w' h2
        exact ih y g2 β2 a' w' hy (by omega) r2 ((hg.trans h3).trans e2) (hk.trans h4)
      | ret => exact ⟨.ret, g', β', st', rfl, h2, hg.trans h3, hk.trans h4, h5⟩
      | exit i => exact ⟨.exit i, g', β', st', rfl, h2, hg.trans h3, hk.trans h4, h5⟩
  exact wpIn_loop_rounds (μ x + 1) (key (μ x + 1) x g β a w hx (by omega) r (Grow.refl U g) (Kept.refl U w))

end

/-- One slot's value, weaker. -/
inductive SlotLe : D → D → Prop
  | data {d d' : D} (h : Wk d d') (h0 : isD d = true) (hd : isD d' = true) : SlotLe d d'
  | own {cs cs' : List D} (h : Wks cs cs') : SlotLe (.own cs) (.own cs')

def SlLe (sl : Slots) : Slots → Prop
  | [] => True
  | (t, d') :: r => (∃ d, look sl t = some d ∧ SlotLe d d') ∧ SlLe sl r

theorem SlLe.get {sl : Slots} : ∀ {sl' : Slots}, SlLe sl sl' → ∀ {t : Nat} {d' : D}, look sl' t = some d' → ∃ d, look sl t = some d ∧ SlotLe d d'
  | [], _, _, _, h => by cases h
  | (s, e) :: r, h, t, d', hl => by
    simp only [look] at hl
    cases hb : Nat.beq s t with
    | true =>
      rw [hb] at hl; simp only [cond_true, Option.some.injEq] at hl; subst hl
      have := beq_eq.1 hb; subst this
      exact h.1
    | false => rw [hb] at hl; exact SlLe.get h.2 hl

/-- A box's row, weaker. -/
inductive RowLe : Row → Row → Prop
  | lit {cs cs' : List D} (h : Wks cs cs') : RowLe (.lit cs) (.lit cs')
  | arr {n : Nat} {f f' : Nat → D} (h : ∀ i, i < n → Wk (f i) (f' i)) : RowLe (.arr n f) (.arr n f')
  | loop {r : RecD} {j : Option Code} : RowLe (.loop r j) (.loop r j)
  | litT {T : Nat} {cs cs' : List D} (h : Wks cs cs') : RowLe (.litT T cs) (.litT T cs')
  | map {kk : Option IntKind} {has has' : MKey → Bool} {v v' : MV} (h : ∀ k, has k = has' k) (h2 : v.zero = v'.zero) (h3 : ∀ k, v.at k = v'.at k) : RowLe (.map kk has v) (.map kk has' v')

theorem RowLe.refl : ∀ row : Row, RowLe row row
  | .lit _ => .lit fun _ _ h => h
  | .arr _ _ => .arr fun _ _ _ _ h => h
  | .loop _ _ => .loop
  | .litT _ _ => .litT fun _ _ h => h
  | .map _ _ _ => .map (fun _ => rfl) rfl fun _ => rfl

/-- An array's content, weaker: or no longer known. -/
def VwLe (n : Nat) (c : Option (Nat → D)) : Option (Nat → D) → Prop
  | none => True
  | some f' => ∃ f, c = some f ∧ ∀ i, i < n → Wk (f i) (f' i) ∧ (ones (f i) = true → ones (f' i) = true)

theorem VwLe.refl (n : Nat) (c : Option (Nat → D)) : VwLe n c c := by
  cases c with
  | none => trivial
  | some f => exact ⟨f, rfl, fun i _ => ⟨fun _ _ h => h, fun h => h⟩⟩

theorem VwLe.act {n : Nat} {c c' : Option (Nat → D)} (h : VwLe n c c') {k : Tok} (ha : Actv k c') : Actv k c := by
  cases c' with
  | none =>
    have ha' : k.n < k.cap := ha
    cases c with
    | none => exact ha
    | some f => show 0 < k.cap; omega
  | some f' =>
    obtain ⟨f, rfl, _⟩ := h
    exact ha

theorem TokAt.le {g : G} {w : World} {U : Nat → Prop} {k : Tok} {c c' : Option (Nat → D)} (h : TokAt g w U k c) (hc : VwLe k.n c c') : TokAt g w U k c' := by
  obtain ⟨b, e1, e2, T, vals, e3, e4, e5, e6⟩ := h
  refine ⟨b, e1, e2, T, vals, e3, e4, fun j hj => e5 j (Nat.le_trans ?_ hj), fun f' hf' => ?_⟩
  · refine Nat.mul_le_mul_right _ ?_
    cases c' with
    | none =>
      cases c with
      | none => exact Nat.le_refl _
      | some f => exact Nat.zero_le _
    | some f' => obtain ⟨f, rfl, _⟩ := hc; exact Nat.le_refl _
  · subst hf'
    obtain ⟨f, rfl, hw⟩ := hc
    obtain ⟨h1, h2⟩ := e6 f rfl
    exact ⟨h1, fun i hi => by obtain ⟨u, f1, f2, f3⟩ := h2 i hi; exact ⟨u, (hw i hi).1 _ _ f1, ⟨f2.1, (hw i hi).2 f2.2⟩, f3⟩⟩

structure HeapLe (h h' : Heap) : Prop where
  box : ∀ l row', h'.box l = some row' → ∃ row, h.box l = some row ∧ RowLe row row'
  nl : h.nl ≤ h'.nl
  hw : ∀ t n, h'.hw t = some n → h.hw t = some n
  nt : h.nt ≤ h'.nt
  vw : ∀ t n, h'.hw t = some n → VwLe n (h.vw t) (h'.vw t)
  vz : ∀ t, h.vw t = none → h'.vw t = none

theorem HeapLe.refl (h : Heap) : HeapLe h h := ⟨fun l row' e => ⟨row', e, RowLe.refl row'⟩, Nat.le_refl _, fun _ _ h => h, Nat.le_refl _, fun _ _ _ => VwLe.refl _ _, fun _ h => h⟩

theorem RowAt.le {g : G} {w : World} {b : Nat} {row row' : Row} (h : RowAt g w b row) (l : RowLe row row') : RowAt g w b row' := by
  cases l with
  | lit hw => obtain ⟨T, vals, hb, hr⟩ := h; exact ⟨T, vals, hb, hw _ _ hr⟩
  | arr hw => obtain ⟨T, vals, hb, hr⟩ := h; exact ⟨T, vals, hb, hr.1, fun i hi => by obtain ⟨v, hv, h1⟩ := hr.2 i hi; exact ⟨v, hv, hw i hi _ _ h1⟩⟩
  | loop => exact h
  | litT hw => obtain ⟨vals, hb, hr⟩ := h; exact ⟨vals, hb, hw _ _ hr⟩
  | map h1 h2 h3 =>
    obtain ⟨es, c, hb, m1, m2, m3, m4⟩ := h
    exact ⟨es, c, hb, fun e he => by obtain ⟨k, q1, q2, q3⟩ := m1 e he; exact ⟨k, q1, by rw [← h1]; exact q2, by rw [← h3]; exact q3⟩, fun k hk => m2 k (by rw [h1]; exact hk), m3, fun k hk => by rw [← h3, ← h2]; exact m4 k (by rw [h1]; exact hk)⟩

theorem Inv.le [Lay] {g : G} {U : Nat → Prop} {h h' : Heap} {w : World} (i : Inv g U h w) (hh : HeapLe h h') : Inv g U h' w := by
  have hbx : ∀ l, h'.box l ≠ none → h.box l ≠ none := fun l hl hx => by
    cases hb : h'.box l with
    | none => exact hl hb
    | some row' => obtain ⟨row, hr, _⟩ := hh.box l row' hb; rw [hx] at hr; cases hr
  refine ⟨i.sub, i.ub, i.muLt, fun l row' e => ?_, fun l l' b e e' => i.boxInj l l' b (hbx l e) (hbx l' e'), fun t m e => ?_, fun t m k b l e e1 e2 e3 e4 => i.tokBox t m k b l (hh.hw _ _ e) e1 ((hh.vw _ _ e).act e2) e3 (hbx l e4),
    fun t t' m m' k k' b e e' e1 e2 e3 e4 => i.tokInj t t' m m' k k' b (hh.hw _ _ e) (hh.hw _ _ e') e1 e2 ((hh.vw _ _ e).act e3) ((hh.vw _ _ e').act e4), fun l hl => i.frL l (Nat.le_trans hh.nl hl), fun t ht => i.frT t (Nat.le_trans hh.nt ht), fun t ht => hh.vz t (i.frV t (Nat.le_trans hh.nt ht)), i.ltab⟩
  · obtain ⟨row, hr, hle⟩ := hh.box l row' e
    obtain ⟨b, f1, f2, f3, f4⟩ := i.box l row hr
    exact ⟨b, f1, f2.le hle, f3, f4⟩
  · obtain ⟨k, e1, e2, e3⟩ := i.tok t m (hh.hw _ _ e)
    subst e2
    have hv := hh.vw _ _ e
    exact ⟨k, e1, rfl, fun ha => (e3 (hv.act ha)).le hv⟩

theorem StLe.of [Lay] {n : Nat} {st st' : St} (hn : (st'.sl.map (·.1)).Nodup) (hs : SlLe st.sl st'.sl) (hh : HeapLe st.h st'.h) : StLe n st st' := by
  intro g β U a w r
  have i := r.inv
  refine ⟨g, β, ⟨r.defers, r.size, hn, fun t d' h => ?_, fun t d' s h _ hb => ?_, fun t cs' h => ?_, fun t t' cs cs' h h' e => ?_, ?_⟩, Grow.refl U g⟩
  · obtain ⟨d, h1, h2⟩ := hs.get h
    have h3 := r.slot t d h1
    cases h2 with
    | data hw h0 hd =>
      have hR : R g d (a.tmps.getD t undef) := by cases d <;> first | exact h3 | exact Bool.noConfusion (show false = true from h0)
      exact RS.ofRS0 (RS0.ofR (hw _ _ hR)) (isD_okMay hd)
    | own hw => exact h3
  · obtain ⟨d, h1, h2⟩ := hs.get h
    cases h2 with
    | data hw h0 hd => cases d' <;> first | exact Bool.noConfusion (show false = true from hd) | cases hb
    | own hw => cases hb
  · obtain ⟨d, h1, h2⟩ := hs.get h
    cases h2 with
    | data hw h0 hd => cases hd
    | own hw =>
      obtain ⟨e1, e2, e3, e4, e5⟩ := r.own t _ h1
      refine ⟨e1.le (.lit hw), e2, e3, fun l hl => e4 l fun hx => ?_, fun t' m k e f1 f2 => e5 t' m k (hh.hw _ _ e) f1 ((hh.vw _ _ e).act f2)⟩
      cases hb : st'.h.box l with
      | none => exact hl hb
      | some row' => obtain ⟨row, hr, _⟩ := hh.box l row' hb; rw [hx] at hr; cases hr
  · obtain ⟨d, h1, h2⟩ := hs.get h
    obtain ⟨d', h1', h2'⟩ := hs.get h'
    have hown : ∀ {d : D} {cs : List D}, SlotLe d (.own cs) → ∃ c, d = .own c := by
      intro d cs h
      cases h with
      | data hw h0 hd => cases hd
      | own hw => exact ⟨_, rfl⟩
    obtain ⟨c, rfl⟩ := hown h2
    obtain ⟨c', rfl⟩ := hown h2'
    exact r.ownInj t t' _ _ h1 h1' e
  · exact i.le hh

end Go.Ab
/- Entering a function: its contract from the run of its body. -/
namespace Go.Ab

def argSlots : Nat → List D → Slots
  | _, [] => []
  | k, d :: r => (k, d) :: argSlots (k + 1) r

def resD1 (P : Program) (st : St) : ResultVar → Option D
  | .tmp t => match look st.sl t with
    | some d => bif isD d then some d else none
    | none => none
  | .cell a t => match look st.sl a with
    | some (.own cs) => loadD P t cs
    | some (.bp l off) => match st.h.box l with
      | some (.lit cs) => loadD P t (cs.drop off)
      | _ => none
    | _ => none

def resDs (P : Program) (st : St) : List ResultVar → Option (List D)
  | [] => some []
  | r :: rs => match resD1 P st r, resDs P st rs with
    | some d, some ds => some (d :: ds)
    | _, _ => none

/-- What a function returns. -/
def resultsD (P : Program) (st : St) (rs : List ResultVar) : Option D :=
  match resDs P st rs with
  | some [d] => some d
  | some ds => some (.tup ds)
  | none => none

def finK (P : Program) (rs : List ResultVar) (K : D → Heap → Prop) (st : St) : Prop :=
  match resultsD P st rs with
  | some d => K d st.h
  | none => False

section
variable {P : Program} {n : Nat} {g : G} {β : Nat → Nat} {U : Nat → Prop} {st : St} {a : Act} {w : World}

def resM (tmps : Array Value) : ResultVar → Sem Value
  | .tmp t => pure (tmps.getD t undef)
  | .cell a t => do loadVar t (← asAddr (tmps.getD a undef))

theorem resD1_sound [Lay] (r : Rel n g β U noY st a w) {rv : ResultVar} {d : D} (h : resD1 P st rv = some d) : ∃ v, (resM a.tmps rv).run P w = .ok v w ∧ R g d v := by
  cases rv with
  | tmp t =>
    simp only [resD1] at h
    cases hl : look st.sl t with
    | none => rw [hl] at h; cases h
    | some e =>
      rw [hl] at h
      simp only at h
      cases hd : isD e with
      | false => rw [hd] at h; cases h
      | true =>
        rw [hd] at h; simp only [cond_true, Option.some.injEq] at h; subst h
        have h1 := r.slot t _ hl
        refine ⟨_, rfl, ?_⟩
        cases e <;> first | exact h1 | exact Bool.noConfusion (show false = true from hd)
  | cell x t =>
    simp only [resD1] at h
    split at h
    · rename_i cs hl
      have h1 := r.slot x _ hl
      simp only [RS] at h1
      obtain ⟨vs, h2, h3⟩ := cellsAt_row (r.own x cs hl).1 0
      obtain ⟨v, h4, h5⟩ := run_loadVar_of (P := P) h2 h3 h
      exact ⟨v, by simp [resM, h1, asAddr, h4], h5⟩
    · rename_i l off hl
      have h1 := r.slot x _ hl
      simp only [RS, RS0, R] at h1
      obtain ⟨b, hb, hv⟩ := h1
      split at h
      · rename_i cs hc
        obtain ⟨b', e1, e2, _⟩ := r.inv.box l _ hc
        rw [hb] at e1; cases e1
        obtain ⟨vs, h2, h3⟩ := cellsAt_row e2 off
        obtain ⟨v, h4, h5⟩ := run_loadVar_of (P := P) h2 h3 h
        exact ⟨v, by simp [resM, hv, asAddr, h4], h5⟩
      · cases h
    · cases h

theorem resDs_sound [Lay] (r : Rel n g β U noY st a w) : ∀ {rs : List ResultVar} {ds : List D}, resDs P st rs = some ds → ∃ vs : List Value, (rs.mapM (resM a.tmps)).run P w = .ok vs w ∧ Rs g ds vs
  | [], ds, h => by
    simp only [resDs, Option.some.injEq] at h; subst h
    exact ⟨[], by simp, rfl⟩
  | rv :: rs, ds, h => by
    simp only [resDs] at h
    split at h
    · rename_i d ds' h1 h2
      cases h
      obtain ⟨v, e1, e2⟩ := resD1_sound r h1
      obtain ⟨vs, e3, e4⟩ := resDs_sound r h2
      refine ⟨v :: vs, ?_, ?_⟩
      · simp only [List.mapM_cons, Sem.run_bind, e1, Result.andThen_ok, e3, Sem.run_pure]
      · simp only [Rs]; exact ⟨v, vs, rfl, e2, e4⟩
    · cases h

theorem results_eq (fn : Func) (tmps : Array Value) : results fn tmps = (do let vs ← fn.results.toList.mapM (resM tmps); pure (if h : vs.toArray.size = 1 then vs.toArray[0] else .tuple vs.toArray)) := by
  unfold results
  have hf : (fun (x : ResultVar) => match x with | .tmp t => (pure (tmps.getD t undef) : Sem Value) | .cell a t => do loadVar t (← asAddr (tmps.getD a undef))) = resM tmps := by
    funext x; cases x <;> rfl
  rw [← hf]
  rw [Array.mapM_eq_mapM_toList]
  simp only [map_eq_pure_bind, bind_assoc, pure_bind]
  rfl

theorem resultsD_sound [Lay] (r : Rel n g β U noY st a w) {fn : Func} {d : D} (h : resultsD P st fn.results.toList = some d) : ∃ v, (results fn a.tmps).run P w = .ok v w ∧ R g d v := by
  unfold resultsD at h
  split at h
  · rename_i d' hd
    cases h
    obtain ⟨vs, h1, h2⟩ := resDs_sound (P := P) r hd
    obtain ⟨v, rfl, hv⟩ := h2.one
    exact ⟨v, by rw [results_eq]; simp [Sem.run_bind, h1], hv⟩
  · rename_i ds hne hd
    cases h
    obtain ⟨vs, h1, h2⟩ := resDs_sound (P := P) r hd
    refine ⟨.tuple vs.toArray, ?_, by simp only [R]; exact ⟨vs, rfl, h2⟩⟩
    have hl : ¬ (vs.toArray.size = 1) := by
      intro hl
      have hl2 := h2.length
      cases ds with
      | nil => simp at hl2; subst hl2; simp at hl
      | cons x t =>
        cases t with
        | nil => exact hne x rfl
        | cons y t => simp at hl2 hl; omega
    rw [results_eq]
    simp only [Sem.run_bind, h1, Result.andThen_ok, dif_neg hl, Sem.run_pure]
  · cases h

theorem argSlots_look : ∀ (ds : List D) (k t : Nat) (d : D), look (argSlots k ds) t = some d → k ≤ t ∧ ds[t - k]? = some d
  | [], _, _, _, h => by cases h
  | e :: r, k, t, d, h => by
    simp only [argSlots, look] at h
    cases hb : Nat.beq k t with
    | true =>
      rw [hb] at h; simp only [cond_true, Option.some.injEq] at h; subst h
      have := beq_eq.1 hb; subst this
      simp
    | false =>
      rw [hb] at h
      obtain ⟨h1, h2⟩ := argSlots_look r (k + 1) t d h
      refine ⟨by omega, ?_⟩
      rw [show t - k = (t - (k + 1)) + 1 by omega]
      simpa using h2

theorem argSlots_keys : ∀ (ds : List D) (k : Nat), ((argSlots k ds).map (·.1)).Nodup ∧ ∀ t ∈ (argSlots k ds).map (·.1), k ≤ t
  | [], _ => ⟨List.nodup_nil, fun _ h => by cases h⟩
  | d :: r, k => by
    obtain ⟨h1, h2⟩ := argSlots_keys r (k + 1)
    refine ⟨?_, fun t ht => ?_⟩
    · simp only [argSlots, List.map_cons, List.nodup_cons]
      exact ⟨fun h => by have := h2 k h; omega, h1⟩
    · simp only [argSlots, List.map_cons, List.mem_cons] at ht
      rcases ht with rfl | ht
      · exact Nat.le_refl _
      · have := h2 t ht; omega

/-- A frame just entered. -/
theorem rel_enter [Lay] {args : List D} {vs : List Value} {h : Heap} (hn : args.length ≤ n) (hs : Rs g args vs) (i : Inv g U h w) :
    Rel n g β U noY ⟨argSlots 0 args, h⟩ { tmps := vs.toArray ++ Array.replicate (n - vs.toArray.size) undef, defers := [] } w := by
  have hl := hs.length
  have hdata : ∀ t d, look (argSlots 0 args) t = some d → ∃ v, vs[t]? = some v ∧ R g d v := fun t d h => by
    obtain ⟨_, h2⟩ := argSlots_look args 0 t d h
    exact hs.get t d (by simpa using h2)
  refine ⟨DefOk.nil U w, by simp; omega, (argSlots_keys args 0).1, fun t d h => ?_, fun t d s h _ hb => ?_, fun t cs h => ?_, fun t t' cs cs' h => ?_, i⟩
  · obtain ⟨v, h1, h2⟩ := hdata t d h
    have ht : t < vs.length := (List.getElem?_eq_some_iff.1 h1).1
    have : (vs.toArray ++ Array.replicate (n - vs.toArray.size) undef).getD t undef = v := by
      simp [Array.getElem?_append_left, ht, h1]
      have := List.getElem?_eq_some_iff.1 h1
      obtain ⟨_, e⟩ := this
      exact e
    rw [this]
    exact RS.ofRS0 (RS0.ofR h2) (isD_okMay h2.isD)
  · obtain ⟨v, _, h2⟩ := hdata t d h
    have := h2.noOwn.2.2 s
    exact absurd hb this
  · obtain ⟨v, _, h2⟩ := hdata t _ h
    exact absurd rfl (h2.noOwn.1 cs)
  · obtain ⟨v, _, h2⟩ := hdata t _ h
    exact absurd rfl (h2.noOwn.1 cs)

end

section
variable {P : Program} {f : Nat} {fn : Func} {c : Code}

/-- A function that holds loops over functions leaves: the marks, then the results. -/
theorem leaves_marks [Lay] {F : Fence} {g : G} {β : Nat → Nat} {U : Nat → Prop} {st : St} {tmps : Array Value} {d : D} (hd : resultsD P st fn.results.toList = some d) {R : Ending → World → Prop} :
    ∀ (bs : List Nat) (w : World), Rel fn.ntmps g β U noY st { tmps := tmps, defers := bs.map fun b => { target := .collected b, args := #[] } } w → bs.Nodup → (∀ b ∈ bs, w.heap[b]? = some (.deferred (some [])) ∧ ¬ U b) →
      (∀ v w', Ab.R g d v → Inv g U st.h w' → w'.os = w.os → w'.tape = w.tape → w'.output = w.output → w'.heap.size = w.heap.size → (∀ k, k ∉ bs → w'.heap[k]? = w.heap[k]?) → R (.returned v) w') →
      LeavesInM F 0 P fn tmps R (bs.map fun b => { target := .collected b, args := #[] }) .returning w
  | [], w, r, _, _, h => by
    obtain ⟨v, e1, e2⟩ := resultsD_sound r hd
    exact ⟨v, e1, h v w e2 r.inv rfl rfl rfl rfl fun _ _ => rfl⟩
  | b :: bs, w, r, hn, hb, h => by
    have hb0 := (hb b (List.mem_cons_self ..)).1
    have hn' := List.nodup_cons.1 hn
    have t := turn_putObj w b (.deferred none)
    have hnc : ∀ vals T z, w.heap[b]? ≠ some (.cells vals T z) := fun _ _ _ e => by rw [hb0] at e; cases e
    have hrow : ∀ l, st.h.box l ≠ none → g.μ l ≠ some b := fun l hl e => by
      cases hr : st.h.box l with
      | none => exact hl hr
      | some row =>
        obtain ⟨b', e1, e2, _⟩ := r.inv.box l row hr
        rw [e] at e1; cases e1
        exact e2.noDef hb0
    have hb' : ∀ k ∈ bs, (w.putObj b (.deferred none)).heap[k]? = some (.deferred (some [])) ∧ ¬ U k := fun k hk => ⟨(t.other k fun e => hn'.1 (e ▸ hk)).trans (hb k (List.mem_cons_of_mem _ hk)).1, (hb k (List.mem_cons_of_mem _ hk)).2⟩
    have r' := r.noCells (ds := bs.map fun b => { target := .collected b, args := #[] }) t hnc hrow ⟨bs, rfl, hn'.2, hb'⟩
    refine ⟨by simp, .inl ⟨b, _, rfl, run_takeDeferred hb0, ?_⟩⟩
    refine leaves_marks hd bs _ r' hn'.2 hb' fun v w' e1 e2 e3 e4 e5 e6 e7 => h v w' e1 e2 e3 e4 e5 (e6.trans t.size) fun k hk => ?_
    exact (e7 k fun hm => hk (List.mem_cons_of_mem _ hm)).trans (t.other k fun e => hk (e ▸ List.mem_cons_self ..))

/-- What a call of f leaves, from the run of its body. -/
theorem callA_of_run [Lay] (hmix : P.follows .mixedOrders = true) (hf : P.funcs[f]? = some fn) (hb : fn.body = some c) (hname : (fn.name == "runtime.NumGoroutine") = false) {cfg : Cfg} {args : List D} {h : Heap} {K : D → Heap → Prop}
    (hn : Nat.ble args.length fn.ntmps = true) {N : Nat} (hr : run ⟨P, cfg, c, fn.ntmps⟩ (finK P fn.results.toList K) N [.code []] ⟨argSlots 0 args, h⟩) : CallA P f args h K := by
  refine ⟨⟨fn, hf, by rw [hb]; rfl, hname⟩, fun g U w vs i hs => (callsIn_wide (n := 0)).1 (callsIn_of_wp_marks hf hb trivial ?_)⟩
  obtain ⟨c', hc', hw⟩ := run_sound (E := ⟨P, cfg, c, fn.ntmps⟩) hmix N _ _ hr
  have hcc : c = c' := by
    have : sub c [] = some c := by cases c <;> rfl
    have h2 : sub c [] = some c' := hc'
    rw [this] at h2; cases h2; rfl
  subst hcc
  have i' := i.defsU
  refine wpIn_mono (hw none g (fun _ => 0) _ _ w (fun _ h => by cases h) (rel_enter (Nat.le_of_ble_eq_true hn) hs i')) fun e a' w' ⟨ex, g', β', st', h1, h2, h3, h4, h5⟩ => ?_
  subst h1
  have done : finK P fn.results.toList K st' → LeavesInM Fence.wide 0 P fn a'.tmps (fun e w' => ∃ (x : Value) (g' : G) (d : D) (h' : Heap), e = .returned x ∧ R g' d x ∧ Inv g' U h' w' ∧ Grow U g g' ∧ Kept U w w' ∧ K d h') a'.defers .returning w' := by
    intro hk
    unfold finK at hk
    split at hk
    · rename_i d hd
      obtain ⟨bs, e0, hn', hbs⟩ := h2.defers
      have h2' : Rel fn.ntmps g' β' (defsU U w) noY st' { tmps := a'.tmps, defers := bs.map fun b => { target := .collected b, args := #[] } } w' := by rw [← e0]; exact h2
      rw [e0]
      refine leaves_marks hd bs w' h2' hn' hbs fun v w'' e1 e2 e3 e4 e5 e6 e7 => ⟨v, g', d, st'.h, rfl, e1, e2.lessU fun _ h => .inl h, h3.lessU fun _ h => .inl h, ?_, hk⟩
      exact ⟨e3.trans h4.os, e4.trans h4.tape, e5.trans h4.output, by rw [e6]; exact h4.size, fun k hk => (e7 k fun hm => (hbs k hm).2 (.inl hk)).trans (h4.block k (.inl hk)), fun k hk => (e7 k fun hm => (hbs k hm).2 (.inr hk)).trans (h4.defs k hk)⟩
    · exact hk.elim
  cases ex with
  | normal => exact done h5
  | ret => exact done h5
  | exit i => exact h5.elim

/-- The contract of a function that only computes, from the run of its body. -/
theorem pure_of_run [Lay] (hmix : P.follows .mixedOrders = true) (hf : P.funcs[f]? = some fn) (hb : fn.body = some c) (hname : (fn.name == "runtime.NumGoroutine") = false) {cfg : Cfg} {args : List D} {v : D} (da : Datas args) (dv : Data v)
    (hn : Nat.ble args.length fn.ntmps = true) {N : Nat} (hr : run ⟨P, cfg, c, fn.ntmps⟩ (finK P fn.results.toList fun d _ => Wk d v) N [.code []] ⟨argSlots 0 args, .empty⟩) : Pure P f args v := by
  have hc := callA_of_run hmix hf hb hname hn hr
  refine ⟨hc.ok, da, dv, fun g w vs la sub hs => ?_⟩
  let g0 : G := ⟨g.σ, fun _ => none, fun _ => none⟩
  have i : Inv g0 (fun b => b < w.heap.size) .empty w := ⟨sub, fun _ h => h, fun _ _ h => (by cases h), fun _ _ h => (by cases h), fun l _ _ h => absurd rfl h, fun _ _ h => (by cases h), fun _ _ _ _ _ h => (by cases h), fun _ _ _ _ _ _ _ h => (by cases h), fun _ _ => rfl, fun _ _ => rfl, fun _ _ => rfl, la⟩
  refine Calls.mono (hc.calls g0 (fun b => b < w.heap.size) w vs i (Rs.data (g := g) (g' := g0) (fun _ _ h => h) args vs da hs)) fun e w' ⟨x, g', d, h', h1, h2, h3, h4, h5, h6⟩ => ⟨x, g'.σ, h1, R.data (g := g') (g' := ⟨g'.σ, g.μ, g.τ⟩) (fun _ _ h => h) v x dv (h6 _ _ h2), h4.le.σ, h3.sub, fun a y h => ?_, ⟨h5.os, h5.tape, h5.output, h5.size, fun b hb => h5.block b hb⟩⟩
  rcases h4.new a y h with h | h
  · exact .inl h
  · exact .inr (Nat.le_of_not_lt h)

theorem CallA.of_pure [Lay] {args args' : List D} {v : D} {h : Heap} {K : D → Heap → Prop} (p : Pure P f args' v) (hw : Wks args args') (hk : K v h) : CallA P f args h K := by
  refine ⟨p.ok, fun g U w vs i hs => Calls.mono (p.calls g w vs i.ltab i.sub (hw _ _ hs)) fun e w' ⟨x, σ', h1, h2, h3, h4, h5, h6⟩ => ?_⟩
  have hx : Ext g w ⟨σ', g.μ, g.τ⟩ w' := ⟨⟨h3, fun _ _ h => h, fun _ k h => ⟨k, h, rfl, Nat.le_refl _, fun _ => rfl⟩⟩, rfl, rfl, h5, h4, h6⟩
  exact ⟨x, _, v, h, h1, h2, i.ext hx, hx.grow i.ub, hx.kept i.ub, hk⟩

theorem PCall.of_pure [Lay] {args args' : List D} {v : D} {h : Heap} {b : Bool} {K : D → Heap → Prop} (p : b = true → Wks args args' ∧ Pure P f args' v) (hv : isD v = true) (hk : K v h) : PCall P b f args h K := ⟨args', v, hv, p, hk⟩

end
end Go.Ab
/- Helpers for contracts: lists by their elements, weakening, conditions. -/
namespace Go.Ab

theorem of_eq {p q : Prop} (h : p = q) (hq : q) : p := h ▸ hq

/-- A list as a slice of elements of sz cells each. -/
def L {α : Type} [Inhabited α] (es : List α) (sz : Nat) (enc : α → D) : D := .list es.length sz (fun i => enc (es.getD i default)) .none

theorem Wk.refl (d : D) : Wk d d := fun _ _ h => h
theorem Wk.of_eq {d d' : D} (h : d = d') : Wk d d' := h ▸ Wk.refl d
theorem Wk.trans {a b c : D} (h : Wk a b) (k : Wk b c) : Wk a c := fun g v r => k g v (h g v r)
theorem Wks.refl (ds : List D) : Wks ds ds := fun _ _ h => h
theorem Wks.cons {d d' : D} {ds ds' : List D} (h : Wk d d') (k : Wks ds ds') : Wks (d :: ds) (d' :: ds') := fun g vs r => by
  simp only [Rs] at r ⊢
  obtain ⟨v, r', e, h1, h2⟩ := r
  exact ⟨v, r', e, h _ _ h1, k _ _ h2⟩
theorem Wks.nil : Wks [] [] := Wks.refl []
theorem Wk.agg {cs cs' : List D} (h : Wks cs cs') : Wk (.agg cs) (.agg cs') := fun g v r => by
  simp only [R] at r ⊢
  obtain ⟨vs, e, hs⟩ := r
  exact ⟨vs, e, h _ _ hs⟩
theorem Wk.tup {cs cs' : List D} (h : Wks cs cs') : Wk (.tup cs) (.tup cs') := fun g v r => by
  simp only [R] at r ⊢
  obtain ⟨vs, e, hs⟩ := r
  exact ⟨vs, e, h _ _ hs⟩

/-- A slice, weaker: other elements that are the same where they count, no append right. -/
theorem Wk.list {n n' sz sz' : Nat} {f f' : Nat → D} {own own' : Own} (hn : n = n') (hs : sz = sz' ∨ n = 0) (hf : ∀ i, i < n → f i = f' i) (ho : own' = .none ∨ own' = own) : Wk (.list n sz f own) (.list n' sz' f' own') := by
  intro g v r
  subst hn
  simp only [R] at r ⊢
  obtain ⟨h1, a, cap, h2, h3, h4, h5⟩ := r
  refine ⟨h1, a, cap, h2, h3, ?_, fun i hi => ?_⟩
  · rcases ho with rfl | rfl
    · trivial
    · exact h4
  · have hs' : sz = sz' := by rcases hs with h | h; exact h; omega
    subst hs'
    rw [← hf i hi]
    exact h5 i hi

theorem L.data {α : Type} [Inhabited α] {es : List α} {sz : Nat} {enc : α → D} (h : ∀ x, Ab.Data (enc x)) : Ab.Data (L es sz enc) := by
  simp only [L, Ab.Data]
  exact ⟨fun i _ => h _, fun t sz h => by cases h⟩

theorem cond_intro {b : Bool} {p q : Prop} (h1 : b = true → p) (h2 : b = false → q) : (bif b then p else q) := by
  cases b
  · exact h2 rfl
  · exact h1 rfl

end Go.Ab
