/- The executor is sound, 16: an operation's outcome hangs on what it names alone. -/
import Derived.Test.YtmlhaikblfjghaaA19
namespace Go.Ab

/-- The same outcome in another state. `own`: the slot whose box is stored into. -/
def ResSame (st st' : St) (own : Option Nat) : Res → Res → Prop
  | .eff p st1 d, r' => (∀ s, own = some s → ∃ cs, st1 = { st with sl := setOwn st.sl s cs } ∧ r' = .eff p { st' with sl := setOwn st'.sl s cs } d) ∧
      (own = none → st.h = st'.h → ∃ h1, st1 = { st with h := h1 } ∧ r' = .eff p { st' with h := h1 } d)
  | .bad, _ => True
  | r, r' => r' = r

theorem ResSame.refl {st st' : St} {own : Option Nat} {r : Res} (h : ∀ p st1 d, r ≠ .eff p st1 d) : ResSame st st' own r r := by
  cases r <;> first | rfl | trivial | exact absurd rfl (h _ _ _)

theorem ResSame.cond {st st' : St} {own : Option Nat} {c : Bool} {r r' : Res} (h : ResSame st st' own r r') : ResSame st st' own (bif c then r else .bad) (bif c then r' else .bad) := by
  cases c
  · trivial
  · exact h

theorem ResSame.heap {st st' : St} {p : Prop} {h1 h1' : Heap} {d d' : D} (h : st.h = st'.h → h1' = h1 ∧ d' = d) : ResSame st st' none (.eff p { st with h := h1 } d) (.eff p { st' with h := h1' } d') :=
  ⟨fun s hs => (by cases hs), fun _ hh => ⟨h1, rfl, (by obtain ⟨e1, e2⟩ := h hh; rw [e1, e2])⟩⟩

theorem optRes_same {st st' : St} {own : Option Nat} {x : Option D} : ResSame st st' own (optRes x) (optRes x) := .refl fun _ _ _ h => optRes_eff h

section
variable {P : Program} {cfg : Cfg} {st st' : St} {ev ev' : Operand → D} {dst : Option Nat}

theorem newRes_same {cs : List D} : ResSame st st' none (newRes cfg st dst cs) (newRes cfg st' dst cs) := by
  unfold newRes
  cases dst with
  | none => trivial
  | some t =>
    simp only
    cases cfg.esc t with
    | false => rfl
    | true =>
      refine ⟨fun s hs => (by cases hs), fun _ hh => ?_⟩
      exact ⟨{ st.h with box := upd st.h.box st.h.nl (some (.lit cs)), nl := st.h.nl + 1 }, rfl, by rw [hh]; rfl⟩

theorem appD_same {bx : Bool} {t : Nat} {x z : D} : ResSame st st' none (appD P st bx t x z) (appD P st' bx t x z) := by
  unfold appD
  split
  · split
    · refine .cond ?_
      split
      · refine .cond ?_
        split
        · first | rfl | trivial
        · cases bx with
          | true => exact ⟨fun s hs => (by cases hs), fun _ hh => ⟨_, rfl, by rw [hh]; rfl⟩⟩
          | false => exact ⟨fun s hs => (by cases hs), fun _ hh => ⟨_, rfl, by rw [hh]; rfl⟩⟩
        · refine .cond ?_
          exact ⟨fun s hs => (by cases hs), fun _ hh => ⟨_, rfl, by rw [hh]⟩⟩
      · first | rfl | trivial
    · first | rfl | trivial
  · first | rfl | trivial

theorem builtinD_same {bx : Bool} {b : Builtin} {ts : List Nat} {l : List D} : ResSame st st' none (builtinD P st bx b ts l) (builtinD P st' bx b ts l) := by
  unfold builtinD
  split
  · split <;> first | rfl | trivial
  · split <;> first | rfl | trivial
  · split <;> first | rfl | trivial
  · split
    · exact appD_same
    · exact appD_same
    · first | rfl | trivial
  · split <;> first | rfl | trivial
  · split <;> first | rfl | trivial
  · first | rfl | trivial

theorem makeD_same {t : Nat} {l c : D} : ResSame st st' none (makeD P st t l c) (makeD P st' t l c) := by
  unfold makeD
  split
  · split
    · refine .cond ?_
      exact ⟨fun s hs => (by cases hs), fun _ hh => ⟨_, rfl, by rw [hh]⟩⟩
    · first | rfl | trivial
  · first | rfl | trivial

theorem ownCells_same {s : Nat} (h : look st.sl s = look st'.sl s) : ownCells st'.sl s = ownCells st.sl s := by simp [ownCells, h]

theorem loadRes_same {t : Nat} {a : D} (hb : ∀ s, baseOf a = some s → look st.sl s = look st'.sl s) (hh : isBp a = true → st.h = st'.h) {own : Option Nat} :
    ResSame st st' own (loadRes P st t a) (loadRes P st' t a) := by
  unfold loadRes
  split
  · rename_i s off
    rw [ownCells_same (hb s rfl)]
    split
    · exact optRes_same
    · first | rfl | trivial
  · exact optRes_same
  · rename_i l off
    rw [hh rfl]
    refine .refl fun p st1 d he => ?_
    split at he
    · unfold rowLoad at he
      split at he
      · exact optRes_eff he
      · split at he
        · replace he := cond_eff he; cases he
        · cases he
        · cases he
    · cases he
  · first | rfl | trivial

theorem storeRes_same {t : Nat} {a v : D} (hb : ∀ s, baseOf a = some s → look st.sl s = look st'.sl s) : ResSame st st' (baseOf a) (storeRes P st t a v) (storeRes P st' t a v) := by
  unfold storeRes
  split
  · refine .cond ?_
    split
    · rename_i s off
      rw [ownCells_same (hb s rfl)]
      split
      · refine .cond ?_
        exact ⟨fun s' hs => (by cases hs; exact ⟨_, rfl, rfl⟩), fun hn => (by cases hn)⟩
      · first | rfl | trivial
    · rename_i l off
      by_cases hh : st.h = st'.h
      · rw [← hh]
        split
        · split
          · exact ⟨fun s hs => (by cases hs), fun _ _ => ⟨_, rfl, by rw [hh]⟩⟩
          · first | rfl | trivial
        · first | rfl | trivial
      · cases hbx : st.h.box l with
        | none => exact True.intro
        | some row =>
          simp only
          cases hrs : rowStore off (cellsD v) row with
          | none => exact True.intro
          | some q =>
            obtain ⟨p, row'⟩ := q
            exact ⟨fun s hs => (by cases hs), fun _ h2 => absurd h2 hh⟩
    · first | rfl | trivial
  · first | rfl | trivial

theorem sliceD_noEff {T : Nat} {x : D} {lo hi mx : Option D} {p : Prop} {st1 : St} {d : D} (h : sliceD P T x lo hi mx = .eff p st1 d) : False := by
  unfold sliceD at h
  split at h
  · split at h
    · replace h := cond_eff h; split at h <;> cases h
    · cases h
  · split at h <;> cases h
  · split at h <;> cases h
  · cases h

theorem opD_st {op : Op} (hb : ∀ x ∈ op.operands, ∀ s, baseOf (ev x) = some s → look st.sl s = look st'.sl s) (hh : readsH ev op = true → st.h = st'.h) :
    ResSame st st' (effOwn ev op) (opD P cfg st ev dst op) (opD P cfg st' ev dst op) := by
  cases op with
  | alloc t =>
    simp only [opD]
    split
    · exact .cond newRes_same
    · first | rfl | trivial
  | box t x => exact .cond newRes_same
  | load t a => exact loadRes_same (hb a (by simp [Op.operands])) hh
  | store t a v => exact storeRes_same (hb a (by simp [Op.operands]))
  | makeSlice t l c => exact makeD_same
  | call c =>
    simp only [opD]
    split
    · split
      · exact .cond rfl
      · trivial
    · exact .cond builtinD_same
    · trivial
  | move x => simp only [opD]; split <;> first | rfl | trivial
  | assign x => simp only [opD]; split <;> first | rfl | trivial
  | build t parts => exact optRes_same
  | buildSlice t len parts => exact optRes_same
  | nilCheck x => exact .refl fun p st1 d h => by change nilCheckD (ev x) = _ at h; unfold nilCheckD at h; split at h <;> cases h
  | makeFunc f first caps =>
    cases f with
    | func f => exact .cond rfl
    | _ => trivial
  | extract x i =>
    simp only [opD]
    split
    · exact optRes_same
    · trivial
  | binOp bop t x z t' => exact .refl fun p st1 d h => binOD_noEff h
  | unOp uop t x => exact .refl fun p st1 d h => by change unD uop (ev x) = _ at h; unfold unD at h; split at h <;> cases h
  | convert s t x => exact .refl fun p st1 d h => by change convD P s t (ev x) = _ at h; unfold convD at h; split at h <;> cases h
  | slice t x lo hi mx => exact .refl fun p st1 d h => sliceD_noEff h
  | fieldAddr t x f =>
    refine .refl fun p st1 d h => ?_
    change fieldAddrD P t f (ev x) = _ at h
    unfold fieldAddrD at h
    split at h
    · split at h <;> cases h
    · cases h
  | indexAddr t x i =>
    refine .refl fun p st1 d h => ?_
    change indexAddrD P t (ev x) (ev i) = _ at h
    unfold indexAddrD at h
    split at h
    · split at h
      · replace h := cond_eff h; cases h
      · cases h
    · split at h <;> cases h
    · cases h
  | index t x i => exact .refl fun p st1 d h => by change indexD P t (ev x) (ev i) = _ at h; unfold indexD at h; split at h <;> cases h
  | _ => trivial

theorem opD_ev {op : Op} (h : ∀ x ∈ op.operands, ev x = ev' x) : opD P cfg st ev dst op = opD P cfg st ev' dst op := by
  have pairs : ∀ ps : Array (Nat × Operand), (∀ x ∈ ps.map (·.2), ev x = ev' x) → (ps.toList.map fun (x : Nat × Operand) => (x.1, ev x.2)) = (ps.toList.map fun (x : Nat × Operand) => (x.1, ev' x.2)) := fun ps hp =>
    List.map_congr_left fun p hm => by
      rw [hp p.2 (Array.mem_map.2 ⟨p, by simpa using hm, rfl⟩)]
  have arr : ∀ ps : Array Operand, (∀ x ∈ ps, ev x = ev' x) → ps.toList.map ev = ps.toList.map ev' := fun ps hp => List.map_congr_left fun x hx => hp x (by simpa using hx)
  cases op <;> simp only [Op.operands] at h <;> simp only [opD]
  case build t ps => rw [pairs ps fun x hx => h x (by simpa using hx)]
  case buildSlice t m ps => rw [pairs ps fun x hx => h x (by simpa using hx)]
  case makeFunc f first caps =>
    cases f <;> simp only []
    rw [arr caps fun x hx => h x (by simp [hx])]
  case call c =>
    have ha : c.args.toList.map ev = c.args.toList.map ev' := arr c.args fun x hx => h x (by simp [Call.operands, hx])
    simp only [ha]
    cases hc : c.callee with
    | value f => have hf : ev f = ev' f := h f (by simp [Call.operands, hc]); simp only [hf]
    | invoke r m => rfl
    | builtin b => rfl
  case slice t x lo hi mx => cases lo <;> cases hi <;> cases mx <;> simp_all
  all_goals (first | rfl | (simp_all; done))

end
end Go.Ab
