/- The executor is sound, 13: the operations of a region in their order, joined. -/
import Derived.Test.YtmlhaikblfjghaaA16
namespace Go.Ab

/-- What an effect leaves of the slots: all but one box of the frame's own. -/
def SlSame (st st' : St) : Prop := st'.sl = st.sl ∨ ∃ s cs, st'.sl = setOwn st.sl s cs

theorem SlSame.may {st st' : St} (h : SlSame st st') {t j : Nat} {w0 : Bool} {d : D} (hl : look st'.sl t = some (.may j w0 d)) : look st.sl t = some (.may j w0 d) := by
  rcases h with h | ⟨s, cs, h⟩
  · rw [h] at hl; exact hl
  · rw [h] at hl
    by_cases hs : t = s
    · subst hs
      cases h0 : look st.sl t with
      | none =>
        have : ∀ sl : Slots, look sl t = none → look (setOwn sl t cs) t = none := by
          intro sl; induction sl with
          | nil => intro _; rfl
          | cons x r ih =>
            obtain ⟨x1, x2⟩ := x
            intro h1
            simp only [look] at h1
            cases hb : Nat.beq x1 t with
            | true => rw [hb] at h1; simp at h1
            | false =>
              rw [hb] at h1
              simp only [cond_false] at h1
              simp only [setOwn, List.map_cons, hb, cond_false, look]
              exact ih h1
        rw [this _ h0] at hl; cases hl
      | some e => rw [look_setOwn_same _ _ _ h0] at hl; cases hl
    · rw [look_setOwn_other _ _ _ _ hs] at hl; exact hl

theorem cond_eff {c : Bool} {A : Res} {p : Prop} {st' : St} {d : D} (h : (bif c then A else .bad) = .eff p st' d) : A = .eff p st' d := by
  cases c
  · cases h
  · exact h
theorem cond_eff' {c : Bool} {A : Res} {p : Prop} {st' : St} {d : D} (h : (bif c then .bad else A) = .eff p st' d) : A = .eff p st' d := by
  cases c
  · exact h
  · cases h

theorem optRes_eff {x : Option D} {p : Prop} {st' : St} {d : D} (h : optRes x = .eff p st' d) : False := by cases x <;> cases h

theorem newRes_eff {cfg : Cfg} {st : St} {dst : Option Nat} {cs : List D} {p : Prop} {st' : St} {d : D} (h : newRes cfg st dst cs = .eff p st' d) : st'.sl = st.sl := by
  unfold newRes at h
  split at h
  · rename_i t
    cases he : cfg.esc t with
    | true => rw [he] at h; cases h; rfl
    | false => rw [he] at h; cases h
  · cases h

theorem binD_noEff {P : Program} {op : BinOp} {T : Nat} {x z : D} {p : Prop} {st1 : St} {d : D} (h : binD P op T x z = .eff p st1 d) : False := by
  unfold binD at h
  split at h
  · split at h
    · cases h
    · cases h
    · replace h := cond_eff h; split at h <;> cases h
  · split at h <;> cases h
  · split at h <;> cases h
  · replace h := cond_eff' h; split at h <;> cases h
  · cases h

theorem binOD_noEff {P : Program} {op : BinOp} {T : Nat} {y : Operand} {x z : D} {p : Prop} {st1 : St} {d : D} (h : binOD P op T y x z = .eff p st1 d) : False := by
  unfold binOD at h
  cases hz : isNilOp y with
  | true =>
    rw [hz] at h
    simp only [cond_true, nilD] at h
    split at h <;> cases h
  | false => rw [hz] at h; exact binD_noEff h

theorem appD_eff {P : Program} {st : St} {bx : Bool} {t : Nat} {x z : D} {p : Prop} {st' : St} {d : D} (h : appD P st bx t x z = .eff p st' d) : st'.sl = st.sl := by
  unfold appD at h
  split at h
  · split at h
    · rename_i sz b zd _ _ _
      cases hc : (isD zd && Nat.beq (cellsD zd).length sz) with
      | false => rw [hc] at h; cases h
      | true =>
        rw [hc] at h; simp only [cond_true] at h
        split at h
        · rename_i n0 ez f own m g _
          cases hc3 : (bif Nat.beq ez sz then true else Nat.beq n0 0) with
          | false => rw [hc3] at h; cases h
          | true =>
            rw [hc3] at h; simp only [cond_true] at h
            split at h
            · cases h
            · cases bx with
              | true => cases h; rfl
              | false => cases h; rfl
            · rename_i tk tz
              cases hc4 : Nat.beq sz tz with
              | false => rw [hc4] at h; cases h
              | true => rw [hc4] at h; cases h; rfl
        · cases h
    · cases h
  · cases h

theorem builtinD_eff {P : Program} {st : St} {bx : Bool} {b : Builtin} {ts : List Nat} {l : List D} {p : Prop} {st' : St} {d : D} (h : builtinD P st bx b ts l = .eff p st' d) : st'.sl = st.sl := by
  unfold builtinD at h
  split at h
  · split at h <;> cases h
  · split at h <;> cases h
  · split at h <;> cases h
  · split at h
    · exact appD_eff h
    · exact appD_eff h
    · cases h
  · split at h <;> cases h
  · split at h <;> cases h
  · cases h

theorem makeD_eff {P : Program} {st : St} {t : Nat} {l c : D} {p : Prop} {st' : St} {d : D} (h : makeD P st t l c = .eff p st' d) : st'.sl = st.sl := by
  unfold makeD at h
  split at h
  · split at h
    · rename_i sz b z _ _ _
      cases hc : (isD z && Nat.beq (cellsD z).length (sz + 1)) with
      | false => rw [hc] at h; cases h
      | true => rw [hc] at h; cases h; rfl
    · cases h
  · cases h

theorem storeRes_eff {P : Program} {st : St} {t : Nat} {x v : D} {p : Prop} {st' : St} {d : D} (h : storeRes P st t x v = .eff p st' d) : SlSame st st' := by
  unfold storeRes at h
  split at h
  · rename_i m _ _
    cases hc : (Nat.beq (cellsD v).length m && (cellsD v).all oneD) with
    | false => rw [hc] at h; cases h
    | true =>
      rw [hc] at h; simp only [cond_true] at h
      split at h
      · rename_i s off
        split at h
        · rename_i cs _
          cases hc2 : Nat.ble (off + m) cs.length with
          | false => rw [hc2] at h; cases h
          | true => rw [hc2] at h; cases h; exact .inr ⟨_, _, rfl⟩
        · cases h
      · split at h
        · split at h
          · cases h; exact .inl rfl
          · cases h
        · cases h
      · cases h
  · cases h

theorem opD_eff {P : Program} {cfg : Cfg} {st : St} {ev : Operand → D} {dst : Option Nat} {o : Op} {p : Prop} {st' : St} {d : D} (h : opD P cfg st ev dst o = .eff p st' d) : SlSame st st' := by
  unfold opD at h
  split at h
  · split at h <;> cases h
  · split at h <;> cases h
  · split at h
    · exact .inl (newRes_eff (cond_eff h))
    · cases h
  · exact .inl (newRes_eff (cond_eff h))
  · exact (optRes_eff h).elim
  · exact (optRes_eff h).elim
  · unfold loadRes at h
    split at h
    · split at h
      · exact (optRes_eff h).elim
      · cases h
    · exact (optRes_eff h).elim
    · split at h
      · unfold rowLoad at h
        split at h
        · exact (optRes_eff h).elim
        · split at h
          · replace h := cond_eff h; cases h
          · cases h
          · cases h
      · cases h
    · cases h
  · exact storeRes_eff h
  · unfold nilCheckD at h
    split at h <;> cases h
  · exact (binOD_noEff h).elim
  · unfold unD at h; split at h <;> cases h
  · unfold convD at h; split at h <;> cases h
  · replace h := cond_eff h; cases h
  · exact .inl (makeD_eff h)
  · unfold sliceD at h
    split at h
    · split at h
      · replace h := cond_eff h; split at h <;> cases h
      · cases h
    · split at h <;> cases h
    · split at h <;> cases h
    · cases h
  · unfold fieldAddrD at h
    split at h
    · split at h <;> cases h
    · cases h
  · unfold indexAddrD at h
    split at h
    · split at h
      · replace h := cond_eff h; cases h
      · cases h
    · split at h <;> cases h
    · cases h
  · unfold indexD at h; split at h <;> cases h
  · split at h
    · exact (optRes_eff h).elim
    · cases h
  · split at h
    · split at h
      · replace h := cond_eff h; cases h
      · cases h
    · exact .inl (builtinD_eff (cond_eff h))
    · cases h
  · cases h

end Go.Ab
