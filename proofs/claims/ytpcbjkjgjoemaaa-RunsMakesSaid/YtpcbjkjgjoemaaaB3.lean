/- The executor is sound, 7: append. -/
import Derived.Test.YtpcbjkjgjoemaaaB2
namespace Go.Ab

/-- An append right laid anew: where the array lies, how many are in use, how many fit; its cells in use are unchanging from now on. -/
def setTok (g : G) (t b : Nat) (vals : Array Value) (k : Tok) : G :=
  { g with
    σ := fun x => if x.block = b then (if x.spot = none ∧ x.off < k.n * k.sz then vals[x.off]? else none) else g.σ x
    τ := upd g.τ t (some k) }

theorem draw_ext {g : G} {U : Nat → Prop} {h : Heap} {w : World} (i : Inv g U h w) : Ext g w g w.drew := ⟨G.le.refl g, rfl, rfl, fun _ _ e => .inl e, i.sub, ⟨rfl, rfl, rfl, Nat.le_refl _, fun _ _ => rfl⟩⟩

section
variable {P : Program} {n : Nat} {g : G} {β : Nat → Nat} {U : Nat → Prop} {y : Nat → Bool → Prop} {st : St} {a : Act} {w : World} {ev : Operand → D} {o : Oper}

/-- The heap with an append right for m elements. -/
def tokH (h : Heap) (t m nt : Nat) : Heap := { h with hw := upd h.hw t (some m), nt := nt }

/-- A new array for a slice that grows: `t`: its append right. -/
theorem Rel.newTok (r : Rel n g β U y st a w) {t nt : Nat} {vals : Array Value} {T : Nat} {k : Tok} (ha : k.a = some ⟨w.heap.size, 0, none⟩) (hnc : k.n ≤ k.cap) (hv : k.cap * k.sz ≤ vals.size)
    (ht : t < nt) (hnt : st.h.nt ≤ nt) (hvt : st.h.vw t = none) (hle : ∀ k0, g.τ t = some k0 → k0.sz = k.sz ∧ k0.n < k.n) :
    Rel n (setTok g t w.heap.size vals k) β U y { st with h := tokH st.h t k.n nt } a (w.alloc (.cells vals T (0, 0))) ∧ G.le g (setTok g t w.heap.size vals k) := by
  have r1 := r.ext (Ext.alloc r.inv (.cells vals T (0, 0)))
  have i := r1.inv
  have le : G.le g (setTok g t w.heap.size vals k) := by
    refine ⟨fun x v e => ?_, fun _ _ e => e, fun t' k0 e => ?_⟩
    · have := r.inv.cellLt e
      simp only [setTok]; rw [if_neg (by omega)]; exact e
    · by_cases hx : t' = t
      · subst hx
        obtain ⟨h1, h2⟩ := hle k0 e
        exact ⟨k, by simp [setTok, upd_same], h1.symm, by omega, fun h => by omega⟩
      · exact ⟨k0, by simp only [setTok, upd_other _ _ hx]; exact e, rfl, Nat.le_refl _, fun _ => rfl⟩
  have hspare : k.n * k.sz ≤ vals.size := Nat.le_trans (Nat.mul_le_mul_right _ hnc) hv
  have σold : ∀ {x : Addr} {v : Value}, (setTok g t w.heap.size vals k).σ x = some v → (x.block = w.heap.size ∧ x.spot = none ∧ x.off < k.n * k.sz ∧ vals[x.off]? = some v) ∨ (x.block ≠ w.heap.size ∧ g.σ x = some v) := by
    intro x v e
    simp only [setTok] at e
    split at e
    · rename_i hb
      split at e
      · rename_i hc; exact .inl ⟨hb, hc.1, hc.2, e⟩
      · cases e
    · rename_i hb; exact .inr ⟨hb, e⟩
  have tokOld : ∀ {t' : Nat} {k' : Tok}, t' ≠ t → (setTok g t w.heap.size vals k).τ t' = some k' → g.τ t' = some k' := fun hx e => by simpa only [setTok, upd_other _ _ hx] using e
  have spareLt : ∀ {t' m b : Nat} {k' : Tok}, st.h.hw t' = some m → g.τ t' = some k' → Actv k' (st.h.vw t') → k'.a = some ⟨b, 0, none⟩ → b < w.heap.size := by
    intro t' m b k' e1 e2 e3 e4
    obtain ⟨k0, f1, f2, f3⟩ := r.inv.tok t' m e1
    have : k0 = k' := by rw [f1] at e2; cases e2; rfl
    subst this
    obtain ⟨b', g1, g2, _⟩ := (f3 e3).blockLt
    rw [g1] at e4; cases e4; exact g2
  refine ⟨⟨r1.defers, r1.size, r1.keys, fun s d h => (r1.slot s d h).mono le, r1.base, fun s cs h => ?_, r1.ownInj, ?_⟩, le⟩
  · obtain ⟨h1, h2, h3, h4, h5⟩ := r1.own s cs h
    have hlt := (r.own s cs h).1.lt
    refine ⟨h1.mono le rfl, h2, fun x v e => ?_, h4, fun t' m k' e1 e2 e3 e4 => ?_⟩
    · rcases σold e with ⟨hb, _⟩ | ⟨_, he⟩
      · omega
      · exact h3 x v he
    · by_cases hx : t' = t
      · subst hx
        simp only [setTok, upd_same, Option.some.injEq] at e2
        subst e2
        rw [ha] at e4; simp at e4
      · exact h5 t' m k' (by simpa only [tokH, upd_other _ _ hx] using e1) (tokOld hx e2) e3 e4
  · refine ⟨fun x v e => ?_, i.ub, i.muLt, fun l row e => ?_, i.boxInj, fun t' m e => ?_, fun t' m k' b l e1 e2 e3 e4 e5 => ?_, fun t1 t2 m1 m2 k1 k2 b e1 e2 f1 f2 g1 g2 c1 c2 => ?_, i.frL, fun t' ht' => ?_, fun t' (ht' : nt ≤ t') => i.frV t' (by show st.h.nt ≤ t'; omega)⟩
    · rcases σold e with ⟨hb, hs, hl, hv'⟩ | ⟨_, he⟩
      · refine ⟨?_, hs⟩
        simp only [World.cell?, hb, heap_alloc_new, hs]
        simpa using hv'
      · exact i.sub x v he
    · obtain ⟨b, e1, e2, e3, e4⟩ := i.box l row e
      refine ⟨b, e1, e2.mono le rfl, e3, fun x v hx => ?_⟩
      rcases σold hx with ⟨hb, _⟩ | ⟨_, he⟩
      · have := r.inv.muLt l b e1; omega
      · exact e4 x v he
    · by_cases hx : t' = t
      · subst hx
        have e' : upd st.h.hw t' (some k.n) t' = some m := e
        rw [upd_same] at e'; cases e'
        refine ⟨k, by simp [setTok, upd_same], rfl, fun _ => ?_⟩
        show TokAt _ _ _ _ (st.h.vw t')
        rw [hvt]
        refine ⟨w.heap.size, ha, fun hu => absurd (r.inv.ub _ hu) (by omega), T, vals, heap_alloc_new w _, hv, fun j hj => ?_, fun _ h => by cases h⟩
        simp only [lowOf] at hj
        simp only [setTok, if_true]
        rw [if_neg (by simp; omega)]
      · have e' : upd st.h.hw t (some k.n) t' = some m := e
        rw [upd_other _ _ hx] at e'
        obtain ⟨k', f1, f2, f3⟩ := i.tok t' m e'
        refine ⟨k', by simp only [setTok, upd_other _ _ hx]; exact f1, f2, fun hk => ?_⟩
        refine (f3 hk).mono le fun b c1 _ => ⟨rfl, fun j hj => ?_⟩
        have hlt := spareLt e' f1 hk c1
        simp only [setTok]; rw [if_neg (by omega)]; exact hj
    · by_cases hx : t' = t
      · subst hx
        simp only [setTok, upd_same, Option.some.injEq] at e2
        subst e2
        rw [ha] at e4
        intro e6
        have := r.inv.muLt l b e6
        simp at e4
      · exact i.tokBox t' m k' b l (by simpa only [tokH, upd_other _ _ hx] using e1) (tokOld hx e2) e3 e4 e5
    · by_cases hx1 : t1 = t
      · by_cases hx2 : t2 = t
        · rw [hx1, hx2]
        · subst hx1
          simp only [setTok, upd_same, Option.some.injEq] at f1
          subst f1
          rw [ha] at c1; simp at c1
          have := spareLt (by simpa only [tokH, upd_other _ _ hx2] using e2) (tokOld hx2 f2) g2 c2
          omega
      · by_cases hx2 : t2 = t
        · subst hx2
          simp only [setTok, upd_same, Option.some.injEq] at f2
          subst f2
          rw [ha] at c2; simp at c2
          have := spareLt (by simpa only [tokH, upd_other _ _ hx1] using e1) (tokOld hx1 f1) g1 c1
          omega
        · exact i.tokInj t1 t2 m1 m2 k1 k2 b (by simpa only [tokH, upd_other _ _ hx1] using e1) (by simpa only [tokH, upd_other _ _ hx2] using e2) (tokOld hx1 f1) (tokOld hx2 f2) g1 g2 c1 c2
    · have ht'' : nt ≤ t' := ht'
      simp only [setTok]
      rw [upd_other _ _ (by omega)]
      exact i.frT t' (by omega)

/-- An append right without room: no memory turns. -/
theorem Rel.idleTok (r : Rel n g β U y st a w) {t : Nat} {k : Tok} (hk : ¬ k.n < k.cap) (ht : st.h.nt = t) :
    Rel n { g with τ := upd g.τ t (some k) } β U y { st with h := tokH st.h t k.n (t + 1) } a w ∧ G.le g { g with τ := upd g.τ t (some k) } := by
  have i := r.inv
  have hvt := i.frV t (by omega)
  have hnone := i.frT t (by omega)
  have le : G.le g { g with τ := upd g.τ t (some k) } := by
    refine ⟨fun _ _ e => e, fun _ _ e => e, fun t' k0 e => ?_⟩
    have hx : t' ≠ t := fun h => by subst h; rw [hnone] at e; cases e
    exact ⟨k0, by simp only [upd_other _ _ hx]; exact e, rfl, Nat.le_refl _, fun _ => rfl⟩
  have tokOld : ∀ {t' m : Nat} {k' : Tok}, (tokH st.h t k.n (t + 1)).hw t' = some m → upd g.τ t (some k) t' = some k' → Actv k' (st.h.vw t') → st.h.hw t' = some m ∧ g.τ t' = some k' := by
    intro t' m k' e1 e2 e3
    by_cases hx : t' = t
    · subst hx
      rw [upd_same] at e2; cases e2; rw [hvt] at e3; exact absurd e3 hk
    · exact ⟨by simpa only [tokH, upd_other _ _ hx] using e1, by simpa only [upd_other _ _ hx] using e2⟩
  refine ⟨⟨r.defers, r.size, r.keys, fun s d h => (r.slot s d h).mono le, r.base, fun s cs h => ?_, r.ownInj, ?_⟩, le⟩
  · obtain ⟨h1, h2, h3, h4, h5⟩ := r.own s cs h
    exact ⟨h1.mono le rfl, h2, h3, h4, fun t' m k' e1 e2 e3 => by obtain ⟨f1, f2⟩ := tokOld e1 e2 e3; exact h5 t' m k' f1 f2 e3⟩
  · refine ⟨i.sub, i.ub, i.muLt, fun l row e => ?_, i.boxInj, fun t' m e => ?_, fun t' m k' b l e1 e2 e3 => ?_, fun t1 t2 m1 m2 k1 k2 b e1 e2 f1 f2 g1 g2 => ?_, i.frL, fun t' ht' => ?_, fun t' (ht' : t + 1 ≤ t') => i.frV t' (by omega)⟩
    · obtain ⟨b, e1, e2, e3, e4⟩ := i.box l row e
      exact ⟨b, e1, e2.mono le rfl, e3, e4⟩
    · by_cases hx : t' = t
      · subst hx
        have e' : upd st.h.hw t' (some k.n) t' = some m := e
        rw [upd_same] at e'; cases e'
        exact ⟨k, by simp only [upd_same], rfl, fun h => by
          have h' : Actv k (st.h.vw t') := h
          rw [hvt] at h'; exact absurd h' hk⟩
      · have e' : upd st.h.hw t (some k.n) t' = some m := e
        rw [upd_other _ _ hx] at e'
        obtain ⟨k', f1, f2, f3⟩ := i.tok t' m e'
        exact ⟨k', by simp only [upd_other _ _ hx]; exact f1, f2, fun h => (f3 h).mono le fun _ _ _ => ⟨rfl, fun _ h => h⟩⟩
    · obtain ⟨f1, f2⟩ := tokOld e1 e2 e3
      exact i.tokBox t' m k' b l f1 f2 e3
    · obtain ⟨a1, a2⟩ := tokOld e1 f1 g1
      obtain ⟨b1, b2⟩ := tokOld e2 f2 g2
      exact i.tokInj t1 t2 m1 m2 k1 k2 b a1 b1 a2 b2 g1 g2
    · have ht'' : t + 1 ≤ t' := ht'
      simp only
      rw [upd_other _ _ (by omega)]
      exact i.frT t' (by omega)

/-- The ghost memory behind an append in place. -/
def roomG (g : G) (t b : Nat) (arr : Array Value) (k : Tok) (n' : Nat) : G :=
  { g with
    σ := fun x => if x.block = b ∧ x.spot = none ∧ k.n * k.sz ≤ x.off ∧ x.off < n' * k.sz then arr[x.off]? else g.σ x
    τ := upd g.τ t (some { k with n := n' }) }

/-- An append in place. -/
theorem Rel.roomTok (r : Rel n g β U y st a w) {t b m : Nat} {k : Tok} {T : Nat} {vals : Array Value} {news : List Value} (hl : st.h.hw t = some k.n) (hvt : st.h.vw t = none) (hk : g.τ t = some k) (hb : k.a = some ⟨b, 0, none⟩)
    (hh : w.heap[b]? = some (.cells vals T (0, 0))) (hsz : k.cap * k.sz ≤ vals.size) (hsp : ∀ j, k.n * k.sz ≤ j → g.σ ⟨b, j, none⟩ = none) (hlen : news.length = m * k.sz) (hm : 0 < m) (hroom : k.n + m ≤ k.cap) (hU : ¬ U b) :
    let arr := (vals.toList.take (k.n * k.sz) ++ news ++ vals.toList.drop (k.n * k.sz + news.length)).toArray
    Rel n (roomG g t b arr k (k.n + m)) β U y { st with h := tokH st.h t (k.n + m) st.h.nt } a (w.setRow b arr) ∧ G.le g (roomG g t b arr k (k.n + m)) ∧ Kept U w (w.setRow b arr) := by
  intro arr
  have i := r.inv
  have tn := turn_setRow w b arr
  have hcap : (k.n + m) * k.sz ≤ vals.size := Nat.le_trans (Nat.mul_le_mul_right _ hroom) hsz
  have hadd : (k.n + m) * k.sz = k.n * k.sz + news.length := by rw [Nat.add_mul, hlen]
  have hasz : arr.size = vals.size := by
    simp only [arr, List.size_toArray, List.length_append, List.length_take, List.length_drop, Array.length_toList]
    omega
  have hlow : ∀ j, j < k.n * k.sz → arr[j]? = vals[j]? := by
    intro j hj
    simp only [arr, List.getElem?_toArray]
    rw [List.append_assoc, List.getElem?_append_left (by simp; omega), List.getElem?_take, if_pos hj]
    simp
  have σlow : ∀ {x : Addr} {v : Value}, g.σ x = some v → x.block = b → x.off < k.n * k.sz := by
    intro x v e hx
    rcases Nat.lt_or_ge x.off (k.n * k.sz) with h | h
    · exact h
    · have hs := (i.sub x v e).2
      have : x = ⟨b, x.off, none⟩ := by cases x; simp_all
      rw [this, hsp _ h] at e; cases e
  have le : G.le g (roomG g t b arr k (k.n + m)) := by
    refine ⟨fun x v e => ?_, fun _ _ e => e, fun t' k0 e => ?_⟩
    · simp only [roomG]
      rw [if_neg (by intro h; have := σlow e h.1; omega)]; exact e
    · by_cases hx : t' = t
      · subst hx
        rw [hk] at e; cases e
        exact ⟨{ k with n := k.n + m }, by simp [roomG, upd_same], rfl, by simp, fun h => by simp at h; omega⟩
      · exact ⟨k0, by simp only [roomG, upd_other _ _ hx]; exact e, rfl, Nat.le_refl _, fun _ => rfl⟩
  have σold : ∀ {x : Addr} {v : Value}, (roomG g t b arr k (k.n + m)).σ x = some v → (x.block = b ∧ x.spot = none ∧ k.n * k.sz ≤ x.off ∧ x.off < (k.n + m) * k.sz ∧ arr[x.off]? = some v) ∨ g.σ x = some v := by
    intro x v e
    simp only [roomG] at e
    split at e
    · rename_i hc; exact .inl ⟨hc.1, hc.2.1, hc.2.2.1, hc.2.2.2, e⟩
    · exact .inr e
  have live : Actv k (st.h.vw t) := by rw [hvt]; show k.n < k.cap; omega
  have tokOld : ∀ {t' : Nat} {k' : Tok}, t' ≠ t → (roomG g t b arr k (k.n + m)).τ t' = some k' → g.τ t' = some k' := fun hx e => by simpa only [roomG, upd_other _ _ hx] using e
  have hwOld : ∀ {t' m' : Nat}, t' ≠ t → (tokH st.h t (k.n + m) st.h.nt).hw t' = some m' → st.h.hw t' = some m' := fun hx e => by simpa only [tokH, upd_other _ _ hx] using e
  have tokT : ∀ {k' : Tok}, (roomG g t b arr k (k.n + m)).τ t = some k' → k' = { k with n := k.n + m } := fun e => by simp only [roomG, upd_same, Option.some.injEq] at e; exact e.symm
  refine ⟨⟨r.defers.kept tn.defs, r.size, r.keys, fun s d h => (r.slot s d h).mono le, r.base, fun s cs h => ?_, r.ownInj, ?_⟩, le, tn.kept hU⟩
  · obtain ⟨h1, h2, h3, h4, h5⟩ := r.own s cs h
    have hne : β s ≠ b := fun e => h5 t k.n k hl hk live (by rw [hb, e])
    refine ⟨h1.mono le (tn.other _ hne), h2, fun x v e => ?_, h4, fun t' m' k' e1 e2 e3 e4 => ?_⟩
    · rcases σold e with ⟨hx, _⟩ | he
      · rw [hx]; exact Ne.symm hne
      · exact h3 x v he
    · by_cases hx : t' = t
      · subst hx
        have := tokT e2; subst this
        exact h5 t' k.n k hl hk live e4
      · exact h5 t' m' k' (hwOld hx e1) (tokOld hx e2) e3 e4
  · refine ⟨fun x v e => ?_, fun c hc => by rw [tn.size]; exact i.ub c hc, fun l c e => by rw [tn.size]; exact i.muLt l c e, fun l row e => ?_, i.boxInj, fun t' m' e => ?_, fun t' m' k' c l e1 e2 e3 e4 e5 => ?_, fun t1 t2 m1 m2 k1 k2 c e1 e2 f1 f2 g1 g2 c1 c2 => ?_, i.frL, fun t' ht' => ?_, i.frV⟩
    · rcases σold e with ⟨hx, hs, h1, h2, hv⟩ | he
      · refine ⟨?_, hs⟩
        simp only [World.cell?, hx, setRow_heap w b vals arr T (0, 0) hh, hs]
        simpa using hv
      · by_cases hx : x.block = b
        · have := σlow he hx
          refine ⟨?_, (i.sub x v he).2⟩
          have h1 := (i.sub x v he).1
          simp only [World.cell?, hx, setRow_heap w b vals arr T (0, 0) hh, (i.sub x v he).2] at h1 ⊢
          rw [hh] at h1
          simp only [Option.isSome_none, Bool.false_eq_true, if_false] at h1 ⊢
          rw [hlow _ this]; exact h1
        · exact ⟨(cell?_of_heap (tn.other _ hx)).trans (i.sub x v he).1, (i.sub x v he).2⟩
    · obtain ⟨c, e1, e2, e3, e4⟩ := i.box l row e
      have hne : c ≠ b := fun h => i.tokBox t k.n k b l hl hk live hb (by have e0 : st.h.box l = some row := e; rw [e0]; simp) (by rw [e1, h])
      refine ⟨c, e1, e2.mono le (tn.other _ hne), e3, fun x v hx => ?_⟩
      rcases σold hx with ⟨hb', _⟩ | he
      · rw [hb']; exact Ne.symm hne
      · exact e4 x v he
    · by_cases hx : t' = t
      · subst hx
        have e' : upd st.h.hw t' (some (k.n + m)) t' = some m' := e
        rw [upd_same] at e'; cases e'
        refine ⟨{ k with n := k.n + m }, by simp [roomG, upd_same], rfl, fun _ => ?_⟩
        show TokAt _ _ _ _ (st.h.vw t')
        rw [hvt]
        refine ⟨b, hb, hU, T, arr, setRow_heap w b vals arr T (0, 0) hh, by rw [hasz]; exact hsz, fun j hj => ?_, fun _ h => by cases h⟩
        simp only [lowOf] at hj
        simp only [roomG]
        rw [if_neg (fun h => by have h9 := h.2.2.2; exact absurd h9 (by show ¬ (j < (k.n + m) * k.sz); omega))]
        exact hsp j (by omega)
      · obtain ⟨k', f1, f2, f3⟩ := i.tok t' m' (hwOld hx e)
        refine ⟨k', by simp only [roomG, upd_other _ _ hx]; exact f1, f2, fun hk' => ?_⟩
        refine (f3 hk').mono le fun c c1 _ => ?_
        have hne : c ≠ b := fun h => hx (i.tokInj t' t m' k.n k' k b (hwOld hx e) hl f1 hk hk' live (by rw [c1, h]) hb)
        exact ⟨tn.other _ hne, fun j hj => by simp only [roomG]; rw [if_neg (fun h => hne h.1)]; exact hj⟩
    · by_cases hx : t' = t
      · subst hx
        have := tokT e2; subst this
        exact i.tokBox t' k.n k c l hl hk live e4 e5
      · exact i.tokBox t' m' k' c l (hwOld hx e1) (tokOld hx e2) e3 e4 e5
    · by_cases hx1 : t1 = t
      · by_cases hx2 : t2 = t
        · rw [hx1, hx2]
        · subst hx1
          have := tokT f1; subst this
          exact i.tokInj t1 t2 k.n m2 k k2 c hl (hwOld hx2 e2) hk (tokOld hx2 f2) live g2 c1 c2
      · by_cases hx2 : t2 = t
        · subst hx2
          have := tokT f2; subst this
          exact i.tokInj t1 t2 m1 k.n k1 k c (hwOld hx1 e1) hl (tokOld hx1 f1) hk g1 live c1 c2
        · exact i.tokInj t1 t2 m1 m2 k1 k2 c (hwOld hx1 e1) (hwOld hx2 e2) (tokOld hx1 f1) (tokOld hx2 f2) g1 g2 c1 c2
    · have ht'' : st.h.nt ≤ t' := ht'
      have hx : t' ≠ t := fun h => by subst h; rw [i.frT t' ht''] at hk; cases hk
      simp only [roomG]
      rw [upd_other _ _ hx]
      exact i.frT t' ht''

end
end Go.Ab
/- The executor is sound, 8: append, make, len, min, max, calls; all operations. -/
namespace Go.Ab

/-- What is appended: so many cells, read alike in every world with this heap. -/
structure Src (P : Program) (w : World) (sz m : Nat) (x : Value) (news : List Value) : Prop where
  len : ∀ w', (Builtin.lenOf x).run P w' = .ok m w'
  cells : ∀ w', w'.heap = w.heap → (Builtin.firstCells sz m x).run P w' = .ok news.toArray w'
  size : news.length = m * sz

theorem cell?_heap {w w' : World} (h : w'.heap = w.heap) (x : Addr) : w'.cell? x = w.cell? x := by simp [World.cell?, h]

theorem Src.slice {P : Program} {w : World} {sz m : Nat} {p : Addr} {cap : Nat} {news : List Value} (hl : news.length = m * sz) (h : ∀ k v, news[k]? = some v → w.cell? (p.add k) = some v) : Src P w sz m (.slice (some p) m cap) news where
  len w' := rfl
  cells w' hw := run_firstCells_some (P := P) w' sz m p m cap news hl (fun j v hj => by rw [cell?_heap hw]; exact h j v hj)
  size := hl

theorem Src.nil {P : Program} {w : World} {sz : Nat} {cap : Nat} : Src P w sz 0 (.slice none 0 cap) [] where
  len w' := rfl
  cells w' _ := rfl
  size := by simp

/-- What may stand as append's second argument's type. -/
def AppTy (P : Program) (u : Nat) : Prop := (∃ e, P.underlying u = some (.slice e)) ∨ P.underlying u = some .string

theorem run_app_room {P : Program} {w : World} {t u ty e : Nat} {i : TypeInfo} (ht : P.underlying t = some (.slice e)) (hi : P.info? e = some i) (hu : AppTy P u)
    {base : Option Addr} {n cap m : Nat} {x : Value} {news : List Value} (hs : Src P w i.size m x news) (hroom : n + m ≤ cap) {w' : World}
    (hst : match base with | some p => (storeCells (p.add (n * i.size)) news).run P w = .ok () w' | none => w' = w) :
    (Builtin.append_ #[t, u] ty #[.slice base n cap, x]).run P w = .ok (.slice base (n + m) cap) w' := by
  have hcells := hs.cells w rfl
  rcases hu with ⟨e', hd⟩ | hd
  · cases base with
    | none =>
      simp only at hst; subst hst
      simp [Builtin.append_, run_underlying ht, run_underlying hd, sizeOf, typeInfo, hi, hs.len, hroom, hcells]
    | some p =>
      simp only at hst
      simp [Builtin.append_, run_underlying ht, run_underlying hd, sizeOf, typeInfo, hi, hs.len, hroom, hcells, hst]
  · cases base with
    | none =>
      simp only at hst; subst hst
      simp [Builtin.append_, run_underlying ht, run_underlying hd, sizeOf, typeInfo, hi, hs.len, hroom, hcells]
    | some p =>
      simp only at hst
      simp [Builtin.append_, run_underlying ht, run_underlying hd, sizeOf, typeInfo, hi, hs.len, hroom, hcells, hst]

theorem run_app_grow {P : Program} {w : World} {t u ty e : Nat} {i : TypeInfo} {z : Value} (ht : P.underlying t = some (.slice e)) (hi : P.info? e = some i) (hz0 : i.zero = some z) (hu : AppTy P u)
    {base : Option Addr} {n cap m : Nat} {x : Value} {olds news : List Value} (hb : Src P w i.size n (.slice base n cap) olds) (hs : Src P w i.size m x news) (hg : cap < n + m) (hbytes : (n + m) * i.bytes ≤ 140737488355328) (h63 : n + m ≤ 281474976710656) (h1 : 0 < i.bytes) :
    (Builtin.append_ #[t, u] ty #[.slice base n cap, x]).run P w =
      .ok (.slice (some ⟨w.heap.size, 0, none⟩) (n + m) (grownCap w (n + m) cap e)) (w.drew.alloc (.cells ((olds ++ news).toArray ++ Builtin.zeroCells z.cells (grownCap w (n + m) cap e - (n + m))) e)) := by
  have hcells := hs.cells w.drew rfl
  have holds := hb.cells w.drew rfl
  have hn : ¬ (n + m ≤ cap) := by omega
  have h63' : ¬ (9223372036854775807 < ((n : Int) + (m : Int))) := by omega
  have h48' : ¬ (281474976710656 < Builtin.nextslicecap (n + m) cap * i.bytes) := by have := growslice_fits hg hbytes; omega
  have hbz : ¬ (i.bytes = 0) := by omega
  have ha : (olds ++ news).toArray = olds.toArray ++ news.toArray := by simp
  rw [ha, Array.append_assoc]
  rcases hu with ⟨e', hd⟩ | hd <;>
    simp [Builtin.append_, run_underlying ht, run_underlying hd, sizeOf, typeInfo, zeroValue, hi, hz0, hs.len, hn, h63', h48', Question.forced, hcells, holds, newRow, grownCap]

theorem flat_append (xs zs : List Value) : flat (xs ++ zs) = flat xs ++ flat zs := by simp [flat]

theorem flat_ones {g : G} {vs : List Value} {get : Nat → D} (h : ∀ i u, vs[i]? = some u → R g (get i) u ∧ ones (get i) = true) : ∀ v ∈ flat vs, v.oneCell' = true := by
  intro v hv
  obtain ⟨u, hu, hv⟩ := List.mem_flatMap.1 hv
  obtain ⟨i, hi, rfl⟩ := List.getElem_of_mem hu
  obtain ⟨h1, h2⟩ := h i _ (List.getElem?_eq_getElem hi)
  have hc := h1.cells
  obtain ⟨k, hk, rfl⟩ := List.getElem_of_mem hv
  have hdk : k < (cellsD (get i)).length := by rw [← hc.length]; exact hk
  obtain ⟨v', hv', hr⟩ := hc.get k _ (List.getElem?_eq_getElem hdk)
  rw [List.getElem?_eq_getElem hk] at hv'; cases hv'
  exact oneD_sound hr (List.all_eq_true.1 h2 _ (List.getElem_mem hdk))

/-- The reverse of listOpen. -/
theorem R.ofList {g : G} {n sz : Nat} {get : Nat → D} {own : Own} {a : Option Addr} {cap : Nat} {vs : List Value} (hl : vs.length = n) (hn : n ≤ lenM) (hc : n ≤ cap) (ho : OwnOk g own n a cap)
    (he : ∀ i u, vs[i]? = some u → R g (get i) u ∧ u.cells.size = sz ∧ ones (get i) = true)
    (hs : 0 < n → ∃ p, a = some p ∧ p.spot = none ∧ ∀ (i : Nat) (u : Value), vs[i]? = some u → ∀ j, j < sz → g.σ ⟨p.block, p.off + i * sz + j, none⟩ = u.cells[j]?) : R g (.list n sz get own) (.slice a n cap) := by
  simp only [R]
  refine ⟨hn, a, cap, rfl, hc, ho, fun i hi => ?_⟩
  obtain ⟨p, h1, h2, h3⟩ := hs (by omega)
  have hv := List.getElem?_eq_getElem (l := vs) (i := i) (by omega)
  obtain ⟨e1, e2, e3⟩ := he _ _ hv
  exact ⟨p, _, h1, h2, e1, ⟨e2, e3⟩, h3 _ _ hv⟩

/-- What srcD says of a value. -/
theorem srcD_sound {P : Program} {g : G} {w : World} (sub : ∀ a v, g.σ a = some v → w.cell? a = some v ∧ a.spot = none) {sz m : Nat} {d : D} {f : Nat → D} {v : Value} (h : srcD sz d = some (m, f)) (hr : R g d v) :
    ∃ vs : List Value, vs.length = m ∧ (∀ i u, vs[i]? = some u → R g (f i) u ∧ u.cells.size = sz ∧ ones (f i) = true) ∧ Src P w sz m v (flat vs) := by
  cases d <;> simp only [srcD] at h <;> try cases h
  · rename_i s
    cases hb : Nat.beq sz 1 with
    | false => rw [hb] at h; cases h
    | true =>
      rw [hb] at h; simp only [cond_true] at h; cases h
      have := beq_eq.1 hb; subst this
      simp only [R] at hr
      obtain ⟨rfl, _⟩ := hr
      have hel : ∀ (i : Nat) (u : Value), (s.map fun (b : UInt8) => Value.int .u8 b.toNat)[i]? = some u → u = .int .u8 (s.getD i 0).toNat := by
        intro i u hu
        rw [List.getElem?_map] at hu
        cases hs : s[i]? with
        | none => rw [hs] at hu; cases hu
        | some b => rw [hs] at hu; cases hu; simp [List.getD, hs]
      refine ⟨s.map fun b => .int .u8 b.toNat, by simp, fun i u hu => ?_, ?_⟩
      · rw [hel i u hu]; exact ⟨by simp only [strG, R], rfl, rfl⟩
      · have hf : ∀ l : List UInt8, flat (l.map fun b => Value.int .u8 b.toNat) = l.map fun b => .int .u8 b.toNat := by
          intro l; induction l with
          | nil => rfl
          | cons b r ih => simp only [flat] at ih; simp only [flat, List.map_cons, List.flatMap_cons, ih]; rfl
        rw [hf]
        refine ⟨fun w' => ?_, fun w' _ => ?_, by simp⟩
        · simp [Builtin.lenOf, ByteArray.size]
        · simp [Builtin.firstCells]
  · rename_i m0 z f0 own
    have hmf : (z = sz ∨ m0 = 0) ∧ m = m0 ∧ f = f0 := by
      cases hb : Nat.beq z sz with
      | true => rw [hb] at h; simp only [cond_true] at h; cases h; exact ⟨.inl (beq_eq.1 hb), rfl, rfl⟩
      | false =>
        rw [hb] at h; simp only [cond_false] at h
        cases hb2 : Nat.beq m0 0 with
        | true => rw [hb2] at h; simp only [cond_true] at h; cases h; exact ⟨.inr (beq_eq.1 hb2), rfl, rfl⟩
        | false => rw [hb2] at h; cases h
    obtain ⟨hz, rfl, rfl⟩ := hmf
    obtain ⟨a, cap, vs, h1, h2, h3, h4, h5, h6, h7, _, h8⟩ := hr.listOpen
    have hsz : ∀ u ∈ vs, u.cells.size = sz := by
      rcases hz with rfl | h0
      · exact h6
      · intro u hu; have := List.length_pos_of_mem hu; omega
    refine ⟨vs, h4, fun i u hu => ?_, ?_⟩
    · obtain ⟨e1, e2⟩ := h5 i u hu
      have hi : i < m := by
        rcases Nat.lt_or_ge i vs.length with h | h
        · omega
        · rw [List.getElem?_eq_none h] at hu; cases hu
      exact ⟨e1, hsz u (List.mem_of_getElem? hu), h8 i hi⟩
    · subst h1
      cases a with
      | none =>
        have : m = 0 := by
          rcases Nat.eq_zero_or_pos m with h | h
          · exact h
          · obtain ⟨p, hp, _⟩ := h7 h; cases hp
        subst this
        have : vs = [] := by simpa using h4
        subst this
        exact Src.nil
      | some p =>
        have hl := flat_length hsz
        refine Src.slice (by rw [hl, h4]) ?_
        rcases Nat.eq_zero_or_pos m with h | h
        · subst h
          have : vs = [] := by simpa using h4
          subst this
          intro k v hv; simp [flat] at hv
        · obtain ⟨p', hp, hsp, hc⟩ := h7 h
          cases hp
          rcases hz with rfl | h0
          · exact cells_flat sub hsz hsp hc
          · omega

end Go.Ab
/- The executor is sound, 9: append, joined. -/
namespace Go.Ab

section
variable {P : Program} {n : Nat} {g : G} {β : Nat → Nat} {U : Nat → Prop} {y : Nat → Bool → Prop} {st : St} {a : Act} {w : World} {ev : Operand → D} {o : Oper}

theorem blt_tt {a b : Nat} : Nat.blt a b = true ↔ a < b := by rw [Nat.blt_eq]
theorem blt_ff {a b : Nat} : Nat.blt a b = false ↔ b ≤ a := by
  rw [← Bool.not_eq_true, Nat.blt_eq]; omega

theorem catG_get {n0 : Nat} {f f' : Nat → D} {vs us : List Value} {g : G} {sz : Nat} (hl : vs.length = n0) (h1 : ∀ i u, vs[i]? = some u → R g (f i) u ∧ u.cells.size = sz ∧ ones (f i) = true)
    (h2 : ∀ i u, us[i]? = some u → R g (f' i) u ∧ u.cells.size = sz ∧ ones (f' i) = true) : ∀ i u, (vs ++ us)[i]? = some u → R g (catG n0 f f' i) u ∧ u.cells.size = sz ∧ ones (catG n0 f f' i) = true := by
  intro i u hu
  rcases Nat.lt_or_ge i n0 with hi | hi
  · rw [List.getElem?_append_left (by omega)] at hu
    have : catG n0 f f' i = f i := by unfold catG; rw [blt_tt.2 hi]; rfl
    rw [this]; exact h1 i u hu
  · rw [List.getElem?_append_right (by omega), hl] at hu
    have : catG n0 f f' i = f' (i - n0) := by unfold catG; rw [blt_ff.2 hi]; rfl
    rw [this]; exact h2 _ u hu

/-- What append sees of its first argument. -/
structure Base (P : Program) (g : G) (w : World) (sz n0 : Nat) (f : Nat → D) (own : Own) (ba : Option Addr) (cap : Nat) (vs : List Value) : Prop where
  len : vs.length = n0
  capLe : n0 ≤ cap
  el : ∀ i u, vs[i]? = some u → R g (f i) u ∧ u.cells.size = sz ∧ ones (f i) = true
  src : Src P w sz n0 (.slice ba n0 cap) (flat vs)
  at_ : 0 < n0 → ∃ p, ba = some p ∧ p.spot = none ∧ ∀ (i : Nat) (u : Value), vs[i]? = some u → ∀ j, j < sz → g.σ ⟨p.block, p.off + i * sz + j, none⟩ = u.cells[j]?
  own : OwnOk g own n0 ba cap

theorem base_of {P : Program} {g : G} {w : World} (sub : ∀ a v, g.σ a = some v → w.cell? a = some v ∧ a.spot = none) {n0 ez sz : Nat} {f : Nat → D} {own : Own} {v : Value} (h : R g (.list n0 ez f own) v)
    (hz : ez = sz ∨ n0 = 0) : ∃ ba cap vs, v = .slice ba n0 cap ∧ Base P g w sz n0 f own ba cap vs := by
  have hs : srcD sz (.list n0 ez f own) = some (n0, f) := by
    simp only [srcD]
    cases hb : Nat.beq ez sz with
    | true => rfl
    | false =>
      rcases hz with rfl | h0
      · rw [beq_eq.2 rfl] at hb; cases hb
      · rw [beq_eq.2 h0]; rfl
  obtain ⟨ba, cap, vs0, h1, h2, h3, h4, h5, h6, h7, h8, h9⟩ := h.listOpen
  have hsz : ∀ u ∈ vs0, u.cells.size = sz := by
    rcases hz with rfl | h0
    · exact h6
    · intro u hu; have := List.length_pos_of_mem hu; omega
  have hat : 0 < n0 → ∃ p, ba = some p ∧ p.spot = none ∧ ∀ (i : Nat) (u : Value), vs0[i]? = some u → ∀ j, j < sz → g.σ ⟨p.block, p.off + i * sz + j, none⟩ = u.cells[j]? := by
    intro hp
    rcases hz with rfl | h0
    · exact h7 hp
    · omega
  refine ⟨ba, cap, vs0, h1, h4, h2, fun i u hu => ?_, ?_, hat, h8⟩
  · have hi : i < n0 := by
      rcases Nat.lt_or_ge i vs0.length with h | h
      · omega
      · rw [List.getElem?_eq_none h] at hu; cases hu
    exact ⟨(h5 i u hu).1, hsz u (List.mem_of_getElem? hu), h9 i hi⟩
  · cases ba with
    | none =>
      have : n0 = 0 := by
        rcases Nat.eq_zero_or_pos n0 with h | h
        · exact h
        · obtain ⟨p, hp, _⟩ := h7 h; cases hp
      subst this
      have : vs0 = [] := by simpa using h4
      subst this
      exact Src.nil
    | some p =>
      refine Src.slice (by rw [flat_length hsz, h4]) ?_
      rcases Nat.eq_zero_or_pos n0 with h | h
      · subst h
        have : vs0 = [] := by simpa using h4
        subst this
        intro k v hv; simp [flat] at hv
      · obtain ⟨p', hp, hsp, hc⟩ := hat h
        cases hp
        exact cells_flat sub hsz hsp hc

theorem setTok_grow {t b : Nat} {vals : Array Value} {k : Tok} (hb : ¬ U b) (l : G.le g (setTok g t b vals k)) : Grow U g (setTok g t b vals k) := by
  refine ⟨l, fun x v e => ?_⟩
  simp only [setTok] at e
  by_cases h : x.block = b
  · exact .inr (by rw [h]; exact hb)
  · rw [if_neg h] at e; exact .inl e

theorem roomG_grow {t b m : Nat} {arr : Array Value} {k : Tok} (hb : ¬ U b) (l : G.le g (roomG g t b arr k m)) : Grow U g (roomG g t b arr k m) := by
  refine ⟨l, fun x v e => ?_⟩
  by_cases h : x.block = b
  · exact .inr (by rw [h]; exact hb)
  · simp only [roomG] at e
    rw [if_neg (fun hh => h hh.1)] at e; exact .inl e

/-- A grown slice: its cells are new. -/
theorem app_grow (r : Rel n g β U y st a w) {t u ty e : Nat} {i : TypeInfo} {z : Value} (ht : P.underlying t = some (.slice e)) (hi : P.info? e = some i) (hz0 : i.zero = some z) (hzs : z.cells.size = i.size) (hu : AppTy P u) (h1 : 0 < i.bytes)
    {n0 m cap : Nat} {f f' : Nat → D} {own : Own} {ba : Option Addr} {vs us : List Value} {x : Value} (hb : Base P g w i.size n0 f own ba cap vs) (hul : us.length = m) (hue : ∀ k q, us[k]? = some q → R g (f' k) q ∧ q.cells.size = i.size ∧ ones (f' k) = true)
    (hsrc : Src P w i.size m x (flat us)) (hg : cap < n0 + m) (hroom : (n0 + m) * i.bytes ≤ roomM) {tk nt : Nat} (htk : tk < nt) (hnt : st.h.nt ≤ nt) (hvt : st.h.vw tk = none) (hle : ∀ k0, g.τ tk = some k0 → k0.sz = i.size ∧ k0.n < n0 + m) :
    ∃ v w' g', (Builtin.append_ #[t, u] ty #[.slice ba n0 cap, x]).run P w = .ok v w' ∧ Rel n g' β U y { st with h := tokH st.h tk (n0 + m) nt } a w' ∧ Grow U g g' ∧ Kept U w w' ∧ R g' (.list (n0 + m) i.size (catG n0 f f') (.tok tk i.size)) v := by
  have hlen : n0 + m ≤ lenM := by
    have : n0 + m ≤ (n0 + m) * i.bytes := Nat.le_mul_of_pos_right _ h1
    unfold roomM at hroom; unfold lenM; omega
  have hlen2 : n0 + m ≤ 281474976710656 := by
    have : n0 + m ≤ (n0 + m) * i.bytes := Nat.le_mul_of_pos_right _ h1
    unfold roomM at hroom; omega
  have hrun := run_app_grow (P := P) (w := w) (ty := ty) ht hi hz0 hu hb.src hsrc hg hroom hlen2 h1
  have hge := grownCap_ge w (n0 + m) cap e
  generalize hgc : grownCap w (n0 + m) cap e = gc at hrun hge
  generalize hvals0 : (flat vs ++ flat us).toArray ++ Builtin.zeroCells z.cells (gc - (n0 + m)) = vals at hrun
  have hszs : ∀ q ∈ vs ++ us, q.cells.size = i.size := by
    intro q hq
    rcases List.mem_append.1 hq with h | h
    · obtain ⟨k, hk, rfl⟩ := List.getElem_of_mem h; exact (hb.el k _ (List.getElem?_eq_getElem hk)).2.1
    · obtain ⟨k, hk, rfl⟩ := List.getElem_of_mem h; exact (hue k _ (List.getElem?_eq_getElem hk)).2.1
  have hfl : (flat (vs ++ us)).length = (n0 + m) * i.size := by rw [flat_length hszs]; simp [hb.len, hul]
  have hvals : vals = (flat (vs ++ us)).toArray ++ Builtin.zeroCells z.cells (gc - (n0 + m)) := by rw [← hvals0, flat_append]
  have hvs : vals.size = gc * i.size := by
    rw [hvals]; simp only [Array.size_append, List.size_toArray, hfl, size_zeroCells, hzs]
    rw [← Nat.add_mul]; congr 1; omega
  obtain ⟨k, hk1, hk2, hk3, hk4⟩ : ∃ k : Tok, k.a = some ⟨w.heap.size, 0, none⟩ ∧ k.n = n0 + m ∧ k.cap = gc ∧ k.sz = i.size := ⟨⟨some ⟨w.heap.size, 0, none⟩, n0 + m, gc, i.size⟩, rfl, rfl, rfl, rfl⟩
  have rd := r.ext (draw_ext r.inv)
  have hd : w.drew.heap.size = w.heap.size := rfl
  obtain ⟨r1, le⟩ := rd.newTok (t := tk) (nt := nt) (vals := vals) (T := e) (k := k) hk1 (by omega) (by rw [hvs, hk3, hk4]; exact Nat.le_refl _) htk hnt hvt (by rw [hk2, hk4]; exact hle)
  rw [hk2] at r1
  refine ⟨_, _, _, hrun, r1, setTok_grow (fun h => absurd (r.inv.ub _ h) (Nat.lt_irrefl _)) le, ?_, ?_⟩
  · have kd : Kept U w w.drew := (draw_ext r.inv).kept r.inv.ub
    exact kd.trans ((Ext.alloc rd.inv (.cells vals e (0, 0))).kept rd.inv.ub)
  · have hcat := catG_get hb.len hb.el hue
    refine R.ofList (vs := vs ++ us) (by simp [hb.len, hul]) hlen hge ⟨k, upd_same _ _ _, hk4, by omega, fun _ => ⟨hk1.symm, hk3.symm⟩⟩ (fun q u' hq => ⟨R.mono le _ _ (hcat q u' hq).1, (hcat q u' hq).2⟩) fun _ => ⟨_, rfl, rfl, fun q u' hq j hj => ?_⟩
    have hql : q < n0 + m := by
      rcases Nat.lt_or_ge q (vs ++ us).length with h | h
      · simpa [hb.len, hul] using h
      · rw [List.getElem?_eq_none h] at hq; cases hq
    have hlt : q * i.size + j < (n0 + m) * i.size := by
      have : (q + 1) * i.size ≤ (n0 + m) * i.size := Nat.mul_le_mul_right _ hql
      rw [Nat.add_mul] at this; omega
    rw [← flat_get hszs hq hj]
    simp only [setTok, Nat.zero_add, hd]
    rw [if_pos trivial, if_pos ⟨trivial, by rw [hk2, hk4]; exact hlt⟩, hvals, Array.getElem?_append_left (by simpa [hfl] using hlt)]
    simp

theorem cellsG_get {sz : Nat} (f : Nat → D) {i : Nat} (h : (cellsD (f (i / sz))).length = sz) : cellsG sz f i = (cellsD (f (i / sz))).getD (i % sz) .junk := by
  unfold cellsG
  cases hb : Nat.beq sz 1 with
  | false => rfl
  | true =>
    have := beq_eq.1 hb; subst this
    simp only [cond_true, Nat.div_one, Nat.mod_one] at h ⊢
    generalize f i = d at h ⊢
    cases d with
    | agg cs => cases cs with
      | nil => cases h
      | cons x r => rfl
    | _ => rfl

/-- A slice that grows into a new box. -/
theorem app_box (r : Rel n g β U y st a w) {t u ty e : Nat} {i : TypeInfo} {z : Value} (ht : P.underlying t = some (.slice e)) (hi : P.info? e = some i) (hz0 : i.zero = some z) (hzs : z.cells.size = i.size) (hu : AppTy P u) (h1 : 0 < i.bytes)
    {n0 m cap : Nat} {f f' : Nat → D} {own : Own} {ba : Option Addr} {vs us : List Value} {x : Value} (hb : Base P g w i.size n0 f own ba cap vs) (hul : us.length = m) (hue : ∀ k q, us[k]? = some q → R g (f' k) q ∧ q.cells.size = i.size ∧ ones (f' k) = true)
    (hsrc : Src P w i.size m x (flat us)) (hg : cap < n0 + m) (hroom : (n0 + m) * i.bytes ≤ roomM) :
    ∃ v w' g', (Builtin.append_ #[t, u] ty #[.slice ba n0 cap, x]).run P w = .ok v w' ∧ Rel n g' β U y { st with h := { st.h with box := upd st.h.box st.h.nl (some (.arr ((n0 + m) * i.size) (cellsG i.size (catG n0 f f')))), nl := st.h.nl + 1 } } a w' ∧ Grow U g g' ∧ Kept U w w' ∧ R g' (.sl st.h.nl 0 (n0 + m)) v := by
  have hlen : n0 + m ≤ lenM := by
    have : n0 + m ≤ (n0 + m) * i.bytes := Nat.le_mul_of_pos_right _ h1
    unfold roomM at hroom; unfold lenM; omega
  have hlen2 : n0 + m ≤ 281474976710656 := by
    have : n0 + m ≤ (n0 + m) * i.bytes := Nat.le_mul_of_pos_right _ h1
    unfold roomM at hroom; omega
  have hrun := run_app_grow (P := P) (w := w) (ty := ty) ht hi hz0 hu hb.src hsrc hg hroom hlen2 h1
  have hge := grownCap_ge w (n0 + m) cap e
  generalize hgc : grownCap w (n0 + m) cap e = gc at hrun hge
  generalize hvals0 : (flat vs ++ flat us).toArray ++ Builtin.zeroCells z.cells (gc - (n0 + m)) = vals at hrun
  have hszs : ∀ q ∈ vs ++ us, q.cells.size = i.size := by
    intro q hq
    rcases List.mem_append.1 hq with h | h
    · obtain ⟨k, hk, rfl⟩ := List.getElem_of_mem h; exact (hb.el k _ (List.getElem?_eq_getElem hk)).2.1
    · obtain ⟨k, hk, rfl⟩ := List.getElem_of_mem h; exact (hue k _ (List.getElem?_eq_getElem hk)).2.1
  have hfl : (flat (vs ++ us)).length = (n0 + m) * i.size := by rw [flat_length hszs]; simp [hb.len, hul]
  have hvals : vals = (flat (vs ++ us)).toArray ++ Builtin.zeroCells z.cells (gc - (n0 + m)) := by rw [← hvals0, flat_append]
  have rd := r.ext (draw_ext r.inv)
  have hd : w.drew.heap.size = w.heap.size := rfl
  have hcat := catG_get hb.len hb.el hue
  have hro : RowOf g vals (.arr ((n0 + m) * i.size) (cellsG i.size (catG n0 f f'))) := by
    refine ⟨by rw [hvals]; simp [hfl], fun j hj => ?_⟩
    have hpos : 0 < i.size := by
      rcases Nat.eq_zero_or_pos i.size with h | h
      · rw [h] at hj; omega
      · exact h
    have hq : j / i.size < n0 + m := Nat.div_lt_of_lt_mul (by rw [Nat.mul_comm]; exact hj)
    have hm : j % i.size < i.size := Nat.mod_lt _ hpos
    have hlen3 : (vs ++ us).length = n0 + m := by simp [hb.len, hul]
    have hel := List.getElem?_eq_getElem (l := vs ++ us) (i := j / i.size) (by omega)
    obtain ⟨h3, h4, h5⟩ := hcat _ _ hel
    have hcl := h3.cells.length
    have hcl' : (cellsD (catG n0 f f' (j / i.size))).length = i.size := by simp only [Array.length_toList] at hcl; omega
    have hdl := List.getElem?_eq_getElem (l := cellsD (catG n0 f f' (j / i.size))) (i := j % i.size) (by omega)
    obtain ⟨v, hv, hr⟩ := h3.cells.get _ _ hdl
    refine ⟨v, ?_, ?_⟩
    · have hf := flat_get hszs hel hm
      have hjj : j / i.size * i.size + j % i.size = j := by have := Nat.div_add_mod j i.size; rw [Nat.mul_comm] at this; omega
      rw [hjj] at hf
      rw [hvals, Array.getElem?_append_left (by simpa [hfl] using hj)]
      rw [List.getElem?_toArray, hf, ← Array.getElem?_toList]; exact hv
    · rw [cellsG_get _ hcl']
      simp only [List.getD, hdl, Option.getD_some]; exact hr
  have r1 := rd.newBox (T := e) hro
  have le := addBox_le (b := w.heap.size) (r.inv.frL st.h.nl (Nat.le_refl _))
  refine ⟨_, _, addBox g st.h.nl w.heap.size, hrun, r1, Grow.sameσ le rfl, ?_, ?_⟩
  · have kd : Kept U w w.drew := (draw_ext r.inv).kept r.inv.ub
    exact kd.trans ((Ext.alloc rd.inv (.cells vals e (0, 0))).kept rd.inv.ub)
  · simp only [R]
    exact ⟨_, upd_same _ _ _, _, _, rfl, hge, hlen, fun _ => rfl⟩

/-- A slice that grows into a new array of the frame's own. -/
theorem app_newvec (r : Rel n g β U y st a w) {t u ty e : Nat} {i : TypeInfo} {z : Value} (ht : P.underlying t = some (.slice e)) (hi : P.info? e = some i) (hz0 : i.zero = some z) (hzs : z.cells.size = i.size) (hu : AppTy P u) (h1 : 0 < i.bytes)
    {n0 m cap : Nat} {f f' : Nat → D} {ba : Option Addr} {vs us : List Value} {x : Value} (hbl : vs.length = n0) (hbe : ∀ k q, vs[k]? = some q → R g (f k) q ∧ q.cells.size = i.size ∧ ones (f k) = true) (hbs : Src P w i.size n0 (.slice ba n0 cap) (flat vs))
    (hul : us.length = m) (hue : ∀ k q, us[k]? = some q → R g (f' k) q ∧ q.cells.size = i.size ∧ ones (f' k) = true)
    (hsrc : Src P w i.size m x (flat us)) (hg : cap < n0 + m) (hroom : (n0 + m) * i.bytes ≤ roomM) {tk nt : Nat} (htk : tk < nt) (hnt : st.h.nt ≤ nt) (hle : ∀ k0, g.τ tk = some k0 → k0.sz = i.size ∧ k0.n < n0 + m) :
    ∃ v w' g', (Builtin.append_ #[t, u] ty #[.slice ba n0 cap, x]).run P w = .ok v w' ∧ Rel n g' β U y { st with h := vecH st.h tk (n0 + m) nt (catG n0 f f') } a w' ∧ Grow U g g' ∧ Kept U w w' ∧ R g' (.vec tk (n0 + m) i.size) v := by
  have hlen : n0 + m ≤ lenM := by
    have : n0 + m ≤ (n0 + m) * i.bytes := Nat.le_mul_of_pos_right _ h1
    unfold roomM at hroom; unfold lenM; omega
  have hlen2 : n0 + m ≤ 281474976710656 := by
    have : n0 + m ≤ (n0 + m) * i.bytes := Nat.le_mul_of_pos_right _ h1
    unfold roomM at hroom; omega
  have hrun := run_app_grow (P := P) (w := w) (ty := ty) ht hi hz0 hu hbs hsrc hg hroom hlen2 h1
  have hge := grownCap_ge w (n0 + m) cap e
  generalize hgc : grownCap w (n0 + m) cap e = gc at hrun hge
  generalize hvals0 : (flat vs ++ flat us).toArray ++ Builtin.zeroCells z.cells (gc - (n0 + m)) = vals at hrun
  have hszs : ∀ q ∈ vs ++ us, q.cells.size = i.size := by
    intro q hq
    rcases List.mem_append.1 hq with h | h
    · obtain ⟨k, hk, rfl⟩ := List.getElem_of_mem h; exact (hbe k _ (List.getElem?_eq_getElem hk)).2.1
    · obtain ⟨k, hk, rfl⟩ := List.getElem_of_mem h; exact (hue k _ (List.getElem?_eq_getElem hk)).2.1
  have hfl : (flat (vs ++ us)).length = (n0 + m) * i.size := by rw [flat_length hszs]; simp [hbl, hul]
  have hvals : vals = (flat (vs ++ us)).toArray ++ Builtin.zeroCells z.cells (gc - (n0 + m)) := by rw [← hvals0, flat_append]
  have hvs : vals.size = gc * i.size := by
    rw [hvals]; simp only [Array.size_append, List.size_toArray, hfl, size_zeroCells, hzs]
    rw [← Nat.add_mul]; congr 1; omega
  have hd : w.drew.heap.size = w.heap.size := rfl
  have hdd : w.drew.heap = w.heap := rfl
  have hcat := catG_get hbl hbe hue
  have r1 := Rel.vecTo r (t := tk) (nt := nt) (k := ⟨some ⟨w.heap.size, 0, none⟩, n0 + m, gc, i.size⟩) (f := catG n0 f f') (w' := w.drew.alloc (.cells vals e (0, 0))) htk hnt
    (fun k0 h => by obtain ⟨h2, h3⟩ := hle k0 h; exact ⟨h2.symm, by simp only; omega, fun h => by simp only at h; omega⟩)
    (DefsKept.alloc w.drew _)
    (by have := (below_alloc w.drew (.cells vals e (0, 0))).size; rw [hd] at this; exact this)
    (fun c hc _ => by rw [heap_alloc_old _ _ (by rw [hd]; exact hc), hdd])
    (fun _ => ⟨w.heap.size, e, vals, rfl, fun h => absurd (r.inv.ub _ h) (Nat.lt_irrefl _), by rw [← hd]; exact heap_alloc_new _ _, by simp only; omega, hge, fun q hq => ?_, r.freeNew tk (Nat.le_refl _)⟩)
  · refine ⟨_, _, _, hrun, r1, Grow.sameσ (vecG_le fun k0 h => by obtain ⟨h2, h3⟩ := hle k0 h; exact ⟨h2.symm, by simp only; omega, fun h => by simp only at h; omega⟩) rfl, ?_, ?_⟩
    · have kd : Kept U w w.drew := (draw_ext r.inv).kept r.inv.ub
      have rd := r.ext (draw_ext r.inv)
      exact kd.trans ((Ext.alloc rd.inv (.cells vals e (0, 0))).kept rd.inv.ub)
    · simp only [R]
      exact ⟨hlen, _, _, rfl, hge, _, upd_same _ _ _, rfl, Nat.le_refl _, fun _ => ⟨rfl, rfl⟩⟩
  · simp only at hq ⊢
    have hel := List.getElem?_eq_getElem (l := vs ++ us) (i := q) (by simp [hbl, hul]; omega)
    obtain ⟨h3, h4, h5⟩ := hcat _ _ hel
    refine ⟨_, h3, ⟨h4, h5⟩, fun j hj => ?_⟩
    have hlt : q * i.size + j < (n0 + m) * i.size := by
      have : (q + 1) * i.size ≤ (n0 + m) * i.size := Nat.mul_le_mul_right _ hq
      rw [Nat.add_mul] at this; omega
    rw [← flat_get hszs hel hj, hvals, Array.getElem?_append_left (by simpa [hfl] using hlt)]
    simp

/-- An array of the frame's own, its elements. -/
theorem vec_open {h : Heap} (i : Inv g U h w) {t m sz : Nat} {f : Nat → D} {v : Value} (hv : h.vw t = some f) (hn : h.hw t = some m) (hr : R g (.vec t m sz) v) :
    ∃ (k : Tok) (vs : List Value), v = .slice k.a m k.cap ∧ m ≤ k.cap ∧ m ≤ lenM ∧ g.τ t = some k ∧ k.sz = sz ∧ k.n = m ∧ vs.length = m ∧ (∀ q u, vs[q]? = some u → R g (f q) u ∧ u.cells.size = sz ∧ ones (f q) = true) ∧ Src P w sz m v (flat vs) ∧
      (0 < k.cap → TokAt g w U k (some f)) := by
  simp only [R] at hr
  obtain ⟨h1, ba, cap, rfl, h2, k, h3, h4, h5, h6⟩ := hr
  obtain ⟨k', e1, e2, e3⟩ := i.tok t m hn
  rw [h3] at e1; cases e1
  obtain ⟨h7, h8⟩ := h6 e2.symm
  subst h7; subst h8; subst e2; subst h4
  rw [hv] at e3
  rcases Nat.eq_zero_or_pos k.n with h0 | h0
  · refine ⟨k, [], by rw [h0], by omega, by omega, h3, rfl, rfl, by simp [h0], fun q u hq => (by cases hq), ?_, e3⟩
    rw [h0]
    cases hka : k.a with
    | none => exact Src.nil
    | some p => exact Src.slice (by simp [flat]) (fun q v hq => by simp [flat] at hq)
  · obtain ⟨b, c1, c2, T, vals, c3, c4, c5, c6⟩ := e3 (show 0 < k.cap by omega)
    obtain ⟨_, c7⟩ := c6 f rfl
    have hex : ∀ q : Fin k.n, ∃ u, R g (f q) u ∧ (u.cells.size = k.sz ∧ ones (f q) = true) ∧ ∀ j, j < k.sz → vals[q.1 * k.sz + j]? = u.cells[j]? := fun q => c7 q q.2
    let vs := List.ofFn fun q : Fin k.n => (hex q).choose
    have hvl : vs.length = k.n := by simp [vs]
    have hvg : ∀ q u, vs[q]? = some u → q < k.n ∧ R g (f q) u ∧ (u.cells.size = k.sz ∧ ones (f q) = true) ∧ ∀ j, j < k.sz → vals[q * k.sz + j]? = u.cells[j]? := by
      intro q u hq
      have hql : q < k.n := by
        rcases Nat.lt_or_ge q k.n with h | h
        · exact h
        · rw [List.getElem?_eq_none (by omega)] at hq; cases hq
      have := (hex ⟨q, hql⟩).choose_spec
      rw [List.getElem?_eq_getElem (by omega)] at hq
      simp only [vs, List.getElem_ofFn, Option.some.injEq] at hq
      rw [hq] at this
      exact ⟨hql, this⟩
    have hszs : ∀ u ∈ vs, u.cells.size = k.sz := by
      intro u hu
      obtain ⟨q, hq, rfl⟩ := List.getElem_of_mem hu
      exact (hvg q _ (List.getElem?_eq_getElem hq)).2.2.1.1
    refine ⟨k, vs, rfl, by omega, h1, h3, rfl, rfl, hvl, fun q u hq => ⟨(hvg q u hq).2.1, (hvg q u hq).2.2.1⟩, ?_, e3⟩
    rw [c1]
    refine Src.slice (by rw [flat_length hszs, hvl]) fun p v hp => ?_
    have hpl : p < k.n * k.sz := by
      rcases Nat.lt_or_ge p (flat vs).length with h | h
      · rw [flat_length hszs, hvl] at h; exact h
      · rw [List.getElem?_eq_none h] at hp; cases hp
    have hpos : 0 < k.sz := by
      rcases Nat.eq_zero_or_pos k.sz with h | h
      · rw [h] at hpl; omega
      · exact h
    have hq : p / k.sz < k.n := Nat.div_lt_of_lt_mul (by rw [Nat.mul_comm]; exact hpl)
    have hm := Nat.mod_lt p hpos
    have hel := List.getElem?_eq_getElem (l := vs) (i := p / k.sz) (by omega)
    have hf := flat_get hszs hel hm
    have hjj : p / k.sz * k.sz + p % k.sz = p := by have := Nat.div_add_mod p k.sz; rw [Nat.mul_comm] at this; omega
    rw [hjj, hp] at hf
    have h9 := (hvg _ _ hel).2.2.2 _ hm
    rw [hjj, ← hf] at h9
    rw [add_none]
    simp only [World.cell?, c3, Nat.zero_add]
    simpa using h9

theorem app_ok (r : Rel n g β U y st a w) {t u ty : Nat} {x z : D} {vx vz : Value} (hu : AppTy P u) (hx : R g x vx) (hz : R g z vz)
    (hrun : ∀ v w', (Builtin.append_ #[t, u] ty #[vx, vz]).run P w = .ok v w' → (execOp a.eval o).run P w = .ok (.value v) w') {bx vx : Bool} : ResOk P n g β U y st a w o (appD P st bx vx t x z) := by
  unfold appD
  split
  · rename_i e ht
    split
    · rename_i sz b zd hsz hby hze
      cases hc : (isD zd && Nat.beq (cellsD zd).length sz) with
      | false => trivial
      | true =>
        simp only [Bool.and_eq_true] at hc
        obtain ⟨hc1, hc2⟩ := hc
        have hc2 := beq_eq.1 hc2
        simp only [cond_true]
        split
        · rename_i n0 ez f own m f' hsr
          cases hc3 : (bif Nat.beq ez sz then true else Nat.beq n0 0) with
          | false => trivial
          | true =>
            simp only [cond_true]
            have hez : ez = sz ∨ n0 = 0 := by
              cases hb : Nat.beq ez sz with
              | true => exact .inl (beq_eq.1 hb)
              | false => rw [hb] at hc3; exact .inr (beq_eq.1 hc3)
            obtain ⟨i, hi, hib⟩ := bytesOf_sound hby
            have his : i.size = sz := by simp only [szOf, hi, Option.map_some, Option.some.injEq] at hsz; exact hsz
            have hizs : ∃ zv, i.zero = some zv ∧ zv.cells.size = i.size := by
              obtain ⟨zv, h1, h2⟩ := zeroD_sound hze hc1 w
              have hzz : i.zero = some zv := by
                simp only [zeroD, hi, Option.bind_some] at hze
                cases hzi : i.zero with
                | none => rw [hzi] at hze; cases hze
                | some z' =>
                  simp [zeroValue, typeInfo, hi, hzi] at h1
                  rw [h1]
              refine ⟨zv, hzz, ?_⟩
              have := (h2 g).cells.length
              simp at this; omega
            obtain ⟨zv, hz1, hz2⟩ := hizs
            subst his
            have h1 : 0 < i.bytes := by omega
            obtain ⟨ba, cap, vs, rfl, hb⟩ := base_of (P := P) (w := w) r.inv.sub hx hez
            obtain ⟨us, hul, hue, hsrc⟩ := srcD_sound (P := P) (w := w) r.inv.sub hsr hz
            have hlenOf : (n0 + m) * (b + 1) ≤ roomM → n0 + m ≤ lenM := by
              intro hr
              have : n0 + m ≤ (n0 + m) * (b + 1) := Nat.le_mul_of_pos_right _ (by omega)
              unfold roomM at hr; unfold lenM; omega
            have hidle : m = 0 → ∃ w', (Builtin.append_ #[t, u] ty #[.slice ba n0 cap, vz]).run P w = .ok (.slice ba (n0 + m) cap) w' ∧ w' = w := by
              intro hm
              subst hm
              have : us = [] := by simpa using hul
              subst this
              refine ⟨w, run_app_room ht hi hu hsrc (by have := hb.capLe; omega) ?_, rfl⟩
              cases ba with
              | none => rfl
              | some p => simp [flat, storeCells]
            split
            · trivial
            · trivial
            · -- a slice whose capacity is its length
              have hcap : cap = n0 := hb.own
              cases vx with
              | true =>
                intro hp
                rcases Nat.eq_zero_or_pos m with hm | hm
                · obtain ⟨w', h2, rfl⟩ := hidle hm
                  have hn0 : n0 = 0 := by omega
                  have r1 := Rel.vecTo r (t := st.h.nt) (nt := st.h.nt + 1) (k := ⟨ba, n0 + m, cap, i.size⟩) (f := catG n0 f f') (w' := w') (by omega) (by omega) (fun k0 h => by rw [r.inv.frT _ (Nat.le_refl _)] at h; cases h) (fun _ h => h) (Nat.le_refl _) (fun _ _ _ => rfl) (fun h => by simp only at h; omega)
                  refine ⟨_, _, _, .inl (hrun _ _ h2), r1, Grow.sameσ (vecG_le fun k0 h => by rw [r.inv.frT _ (Nat.le_refl _)] at h; cases h) rfl, Kept.refl _ _, RS0.ofR ?_, rfl⟩
                  simp only [R]
                  exact ⟨by unfold lenM; omega, ba, cap, rfl, by omega, _, upd_same _ _ _, rfl, Nat.le_refl _, fun _ => ⟨rfl, rfl⟩⟩
                · obtain ⟨v, w', g', h2, h3, h4, h5, h6⟩ := app_newvec (ty := ty) r ht hi hz1 hz2 hu h1 hb.len hb.el hb.src hul hue hsrc (by omega) (by rw [hib]; exact hp.2) (tk := st.h.nt) (nt := st.h.nt + 1) (by omega) (by omega)
                    (fun k0 h => by rw [r.inv.frT _ (Nat.le_refl _)] at h; cases h)
                  exact ⟨v, w', g', .inl (hrun _ _ h2), h3, h4, h5, RS0.ofR h6, rfl⟩
              | false =>
              cases bx with
              | true =>
                intro hp
                obtain ⟨v, w', g', h2, h3, h4, h5, h6⟩ := app_box (ty := ty) r ht hi hz1 hz2 hu h1 hb hul hue hsrc (by omega) (by rw [hib]; exact hp.2)
                exact ⟨v, w', g', .inl (hrun _ _ h2), h3, h4, h5, RS0.ofR h6, rfl⟩
              | false =>
              intro hp
              rcases Nat.eq_zero_or_pos m with hm | hm
              · obtain ⟨w', h2, rfl⟩ := hidle hm
                obtain ⟨r1, le⟩ := r.idleTok (t := st.h.nt) (k := ⟨ba, n0 + m, cap, i.size⟩) (by simp only; omega) rfl
                refine ⟨_, _, _, .inl (hrun _ _ h2), r1, Grow.sameσ le rfl, Kept.refl _ _, ?_, rfl⟩
                subst hm
                have hus : us = [] := by simpa using hul
                refine RS0.ofR (R.ofList (vs := vs ++ us) (by simp [hb.len, hul]) (hlenOf hp) (by omega) ⟨_, upd_same _ _ _, rfl, Nat.le_refl _, fun _ => ⟨rfl, rfl⟩⟩ (fun q u' hq => ?_) fun h0 => ?_)
                · have := catG_get hb.len hb.el hue q u' hq
                  exact ⟨R.mono le _ _ this.1, this.2⟩
                · obtain ⟨p, e1, e2, e3⟩ := hb.at_ (by omega)
                  exact ⟨p, e1, e2, fun q u' hq => e3 q u' (by simpa [hus] using hq)⟩
              · obtain ⟨v, w', g', h2, h3, h4, h5, h6⟩ := app_grow (ty := ty) r ht hi hz1 hz2 hu h1 hb hul hue hsrc (by omega) (by rw [hib]; exact hp) (tk := st.h.nt) (nt := st.h.nt + 1) (by omega) (by omega) (r.inv.frV _ (Nat.le_refl _))
                  (fun k0 h => by rw [r.inv.frT _ (Nat.le_refl _)] at h; cases h)
                exact ⟨v, w', g', .inl (hrun _ _ h2), h3, h4, h5, RS0.ofR h6, rfl⟩
            · -- one with an append right
              rename_i tk tz
              split
              · trivial
              rename_i hvt
              cases htz : Nat.beq i.size tz with
              | false => trivial
              | true =>
                have := beq_eq.1 htz; subst this
                simp only [cond_true]
                intro ⟨hw, hp⟩
                obtain ⟨k, hk, hks, hkn, hkeq⟩ := hb.own
                obtain ⟨k', hk', hkn', hroom⟩ := r.inv.tok tk n0 hw
                rw [hk] at hk'; cases hk'
                obtain ⟨hka, hkc⟩ := hkeq hkn'.symm
                have hnt : tk < st.h.nt := by
                  rcases Nat.lt_or_ge tk st.h.nt with h | h
                  · exact h
                  · rw [r.inv.frT tk h] at hk; cases hk
                rcases Nat.eq_zero_or_pos m with hm | hm
                · obtain ⟨w', h2, rfl⟩ := hidle hm
                  subst hm
                  have hus : us = [] := by simpa using hul
                  have hst : ({ st with h := { st.h with hw := upd st.h.hw tk (some (n0 + 0)) } } : St) = st := by
                    have : upd st.h.hw tk (some (n0 + 0)) = st.h.hw := by
                      funext q
                      by_cases hq : q = tk
                      · subst hq; rw [upd_same, hw]; rfl
                      · rw [upd_other _ _ hq]
                    rw [this]
                  rw [hst]
                  refine ⟨_, _, _, .inl (hrun _ _ h2), r, Grow.refl U g, Kept.refl _ _, ?_, rfl⟩
                  refine RS0.ofR (R.ofList (vs := vs ++ us) (by simp [hb.len, hul]) (hlenOf hp) (by have := hb.capLe; omega) ⟨k, hk, hks, by omega, fun _ => ⟨hka, hkc⟩⟩ (fun q u' hq => ?_) fun h0 => ?_)
                  · exact catG_get hb.len hb.el hue q u' hq
                  · obtain ⟨p, e1, e2, e3⟩ := hb.at_ (by omega)
                    exact ⟨p, e1, e2, fun q u' hq => e3 q u' (by simpa [hus] using hq)⟩
                · rcases Nat.lt_or_ge cap (n0 + m) with hg | hg
                  · obtain ⟨v, w', g', h2, h3, h4, h5, h6⟩ := app_grow (ty := ty) r ht hi hz1 hz2 hu h1 hb hul hue hsrc hg (by rw [hib]; exact hp) (tk := tk) (nt := st.h.nt) hnt (Nat.le_refl _) hvt
                      (fun k0 h => by rw [hk] at h; cases h; exact ⟨hks, by omega⟩)
                    exact ⟨v, w', g', .inl (hrun _ _ h2), h3, h4, h5, RS0.ofR h6, rfl⟩
                  · rw [hvt] at hroom
                    obtain ⟨bl, e1, e2, T, vals, e3, e4, e5, _⟩ := hroom (show k.n < k.cap by omega)
                    subst hkn'
                    have e5 : ∀ j, k.n * k.sz ≤ j → g.σ ⟨bl, j, none⟩ = none := e5
                    have hlen : (flat us).length = m * k.sz := by
                      rw [flat_length (sz := k.sz) (fun q hq => ?_), hul]
                      obtain ⟨j, hj, rfl⟩ := List.getElem_of_mem hq
                      rw [hks]; exact (hue j _ (List.getElem?_eq_getElem hj)).2.1
                    obtain ⟨r1, le, kp⟩ := r.roomTok (news := flat us) (m := m) hw hvt hk e1 e3 e4 e5 hlen hm (by omega) e2
                    have hcapz : (k.n + m) * k.sz ≤ vals.size := Nat.le_trans (Nat.mul_le_mul_right _ (by omega)) e4
                    have hadd : (k.n + m) * k.sz = k.n * k.sz + (flat us).length := by rw [Nat.add_mul, hlen]
                    have hst := run_storeCells_at (P := P) bl (k.n * k.sz) T (flat us) 0 vals w e3 (by omega) (flat_ones (get := f') fun q u' hq => ⟨(hue q u' hq).1, (hue q u' hq).2.2⟩)
                    simp only [Nat.add_zero] at hst
                    have hba : ba = some ⟨bl, 0, none⟩ := by rw [hka, e1]
                    have h2 : (Builtin.append_ #[t, u] ty #[.slice ba k.n cap, vz]).run P w = .ok (.slice ba (k.n + m) cap) _ :=
                      run_app_room (w' := w.setRow bl (vals.toList.take (k.n * k.sz) ++ flat us ++ vals.toList.drop (k.n * k.sz + (flat us).length)).toArray) ht hi hu hsrc hg (by
                        rw [hba]; simp only [add_none, Nat.zero_add]; rw [← hks]; exact hst)
                    refine ⟨_, _, _, .inl (hrun _ _ h2), r1, roomG_grow e2 le, kp, ?_, rfl⟩
                    refine RS0.ofR (R.ofList (vs := vs ++ us) (by simp [hb.len, hul]) (hlenOf hp) hg ⟨{ k with n := k.n + m }, upd_same _ _ _, hks, Nat.le_refl _, fun _ => ⟨hka, hkc⟩⟩ (fun q u' hq => ?_) fun h0 => ?_)
                    · have := catG_get hb.len hb.el hue q u' hq
                      exact ⟨R.mono le _ _ this.1, this.2⟩
                    · refine ⟨_, hba, rfl, fun q u' hq j hj => ?_⟩
                      rw [← hks] at hj
                      rw [← hks]
                      rcases Nat.lt_or_ge q k.n with hq1 | hq1
                      · rw [List.getElem?_append_left (by rw [hb.len]; exact hq1)] at hq
                        obtain ⟨p, f1, f2, f3⟩ := hb.at_ (by omega)
                        rw [hba] at f1; cases f1
                        have hf := f3 q u' hq j (by omega)
                        rw [← hks] at hf
                        have hlt : q * k.sz + j < k.n * k.sz := by
                          have : (q + 1) * k.sz ≤ k.n * k.sz := Nat.mul_le_mul_right _ hq1
                          rw [Nat.add_mul] at this; omega
                        simp only [roomG]
                        rw [if_neg (by simp only [Nat.zero_add]; omega)]
                        exact hf
                      · rw [List.getElem?_append_right (by rw [hb.len]; exact hq1), hb.len] at hq
                        have hql : q - k.n < m := by
                          rcases Nat.lt_or_ge (q - k.n) us.length with h | h
                          · omega
                          · rw [List.getElem?_eq_none h] at hq; cases hq
                        have husz : ∀ q ∈ us, q.cells.size = k.sz := by
                          intro q hq
                          obtain ⟨j, hj, rfl⟩ := List.getElem_of_mem hq
                          rw [hks]; exact (hue j _ (List.getElem?_eq_getElem hj)).2.1
                        have hqe : q * k.sz = k.n * k.sz + (q - k.n) * k.sz := by rw [← Nat.add_mul]; congr 1; omega
                        have hlt : (q - k.n) * k.sz + j < (flat us).length := by
                          have : (q - k.n + 1) * k.sz ≤ m * k.sz := Nat.mul_le_mul_right _ hql
                          rw [Nat.add_mul] at this; omega
                        rw [← flat_get husz hq hj]
                        simp only [roomG, Nat.zero_add]
                        rw [if_pos ⟨trivial, trivial, by omega, by omega⟩, hqe]
                        simp only [List.getElem?_toArray]
                        rw [List.append_assoc, List.getElem?_append_right (by simp; omega)]
                        rw [List.getElem?_append_left (by simp; omega)]
                        congr 1
                        simp; omega
        · rename_i tk n0 ez m f' hsr
          cases htz : Nat.beq ez sz with
          | false => trivial
          | true =>
            have := beq_eq.1 htz; subst this
            simp only [cond_true]
            split
            · rename_i f hv
              obtain ⟨i, hi, hib⟩ := bytesOf_sound hby
              have his : i.size = ez := by simp only [szOf, hi, Option.map_some, Option.some.injEq] at hsz; exact hsz
              have hizs : ∃ zv, i.zero = some zv ∧ zv.cells.size = i.size := by
                obtain ⟨zv, h1, h2⟩ := zeroD_sound hze hc1 w
                have hzz : i.zero = some zv := by
                  simp only [zeroD, hi, Option.bind_some] at hze
                  cases hzi : i.zero with
                  | none => rw [hzi] at hze; cases hze
                  | some z' =>
                    simp [zeroValue, typeInfo, hi, hzi] at h1
                    rw [h1]
                refine ⟨zv, hzz, ?_⟩
                have := (h2 g).cells.length
                simp at this; omega
              obtain ⟨zv, hz1, hz2⟩ := hizs
              subst his
              have h1 : 0 < i.bytes := by omega
              intro ⟨hw, hp⟩
              obtain ⟨k, vs, rfl, k1, k2, k3, k4, k5, k6, k7, k8, k9⟩ := vec_open (P := P) r.inv hv hw hx
              obtain ⟨us, hul, hue, hsrc⟩ := srcD_sound (P := P) (w := w) r.inv.sub hsr hz
              have hlenM : n0 + m ≤ lenM := by
                have : n0 + m ≤ (n0 + m) * (b + 1) := Nat.le_mul_of_pos_right _ (by omega)
                unfold roomM at hp; unfold lenM; omega
              have hnt := r.ntLt k3
              have hcatl : ∀ q, q < n0 → catG n0 f f' q = f q := fun q hq => by simp [catG, blt_tt.2 hq]
              rcases Nat.eq_zero_or_pos m with hm | hm
              · subst hm
                have hus : us = [] := by simpa using hul
                subst hus
                have h2 : (Builtin.append_ #[t, u] ty #[.slice k.a n0 k.cap, vz]).run P w = .ok (.slice k.a (n0 + 0) k.cap) w := by
                  refine run_app_room ht hi hu hsrc (by omega) ?_
                  cases k.a with
                  | none => rfl
                  | some p => simp [flat, storeCells]
                have r1 := Rel.vecTo r (t := tk) (nt := st.h.nt) (k := k) (f := catG n0 f f') (w' := w) hnt (Nat.le_refl _) (fun k0 h => by rw [k3] at h; cases h; exact ⟨rfl, Nat.le_refl _, fun _ => rfl⟩) (fun _ h => h) (Nat.le_refl _) (fun _ _ _ => rfl) (fun hcap => by
                  obtain ⟨bl, c1, c2, T, vals, c3, c4, c5, c6⟩ := k9 hcap
                  obtain ⟨c7, c8⟩ := c6 f rfl
                  exact ⟨bl, T, vals, c1, c2, c3, c4, c7, fun q hq => by rw [hcatl q (by omega)]; exact c8 q hq, r.freeOld hv hw k3 hcap c1⟩)
                have hgg : vecG g tk k = g := by simp only [vecG, upd_idem _ k3]
                rw [hgg] at r1
                refine ⟨_, _, _, .inl (hrun _ _ h2), ?_, Grow.refl U g, Kept.refl _ _, RS0.ofR ?_, rfl⟩
                · have : vecH st.h tk k.n st.h.nt (catG n0 f f') = { st.h with hw := upd st.h.hw tk (some (n0 + 0)), vw := upd st.h.vw tk (some (catG n0 f f')) } := by rw [k5]; rfl
                  rw [← this]; exact r1
                · simp only [R]
                  exact ⟨by omega, _, _, rfl, by omega, k, k3, k4, by omega, fun _ => ⟨rfl, rfl⟩⟩
              · rcases Nat.lt_or_ge k.cap (n0 + m) with hg | hg
                · obtain ⟨v, w', g', h2, h3, h4, h5, h6⟩ := app_newvec (ty := ty) r ht hi hz1 hz2 hu h1 k6 k7 k8 hul hue hsrc hg (by rw [hib]; exact hp) (tk := tk) (nt := st.h.nt) hnt (Nat.le_refl _)
                    (fun k0 h => by rw [k3] at h; cases h; exact ⟨k4, by omega⟩)
                  exact ⟨v, w', g', .inl (hrun _ _ h2), h3, h4, h5, RS0.ofR h6, rfl⟩
                · have hcap : 0 < k.cap := by omega
                  obtain ⟨bl, c1, c2, T, vals, c3, c4, c5, c6⟩ := k9 hcap
                  obtain ⟨c7, c8⟩ := c6 f rfl
                  have husz : ∀ q ∈ us, q.cells.size = k.sz := by
                    intro q hq
                    obtain ⟨j, hj, rfl⟩ := List.getElem_of_mem hq
                    rw [k4]; exact (hue j _ (List.getElem?_eq_getElem hj)).2.1
                  have hlen : (flat us).length = m * k.sz := by rw [flat_length husz, hul]
                  have hcapz : (n0 + m) * k.sz ≤ vals.size := Nat.le_trans (Nat.mul_le_mul_right _ hg) c4
                  have hadd : (n0 + m) * k.sz = n0 * k.sz + (flat us).length := by rw [Nat.add_mul, hlen]
                  have hst := run_storeCells_at (P := P) bl (n0 * k.sz) T (flat us) 0 vals w c3 (by omega) (flat_ones (get := f') fun q u' hq => ⟨(hue q u' hq).1, (hue q u' hq).2.2⟩)
                  simp only [Nat.add_zero] at hst
                  have h2 : (Builtin.append_ #[t, u] ty #[.slice k.a n0 k.cap, vz]).run P w = .ok (.slice k.a (n0 + m) k.cap) _ :=
                    run_app_room (w' := w.setRow bl (vals.toList.take (n0 * k.sz) ++ flat us ++ vals.toList.drop (n0 * k.sz + (flat us).length)).toArray) ht hi hu hsrc hg (by
                      rw [c1]; simp only [add_none, Nat.zero_add]; rw [← k4]; exact hst)
                  have tn := turn_setRow w bl (vals.toList.take (n0 * k.sz) ++ flat us ++ vals.toList.drop (n0 * k.sz + (flat us).length)).toArray
                  have har : ∀ p, (vals.toList.take (n0 * k.sz) ++ flat us ++ vals.toList.drop (n0 * k.sz + (flat us).length)).toArray[p]? = if p < n0 * k.sz then vals[p]? else if p < n0 * k.sz + (flat us).length then (flat us)[p - n0 * k.sz]? else vals[p]? := fun p => by
                    have := get_splice vals.toList (flat us) (n0 * k.sz) p (by simp; omega)
                    simpa using this
                  have hle : ∀ k0, g.τ tk = some k0 → k.sz = k0.sz ∧ k0.n ≤ n0 + m ∧ (k0.n = n0 + m → ({ k with n := n0 + m } : Tok) = k0) := fun k0 h => by
                    rw [k3] at h; cases h; exact ⟨rfl, by omega, fun h => by omega⟩
                  have r1 := Rel.vecTo r (t := tk) (nt := st.h.nt) (k := { k with n := n0 + m }) (f := catG n0 f f') hnt (Nat.le_refl _) hle tn.defs
                    (by rw [tn.size]; exact Nat.le_refl _) (fun c hc hcb => tn.other c (hcb bl hcap c1)) (fun _ => ⟨bl, T, _, c1, c2, setRow_heap w bl vals _ T (0, 0) c3, by
                      simp only [List.size_toArray, List.length_append, List.length_take, List.length_drop, Array.length_toList]; omega, hg, fun q hq => ?_, r.freeOld hv hw k3 hcap c1⟩)
                  · refine ⟨_, _, _, .inl (hrun _ _ h2), r1, Grow.sameσ (vecG_le hle) rfl, tn.kept c2, RS0.ofR ?_, rfl⟩
                    simp only [R]
                    exact ⟨hlenM, _, _, rfl, hg, _, upd_same _ _ _, k4, Nat.le_refl _, fun _ => ⟨rfl, rfl⟩⟩
                  · simp only at hq ⊢
                    rcases Nat.lt_or_ge q n0 with hq1 | hq1
                    · rw [hcatl q hq1]
                      obtain ⟨u', d1, d2, d3⟩ := c8 q (by omega)
                      refine ⟨u', d1, d2, fun j hj => ?_⟩
                      have : (q + 1) * k.sz ≤ n0 * k.sz := Nat.mul_le_mul_right _ hq1
                      rw [Nat.add_mul] at this
                      rw [har, if_pos (by omega)]
                      exact d3 j hj
                    · have hc : catG n0 f f' q = f' (q - n0) := by simp [catG, blt_ff.2 hq1]
                      rw [hc]
                      have hel := List.getElem?_eq_getElem (l := us) (i := q - n0) (by omega)
                      obtain ⟨d1, d2, d3⟩ := hue _ _ hel
                      refine ⟨_, d1, ⟨by rw [k4]; exact d2, d3⟩, fun j hj => ?_⟩
                      have hqe : q * k.sz = n0 * k.sz + (q - n0) * k.sz := by rw [← Nat.add_mul]; congr 1; omega
                      have hlt : (q - n0) * k.sz + j < (flat us).length := by
                        have : (q - n0 + 1) * k.sz ≤ m * k.sz := Nat.mul_le_mul_right _ (by omega)
                        rw [Nat.add_mul] at this; omega
                      rw [har, if_neg (by omega), if_pos (by omega), ← flat_get husz hel hj]
                      congr 1; omega
            · trivial
        · trivial
    · trivial
  · trivial

end
end Go.Ab
/- The executor is sound, 10: len, min, max, make, calls; all operations. -/
namespace Go.Ab

section
variable {P : Program} {n : Nat} {g : G} {β : Nat → Nat} {U : Nat → Prop} {y : Nat → Bool → Prop} {st : St} {a : Act} {w : World} {ev : Operand → D} {o : Oper}

theorem run_builtin {b : Builtin} {c : Call} (ho : o.op = .call c) (hc : c.callee = .builtin b) :
    (execOp a.eval o) = builtin b c.argTypes o.type (c.args.map fun | .const _ => true | _ => false) (c.args.map a.eval) := by
  simp only [execOp, ho, resolve, hc, invoke]
  rfl

theorem Rs.one {g : G} {d : D} {vs : List Value} (h : Rs g [d] vs) : ∃ v, vs = [v] ∧ R g d v := by
  simp only [Rs] at h
  obtain ⟨v, r, rfl, hv, rfl⟩ := h
  exact ⟨v, rfl, hv⟩

theorem minD_sound {g : G} : ∀ (l : List D) (vs : List Value) (x d : D) (vx : Value) (w : World), Rs g l vs → R g x vx →
    l.foldl (fun acc y => match acc, y with | some (.int k a), .int _ b => some (.int k (if b < a then b else a)) | _, _ => none) (some x) = some d →
    ∃ v, (vs.foldlM Builtin.min2 vx).run P w = .ok v w ∧ R g d v
  | [], vs, x, d, vx, w, hs, hx, h => by
    simp only [Rs] at hs; subst hs
    simp only [List.foldl_nil, Option.some.injEq] at h; subst h
    exact ⟨vx, by simp [List.foldlM], hx⟩
  | z :: l, vs, x, d, vx, w, hs, hx, h => by
    simp only [Rs] at hs
    obtain ⟨vz, r, rfl, hz, hs⟩ := hs
    have hbad : ∀ l : List D, l.foldl (fun (acc : Option D) y => match acc, y with | some (.int k a), .int _ b => some (.int k (if b < a then b else a)) | _, _ => none) none ≠ some d := by
      intro l; induction l with
      | nil => simp
      | cons q l ih => simpa using ih
    simp only [List.foldl_cons] at h
    split at h
    · rename_i _ k p k' q hxe
      cases hxe
      simp only [R] at hx hz
      subst hx; subst hz
      obtain ⟨v, h1, h2⟩ := minD_sound l r _ d _ w hs (by simp only [R]; rfl) h
      exact ⟨v, by simp only [List.foldlM_cons, Builtin.min2, Sem.run_bind, Sem.run_pure, Result.andThen_ok]; exact h1, h2⟩
    · exact absurd h (hbad l)

theorem maxD_sound {g : G} : ∀ (l : List D) (vs : List Value) (x d : D) (vx : Value) (w : World), Rs g l vs → R g x vx →
    l.foldl (fun acc y => match acc, y with | some (.int k a), .int _ b => some (.int k (if b > a then b else a)) | _, _ => none) (some x) = some d →
    ∃ v, (vs.foldlM Builtin.max2 vx).run P w = .ok v w ∧ R g d v
  | [], vs, x, d, vx, w, hs, hx, h => by
    simp only [Rs] at hs; subst hs
    simp only [List.foldl_nil, Option.some.injEq] at h; subst h
    exact ⟨vx, by simp [List.foldlM], hx⟩
  | z :: l, vs, x, d, vx, w, hs, hx, h => by
    simp only [Rs] at hs
    obtain ⟨vz, r, rfl, hz, hs⟩ := hs
    have hbad : ∀ l : List D, l.foldl (fun (acc : Option D) y => match acc, y with | some (.int k a), .int _ b => some (.int k (if b > a then b else a)) | _, _ => none) none ≠ some d := by
      intro l; induction l with
      | nil => simp
      | cons q l ih => simpa using ih
    simp only [List.foldl_cons] at h
    split at h
    · rename_i _ k p k' q hxe
      cases hxe
      simp only [R] at hx hz
      subst hx; subst hz
      obtain ⟨v, h1, h2⟩ := maxD_sound l r _ d _ w hs (by simp only [R]; rfl) h
      exact ⟨v, by simp only [List.foldlM_cons, Builtin.max2, Sem.run_bind, Sem.run_pure, Result.andThen_ok]; exact h1, h2⟩
    · exact absurd h (hbad l)

theorem args_arr (c : Call) : c.args.map a.eval = (c.args.toList.map a.eval).toArray := by cases c.args; simp

theorem builtin_ok (r : Rel n g β U y st a w) (e : Ev g β st.sl a ev) {c : Call} {b : Builtin} (ho : o.op = .call c) (hc : c.callee = .builtin b) (hall : allD (c.args.toList.map ev) = true) {bx vx : Bool} :
    ResOk P n g β U y st a w o (builtinD P st bx vx b c.argTypes.toList (c.args.toList.map ev)) := by
  have hs := rs_map e _ hall
  have hrun := run_builtin (a := a) ho hc
  rw [args_arr] at hrun
  generalize c.args.toList.map ev = ds at hs ⊢
  generalize c.args.toList.map a.eval = vs at hs hrun
  have hat : c.argTypes = c.argTypes.toList.toArray := by simp
  rw [hat] at hrun
  generalize c.argTypes.toList = ts at hrun ⊢
  unfold builtinD
  split
  · -- len of a slice
    rename_i t ts' m z f own
    obtain ⟨v, rfl, hv⟩ := hs.one
    split
    · rename_i el hu
      obtain ⟨ba, cap, _, rfl, _, h3, _⟩ := hv.listOpen
      refine ⟨h3, DOk.ofD rfl, VOk.plain r.inv (v := .int .i64 m) ?_ (RS0.ofR (by simp only [R]))⟩
      rw [hrun]; simp [builtin, Builtin.len_, run_underlying hu, goInt]
    · trivial
  · rename_i t ts' l off m
    obtain ⟨v, rfl, hv⟩ := hs.one
    split
    · rename_i el hu
      simp only [R] at hv
      obtain ⟨bl, _, ba, cap, rfl, _, h3, _⟩ := hv
      refine ⟨h3, DOk.ofD rfl, VOk.plain r.inv (v := .int .i64 m) ?_ (RS0.ofR (by simp only [R]))⟩
      rw [hrun]; simp [builtin, Builtin.len_, run_underlying hu, goInt]
    · trivial
  · rename_i t ts' tt m z
    obtain ⟨v, rfl, hv⟩ := hs.one
    split
    · rename_i el hu
      simp only [R] at hv
      obtain ⟨h3, ba, cap, rfl, _⟩ := hv
      refine ⟨h3, DOk.ofD rfl, VOk.plain r.inv (v := .int .i64 m) ?_ (RS0.ofR (by simp only [R]))⟩
      rw [hrun]; simp [builtin, Builtin.len_, run_underlying hu, goInt]
    · trivial
  · rename_i t ts' s
    obtain ⟨v, rfl, hv⟩ := hs.one
    split
    · rename_i hu
      simp only [R] at hv
      obtain ⟨rfl, h3⟩ := hv
      refine ⟨h3, DOk.ofD rfl, VOk.plain r.inv (v := .int .i64 s.length) ?_ (RS0.ofR (by simp only [R]))⟩
      have hsz : (ByteArray.mk s.toArray).size = s.length := by show s.toArray.size = _; simp
      rw [hrun]; simp [builtin, Builtin.len_, run_underlying hu, goInt, hsz]
    · trivial
  · -- append
    rename_i t u x z
    simp only [Rs] at hs
    obtain ⟨vx, _, rfl, hx, vz, _, rfl, hz, rfl⟩ := hs
    have happ : ∀ v w', (Builtin.append_ #[t, u] o.type #[vx, vz]).run P w = .ok v w' → (execOp a.eval o).run P w = .ok (.value v) w' := by
      intro v w' h
      rw [hrun]; simp [builtin, h]
    split
    · rename_i el hu
      exact app_ok r (.inl ⟨_, hu⟩) hx hz happ
    · rename_i hu
      exact app_ok r (.inr hu) hx hz happ
    · trivial
  · -- min
    cases hm : minD ds with
    | none => trivial
    | some d =>
      cases ds with
      | nil => simp [minD] at hm
      | cons x l =>
        simp only [Rs] at hs
        obtain ⟨vx, rr, rfl, hx, hs⟩ := hs
        obtain ⟨v, h1, h2⟩ := minD_sound (P := P) l rr x d vx w hs hx hm
        refine resVal (v := v) r ?_ h2
        rw [hrun]; simp [builtin, Builtin.min_, h1]
  · cases hm : maxD ds with
    | none => trivial
    | some d =>
      cases ds with
      | nil => simp [maxD] at hm
      | cons x l =>
        simp only [Rs] at hs
        obtain ⟨vx, rr, rfl, hx, hs⟩ := hs
        obtain ⟨v, h1, h2⟩ := maxD_sound (P := P) l rr x d vx w hs hx hm
        refine resVal (v := v) r ?_ h2
        rw [hrun]; simp [builtin, Builtin.max_, h1]
  · trivial

theorem make_ok (r : Rel n g β U y st a w) (e : Ev g β st.sl a ev) {t : Nat} {l c : Operand} {vx : Bool} (ho : o.op = .makeSlice t l c) : ResOk P n g β U y st a w o (makeD P st vx t (ev l) (ev c)) := by
  unfold makeD
  split
  · rename_i el kl x kc z hu hl hc
    have h1 := dataOf e _ hl rfl
    have h2 := dataOf e _ hc rfl
    simp only [R] at h1 h2
    split
    · rename_i sz b zd hsz hby hze
      cases hcc : (isD zd && Nat.beq (cellsD zd).length (sz + 1)) with
      | false => trivial
      | true =>
        simp only [cond_true]
        simp only [Bool.and_eq_true] at hcc
        obtain ⟨hc1, hc2⟩ := hcc
        have hc2 := beq_eq.1 hc2
        cases vx with
        | true =>
          simp only [cond_true]
          cases hones : ones zd with
          | false => trivial
          | true =>
          intro ⟨hp1, hp2, hp3⟩
          obtain ⟨i, hi, hib⟩ := bytesOf_sound hby
          have his : i.size = sz + 1 := by simp only [szOf, hi, Option.map_some, Option.some.injEq] at hsz; exact hsz
          obtain ⟨zv, hz1, hz2⟩ := zeroD_sound hze hc1 w
          have hizv : i.zero = some zv := by
            simp only [zeroD, hi, Option.bind_some] at hze
            cases hzi : i.zero with
            | none => rw [hzi] at hze; cases hze
            | some z' =>
              simp [zeroValue, typeInfo, hi, hzi] at hz1
              rw [hz1]
          have hxm : z ≤ z * ((b : Int) + 1) := by
            have : z * 1 ≤ z * ((b : Int) + 1) := Int.mul_le_mul_of_nonneg_left (by omega) (by omega)
            simpa using this
          have hroom : z * ((b : Int) + 1) ≤ 140737488355328 := by
            have : ((roomM : Nat) : Int) = 140737488355328 := rfl
            rw [← this]; simpa using hp3
          have hrun := run_make (P := P) (w := w) t el i zv hu hi hizv kl kc x z hp1 hp2 (by rw [hib, Int.mul_comm]; push_cast; omega) (by omega)
          have hzc := (hz2 g).cells
          have hzl : zv.cells.size = sz + 1 := by have := hzc.length; simp at this; omega
          have r1 := Rel.vecTo r (t := st.h.nt) (nt := st.h.nt + 1) (k := ⟨some ⟨w.heap.size, 0, none⟩, x.toNat, z.toNat, sz + 1⟩) (f := fun _ => zd) (w' := w.alloc (.cells (madeCells zv.cells (z.toNat * i.size)) el (0, 0))) (by omega) (by omega)
            (fun k0 h => by rw [r.inv.frT _ (Nat.le_refl _)] at h; cases h) (DefsKept.alloc w _) (below_alloc w _).size (fun c hc _ => heap_alloc_old _ _ hc)
            (fun _ => ⟨w.heap.size, el, _, rfl, fun h => absurd (r.inv.ub _ h) (Nat.lt_irrefl _), heap_alloc_new _ _, by rw [size_madeCells, his]; exact Nat.le_refl _, by simp only; omega, fun q hq => ⟨zv, hz2 g, ⟨hzl, hones⟩, fun j hj => by
              have hj : j < sz + 1 := hj
              have hq : q < x.toNat := hq
              show (madeCells zv.cells (z.toNat * i.size))[q * (sz + 1) + j]? = _
              have hlt : q * (sz + 1) + j < z.toNat * i.size := by
                have : (q + 1) * (sz + 1) ≤ z.toNat * (sz + 1) := Nat.mul_le_mul_right _ (by omega)
                rw [Nat.add_mul] at this; rw [his]; omega
              rw [madeCells, Array.getElem?_map, Array.getElem?_range, if_pos hlt]
              simp only [Option.map_some, hzl]
              rw [Nat.mul_comm q, Nat.mul_add_mod, Nat.mod_eq_of_lt hj]
              rw [getElem!_pos _ j (by omega), Array.getElem?_eq_getElem (by omega)]⟩, r.freeNew _ (Nat.le_refl _)⟩)
          have hlen : x.toNat ≤ lenM := by unfold lenM; omega
          refine ⟨.slice (some ⟨w.heap.size, 0, none⟩) x.toNat z.toNat, _, _, .inl ?_, r1, Grow.sameσ (vecG_le fun k0 h => by rw [r.inv.frT _ (Nat.le_refl _)] at h; cases h) rfl, (Ext.alloc r.inv _).kept r.inv.ub, RS0.ofR ?_, rfl⟩
          · simp only [execOp, ho, h1, h2, Sem.run_bind, hrun, Result.andThen_ok, Sem.run_pure]
          · simp only [R]
            exact ⟨hlen, _, _, rfl, by omega, _, upd_same _ _ _, rfl, Nat.le_refl _, fun _ => ⟨rfl, rfl⟩⟩
        | false =>
        intro ⟨hp1, hp2, hp3⟩
        subst hp2
        obtain ⟨i, hi, hib⟩ := bytesOf_sound hby
        have his : i.size = sz + 1 := by simp only [szOf, hi, Option.map_some, Option.some.injEq] at hsz; exact hsz
        obtain ⟨zv, hz1, hz2⟩ := zeroD_sound hze hc1 w
        have hizv : i.zero = some zv := by
          simp only [zeroD, hi, Option.bind_some] at hze
          cases hzi : i.zero with
          | none => rw [hzi] at hze; cases hze
          | some z' =>
            simp [zeroValue, typeInfo, hi, hzi] at hz1
            rw [hz1]
        have hxm : x ≤ x * ((b : Int) + 1) := by
          have : x * 1 ≤ x * ((b : Int) + 1) := Int.mul_le_mul_of_nonneg_left (by omega) hp1
          simpa using this
        have hroom : x * ((b : Int) + 1) ≤ 140737488355328 := by
          have : ((roomM : Nat) : Int) = 140737488355328 := rfl
          rw [← this]; simpa using hp3
        have hrun := run_make (P := P) (w := w) t el i zv hu hi hizv kl kc x x hp1 (Int.le_refl _) (by rw [hib, Int.mul_comm]; push_cast; omega) (by omega)
        have hzc := (hz2 g).cells
        have hzl : zv.cells.size = sz + 1 := by have := hzc.length; simp at this; omega
        have hro : RowOf g (madeCells zv.cells (x.toNat * i.size)) (.arr (x.toNat * (sz + 1)) (cellsG (sz + 1) fun _ => zd)) := by
          refine ⟨by rw [size_madeCells, his]; exact Nat.le_refl _, fun j hj => ?_⟩
          have hm : j % (sz + 1) < sz + 1 := Nat.mod_lt _ (by omega)
          have hdl := List.getElem?_eq_getElem (l := cellsD zd) (i := j % (sz + 1)) (by omega)
          obtain ⟨v, hv, hr⟩ := hzc.get _ _ hdl
          refine ⟨v, ?_, ?_⟩
          · rw [madeCells, Array.getElem?_map, Array.getElem?_range, if_pos (by rw [his]; exact hj)]
            simp only [Option.map_some, Option.some.injEq, hzl]
            rw [Array.getElem?_toList] at hv
            rw [getElem!_def, hv]
          · have hcg := cellsG_get (fun _ => zd) (i := j) (sz := sz + 1) hc2
            rw [hcg]
            simp only [List.getD, hdl, Option.getD_some]; exact hr
        have r1 := r.newBox (T := el) hro
        have le := addBox_le (b := w.heap.size) (r.inv.frL st.h.nl (Nat.le_refl _))
        have hlen : x.toNat ≤ lenM := by unfold lenM; omega
        refine ⟨.slice (some ⟨w.heap.size, 0, none⟩) x.toNat x.toNat, _, _, .inl ?_, r1, Grow.sameσ le rfl, (Ext.alloc r.inv _).kept r.inv.ub, RS0.ofR ?_, rfl⟩
        · simp only [execOp, ho, h1, h2, Sem.run_bind, hrun, Result.andThen_ok, Sem.run_pure]
        · simp only [R]
          exact ⟨_, upd_same _ _ _, _, _, rfl, Nat.le_refl _, hlen, fun _ => rfl⟩
    · trivial
  · trivial

theorem call_ok (e : Ev g β st.sl a ev) {c : Call} {f : Nat} {caps : List D} {x : Operand} (ho : o.op = .call c) (hc : c.callee = .value x) (hx : ev x = .clo f caps) (hall : allD (c.args.toList.map ev) = true) :
    ResOk P n g β U y st a w o (.call f (c.args.toList.map ev ++ caps)) := by
  intro ⟨fn, h1, h2, h3⟩
  have hf := dataOf e _ hx rfl
  simp only [R] at hf
  obtain ⟨vs, hv, hcs⟩ := hf
  have hs := rs_map e _ hall
  refine ⟨c.args.toList.map a.eval ++ vs, ?_, hs.append hcs⟩
  have hargs := args_arr (a := a) c
  simp only [execOp, ho, resolve, hc, hv, Deferred.ofValue, Sem.run_bind, Sem.run_pure, Result.andThen_ok, invoke, callFunc, hargs]
  have h3' : ¬ fn.name = "runtime.NumGoroutine" := by simpa using h3
  have h2' : ¬ fn.body = none := by intro h; rw [h] at h2; cases h2
  simp [h1, h2', h3']

theorem ycall_ok (e : Ev g β st.sl a ev) {c : Call} {l : Nat} {x : Operand} (ho : o.op = .call c) (hc : c.callee = .value x) (hx : ev x = .yl l) (hall : allD (c.args.toList.map ev) = true) :
    ResOk P n g β U y st a w o (.ycall l (c.args.toList.map ev)) := by
  have hf := dataOf e _ hx rfl
  simp only [R] at hf
  obtain ⟨b, hb, hv⟩ := hf
  refine ⟨b, c.args.toList.map a.eval, hb, rs_map e _ hall, fun x w' hr => ?_⟩
  have hargs := args_arr (a := a) c
  simp only [execOp, ho, resolve, hc, hv, Deferred.ofValue, Sem.run_bind, Sem.run_pure, Result.andThen_ok, invoke, hargs]
  simpa using hr

theorem mkIface_ok (r : Rel n g β U y st a w) (e : Ev g β st.sl a ev) {t : Nat} {x : Operand} (ho : o.op = .makeInterface t x) : ResOk P n g β U y st a w o (mkIfaceD P t (ev x)) := by
  unfold mkIfaceD
  split
  · trivial
  · rename_i u hu hne
    cases hd : isD (ev x) with
    | false => trivial
    | true =>
      have h1 := e.data hd
      refine resVal r (v := .iface t (a.eval x)) ?_ (by simp only [R]; exact ⟨_, rfl, h1⟩)
      have hun := run_underlying (P := P) (w := w) hne
      simp only [execOp, ho, Instr.makeInterface, Sem.run_bind, hun, Result.andThen_ok]
      cases u <;> first | exact (hu _ rfl).elim | simp
  · trivial

theorem run_method {t f : Nat} {name : String} (h : methD P t name = some f) (n : Nat) (v : Value) : (method (n + 1) t v name).run P w = .ok (f, v) w := by
  unfold methD at h
  split at h
  · rename_i i hi
    split at h
    · rename_i m hm
      split at h
      · rename_i g hf hp hu
        cases h
        have hp' : m.path.toList = [] := hp
        simp [method, typeInfo, hi, hm, hp', hf, follow, receiverAt, run_underlying hu, Place.get]
      · cases h
      · rename_i g d hne hf hp hu
        cases h
        have hp' : m.path.toList = [] := hp
        have hu' := run_underlying (w := w) hu
        cases d <;> first | exact (hne _ rfl).elim | simp [method, typeInfo, hi, hm, hp', hf, follow, receiverAt, hu', Place.get]
      · cases h
    · cases h
  · cases h

theorem invoke_ok (e : Ev g β st.sl a ev) {c : Call} {f t : Nat} {d : D} {x : Operand} {name : String} (ho : o.op = .call c) (hc : c.callee = .invoke x name) (hx : ev x = .iface t d) (hm : methD P t name = some f) (hall : allD (c.args.toList.map ev) = true) :
    ResOk P n g β U y st a w o (.call f (d :: c.args.toList.map ev)) := by
  intro ⟨fn, h1, h2, h3⟩
  have hf := dataOf e _ hx rfl
  simp only [R] at hf
  obtain ⟨v, hv, hd⟩ := hf
  have hs := rs_map e _ hall
  refine ⟨v :: c.args.toList.map a.eval, ?_, by simp only [Rs]; exact ⟨_, _, rfl, hd, hs⟩⟩
  have hargs := args_arr (a := a) c
  have h3' : ¬ fn.name = "runtime.NumGoroutine" := by simpa using h3
  have h2' : ¬ fn.body = none := by intro h; rw [h] at h2; cases h2
  have hex : (#[a.eval x] ++ c.args.map a.eval).extract 1 (#[a.eval x] ++ c.args.map a.eval).size = c.args.map a.eval := by simp
  have hme := run_method (P := P) (w := w) hm (P.types.size + (Made.depth - 1)) v
  have hme' : (method (P.types.size + Made.depth) t v name).run P w = .ok (f, v) w := hme
  have h0 : (#[a.eval x] ++ c.args.map a.eval)[0]? = some (a.eval x) := by rw [Array.getElem?_append_left (by simp)]; rfl
  have hfin : (callFunc f (#[v] ++ c.args.map a.eval)).run P w = .ok (.enter f (v :: c.args.toList.map a.eval).toArray) w := by
    simp [callFunc, h1, h2', h3', hargs]
  have hcm : (callMethod (a.eval x) name (c.args.map a.eval)).run P w = .ok (.enter f (v :: c.args.toList.map a.eval).toArray) w := by
    rw [hv]
    simp [callMethod, hme', hfin]
  have hres : (resolve a.eval c o.type).run P w = .ok { target := .fn (.method name) #[], args := #[a.eval x] ++ c.args.map a.eval } w := by
    simp [resolve, hc]
  simp only [execOp, ho, Sem.run_bind, hres, Result.andThen_ok, invoke, h0, hex, hcm]

theorem opD_ok {cfg : Cfg} (r : Rel n g β U y st a w) (e : Ev g β st.sl a ev) : ResOk P n g β U y st a w o (opD P cfg st ev o.dst o.op) := by
  unfold opD
  split
  · rename_i x ho; exact move_ok r e (.inl ho)
  · rename_i x ho; exact move_ok r e (.inr ho)
  · rename_i t ho; exact alloc_ok r ho
  · rename_i t x ho; exact box_ok r e ho
  · rename_i t parts ho; exact build_ok r e ho
  · rename_i t len parts ho; exact buildSlice_ok r e ho
  · rename_i t x ho; exact load_ok r e ho
  · rename_i t x z ho; exact store_ok r e ho
  · rename_i x ho; exact nilCheck_ok r e ho
  · rename_i op t x z t' ho; exact binO_ok r e ho
  · rename_i op t x ho; exact un_ok r e ho
  · rename_i s t x ho; exact conv_ok r e ho
  · rename_i f first caps ho; exact makeFunc_ok r e ho
  · rename_i t l c ho; exact make_ok r e ho
  · rename_i t x lo hi mx ho; exact slice_ok r e ho
  · rename_i t x f ho; exact fieldAddr_ok r e ho
  · rename_i t x i ho; exact indexAddr_ok r e ho
  · rename_i t x i ho; exact index_ok r e ho
  · rename_i x i ho; exact extract_ok r e ho
  · rename_i t x ho; exact mkIface_ok r e ho
  · rename_i c ho
    split
    · rename_i f hc
      split
      · rename_i f' caps hx
        cases hall : allD (c.args.toList.map ev) with
        | false => trivial
        | true => exact call_ok e ho hc hx hall
      · rename_i l hx
        cases hall : allD (c.args.toList.map ev) with
        | false => trivial
        | true => exact ycall_ok e ho hc hx hall
      · trivial
    · rename_i b hc
      cases hall : allD (c.args.toList.map ev) with
      | false => trivial
      | true => exact builtin_ok r e ho hc hall
    · rename_i x name hc
      split
      · rename_i t d hx
        split
        · rename_i f hm
          cases hall : allD (c.args.toList.map ev) with
          | false => trivial
          | true => exact invoke_ok e ho hc hx hm hall
        · trivial
      · trivial
  · trivial

end
end Go.Ab
/- The executor is sound, 11: the operations of a region in their order. -/
namespace Go.Ab

theorem beqB_eq {a b : Bool} (h : beqB a b = true) : a = b := by cases a <;> cases b <;> first | rfl | exact Bool.noConfusion (show false = true from h)

section
variable {P : Program} {n : Nat} {g : G} {β : Nat → Nat} {U : Nat → Prop} {st : St} {a : Act} {w : World} {o : Oper} {ops : List Oper} {i : Nat}

theorem yielded_of {s : Nat} {b : Bool} {j : Nat} (hj : dstOf ops j = some s) (h : a.tmps.getD s undef = .bool b) : yielded ops.toArray a.tmps j = some b := by
  unfold yielded
  have h1 : ((ops.toArray[j]?).bind (·.dst)) = some s := by simpa [dstOf] using hj
  rw [h1]
  have h2 : a.tmps[s]? = some (.bool b) := by
    cases hs : a.tmps[s]? with
    | none => simp [hs, undef] at h
    | some v => simp [hs] at h; rw [h]
  simp [h2]

/-- Chain, of the operations that are done. -/
def ChainD (ops : List Oper) (D : Nat → Prop) (a : Act) : Prop :=
  ∀ j o j1 w1, D j → ops[j]? = some o → o.guard = some (j1, w1) → yielded ops.toArray a.tmps j ≠ none → yielded ops.toArray a.tmps j1 = some w1

/-- What one that is done hangs on is done. -/
def DoneOk (ops : List Oper) (D : Nat → Prop) : Prop := ∀ j o j1 w1, D j → ops[j]? = some o → o.guard = some (j1, w1) → dstOf ops j1 ≠ none → D j1

theorem gB_sound {D : Nat → Prop} (r : Rel n g β U (yOf ops a) st a w) (hc : ChainD ops D a) (hd : DoneOk ops D) : ∀ (m : Nat) (q : Nat × Bool) (x : Bool), (dstOf ops q.1 ≠ none → D q.1) → gB st.sl ops i m q = some x → (yielded ops.toArray a.tmps q.1 = some q.2 ↔ x = true)
  | 0, _, _, _, h => by simp [gB] at h
  | m + 1, (j, w0), x, hq, h => by
    simp only [gB] at h
    cases hj : dstOf ops j with
    | none => rw [hj] at h; cases h
    | some s =>
      rw [hj] at h
      simp only at h
      split at h
      · rename_i b hl
        cases h
        have := yielded_of hj (by simpa [RS, RS0, R] using r.slot s _ hl)
        simp only [this]
        cases b <;> cases w0 <;> simp
      · rename_i j' w' b hl
        cases hb : Nat.blt j i && guardIs ops j j' w' with
        | false => rw [hb] at h; cases h
        | true =>
          rw [hb] at h
          simp only [cond_true] at h
          simp only [Bool.and_eq_true] at hb
          have hji : D j := hq (by rw [hj]; simp)
          cases hx : gB st.sl ops i m (j', w') with
          | none => rw [hx] at h; cases h
          | some x' =>
            rw [hx] at h
            cases h
            have hguard : ∃ o, ops[j]? = some o ∧ o.guard = some (j', w') := by
              have h2 := hb.2
              unfold guardIs at h2
              cases ho : ops[j]? with
              | none => rw [ho] at h2; simp at h2
              | some o =>
                rw [ho] at h2
                simp only [Option.bind_some] at h2
                cases hg : o.guard with
                | none => rw [hg] at h2; simp at h2
                | some p =>
                  obtain ⟨p1, p2⟩ := p
                  rw [hg] at h2
                  simp only [Bool.and_eq_true] at h2
                  have e1 := beq_eq.1 h2.1
                  have e2 := beqB_eq h2.2
                  subst e1; subst e2
                  exact ⟨o, rfl, hg⟩
            obtain ⟨o, ho, hog⟩ := hguard
            have ih := gB_sound r hc hd m (j', w') x' (hd j o j' w' hji ho hog) hx
            simp only at ih
            have hs : yielded ops.toArray a.tmps j' = some w' → yielded ops.toArray a.tmps j = some b := fun hy =>
              yielded_of hj (by
                have := r.slot s _ hl
                simp only [RS] at this
                simpa [RS0, R] using this hy)
            constructor
            · intro hy
              have h1 := hc j o j' w' hji ho hog (by rw [hy]; simp)
              have h2 := hs h1
              rw [hy] at h2; cases h2
              rw [ih.1 h1]
              cases w0 <;> rfl
            · intro hy
              simp only [Bool.and_eq_true] at hy
              have h1 := hs (ih.2 hy.1)
              rw [h1]
              have := hy.2
              cases b <;> cases w0 <;> simp_all
      · cases h

theorem clos_sound {D : Nat → Prop} (hc : ChainD ops D a) (hd : DoneOk ops D) : ∀ (m : Nat) (q : Nat × Bool), (dstOf ops q.1 ≠ none → D q.1) → yielded ops.toArray a.tmps q.1 = some q.2 → ∀ p ∈ clos ops i m q, yielded ops.toArray a.tmps p.1 = some p.2
  | 0, _, _, _, p, hp => by simp [clos] at hp
  | m + 1, q, hqd, hq, p, hp => by
    simp only [clos] at hp
    cases hb : Nat.blt q.1 i with
    | false => rw [hb] at hp; simp at hp
    | true =>
      rw [hb] at hp
      simp only [cond_true, List.mem_cons] at hp
      rcases hp with rfl | hp
      · exact hq
      · cases ho : ops[q.1]? with
        | none => rw [ho] at hp; simp at hp
        | some o =>
          rw [ho] at hp
          simp only [Option.bind_some] at hp
          cases hg : o.guard with
          | none => rw [hg] at hp; simp at hp
          | some q' =>
            rw [hg] at hp
            have hq0 : D q.1 := hqd (fun h0 => by
              have : yielded ops.toArray a.tmps q.1 = none := by
                unfold yielded
                have h1 : ((ops.toArray[q.1]?).bind (·.dst)) = dstOf ops q.1 := by simp [dstOf]
                rw [h1, h0]; rfl
              rw [this] at hq; cases hq)
            exact clos_sound hc hd m q' (hd q.1 o q'.1 q'.2 hq0 ho (by rw [hg])) (hc q.1 o q'.1 q'.2 hq0 ho (by rw [hg]) (by rw [hq]; simp)) p hp

theorem hasG_sound : ∀ (cl : List (Nat × Bool)) (j : Nat) (w : Bool), hasG cl j w = true → (j, w) ∈ cl
  | [], _, _, h => by simp [hasG] at h
  | (p, q) :: r, j, w, h => by
    simp only [hasG, Bool.or_eq_true, Bool.and_eq_true] at h
    rcases h with ⟨h1, h2⟩ | h
    · have e1 := beq_eq.1 h1
      have e2 := beqB_eq h2
      subst e1; subst e2
      exact List.mem_cons_self ..
    · exact List.mem_cons_of_mem _ (hasG_sound r j w h)

theorem ofVal_may (v : Value) : isD (ofVal v) = true ∨ ofVal v = .junk := by
  have hc : ∀ (c : Bool) (x : D), isD x = true → isD (bif c then x else .junk) = true ∨ (bif c then x else .junk) = .junk := by
    intro c x h; cases c
    · exact .inr rfl
    · exact .inl h
  unfold ofVal
  split <;> first | exact .inl rfl | exact .inr rfl | exact hc _ _ rfl

theorem evO_ev {y : Nat → Bool → Prop} (r : Rel n g β U y st a w) {cl : List (Nat × Bool)} (hcl : ∀ p ∈ cl, y p.1 p.2) : Ev g β st.sl a (evO st.sl cl) := by
  have hmay : ∀ {t j w0 d}, look st.sl t = some (.may j w0 d) → hasG cl j w0 = true → RS0 g β d (a.tmps.getD t undef) ∧ y j w0 := by
    intro t j w0 d hl hg
    have hy := hcl _ (hasG_sound cl j w0 hg)
    exact ⟨r.slot t _ hl hy, hy⟩
  have hcond : ∀ {c : Bool} {d : D}, (bif c then d else D.junk) ≠ .junk → c = true := by
    intro c d h; cases c
    · exact absurd rfl h
    · rfl
  refine ⟨fun x hx => ?_, fun x s off hx => ?_, fun x cs hx => ?_, fun x j w0 d hx => ?_⟩
  · cases x with
    | tmp t =>
      simp only [evO] at hx ⊢
      split at hx <;> rename_i heq
      · have := r.slot t _ heq
        simpa [RS, RS0, Act.eval] using this
      · have hg := hcond hx
        rw [hg]
        exact (hmay heq hg).1
      · have := r.slot t _ heq
        rename_i d h1 h2
        cases d <;> first | exact this | exact absurd rfl hx | exact absurd rfl (h1 _) | exact absurd rfl (h2 _ _ _)
      · exact absurd rfl hx
    | const v => exact RS0.ofVal g β v hx
    | func f => simp only [evO, Act.eval, RS0, R]; exact ⟨[], rfl, rfl⟩
    | global q => exact absurd rfl hx
  · cases x with
    | tmp t =>
      simp only [evO] at hx
      split at hx <;> rename_i heq
      · cases hx; exact ⟨_, heq⟩
      · have hg := hcond (by rw [hx]; simp)
        rw [hg] at hx
        simp only [cond_true] at hx
        subst hx
        exact r.base t _ s heq (hmay heq hg).2 rfl
      · subst hx; exact r.base t _ s heq trivial rfl
      · cases hx
    | const v => simp only [evO] at hx; rcases ofVal_may v with h | h <;> rw [hx] at h <;> cases h
    | func f => cases hx
    | global q => cases hx
  · cases x with
    | tmp t =>
      simp only [evO] at hx
      split at hx <;> rename_i heq
      · cases hx
      · have hg := hcond (by rw [hx]; simp)
        rw [hg] at hx
        simp only [cond_true] at hx
        subst hx
        have := (hmay heq hg).1
        simp [RS0, R] at this
      · rename_i h1 h2
        subst hx
        exact absurd rfl (h1 _)
      · cases hx
    | const v => simp only [evO] at hx; rcases ofVal_may v with h | h <;> rw [hx] at h <;> cases h
    | func f => cases hx
    | global q => cases hx
  · cases x with
    | tmp t =>
      simp only [evO] at hx
      split at hx <;> rename_i heq
      · cases hx
      · have hg := hcond (by rw [hx]; simp)
        rw [hg] at hx
        simp only [cond_true] at hx
        subst hx
        have := (hmay heq hg).1
        simp [RS0, R] at this
      · rename_i h1 h2
        subst hx
        exact absurd rfl (h2 _ _ _)
      · cases hx
    | const v => simp only [evO] at hx; rcases ofVal_may v with h | h <;> rw [hx] at h <;> cases h
    | func f => cases hx
    | global q => cases hx

end
end Go.Ab
/- The executor is sound, 12: the operations of a region in their order. -/
namespace Go.Ab

theorem fen_fn {ρ : Option Nat} {f : FuncId} : (fen ρ).fn f := trivial

theorem Oper.wp_mono' {P : Program} {ρ : Option Nat} {o : Oper} {a : Act} {w : World} {K K' : Act → World → Prop} {Q Q' : Exit → Act → World → Prop} (h : ∀ a w, K a w → K' a w) (hq : ∀ e a w, Q e a w → Q' e a w)
    (hh : o.wpIn (fen ρ) 0 P a w K Q) : o.wpIn (fen ρ) 0 P a w K' Q' := by
  unfold Oper.wpIn at *
  refine ⟨hh.1, ?_⟩
  have hh := hh.2
  generalize (o.semAt (fen ρ).round a.eval).run P w = r at *
  cases r with
  | ok n w' =>
    cases n <;> simp only [Oper.uponIn] at hh ⊢ <;>
      first
        | exact h _ _ hh
        | exact ⟨hh.1, CallsIn.mono hh.2 (fun e w'' he => by cases e <;> first | exact h _ _ he | exact hq _ _ _ he | exact he.elim fun a he => he.elim fun w he => ⟨a, w, hq _ _ _ he⟩)⟩
        | exact ⟨hh.1, RowsIn.mono hh.2 (fun _ _ he => h _ _ he)⟩
        | exact ⟨hh.1, RoundIn.mono hh.2 (fun e w'' he => by cases e <;> first | exact h _ _ he | exact hq _ _ _ he | exact he.elim fun a he => he.elim fun w he => ⟨a, w, hq _ _ _ he⟩)⟩
  | halt x w' => cases x <;> simp only [Oper.uponIn] at hh ⊢ <;> first | exact hq _ _ _ hh | exact hh

theorem wpOps_mono {P : Program} {ρ : Option Nat} {ops : Array Oper} {Q Q' : Exit → Act → World → Prop} (hq : ∀ e a w, Q e a w → Q' e a w) : ∀ (l : List Nat) (a : Act) (w : World), wpOpsIn (fen ρ) 0 P ops Q l a w → wpOpsIn (fen ρ) 0 P ops Q' l a w
  | [], a, w, h => hq _ _ _ h
  | i :: r, a, w, h => by
    simp only [wpOpsIn] at h ⊢
    cases ho : ops[i]? with
    | none => rw [ho] at h; exact wpOps_mono hq r a w h
    | some o =>
      rw [ho] at h
      simp only at h ⊢
      split
      · rename_i hw
        rw [if_pos hw] at h
        exact Oper.wp_mono' (fun a w => wpOps_mono hq r a w) hq h
      · rename_i hw
        rw [if_neg hw] at h
        exact ⟨h.1, wpOps_mono hq r _ _ h.2⟩

def OpsPost (n : Nat) (U : Nat → Prop) (g : G) (w : World) (Q : St → Prop) (e : Exit) (a' : Act) (w' : World) : Prop :=
  e = .normal ∧ ∃ g' β' st', Rel n g' β' U noY st' a' w' ∧ Grow U g g' ∧ Kept U w w' ∧ Q st'

section
variable {P : Program} {n : Nat} {g : G} {β : Nat → Nat} {U : Nat → Prop} {st : St} {a : Act} {w : World} {o : Oper} {ops : List Oper} {i : Nat}

theorem OpsSem.at {ρ : Option Nat} {Q : St → Prop} {g0 : G} {w0 : World} (h : OpsSem P n ops i st Q) (r : Rel n g β U (yOf ops a) st a w) (hm : MayLt i st) (hc : Chain ops i a) (hg : Grow U g0 g) (hk : Kept U w0 w) :
    wpOpsIn (fen ρ) 0 P ops.toArray (OpsPost n U g0 w0 Q) (List.range' i (ops.length - i)) a w :=
  wpOps_mono (fun _ _ _ ⟨e, g', β', st', h1, h2, h3, h4⟩ => ⟨e, g', β', st', h1, hg.trans h2, hk.trans h3, h4⟩) _ _ _ (h ρ g β U a w r hm hc)

theorem apart_dst (h : dstsApart ops = true) {j k t : Nat} (hj : dstOf ops j = some t) (hk : dstOf ops k = some t) : j = k := by
  have hn : (ops.filterMap (·.dst)).Nodup := by simpa [dstsApart] using h
  clear h
  induction ops generalizing j k with
  | nil => simp [dstOf] at hj
  | cons o r ih =>
    cases hd : o.dst with
    | none =>
      rw [List.filterMap_cons, hd] at hn
      cases j with
      | zero => simp [dstOf, hd] at hj
      | succ j =>
        cases k with
        | zero => simp [dstOf, hd] at hk
        | succ k => have := ih (j := j) (k := k) (by simpa [dstOf] using hj) (by simpa [dstOf] using hk) hn; omega
    | some s =>
      rw [List.filterMap_cons, hd] at hn
      simp only [List.nodup_cons] at hn
      have hin : ∀ {m : Nat}, dstOf r m = some s → False := by
        intro m hm
        apply hn.1
        simp only [dstOf] at hm
        cases hr : r[m]? with
        | none => rw [hr] at hm; cases hm
        | some o' => rw [hr] at hm; exact List.mem_filterMap.2 ⟨o', List.mem_of_getElem? hr, by simpa using hm⟩
      cases j with
      | zero =>
        have hs : s = t := by simpa [dstOf, hd] using hj
        subst hs
        cases k with
        | zero => rfl
        | succ k => exact (hin (by simpa [dstOf] using hk)).elim
      | succ j =>
        cases k with
        | zero =>
          have hs : s = t := by simpa [dstOf, hd] using hk
          subst hs
          exact (hin (by simpa [dstOf] using hj)).elim
        | succ k => have := ih (j := j) (k := k) (by simpa [dstOf] using hj) (by simpa [dstOf] using hk) hn.2; omega

theorem guardsBack_at : ∀ {ops : List Oper} {k j : Nat} {o : Oper} {q : Nat × Bool}, guardsBack k ops = true → ops[j]? = some o → o.guard = some q → q.1 < k + j
  | [], _, _, _, _, _, h, _ => by simp at h
  | o' :: r, k, j, o, q, h, ho, hg => by
    simp only [guardsBack, Bool.and_eq_true] at h
    cases j with
    | zero =>
      simp at ho; subst ho
      rw [hg] at h
      have := blt_tt.1 h.1
      omega
    | succ j =>
      have := guardsBack_at (k := k + 1) h.2 (by simpa using ho) hg
      omega

structure OpsOk (n : Nat) (ops : List Oper) : Prop where
  apart : dstsApart ops = true
  isIn : ∀ j t, dstOf ops j = some t → t < n
  back : ∀ {j : Nat} {o : Oper} {q : Nat × Bool}, ops[j]? = some o → o.guard = some q → q.1 < j

theorem opsOk_sound (h : opsOk n ops = true) : OpsOk n ops := by
  simp only [opsOk, Bool.and_eq_true] at h
  obtain ⟨⟨h1, h2⟩, h3⟩ := h
  refine ⟨h1, fun j t hj => ?_, fun ho hg => by have := guardsBack_at h3 ho hg; omega⟩
  simp only [dstOf] at hj
  cases ho : ops[j]? with
  | none => rw [ho] at hj; cases hj
  | some o =>
    rw [ho] at hj
    have hd : o.dst = some t := by simpa using hj
    have := List.all_eq_true.1 h2 o (List.mem_of_getElem? ho)
    rw [hd] at this
    exact blt_tt.1 this

theorem yielded_put {j t : Nat} {v : Value} (h : dstOf ops j ≠ some t) : yielded ops.toArray (a.put (some t) v).tmps j = yielded ops.toArray a.tmps j := by
  unfold yielded
  have h1 : ((ops.toArray[j]?).bind (·.dst)) = dstOf ops j := by simp [dstOf]
  rw [h1]
  cases hd : dstOf ops j with
  | none => rfl
  | some s =>
    have hne : t ≠ s := fun e => h (by rw [hd, e])
    simp [Act.put, Array.getElem?_setIfInBounds_ne hne]

theorem yielded_undef {j : Nat} (h : ∀ t, dstOf ops j = some t → a.tmps.getD t undef = undef) : yielded ops.toArray a.tmps j = none := by
  unfold yielded
  have h1 : ((ops.toArray[j]?).bind (·.dst)) = dstOf ops j := by simp [dstOf]
  rw [h1]
  cases hd : dstOf ops j with
  | none => rfl
  | some s =>
    have := h s hd
    cases hs : a.tmps[s]? with
    | none => simp [hs]
    | some v => simp [hs] at this; simp [hs, this, undef]

/-- Operation number i has put v into its slot. -/
theorem put_step (k : OpsOk n ops) (r : Rel n g β U (yOf ops a) st a w) (hm : MayLt i st) (hc : Chain ops i a) (ho : ops[i]? = some o) {v : Value} {d : D}
    (hv : ∀ t, RS g β (yOf ops (a.put o.dst v)) t d v) (hno : ∀ cs, d ≠ .own cs) (hb : Live (yOf ops (a.put o.dst v)) d → ∀ s, baseOf d = some s → ∃ cs, look st.sl s = some (.own cs))
    (hmay : ∀ j w0 e, d = .may j w0 e → j < i) (hw : ∀ q, o.guard = some q → yielded ops.toArray a.tmps q.1 = some q.2 ∨ v = undef) :
    Rel n g β U (yOf ops (a.put o.dst v)) { st with sl := putO st.sl o.dst d } (a.put o.dst v) w ∧ MayLt (i + 1) { st with sl := putO st.sl o.dst d } ∧ Chain ops (i + 1) (a.put o.dst v) := by
  have hdst : ∀ j, j ≠ i → ∀ t, o.dst = some t → dstOf ops j ≠ some t := fun j hj t ht h => hj (apart_dst k.apart h (by simp [dstOf, ho, ht]))
  have hyield : ∀ j, j ≠ i → yielded ops.toArray (a.put o.dst v).tmps j = yielded ops.toArray a.tmps j := by
    intro j hj
    cases hd : o.dst with
    | none => rfl
    | some t => exact yielded_put (hdst j hj t hd)
  refine ⟨?_, ?_, ?_⟩
  · cases hd : o.dst with
    | none =>
      have h1 : a.put none v = a := rfl
      simp only [h1, putO]
      exact r
    | some t =>
      simp only [putO]
      rw [hd] at hv hb
      refine r.put (y' := yOf ops (a.put (some t) v)) (k.isIn i t (by simp [dstOf, ho, hd])) ?_ (fun cs => ?_) (fun hl s hs => ?_) (fun s j w0 e hs hl hy => ?_)
      · cases isLp d t
        · exact hv t
        · trivial
      · cases isLp d t
        · exact hno cs
        · simp
      · cases hp : isLp d t with
        | true => rw [hp] at hs; cases hs
        | false =>
          rw [hp] at hs hl
          simp only [cond_false] at hs hl
          refine ⟨fun e => ?_, hb hl s hs⟩
          subst e
          rw [isLp_base hs] at hp; cases hp
      · have := hm _ _ _ _ hl
        have h2 := hyield j (by omega)
        rw [hd] at h2
        unfold yOf at hy ⊢
        rw [← h2]; exact hy
  · intro t j w0 e hl
    cases hd : o.dst with
    | none => rw [hd] at hl; have := hm t j w0 e hl; omega
    | some t' =>
      rw [hd] at hl
      rcases look_put r.keys hl with ⟨_, h2⟩ | ⟨_, _, h3⟩
      · cases hp : isLp d t' with
        | true => rw [hp] at h2; cases h2
        | false => rw [hp] at h2; have := hmay j w0 e h2.symm; omega
      · have := hm t j w0 e h3; omega
  · intro j o' j1 w1 hj ho' hg hy
    have hb1 := k.back ho' hg
    simp only at hb1
    by_cases hji : j = i
    · subst hji
      rw [ho] at ho'; cases ho'
      rw [hyield j1 (by omega)]
      rcases hw _ hg with h | h
      · exact h
      · subst h
        refine absurd (yielded_undef fun t ht => ?_) hy
        have hd : o.dst = some t := by simpa [dstOf, ho] using ht
        rw [hd, getD_put_same (by rw [r.size]; exact k.isIn j t ht)]
    · rw [hyield j hji] at hy
      rw [hyield j1 (by omega)]
      exact hc j o' j1 w1 (by omega) ho' hg hy

theorem whoWrote_sound {s : Nat} : ∀ {i j : Nat}, whoWrote ops s i = some j → j < i ∧ dstOf ops j = some s
  | 0, _, h => by simp [whoWrote] at h
  | i + 1, j, h => by
    simp only [whoWrote] at h
    cases hd : dstOf ops i with
    | none => rw [hd] at h; have := whoWrote_sound h; exact ⟨by omega, this.2⟩
    | some t =>
      rw [hd] at h
      simp only at h
      cases hb : Nat.beq s t with
      | true => rw [hb] at h; cases h; have := beq_eq.1 hb; subst this; exact ⟨by omega, hd⟩
      | false => rw [hb] at h; have := whoWrote_sound h; exact ⟨by omega, this.2⟩

theorem pick_ok {D : Nat → Prop} (r : Rel n g β U (yOf ops a) st a w) (hc : ChainD ops D a) (hd : DoneOk ops D) {cl : List (Nat × Bool)} (hcl : ∀ p ∈ cl, yOf ops a p.1 p.2) {c x z : Operand} (hwho : ∀ s j, c = .tmp s → whoWrote ops s i = some j → D j) (ho : o.op = .pick c x z) {d : Ab.D}
    (h : pickD st.sl cl ops i c x z = some d) : ∃ v, (execOp a.eval o).run P w = .ok (.value v) w ∧ R g d v := by
  have e := evO_ev r hcl
  have hclw : ∀ (b : Bool), a.eval c = .bool b → ∀ p ∈ clW ops i cl c b, yOf ops a p.1 p.2 := by
    intro b hb p hp
    cases c with
    | tmp s =>
      simp only [clW] at hp
      cases hw : whoWrote ops s i with
      | none => rw [hw] at hp; exact hcl p hp
      | some j =>
        rw [hw] at hp
        simp only [List.mem_append] at hp
        rcases hp with hp | hp
        · exact clos_sound hc hd 40 (j, b) (fun _ => hwho s j rfl hw) (yielded_of (whoWrote_sound hw).2 hb) p hp
        · exact hcl p hp
    | _ => exact hcl p hp
  unfold pickD at h
  split at h
  · rename_i bc bx bz h1 h2 h3
    cases h
    have hcv : a.eval c = .bool bc := by have := e.data (x := c) (by rw [h1]; rfl); rw [h1] at this; simpa [R] using this
    have hx : bc = true → a.eval x = .bool bx := by
      intro hb
      have e2 := evO_ev r (hclw true (by rw [hcv, hb]))
      have := e2.data (x := x) (by rw [h2]; rfl)
      rw [h2] at this; simpa [R] using this
    have hz : bc = false → a.eval z = .bool bz := by
      intro hb
      have e2 := evO_ev r (hclw false (by rw [hcv, hb]))
      have := e2.data (x := z) (by rw [h3]; rfl)
      rw [h3] at this; simpa [R] using this
    refine ⟨.bool (bif bc then bx else bz), ?_, by simp only [R]⟩
    cases bc with
    | true => simp [execOp, ho, hcv, hx rfl, asBool]
    | false => simp [execOp, ho, hcv, hz rfl, asBool]
  · cases h

theorem Ext.at_ {g' : G} {w' : World} (r : Rel n g β U (yOf ops a) st a w) (x : Ext g w g' w') : Rel n g' β U (yOf ops a) st a w' ∧ Grow U g g' ∧ Kept U w w' :=
  ⟨r.ext x, x.grow r.inv.ub, x.kept r.inv.ub⟩

theorem semAt_run {ρ : Option Nat} {ev : Operand → Value} {x : Next} {w' : World} (hx : ∀ d, x ≠ .defer d) (hy : (execOp ev o).run P w = .ok x w') : (o.semAt ρ ev).run P w = .ok x w' := by
  by_cases hd : ∃ c, o.op = .defer c
  · obtain ⟨c, hd⟩ := hd
    exfalso
    simp only [execOp, hd, Sem.run_bind] at hy
    cases hr : (resolve ev c o.type).run P w with
    | ok d w1 => rw [hr] at hy; simp at hy; exact hx _ hy.1.symm
    | halt y w1 => rw [hr] at hy; simp at hy
  · rw [Oper.semAt_eq ρ ev o fun c h => hd ⟨c, h⟩]; exact hy

theorem wp_yield {ρ : Option Nat} {K : Act → World → Prop} {Q : Exit → Act → World → Prop} {v : Value} {w' : World} (hy : Yields P a o w v w') (h : K (a.put o.dst v) w') : o.wpIn (fen ρ) 0 P a w K Q := by
  refine ⟨fun _ _ => trivial, ?_⟩
  rcases hy with hy | ⟨hy, rfl⟩
  · rw [semAt_run (by simp) hy]; exact h
  · rw [semAt_run (by simp) hy]; exact h

theorem wp_calls {ρ : Option Nat} {K : Act → World → Prop} {Q : Exit → Act → World → Prop} {f : Nat} {vs : Array Value} {w' : World} (hy : (execOp a.eval o).run P w = .ok (.enter f vs) w') {R : Ending → World → Prop} (hc : Calls P f vs w' R)
    (h : ∀ e w'', R e w'' → ∃ v, e = .returned v ∧ K (a.put o.dst v) w'') : o.wpIn (fen ρ) 0 P a w K Q := by
  refine ⟨fun _ _ => trivial, ?_⟩
  rw [semAt_run (by simp) hy]
  refine ⟨fun h => Bool.noConfusion (show false = true from h), CallsIn.mono (F := fen ρ) (show CallsIn (fen ρ) (0 - 1) P f vs w' R from callsIn_wide.2 hc) fun e w'' he => by obtain ⟨v, rfl, hk⟩ := h e w'' he; exact hk⟩

theorem wp_round {ρ : Option Nat} {K : Act → World → Prop} {Q : Exit → Act → World → Prop} {l f : Nat} {tmps : Array Value} {asg body : Code} {w' : World} (hy : (execOp a.eval o).run P w = .ok (.round l f tmps asg body) w') {R : Ending → World → Prop} (hc : RoundIn (fen ρ) 0 P l f tmps asg body w' R)
    (h : ∀ e w'', R e w'' → ∃ v, e = .returned v ∧ K (a.put o.dst v) w'') : o.wpIn (fen ρ) 0 P a w K Q := by
  refine ⟨fun _ _ => trivial, ?_⟩
  rw [semAt_run (by simp) hy, Oper.uponIn_round]
  refine ⟨fun h => Bool.noConfusion (show false = true from h), RoundIn.mono (F := fen ρ) (show RoundIn (fen ρ) (0 - 1) P l f tmps asg body w' R from hc) fun e w'' he => by obtain ⟨v, rfl, hk⟩ := h e w'' he; exact hk⟩

theorem Pure.at {f : Nat} {args : List D} {v : D} (p : Pure P f args v) (r : Rel n g β U (yOf ops a) st a w) {vs : List Value} (hs : Rs g args vs) :
    Calls P f vs.toArray w fun e w' => ∃ (x : Value) (g' : G), e = .returned x ∧ R g' v x ∧ Ext g w g' w' :=
  Calls.mono (p.calls g w vs r.inv.sub hs) fun e w' ⟨x, σ', h1, h2, h3, h4, h5, h6⟩ =>
    ⟨x, ⟨σ', g.μ, g.τ⟩, h1, h2, ⟨⟨h3, fun _ _ h => h, fun _ k h => ⟨k, h, rfl, Nat.le_refl _, fun _ => rfl⟩⟩, rfl, rfl, h5, h4, h6⟩⟩

/-- The frame's own boxes may not turn, either. -/
def ownU (st : St) (β : Nat → Nat) (U : Nat → Prop) : Nat → Prop := fun b => U b ∨ ∃ t cs, look st.sl t = some (.own cs) ∧ b = β t

theorem Rel.inU {y : Nat → Bool → Prop} (r : Rel n g β U y st a w) : Inv g (ownU st β U) st.h w := by
  have i := r.inv
  refine ⟨i.sub, fun b hb => ?_, i.muLt, fun l row e => ?_, i.boxInj, fun t m e => ?_, i.tokBox, i.tokInj, i.frL, i.frT, i.frV⟩
  · rcases hb with hb | ⟨t, cs, h1, rfl⟩
    · exact i.ub b hb
    · exact (r.own t cs h1).1.lt
  · obtain ⟨b, h1, h2, h3, h4⟩ := i.box l row e
    refine ⟨b, h1, h2, fun hu => ?_, h4⟩
    rcases hu with hu | ⟨t, cs, h5, rfl⟩
    · exact h3 hu
    · exact (r.own t cs h5).2.2.2.1 l (by rw [e]; simp) h1
  · obtain ⟨k, h1, h2, h3⟩ := i.tok t m e
    refine ⟨k, h1, h2, fun hk => ?_⟩
    obtain ⟨b, e1, e2, e3⟩ := h3 hk
    refine ⟨b, e1, fun hu => ?_, e3⟩
    rcases hu with hu | ⟨t', cs, h5, rfl⟩
    · exact e2 hu
    · exact (r.own t' cs h5).2.2.2.2 t m k e h1 hk e1

theorem Rel.outU {y : Nat → Bool → Prop} (r : Rel n g β U y st a w) {g' : G} {h' : Heap} {w' : World} (h3 : Inv g' (ownU st β U) h' w') (h4 : Grow (ownU st β U) g g') (h5 : Kept (ownU st β U) w w') :
    Rel n g' β U y { sl := st.sl, h := h' } a w' ∧ Grow U g g' ∧ Kept U w w' := by
  refine ⟨?_, ⟨h4.le, fun c v hc => ?_⟩, ⟨h5.os, h5.tape, h5.output, h5.size, fun b hb => h5.block b (.inl hb), h5.defs⟩⟩
  · refine ⟨r.defers.kept h5.defs, r.size, r.keys, fun t d h => (r.slot t d h).mono h4.le, r.base, fun t cs h => ?_, r.ownInj, ?_⟩
    · obtain ⟨e1, e2, e3, e4, e5⟩ := r.own t cs h
      have hu : ownU st β U (β t) := .inr ⟨t, cs, h, rfl⟩
      refine ⟨e1.mono h4.le (h5.block _ hu), e2, fun c v hc hb => ?_, fun l hl hb => ?_, fun t' m k e f1 f2 f3 => ?_⟩
      · rcases h4.new c v hc with h7 | h7
        · exact e3 c v h7 hb
        · exact h7 (by rw [hb]; exact hu)
      · cases hrow : h'.box l with
        | none => exact hl hrow
        | some row =>
          obtain ⟨b, f1, _, f3, _⟩ := h3.box l row hrow
          rw [hb] at f1; cases f1
          exact f3 hu
      · obtain ⟨k', f4, f5, f6⟩ := h3.tok t' m e
        rw [f1] at f4; cases f4
        obtain ⟨b, f7, f8, _⟩ := f6 f2
        rw [f3] at f7; cases f7
        exact f8 hu
    · refine ⟨h3.sub, fun b hb => h3.ub b (.inl hb), h3.muLt, fun l row e => ?_, h3.boxInj, fun t m e => ?_, h3.tokBox, h3.tokInj, h3.frL, h3.frT, h3.frV⟩
      · obtain ⟨b, f1, f2, f3, f4⟩ := h3.box l row e
        exact ⟨b, f1, f2, fun hu => f3 (.inl hu), f4⟩
      · obtain ⟨k, f1, f2, f3⟩ := h3.tok t m e
        refine ⟨k, f1, f2, fun hk => ?_⟩
        obtain ⟨b, e1, e2, e3⟩ := f3 hk
        exact ⟨b, e1, fun hu => e2 (.inl hu), e3⟩
  · rcases h4.new c v hc with h7 | h7
    · exact .inl h7
    · exact .inr fun hu => h7 (.inl hu)

/-- A called function may turn the heap. -/
theorem CallA.at {f : Nat} {args : List D} {K : D → Heap → Prop} (p : CallA P f args st.h K) {y : Nat → Bool → Prop} (r : Rel n g β U y st a w) {vs : List Value} (hs : Rs g args vs) :
    Calls P f vs.toArray w fun e w' => ∃ (x : Value) (g' : G) (d : D) (h' : Heap), e = .returned x ∧ R g' d x ∧ Rel n g' β U y { sl := st.sl, h := h' } a w' ∧ Grow U g g' ∧ Kept U w w' ∧ K d h' :=
  Calls.mono (p.calls g (ownU st β U) w vs r.inU hs) fun e w' ⟨x, g', d, h', h1, h2, h3, h4, h5, h6⟩ => by
    obtain ⟨r1, g1, k1⟩ := r.outU h3 h4 h5
    exact ⟨x, g', d, h', h1, h2, r1, g1, k1, h6⟩

/-- A round of the loop whose yield is called. -/
theorem CallY.at {l : Nat} {args : List D} {K : D → Heap → Prop} (p : CallY P l args st.h K) {y : Nat → Bool → Prop} (r : Rel n g β U y st a w) {vs : List Value} {b : Nat} (hs : Rs g args vs) (hb : g.μ l = some b) :
    ∃ (f : Nat) (tmps : Array Value) (asg body : Code), (Instr.yield b vs.toArray).run P w = .ok (.round b f tmps asg body) w ∧
      ∀ ρ, RoundIn (fen ρ) 0 P b f tmps asg body w fun e w' => ∃ (x : Value) (g' : G) (d : D) (h' : Heap), e = .returned x ∧ R g' d x ∧ Rel n g' β U y { sl := st.sl, h := h' } a w' ∧ Grow U g g' ∧ Kept U w w' ∧ K d h' := by
  obtain ⟨q, h1, h2, h3⟩ := p.calls g (ownU st β U) w vs b r.inU hs hb
  refine ⟨_, _, _, _, run_yield h1 h2, fun ρ => RoundIn.mono (h3 ρ) fun e w' ⟨x, g', d, h', h1, h2, h3, h4, h5, h6⟩ => ?_⟩
  obtain ⟨r1, g1, k1⟩ := r.outU h3 h4 h5
  exact ⟨x, g', d, h', h1, h2, r1, g1, k1, h6⟩

end
end Go.Ab
