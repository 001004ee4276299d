/- The executor is sound, 7: append. -/
import Derived.Test.YtmlhaikblfjghaaA10
namespace Go.Ab

/-- An append right laid anew: where the array lies, how many are in use, how many fit; its cells in use are unchanging from now on. -/
def setTok (g : G) (t b : Nat) (vals : Array Value) (k : Tok) : G :=
  { g with
    σ := fun x => if x.block = b then (if x.spot = none ∧ x.off < k.n * k.sz then vals[x.off]? else none) else g.σ x
    τ := upd g.τ t (some k) }

theorem draw_ext {g : G} {U : Nat → Prop} {h : Heap} {w : World} (i : Inv g U h w) : Ext g w g w.drew := ⟨G.le.refl g, rfl, rfl, fun _ _ e => .inl e, i.sub, ⟨rfl, rfl, rfl, Nat.le_refl _, fun _ _ => rfl⟩⟩

section
variable {P : Program} {n : Nat} {g : G} {β : Nat → Nat} {U : Nat → Prop} {y : Nat → Bool → Prop} {st : St} {a : Act} {w : World} {ev : Operand → D} {o : Oper}

/-- The heap with an append right for m elements. -/
def tokH (h : Heap) (t m nt : Nat) : Heap := { h with hw := upd h.hw t (some m), nt := nt }

/-- A new array for a slice that grows: `t`: its append right. -/
theorem Rel.newTok (r : Rel n g β U y st a w) {t nt : Nat} {vals : Array Value} {T : Nat} {k : Tok} (ha : k.a = some ⟨w.heap.size, 0, none⟩) (hnc : k.n ≤ k.cap) (hv : k.cap * k.sz ≤ vals.size)
    (ht : t < nt) (hnt : st.h.nt ≤ nt) (hle : ∀ k0, g.τ t = some k0 → k0.sz = k.sz ∧ k0.n < k.n) :
    Rel n (setTok g t w.heap.size vals k) β U y { st with h := tokH st.h t k.n nt } a (w.alloc (.cells vals T (0, 0))) ∧ G.le g (setTok g t w.heap.size vals k) := by
  have r1 := r.ext (Ext.alloc r.inv (.cells vals T (0, 0)))
  have i := r1.inv
  have le : G.le g (setTok g t w.heap.size vals k) := by
    refine ⟨fun x v e => ?_, fun _ _ e => e, fun t' k0 e => ?_⟩
    · have := r.inv.cellLt e
      simp only [setTok]; rw [if_neg (by omega)]; exact e
    · by_cases hx : t' = t
      · subst hx
        obtain ⟨h1, h2⟩ := hle k0 e
        exact ⟨k, by simp [setTok, upd_same], h1.symm, by omega, fun h => by omega⟩
      · exact ⟨k0, by simp only [setTok, upd_other _ _ hx]; exact e, rfl, Nat.le_refl _, fun _ => rfl⟩
  have hspare : k.n * k.sz ≤ vals.size := Nat.le_trans (Nat.mul_le_mul_right _ hnc) hv
  have σold : ∀ {x : Addr} {v : Value}, (setTok g t w.heap.size vals k).σ x = some v → (x.block = w.heap.size ∧ x.spot = none ∧ x.off < k.n * k.sz ∧ vals[x.off]? = some v) ∨ (x.block ≠ w.heap.size ∧ g.σ x = some v) := by
    intro x v e
    simp only [setTok] at e
    split at e
    · rename_i hb
      split at e
      · rename_i hc; exact .inl ⟨hb, hc.1, hc.2, e⟩
      · cases e
    · rename_i hb; exact .inr ⟨hb, e⟩
  have tokOld : ∀ {t' : Nat} {k' : Tok}, t' ≠ t → (setTok g t w.heap.size vals k).τ t' = some k' → g.τ t' = some k' := fun hx e => by simpa only [setTok, upd_other _ _ hx] using e
  have spareLt : ∀ {t' m b : Nat} {k' : Tok}, st.h.hw t' = some m → g.τ t' = some k' → k'.n < k'.cap → k'.a = some ⟨b, 0, none⟩ → b < w.heap.size := by
    intro t' m b k' e1 e2 e3 e4
    obtain ⟨k0, f1, f2, f3⟩ := r.inv.tok t' m e1
    have : k0 = k' := by rw [f1] at e2; cases e2; rfl
    subst this
    obtain ⟨b', g1, g2, _⟩ := (f3 e3).blockLt
    rw [g1] at e4; cases e4; exact g2
  refine ⟨⟨r1.defers, r1.size, r1.keys, fun s d h => (r1.slot s d h).mono le, r1.base, fun s cs h => ?_, r1.ownInj, ?_⟩, le⟩
  · obtain ⟨h1, h2, h3, h4, h5⟩ := r1.own s cs h
    have hlt := (r.own s cs h).1.lt
    refine ⟨h1.mono le rfl, h2, fun x v e => ?_, h4, fun t' m k' e1 e2 e3 e4 => ?_⟩
    · rcases σold e with ⟨hb, _⟩ | ⟨_, he⟩
      · omega
      · exact h3 x v he
    · by_cases hx : t' = t
      · subst hx
        simp only [setTok, upd_same, Option.some.injEq] at e2
        subst e2
        rw [ha] at e4; simp at e4
      · exact h5 t' m k' (by simpa only [tokH, upd_other _ _ hx] using e1) (tokOld hx e2) e3 e4
  · refine ⟨fun x v e => ?_, i.ub, i.muLt, fun l row e => ?_, i.boxInj, fun t' m e => ?_, fun t' m k' b l e1 e2 e3 e4 e5 => ?_, fun t1 t2 m1 m2 k1 k2 b e1 e2 f1 f2 g1 g2 c1 c2 => ?_, i.frL, fun t' ht' => ?_⟩
    · rcases σold e with ⟨hb, hs, hl, hv'⟩ | ⟨_, he⟩
      · refine ⟨?_, hs⟩
        simp only [World.cell?, hb, heap_alloc_new, hs]
        simpa using hv'
      · exact i.sub x v he
    · obtain ⟨b, e1, e2, e3, e4⟩ := i.box l row e
      refine ⟨b, e1, e2.mono le rfl, e3, fun x v hx => ?_⟩
      rcases σold hx with ⟨hb, _⟩ | ⟨_, he⟩
      · have := r.inv.muLt l b e1; omega
      · exact e4 x v he
    · by_cases hx : t' = t
      · subst hx
        have e' : upd st.h.hw t' (some k.n) t' = some m := e
        rw [upd_same] at e'; cases e'
        refine ⟨k, by simp [setTok, upd_same], rfl, fun _ => ⟨w.heap.size, ha, fun hu => absurd (r.inv.ub _ hu) (by omega), T, vals, heap_alloc_new w _, hv, fun j hj => ?_⟩⟩
        simp only [setTok, if_true]
        rw [if_neg (by simp; omega)]
      · have e' : upd st.h.hw t (some k.n) t' = some m := e
        rw [upd_other _ _ hx] at e'
        obtain ⟨k', f1, f2, f3⟩ := i.tok t' m e'
        refine ⟨k', by simp only [setTok, upd_other _ _ hx]; exact f1, f2, fun hk => ?_⟩
        obtain ⟨b, c1, c2, T', vals', c3, c4, c5⟩ := f3 hk
        have hlt := spareLt e' f1 hk c1
        exact ⟨b, c1, c2, T', vals', c3, c4, fun j hj => by simp only [setTok]; rw [if_neg (by omega)]; exact c5 j hj⟩
    · by_cases hx : t' = t
      · subst hx
        simp only [setTok, upd_same, Option.some.injEq] at e2
        subst e2
        rw [ha] at e4
        intro e6
        have := r.inv.muLt l b e6
        simp at e4
      · exact i.tokBox t' m k' b l (by simpa only [tokH, upd_other _ _ hx] using e1) (tokOld hx e2) e3 e4 e5
    · by_cases hx1 : t1 = t
      · by_cases hx2 : t2 = t
        · rw [hx1, hx2]
        · subst hx1
          simp only [setTok, upd_same, Option.some.injEq] at f1
          subst f1
          rw [ha] at c1; simp at c1
          have := spareLt (by simpa only [tokH, upd_other _ _ hx2] using e2) (tokOld hx2 f2) g2 c2
          omega
      · by_cases hx2 : t2 = t
        · subst hx2
          simp only [setTok, upd_same, Option.some.injEq] at f2
          subst f2
          rw [ha] at c2; simp at c2
          have := spareLt (by simpa only [tokH, upd_other _ _ hx1] using e1) (tokOld hx1 f1) g1 c1
          omega
        · exact i.tokInj t1 t2 m1 m2 k1 k2 b (by simpa only [tokH, upd_other _ _ hx1] using e1) (by simpa only [tokH, upd_other _ _ hx2] using e2) (tokOld hx1 f1) (tokOld hx2 f2) g1 g2 c1 c2
    · have ht'' : nt ≤ t' := ht'
      simp only [setTok]
      rw [upd_other _ _ (by omega)]
      exact i.frT t' (by omega)

/-- An append right without room: no memory turns. -/
theorem Rel.idleTok (r : Rel n g β U y st a w) {t : Nat} {k : Tok} (hk : ¬ k.n < k.cap) (ht : st.h.nt = t) :
    Rel n { g with τ := upd g.τ t (some k) } β U y { st with h := tokH st.h t k.n (t + 1) } a w ∧ G.le g { g with τ := upd g.τ t (some k) } := by
  have i := r.inv
  have hnone := i.frT t (by omega)
  have le : G.le g { g with τ := upd g.τ t (some k) } := by
    refine ⟨fun _ _ e => e, fun _ _ e => e, fun t' k0 e => ?_⟩
    have hx : t' ≠ t := fun h => by subst h; rw [hnone] at e; cases e
    exact ⟨k0, by simp only [upd_other _ _ hx]; exact e, rfl, Nat.le_refl _, fun _ => rfl⟩
  have tokOld : ∀ {t' m : Nat} {k' : Tok}, (tokH st.h t k.n (t + 1)).hw t' = some m → upd g.τ t (some k) t' = some k' → k'.n < k'.cap → st.h.hw t' = some m ∧ g.τ t' = some k' := by
    intro t' m k' e1 e2 e3
    by_cases hx : t' = t
    · subst hx
      rw [upd_same] at e2; cases e2; exact absurd e3 hk
    · exact ⟨by simpa only [tokH, upd_other _ _ hx] using e1, by simpa only [upd_other _ _ hx] using e2⟩
  refine ⟨⟨r.defers, r.size, r.keys, fun s d h => (r.slot s d h).mono le, r.base, fun s cs h => ?_, r.ownInj, ?_⟩, le⟩
  · obtain ⟨h1, h2, h3, h4, h5⟩ := r.own s cs h
    exact ⟨h1.mono le rfl, h2, h3, h4, fun t' m k' e1 e2 e3 => by obtain ⟨f1, f2⟩ := tokOld e1 e2 e3; exact h5 t' m k' f1 f2 e3⟩
  · refine ⟨i.sub, i.ub, i.muLt, fun l row e => ?_, i.boxInj, fun t' m e => ?_, fun t' m k' b l e1 e2 e3 => ?_, fun t1 t2 m1 m2 k1 k2 b e1 e2 f1 f2 g1 g2 => ?_, i.frL, fun t' ht' => ?_⟩
    · obtain ⟨b, e1, e2, e3, e4⟩ := i.box l row e
      exact ⟨b, e1, e2.mono le rfl, e3, e4⟩
    · by_cases hx : t' = t
      · subst hx
        have e' : upd st.h.hw t' (some k.n) t' = some m := e
        rw [upd_same] at e'; cases e'
        exact ⟨k, by simp only [upd_same], rfl, fun h => absurd h hk⟩
      · have e' : upd st.h.hw t (some k.n) t' = some m := e
        rw [upd_other _ _ hx] at e'
        obtain ⟨k', f1, f2, f3⟩ := i.tok t' m e'
        exact ⟨k', by simp only [upd_other _ _ hx]; exact f1, f2, f3⟩
    · obtain ⟨f1, f2⟩ := tokOld e1 e2 e3
      exact i.tokBox t' m k' b l f1 f2 e3
    · obtain ⟨a1, a2⟩ := tokOld e1 f1 g1
      obtain ⟨b1, b2⟩ := tokOld e2 f2 g2
      exact i.tokInj t1 t2 m1 m2 k1 k2 b a1 b1 a2 b2 g1 g2
    · have ht'' : t + 1 ≤ t' := ht'
      simp only
      rw [upd_other _ _ (by omega)]
      exact i.frT t' (by omega)

/-- The ghost memory behind an append in place. -/
def roomG (g : G) (t b : Nat) (arr : Array Value) (k : Tok) (n' : Nat) : G :=
  { g with
    σ := fun x => if x.block = b ∧ x.spot = none ∧ k.n * k.sz ≤ x.off ∧ x.off < n' * k.sz then arr[x.off]? else g.σ x
    τ := upd g.τ t (some { k with n := n' }) }

/-- An append in place. -/
theorem Rel.roomTok (r : Rel n g β U y st a w) {t b m : Nat} {k : Tok} {T : Nat} {vals : Array Value} {news : List Value} (hl : st.h.hw t = some k.n) (hk : g.τ t = some k) (hb : k.a = some ⟨b, 0, none⟩)
    (hh : w.heap[b]? = some (.cells vals T (0, 0))) (hsz : k.cap * k.sz ≤ vals.size) (hsp : ∀ j, k.n * k.sz ≤ j → g.σ ⟨b, j, none⟩ = none) (hlen : news.length = m * k.sz) (hm : 0 < m) (hroom : k.n + m ≤ k.cap) (hU : ¬ U b) :
    let arr := (vals.toList.take (k.n * k.sz) ++ news ++ vals.toList.drop (k.n * k.sz + news.length)).toArray
    Rel n (roomG g t b arr k (k.n + m)) β U y { st with h := tokH st.h t (k.n + m) st.h.nt } a (w.setRow b arr) ∧ G.le g (roomG g t b arr k (k.n + m)) ∧ Kept U w (w.setRow b arr) := by
  intro arr
  have i := r.inv
  have tn := turn_setRow w b arr
  have hcap : (k.n + m) * k.sz ≤ vals.size := Nat.le_trans (Nat.mul_le_mul_right _ hroom) hsz
  have hadd : (k.n + m) * k.sz = k.n * k.sz + news.length := by rw [Nat.add_mul, hlen]
  have hasz : arr.size = vals.size := by
    simp only [arr, List.size_toArray, List.length_append, List.length_take, List.length_drop, Array.length_toList]
    omega
  have hlow : ∀ j, j < k.n * k.sz → arr[j]? = vals[j]? := by
    intro j hj
    simp only [arr, List.getElem?_toArray]
    rw [List.append_assoc, List.getElem?_append_left (by simp; omega), List.getElem?_take, if_pos hj]
    simp
  have σlow : ∀ {x : Addr} {v : Value}, g.σ x = some v → x.block = b → x.off < k.n * k.sz := by
    intro x v e hx
    rcases Nat.lt_or_ge x.off (k.n * k.sz) with h | h
    · exact h
    · have hs := (i.sub x v e).2
      have : x = ⟨b, x.off, none⟩ := by cases x; simp_all
      rw [this, hsp _ h] at e; cases e
  have le : G.le g (roomG g t b arr k (k.n + m)) := by
    refine ⟨fun x v e => ?_, fun _ _ e => e, fun t' k0 e => ?_⟩
    · simp only [roomG]
      rw [if_neg (by intro h; have := σlow e h.1; omega)]; exact e
    · by_cases hx : t' = t
      · subst hx
        rw [hk] at e; cases e
        exact ⟨{ k with n := k.n + m }, by simp [roomG, upd_same], rfl, by simp, fun h => by simp at h; omega⟩
      · exact ⟨k0, by simp only [roomG, upd_other _ _ hx]; exact e, rfl, Nat.le_refl _, fun _ => rfl⟩
  have σold : ∀ {x : Addr} {v : Value}, (roomG g t b arr k (k.n + m)).σ x = some v → (x.block = b ∧ x.spot = none ∧ k.n * k.sz ≤ x.off ∧ x.off < (k.n + m) * k.sz ∧ arr[x.off]? = some v) ∨ g.σ x = some v := by
    intro x v e
    simp only [roomG] at e
    split at e
    · rename_i hc; exact .inl ⟨hc.1, hc.2.1, hc.2.2.1, hc.2.2.2, e⟩
    · exact .inr e
  have live : k.n < k.cap := by omega
  have tokOld : ∀ {t' : Nat} {k' : Tok}, t' ≠ t → (roomG g t b arr k (k.n + m)).τ t' = some k' → g.τ t' = some k' := fun hx e => by simpa only [roomG, upd_other _ _ hx] using e
  have hwOld : ∀ {t' m' : Nat}, t' ≠ t → (tokH st.h t (k.n + m) st.h.nt).hw t' = some m' → st.h.hw t' = some m' := fun hx e => by simpa only [tokH, upd_other _ _ hx] using e
  have tokT : ∀ {k' : Tok}, (roomG g t b arr k (k.n + m)).τ t = some k' → k' = { k with n := k.n + m } := fun e => by simp only [roomG, upd_same, Option.some.injEq] at e; exact e.symm
  refine ⟨⟨r.defers, r.size, r.keys, fun s d h => (r.slot s d h).mono le, r.base, fun s cs h => ?_, r.ownInj, ?_⟩, le, tn.kept hU⟩
  · obtain ⟨h1, h2, h3, h4, h5⟩ := r.own s cs h
    have hne : β s ≠ b := fun e => h5 t k.n k hl hk live (by rw [hb, e])
    refine ⟨h1.mono le (tn.other _ hne), h2, fun x v e => ?_, h4, fun t' m' k' e1 e2 e3 e4 => ?_⟩
    · rcases σold e with ⟨hx, _⟩ | he
      · rw [hx]; exact Ne.symm hne
      · exact h3 x v he
    · by_cases hx : t' = t
      · subst hx
        have := tokT e2; subst this
        exact h5 t' k.n k hl hk live e4
      · exact h5 t' m' k' (hwOld hx e1) (tokOld hx e2) e3 e4
  · refine ⟨fun x v e => ?_, fun c hc => by rw [tn.size]; exact i.ub c hc, fun l c e => by rw [tn.size]; exact i.muLt l c e, fun l row e => ?_, i.boxInj, fun t' m' e => ?_, fun t' m' k' c l e1 e2 e3 e4 e5 => ?_, fun t1 t2 m1 m2 k1 k2 c e1 e2 f1 f2 g1 g2 c1 c2 => ?_, i.frL, fun t' ht' => ?_⟩
    · rcases σold e with ⟨hx, hs, h1, h2, hv⟩ | he
      · refine ⟨?_, hs⟩
        simp only [World.cell?, hx, setRow_heap w b vals arr T (0, 0) hh, hs]
        simpa using hv
      · by_cases hx : x.block = b
        · have := σlow he hx
          refine ⟨?_, (i.sub x v he).2⟩
          have h1 := (i.sub x v he).1
          simp only [World.cell?, hx, setRow_heap w b vals arr T (0, 0) hh, (i.sub x v he).2] at h1 ⊢
          rw [hh] at h1
          simp only [Option.isSome_none, Bool.false_eq_true, if_false] at h1 ⊢
          rw [hlow _ this]; exact h1
        · exact ⟨(cell?_of_heap (tn.other _ hx)).trans (i.sub x v he).1, (i.sub x v he).2⟩
    · obtain ⟨c, e1, e2, e3, e4⟩ := i.box l row e
      have hne : c ≠ b := fun h => i.tokBox t k.n k b l hl hk live hb (by have e0 : st.h.box l = some row := e; rw [e0]; simp) (by rw [e1, h])
      refine ⟨c, e1, e2.mono le (tn.other _ hne), e3, fun x v hx => ?_⟩
      rcases σold hx with ⟨hb', _⟩ | he
      · rw [hb']; exact Ne.symm hne
      · exact e4 x v he
    · by_cases hx : t' = t
      · subst hx
        have e' : upd st.h.hw t' (some (k.n + m)) t' = some m' := e
        rw [upd_same] at e'; cases e'
        refine ⟨{ k with n := k.n + m }, by simp [roomG, upd_same], rfl, fun _ => ⟨b, hb, hU, T, arr, setRow_heap w b vals arr T (0, 0) hh, by rw [hasz]; exact hsz, fun j hj => ?_⟩⟩
        simp only at hj
        simp only [roomG]
        rw [if_neg (fun h => by have h9 := h.2.2.2; exact absurd h9 (by show ¬ (j < (k.n + m) * k.sz); omega))]
        exact hsp j (by omega)
      · obtain ⟨k', f1, f2, f3⟩ := i.tok t' m' (hwOld hx e)
        refine ⟨k', by simp only [roomG, upd_other _ _ hx]; exact f1, f2, fun hk' => ?_⟩
        obtain ⟨c, c1, c2, T', vals', c3, c4, c5⟩ := f3 hk'
        have hne : c ≠ b := fun h => hx (i.tokInj t' t m' k.n k' k b (hwOld hx e) hl f1 hk hk' live (by rw [c1, h]) hb)
        exact ⟨c, c1, c2, T', vals', (tn.other _ hne).trans c3, c4, fun j hj => by simp only [roomG]; rw [if_neg (fun h => hne h.1)]; exact c5 j hj⟩
    · by_cases hx : t' = t
      · subst hx
        have := tokT e2; subst this
        exact i.tokBox t' k.n k c l hl hk live e4 e5
      · exact i.tokBox t' m' k' c l (hwOld hx e1) (tokOld hx e2) e3 e4 e5
    · by_cases hx1 : t1 = t
      · by_cases hx2 : t2 = t
        · rw [hx1, hx2]
        · subst hx1
          have := tokT f1; subst this
          exact i.tokInj t1 t2 k.n m2 k k2 c hl (hwOld hx2 e2) hk (tokOld hx2 f2) live g2 c1 c2
      · by_cases hx2 : t2 = t
        · subst hx2
          have := tokT f2; subst this
          exact i.tokInj t1 t2 m1 k.n k1 k c (hwOld hx1 e1) hl (tokOld hx1 f1) hk g1 live c1 c2
        · exact i.tokInj t1 t2 m1 m2 k1 k2 c (hwOld hx1 e1) (hwOld hx2 e2) (tokOld hx1 f1) (tokOld hx2 f2) g1 g2 c1 c2
    · have ht'' : st.h.nt ≤ t' := ht'
      have hx : t' ≠ t := fun h => by subst h; rw [i.frT t' ht''] at hk; cases hk
      simp only [roomG]
      rw [upd_other _ _ hx]
      exact i.frT t' ht''

end
end Go.Ab
