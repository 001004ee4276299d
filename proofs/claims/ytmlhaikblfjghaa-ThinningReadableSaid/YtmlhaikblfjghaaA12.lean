/- The executor is sound, 8: append, make, len, min, max, calls; all operations. -/
import Derived.Test.YtmlhaikblfjghaaA11
namespace Go.Ab

/-- What is appended: so many cells, read alike in every world with this heap. -/
structure Src (P : Program) (w : World) (sz m : Nat) (x : Value) (news : List Value) : Prop where
  len : ∀ w', (Builtin.lenOf x).run P w' = .ok m w'
  cells : ∀ w', w'.heap = w.heap → (Builtin.firstCells sz m x).run P w' = .ok news.toArray w'
  size : news.length = m * sz

theorem cell?_heap {w w' : World} (h : w'.heap = w.heap) (x : Addr) : w'.cell? x = w.cell? x := by simp [World.cell?, h]

theorem Src.slice {P : Program} {w : World} {sz m : Nat} {p : Addr} {cap : Nat} {news : List Value} (hl : news.length = m * sz) (h : ∀ k v, news[k]? = some v → w.cell? (p.add k) = some v) : Src P w sz m (.slice (some p) m cap) news where
  len w' := rfl
  cells w' hw := run_firstCells_some (P := P) w' sz m p m cap news hl (fun j v hj => by rw [cell?_heap hw]; exact h j v hj)
  size := hl

theorem Src.nil {P : Program} {w : World} {sz : Nat} {cap : Nat} : Src P w sz 0 (.slice none 0 cap) [] where
  len w' := rfl
  cells w' _ := rfl
  size := by simp

/-- What may stand as append's second argument's type. -/
def AppTy (P : Program) (u : Nat) : Prop := (∃ e, P.underlying u = some (.slice e)) ∨ P.underlying u = some .string

theorem run_app_room {P : Program} {w : World} {t u ty e : Nat} {i : TypeInfo} (ht : P.underlying t = some (.slice e)) (hi : P.info? e = some i) (hu : AppTy P u)
    {base : Option Addr} {n cap m : Nat} {x : Value} {news : List Value} (hs : Src P w i.size m x news) (hroom : n + m ≤ cap) {w' : World}
    (hst : match base with | some p => (storeCells (p.add (n * i.size)) news).run P w = .ok () w' | none => w' = w) :
    (Builtin.append_ #[t, u] ty #[.slice base n cap, x]).run P w = .ok (.slice base (n + m) cap) w' := by
  have hcells := hs.cells w rfl
  rcases hu with ⟨e', hd⟩ | hd
  · cases base with
    | none =>
      simp only at hst; subst hst
      simp [Builtin.append_, run_underlying ht, run_underlying hd, sizeOf, typeInfo, hi, hs.len, hroom, hcells]
    | some p =>
      simp only at hst
      simp [Builtin.append_, run_underlying ht, run_underlying hd, sizeOf, typeInfo, hi, hs.len, hroom, hcells, hst]
  · cases base with
    | none =>
      simp only at hst; subst hst
      simp [Builtin.append_, run_underlying ht, run_underlying hd, sizeOf, typeInfo, hi, hs.len, hroom, hcells]
    | some p =>
      simp only at hst
      simp [Builtin.append_, run_underlying ht, run_underlying hd, sizeOf, typeInfo, hi, hs.len, hroom, hcells, hst]

theorem run_app_grow {P : Program} {w : World} {t u ty e : Nat} {i : TypeInfo} {z : Value} (ht : P.underlying t = some (.slice e)) (hi : P.info? e = some i) (hz0 : i.zero = some z) (hu : AppTy P u)
    {base : Option Addr} {n cap m : Nat} {x : Value} {olds news : List Value} (hb : Src P w i.size n (.slice base n cap) olds) (hs : Src P w i.size m x news) (hg : cap < n + m) (hbytes : (n + m) * i.bytes ≤ 140737488355328) (h63 : n + m ≤ 281474976710656) (h1 : 0 < i.bytes) :
    (Builtin.append_ #[t, u] ty #[.slice base n cap, x]).run P w =
      .ok (.slice (some ⟨w.heap.size, 0, none⟩) (n + m) (grownCap w (n + m) cap e)) (w.drew.alloc (.cells ((olds ++ news).toArray ++ Builtin.zeroCells z.cells (grownCap w (n + m) cap e - (n + m))) e)) := by
  have hcells := hs.cells w.drew rfl
  have holds := hb.cells w.drew rfl
  have hn : ¬ (n + m ≤ cap) := by omega
  have h63' : ¬ (9223372036854775807 < ((n : Int) + (m : Int))) := by omega
  have h48' : ¬ (281474976710656 < Builtin.nextslicecap (n + m) cap * i.bytes) := by have := growslice_fits hg hbytes; omega
  have hbz : ¬ (i.bytes = 0) := by omega
  have ha : (olds ++ news).toArray = olds.toArray ++ news.toArray := by simp
  rw [ha, Array.append_assoc]
  rcases hu with ⟨e', hd⟩ | hd <;>
    simp [Builtin.append_, run_underlying ht, run_underlying hd, sizeOf, typeInfo, zeroValue, hi, hz0, hs.len, hn, h63', h48', Question.forced, hcells, holds, newRow, grownCap]

theorem flat_append (xs zs : List Value) : flat (xs ++ zs) = flat xs ++ flat zs := by simp [flat]

theorem flat_ones {g : G} {vs : List Value} {get : Nat → D} (h : ∀ i u, vs[i]? = some u → R g (get i) u ∧ ones (get i) = true) : ∀ v ∈ flat vs, v.oneCell' = true := by
  intro v hv
  obtain ⟨u, hu, hv⟩ := List.mem_flatMap.1 hv
  obtain ⟨i, hi, rfl⟩ := List.getElem_of_mem hu
  obtain ⟨h1, h2⟩ := h i _ (List.getElem?_eq_getElem hi)
  have hc := h1.cells
  obtain ⟨k, hk, rfl⟩ := List.getElem_of_mem hv
  have hdk : k < (cellsD (get i)).length := by rw [← hc.length]; exact hk
  obtain ⟨v', hv', hr⟩ := hc.get k _ (List.getElem?_eq_getElem hdk)
  rw [List.getElem?_eq_getElem hk] at hv'; cases hv'
  exact oneD_sound hr (List.all_eq_true.1 h2 _ (List.getElem_mem hdk))

/-- The reverse of listOpen. -/
theorem R.ofList {g : G} {n sz : Nat} {get : Nat → D} {own : Own} {a : Option Addr} {cap : Nat} {vs : List Value} (hl : vs.length = n) (hn : n ≤ lenM) (hc : n ≤ cap) (ho : OwnOk g own n a cap)
    (he : ∀ i u, vs[i]? = some u → R g (get i) u ∧ u.cells.size = sz ∧ ones (get i) = true)
    (hs : 0 < n → ∃ p, a = some p ∧ p.spot = none ∧ ∀ (i : Nat) (u : Value), vs[i]? = some u → ∀ j, j < sz → g.σ ⟨p.block, p.off + i * sz + j, none⟩ = u.cells[j]?) : R g (.list n sz get own) (.slice a n cap) := by
  simp only [R]
  refine ⟨hn, a, cap, rfl, hc, ho, fun i hi => ?_⟩
  obtain ⟨p, h1, h2, h3⟩ := hs (by omega)
  have hv := List.getElem?_eq_getElem (l := vs) (i := i) (by omega)
  obtain ⟨e1, e2, e3⟩ := he _ _ hv
  exact ⟨p, _, h1, h2, e1, ⟨e2, e3⟩, h3 _ _ hv⟩

/-- What srcD says of a value. -/
theorem srcD_sound {P : Program} {g : G} {w : World} (sub : ∀ a v, g.σ a = some v → w.cell? a = some v ∧ a.spot = none) {sz m : Nat} {d : D} {f : Nat → D} {v : Value} (h : srcD sz d = some (m, f)) (hr : R g d v) :
    ∃ vs : List Value, vs.length = m ∧ (∀ i u, vs[i]? = some u → R g (f i) u ∧ u.cells.size = sz ∧ ones (f i) = true) ∧ Src P w sz m v (flat vs) := by
  cases d <;> simp only [srcD] at h <;> try cases h
  · rename_i s
    cases hb : Nat.beq sz 1 with
    | false => rw [hb] at h; cases h
    | true =>
      rw [hb] at h; simp only [cond_true] at h; cases h
      have := beq_eq.1 hb; subst this
      simp only [R] at hr
      obtain ⟨rfl, _⟩ := hr
      have hel : ∀ (i : Nat) (u : Value), (s.map fun (b : UInt8) => Value.int .u8 b.toNat)[i]? = some u → u = .int .u8 (s.getD i 0).toNat := by
        intro i u hu
        rw [List.getElem?_map] at hu
        cases hs : s[i]? with
        | none => rw [hs] at hu; cases hu
        | some b => rw [hs] at hu; cases hu; simp [List.getD, hs]
      refine ⟨s.map fun b => .int .u8 b.toNat, by simp, fun i u hu => ?_, ?_⟩
      · rw [hel i u hu]; exact ⟨by simp only [strG, R], rfl, rfl⟩
      · have hf : ∀ l : List UInt8, flat (l.map fun b => Value.int .u8 b.toNat) = l.map fun b => .int .u8 b.toNat := by
          intro l; induction l with
          | nil => rfl
          | cons b r ih => simp only [flat] at ih; simp only [flat, List.map_cons, List.flatMap_cons, ih]; rfl
        rw [hf]
        refine ⟨fun w' => ?_, fun w' _ => ?_, by simp⟩
        · simp [Builtin.lenOf, ByteArray.size]
        · simp [Builtin.firstCells]
  · rename_i m0 z f0 own
    have hmf : (z = sz ∨ m0 = 0) ∧ m = m0 ∧ f = f0 := by
      cases hb : Nat.beq z sz with
      | true => rw [hb] at h; simp only [cond_true] at h; cases h; exact ⟨.inl (beq_eq.1 hb), rfl, rfl⟩
      | false =>
        rw [hb] at h; simp only [cond_false] at h
        cases hb2 : Nat.beq m0 0 with
        | true => rw [hb2] at h; simp only [cond_true] at h; cases h; exact ⟨.inr (beq_eq.1 hb2), rfl, rfl⟩
        | false => rw [hb2] at h; cases h
    obtain ⟨hz, rfl, rfl⟩ := hmf
    obtain ⟨a, cap, vs, h1, h2, h3, h4, h5, h6, h7, _, h8⟩ := hr.listOpen
    have hsz : ∀ u ∈ vs, u.cells.size = sz := by
      rcases hz with rfl | h0
      · exact h6
      · intro u hu; have := List.length_pos_of_mem hu; omega
    refine ⟨vs, h4, fun i u hu => ?_, ?_⟩
    · obtain ⟨e1, e2⟩ := h5 i u hu
      have hi : i < m := by
        rcases Nat.lt_or_ge i vs.length with h | h
        · omega
        · rw [List.getElem?_eq_none h] at hu; cases hu
      exact ⟨e1, hsz u (List.mem_of_getElem? hu), h8 i hi⟩
    · subst h1
      cases a with
      | none =>
        have : m = 0 := by
          rcases Nat.eq_zero_or_pos m with h | h
          · exact h
          · obtain ⟨p, hp, _⟩ := h7 h; cases hp
        subst this
        have : vs = [] := by simpa using h4
        subst this
        exact Src.nil
      | some p =>
        have hl := flat_length hsz
        refine Src.slice (by rw [hl, h4]) ?_
        rcases Nat.eq_zero_or_pos m with h | h
        · subst h
          have : vs = [] := by simpa using h4
          subst this
          intro k v hv; simp [flat] at hv
        · obtain ⟨p', hp, hsp, hc⟩ := h7 h
          cases hp
          rcases hz with rfl | h0
          · exact cells_flat sub hsz hsp hc
          · omega

end Go.Ab
