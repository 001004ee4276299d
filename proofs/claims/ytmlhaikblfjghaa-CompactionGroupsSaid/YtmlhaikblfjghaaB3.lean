/- The executor is sound, 8: append, make, len, min, max, calls; all operations. -/
import Derived.Test.YtmlhaikblfjghaaB2
namespace Go.Ab

/-- What is appended: so many cells, read alike in every world with this heap. -/
structure Src (P : Program) (w : World) (sz m : Nat) (x : Value) (news : List Value) : Prop where
  len : ∀ w', (Builtin.lenOf x).run P w' = .ok m w'
  cells : ∀ w', w'.heap = w.heap → (Builtin.firstCells sz m x).run P w' = .ok news.toArray w'
  size : news.length = m * sz

theorem cell?_heap {w w' : World} (h : w'.heap = w.heap) (x : Addr) : w'.cell? x = w.cell? x := by simp [World.cell?, h]

theorem Src.slice {P : Program} {w : World} {sz m : Nat} {p : Addr} {cap : Nat} {news : List Value} (hl : news.length = m * sz) (h : ∀ k v, news[k]? = some v → w.cell? (p.add k) = some v) : Src P w sz m (.slice (some p) m cap) news where
  len w' := rfl
  cells w' hw := run_firstCells_some (P := P) w' sz m p m cap news hl (fun j v hj => by rw [cell?_heap hw]; exact h j v hj)
  size := hl

theorem Src.nil {P : Program} {w : World} {sz : Nat} {cap : Nat} : Src P w sz 0 (.slice none 0 cap) [] where
  len w' := rfl
  cells w' _ := rfl
  size := by simp

/-- What may stand as append's second argument's type. -/
def AppTy (P : Program) (u : Nat) : Prop := (∃ e, P.underlying u = some (.slice e)) ∨ P.underlying u = some .string

theorem run_app_room {P : Program} {w : World} {t u ty e : Nat} {i : TypeInfo} (ht : P.underlying t = some (.slice e)) (hi : P.info? e = some i) (hu : AppTy P u)
    {base : Option Addr} {n cap m : Nat} {x : Value} {news : List Value} (hs : Src P w i.size m x news) (hroom : n + m ≤ cap) {w' : World}
    (hst : match base with | some p => (storeCells (p.add (n * i.size)) news).run P w = .ok () w' | none => w' = w) :
    (Builtin.append_ #[t, u] ty #[.slice base n cap, x]).run P w = .ok (.slice base (n + m) cap) w' := by
  have hcells := hs.cells w rfl
  rcases hu with ⟨e', hd⟩ | hd
  · cases base with
    | none =>
      simp only at hst; subst hst
      simp [Builtin.append_, run_underlying ht, run_underlying hd, sizeOf, typeInfo, hi, hs.len, hroom, hcells]
    | some p =>
      simp only at hst
      simp [Builtin.append_, run_underlying ht, run_underlying hd, sizeOf, typeInfo, hi, hs.len, hroom, hcells, hst]
  · cases base with
    | none =>
      simp only at hst; subst hst
      simp [Builtin.append_, run_underlying ht, run_underlying hd, sizeOf, typeInfo, hi, hs.len, hroom, hcells]
    | some p =>
      simp only at hst
      simp [Builtin.append_, run_underlying ht, run_underlying hd, sizeOf, typeInfo, hi, hs.len, hroom, hcells, hst]

theorem run_app_grow {P : Program} {w : World} {t u ty e : Nat} {i : TypeInfo} {z : Value} (ht : P.underlying t = some (.slice e)) (hi : P.info? e = some i) (hz0 : i.zero = some z) (hu : AppTy P u)
    {base : Option Addr} {n cap m : Nat} {x : Value} {olds news : List Value} (hb : Src P w i.size n (.slice base n cap) olds) (hs : Src P w i.size m x news) (hg : cap < n + m) (hbytes : (n + m) * i.bytes ≤ 140737488355328) (h63 : n + m ≤ 281474976710656) (h1 : 0 < i.bytes) :
    (Builtin.append_ #[t, u] ty #[.slice base n cap, x]).run P w =
      .ok (.slice (some ⟨w.heap.size, 0, none⟩) (n + m) (grownCap w (n + m) cap e)) (w.drew.alloc (.cells ((olds ++ news).toArray ++ Builtin.zeroCells z.cells (grownCap w (n + m) cap e - (n + m))) e)) := by
  have hcells := hs.cells w.drew rfl
  have holds := hb.cells w.drew rfl
  have hn : ¬ (n + m ≤ cap) := by omega
  have h63' : ¬ (9223372036854775807 < ((n : Int) + (m : Int))) := by omega
  have h48' : ¬ (281474976710656 < Builtin.nextslicecap (n + m) cap * i.bytes) := by have := growslice_fits hg hbytes; omega
  have hbz : ¬ (i.bytes = 0) := by omega
  have ha : (olds ++ news).toArray = olds.toArray ++ news.toArray := by simp
  rw [ha, Array.append_assoc]
  rcases hu with ⟨e', hd⟩ | hd <;>
    simp [Builtin.append_, run_underlying ht, run_underlying hd, sizeOf, typeInfo, zeroValue, hi, hz0, hs.len, hn, h63', h48', Question.forced, hcells, holds, newRow, grownCap]

theorem flat_append (xs zs : List Value) : flat (xs ++ zs) = flat xs ++ flat zs := by simp [flat]

theorem flat_ones {g : G} {vs : List Value} {get : Nat → D} (h : ∀ i u, vs[i]? = some u → R g (get i) u ∧ ones (get i) = true) : ∀ v ∈ flat vs, v.oneCell' = true := by
  intro v hv
  obtain ⟨u, hu, hv⟩ := List.mem_flatMap.1 hv
  obtain ⟨i, hi, rfl⟩ := List.getElem_of_mem hu
  obtain ⟨h1, h2⟩ := h i _ (List.getElem?_eq_getElem hi)
  have hc := h1.cells
  obtain ⟨k, hk, rfl⟩ := List.getElem_of_mem hv
  have hdk : k < (cellsD (get i)).length := by rw [← hc.length]; exact hk
  obtain ⟨v', hv', hr⟩ := hc.get k _ (List.getElem?_eq_getElem hdk)
  rw [List.getElem?_eq_getElem hk] at hv'; cases hv'
  exact oneD_sound hr (List.all_eq_true.1 h2 _ (List.getElem_mem hdk))

/-- The reverse of listOpen. -/
theorem R.ofList {g : G} {n sz : Nat} {get : Nat → D} {own : Own} {a : Option Addr} {cap : Nat} {vs : List Value} (hl : vs.length = n) (hn : n ≤ lenM) (hc : n ≤ cap) (ho : OwnOk g own n a cap)
    (he : ∀ i u, vs[i]? = some u → R g (get i) u ∧ u.cells.size = sz ∧ ones (get i) = true)
    (hs : 0 < n → ∃ p, a = some p ∧ p.spot = none ∧ ∀ (i : Nat) (u : Value), vs[i]? = some u → ∀ j, j < sz → g.σ ⟨p.block, p.off + i * sz + j, none⟩ = u.cells[j]?) : R g (.list n sz get own) (.slice a n cap) := by
  simp only [R]
  refine ⟨hn, a, cap, rfl, hc, ho, fun i hi => ?_⟩
  obtain ⟨p, h1, h2, h3⟩ := hs (by omega)
  have hv := List.getElem?_eq_getElem (l := vs) (i := i) (by omega)
  obtain ⟨e1, e2, e3⟩ := he _ _ hv
  exact ⟨p, _, h1, h2, e1, ⟨e2, e3⟩, h3 _ _ hv⟩

/-- What srcD says of a value. -/
theorem srcD_sound {P : Program} {g : G} {w : World} (sub : ∀ a v, g.σ a = some v → w.cell? a = some v ∧ a.spot = none) {sz m : Nat} {d : D} {f : Nat → D} {v : Value} (h : srcD sz d = some (m, f)) (hr : R g d v) :
    ∃ vs : List Value, vs.length = m ∧ (∀ i u, vs[i]? = some u → R g (f i) u ∧ u.cells.size = sz ∧ ones (f i) = true) ∧ Src P w sz m v (flat vs) := by
  cases d <;> simp only [srcD] at h <;> try cases h
  · rename_i s
    cases hb : Nat.beq sz 1 with
    | false => rw [hb] at h; cases h
    | true =>
      rw [hb] at h; simp only [cond_true] at h; cases h
      have := beq_eq.1 hb; subst this
      simp only [R] at hr
      obtain ⟨rfl, _⟩ := hr
      have hel : ∀ (i : Nat) (u : Value), (s.map fun (b : UInt8) => Value.int .u8 b.toNat)[i]? = some u → u = .int .u8 (s.getD i 0).toNat := by
        intro i u hu
        rw [List.getElem?_map] at hu
        cases hs : s[i]? with
        | none => rw [hs] at hu; cases hu
        | some b => rw [hs] at hu; cases hu; simp [List.getD, hs]
      refine ⟨s.map fun b => .int .u8 b.toNat, by simp, fun i u hu => ?_, ?_⟩
      · rw [hel i u hu]; exact ⟨by simp only [strG, R], rfl, rfl⟩
      · have hf : ∀ l : List UInt8, flat (l.map fun b => Value.int .u8 b.toNat) = l.map fun b => .int .u8 b.toNat := by
          intro l; induction l with
          | nil => rfl
          | cons b r ih => simp only [flat] at ih; simp only [flat, List.map_cons, List.flatMap_cons, ih]; rfl
        rw [hf]
        refine ⟨fun w' => ?_, fun w' _ => ?_, by simp⟩
        · simp [Builtin.lenOf, ByteArray.size]
        · simp [Builtin.firstCells]
  · rename_i m0 z f0 own
    have hmf : (z = sz ∨ m0 = 0) ∧ m = m0 ∧ f = f0 := by
      cases hb : Nat.beq z sz with
      | true => rw [hb] at h; simp only [cond_true] at h; cases h; exact ⟨.inl (beq_eq.1 hb), rfl, rfl⟩
      | false =>
        rw [hb] at h; simp only [cond_false] at h
        cases hb2 : Nat.beq m0 0 with
        | true => rw [hb2] at h; simp only [cond_true] at h; cases h; exact ⟨.inr (beq_eq.1 hb2), rfl, rfl⟩
        | false => rw [hb2] at h; cases h
    obtain ⟨hz, rfl, rfl⟩ := hmf
    obtain ⟨a, cap, vs, h1, h2, h3, h4, h5, h6, h7, _, h8⟩ := hr.listOpen
    have hsz : ∀ u ∈ vs, u.cells.size = sz := by
      rcases hz with rfl | h0
      · exact h6
      · intro u hu; have := List.length_pos_of_mem hu; omega
    refine ⟨vs, h4, fun i u hu => ?_, ?_⟩
    · obtain ⟨e1, e2⟩ := h5 i u hu
      have hi : i < m := by
        rcases Nat.lt_or_ge i vs.length with h | h
        · omega
        · rw [List.getElem?_eq_none h] at hu; cases hu
      exact ⟨e1, hsz u (List.mem_of_getElem? hu), h8 i hi⟩
    · subst h1
      cases a with
      | none =>
        have : m = 0 := by
          rcases Nat.eq_zero_or_pos m with h | h
          · exact h
          · obtain ⟨p, hp, _⟩ := h7 h; cases hp
        subst this
        have : vs = [] := by simpa using h4
        subst this
        exact Src.nil
      | some p =>
        have hl := flat_length hsz
        refine Src.slice (by rw [hl, h4]) ?_
        rcases Nat.eq_zero_or_pos m with h | h
        · subst h
          have : vs = [] := by simpa using h4
          subst this
          intro k v hv; simp [flat] at hv
        · obtain ⟨p', hp, hsp, hc⟩ := h7 h
          cases hp
          rcases hz with rfl | h0
          · exact cells_flat sub hsz hsp hc
          · omega

end Go.Ab
/- The executor is sound, 9: append, joined. -/
namespace Go.Ab

section
variable {P : Program} {n : Nat} {g : G} {β : Nat → Nat} {U : Nat → Prop} {y : Nat → Bool → Prop} {st : St} {a : Act} {w : World} {ev : Operand → D} {o : Oper}

theorem blt_tt {a b : Nat} : Nat.blt a b = true ↔ a < b := by rw [Nat.blt_eq]
theorem blt_ff {a b : Nat} : Nat.blt a b = false ↔ b ≤ a := by
  rw [← Bool.not_eq_true, Nat.blt_eq]; omega

theorem catG_get {n0 : Nat} {f f' : Nat → D} {vs us : List Value} {g : G} {sz : Nat} (hl : vs.length = n0) (h1 : ∀ i u, vs[i]? = some u → R g (f i) u ∧ u.cells.size = sz ∧ ones (f i) = true)
    (h2 : ∀ i u, us[i]? = some u → R g (f' i) u ∧ u.cells.size = sz ∧ ones (f' i) = true) : ∀ i u, (vs ++ us)[i]? = some u → R g (catG n0 f f' i) u ∧ u.cells.size = sz ∧ ones (catG n0 f f' i) = true := by
  intro i u hu
  rcases Nat.lt_or_ge i n0 with hi | hi
  · rw [List.getElem?_append_left (by omega)] at hu
    have : catG n0 f f' i = f i := by unfold catG; rw [blt_tt.2 hi]; rfl
    rw [this]; exact h1 i u hu
  · rw [List.getElem?_append_right (by omega), hl] at hu
    have : catG n0 f f' i = f' (i - n0) := by unfold catG; rw [blt_ff.2 hi]; rfl
    rw [this]; exact h2 _ u hu

/-- What append sees of its first argument. -/
structure Base (P : Program) (g : G) (w : World) (sz n0 : Nat) (f : Nat → D) (own : Own) (ba : Option Addr) (cap : Nat) (vs : List Value) : Prop where
  len : vs.length = n0
  capLe : n0 ≤ cap
  el : ∀ i u, vs[i]? = some u → R g (f i) u ∧ u.cells.size = sz ∧ ones (f i) = true
  src : Src P w sz n0 (.slice ba n0 cap) (flat vs)
  at_ : 0 < n0 → ∃ p, ba = some p ∧ p.spot = none ∧ ∀ (i : Nat) (u : Value), vs[i]? = some u → ∀ j, j < sz → g.σ ⟨p.block, p.off + i * sz + j, none⟩ = u.cells[j]?
  own : OwnOk g own n0 ba cap

theorem base_of {P : Program} {g : G} {w : World} (sub : ∀ a v, g.σ a = some v → w.cell? a = some v ∧ a.spot = none) {n0 ez sz : Nat} {f : Nat → D} {own : Own} {v : Value} (h : R g (.list n0 ez f own) v)
    (hz : ez = sz ∨ n0 = 0) : ∃ ba cap vs, v = .slice ba n0 cap ∧ Base P g w sz n0 f own ba cap vs := by
  have hs : srcD sz (.list n0 ez f own) = some (n0, f) := by
    simp only [srcD]
    cases hb : Nat.beq ez sz with
    | true => rfl
    | false =>
      rcases hz with rfl | h0
      · rw [beq_eq.2 rfl] at hb; cases hb
      · rw [beq_eq.2 h0]; rfl
  obtain ⟨ba, cap, vs0, h1, h2, h3, h4, h5, h6, h7, h8, h9⟩ := h.listOpen
  have hsz : ∀ u ∈ vs0, u.cells.size = sz := by
    rcases hz with rfl | h0
    · exact h6
    · intro u hu; have := List.length_pos_of_mem hu; omega
  have hat : 0 < n0 → ∃ p, ba = some p ∧ p.spot = none ∧ ∀ (i : Nat) (u : Value), vs0[i]? = some u → ∀ j, j < sz → g.σ ⟨p.block, p.off + i * sz + j, none⟩ = u.cells[j]? := by
    intro hp
    rcases hz with rfl | h0
    · exact h7 hp
    · omega
  refine ⟨ba, cap, vs0, h1, h4, h2, fun i u hu => ?_, ?_, hat, h8⟩
  · have hi : i < n0 := by
      rcases Nat.lt_or_ge i vs0.length with h | h
      · omega
      · rw [List.getElem?_eq_none h] at hu; cases hu
    exact ⟨(h5 i u hu).1, hsz u (List.mem_of_getElem? hu), h9 i hi⟩
  · cases ba with
    | none =>
      have : n0 = 0 := by
        rcases Nat.eq_zero_or_pos n0 with h | h
        · exact h
        · obtain ⟨p, hp, _⟩ := h7 h; cases hp
      subst this
      have : vs0 = [] := by simpa using h4
      subst this
      exact Src.nil
    | some p =>
      refine Src.slice (by rw [flat_length hsz, h4]) ?_
      rcases Nat.eq_zero_or_pos n0 with h | h
      · subst h
        have : vs0 = [] := by simpa using h4
        subst this
        intro k v hv; simp [flat] at hv
      · obtain ⟨p', hp, hsp, hc⟩ := hat h
        cases hp
        exact cells_flat sub hsz hsp hc

theorem setTok_grow {t b : Nat} {vals : Array Value} {k : Tok} (hb : ¬ U b) (l : G.le g (setTok g t b vals k)) : Grow U g (setTok g t b vals k) := by
  refine ⟨l, fun x v e => ?_⟩
  simp only [setTok] at e
  by_cases h : x.block = b
  · exact .inr (by rw [h]; exact hb)
  · rw [if_neg h] at e; exact .inl e

theorem roomG_grow {t b m : Nat} {arr : Array Value} {k : Tok} (hb : ¬ U b) (l : G.le g (roomG g t b arr k m)) : Grow U g (roomG g t b arr k m) := by
  refine ⟨l, fun x v e => ?_⟩
  by_cases h : x.block = b
  · exact .inr (by rw [h]; exact hb)
  · simp only [roomG] at e
    rw [if_neg (fun hh => h hh.1)] at e; exact .inl e

/-- A grown slice: its cells are new. -/
theorem app_grow (r : Rel n g β U y st a w) {t u ty e : Nat} {i : TypeInfo} {z : Value} (ht : P.underlying t = some (.slice e)) (hi : P.info? e = some i) (hz0 : i.zero = some z) (hzs : z.cells.size = i.size) (hu : AppTy P u) (h1 : 0 < i.bytes)
    {n0 m cap : Nat} {f f' : Nat → D} {own : Own} {ba : Option Addr} {vs us : List Value} {x : Value} (hb : Base P g w i.size n0 f own ba cap vs) (hul : us.length = m) (hue : ∀ k q, us[k]? = some q → R g (f' k) q ∧ q.cells.size = i.size ∧ ones (f' k) = true)
    (hsrc : Src P w i.size m x (flat us)) (hg : cap < n0 + m) (hroom : (n0 + m) * i.bytes ≤ roomM) {tk nt : Nat} (htk : tk < nt) (hnt : st.h.nt ≤ nt) (hvt : st.h.vw tk = none) (hle : ∀ k0, g.τ tk = some k0 → k0.sz = i.size ∧ k0.n < n0 + m) :
    ∃ v w' g', (Builtin.append_ #[t, u] ty #[.slice ba n0 cap, x]).run P w = .ok v w' ∧ Rel n g' β U y { st with h := tokH st.h tk (n0 + m) nt } a w' ∧ Grow U g g' ∧ Kept U w w' ∧ R g' (.list (n0 + m) i.size (catG n0 f f') (.tok tk i.size)) v := by
  have hlen : n0 + m ≤ lenM := by
    have : n0 + m ≤ (n0 + m) * i.bytes := Nat.le_mul_of_pos_right _ h1
    unfold roomM at hroom; unfold lenM; omega
  have hlen2 : n0 + m ≤ 281474976710656 := by
    have : n0 + m ≤ (n0 + m) * i.bytes := Nat.le_mul_of_pos_right _ h1
    unfold roomM at hroom; omega
  have hrun := run_app_grow (P := P) (w := w) (ty := ty) ht hi hz0 hu hb.src hsrc hg hroom hlen2 h1
  have hge := grownCap_ge w (n0 + m) cap e
  generalize hgc : grownCap w (n0 + m) cap e = gc at hrun hge
  generalize hvals0 : (flat vs ++ flat us).toArray ++ Builtin.zeroCells z.cells (gc - (n0 + m)) = vals at hrun
  have hszs : ∀ q ∈ vs ++ us, q.cells.size = i.size := by
    intro q hq
    rcases List.mem_append.1 hq with h | h
    · obtain ⟨k, hk, rfl⟩ := List.getElem_of_mem h; exact (hb.el k _ (List.getElem?_eq_getElem hk)).2.1
    · obtain ⟨k, hk, rfl⟩ := List.getElem_of_mem h; exact (hue k _ (List.getElem?_eq_getElem hk)).2.1
  have hfl : (flat (vs ++ us)).length = (n0 + m) * i.size := by rw [flat_length hszs]; simp [hb.len, hul]
  have hvals : vals = (flat (vs ++ us)).toArray ++ Builtin.zeroCells z.cells (gc - (n0 + m)) := by rw [← hvals0, flat_append]
  have hvs : vals.size = gc * i.size := by
    rw [hvals]; simp only [Array.size_append, List.size_toArray, hfl, size_zeroCells, hzs]
    rw [← Nat.add_mul]; congr 1; omega
  obtain ⟨k, hk1, hk2, hk3, hk4⟩ : ∃ k : Tok, k.a = some ⟨w.heap.size, 0, none⟩ ∧ k.n = n0 + m ∧ k.cap = gc ∧ k.sz = i.size := ⟨⟨some ⟨w.heap.size, 0, none⟩, n0 + m, gc, i.size⟩, rfl, rfl, rfl, rfl⟩
  have rd := r.ext (draw_ext r.inv)
  have hd : w.drew.heap.size = w.heap.size := rfl
  obtain ⟨r1, le⟩ := rd.newTok (t := tk) (nt := nt) (vals := vals) (T := e) (k := k) hk1 (by omega) (by rw [hvs, hk3, hk4]; exact Nat.le_refl _) htk hnt hvt (by rw [hk2, hk4]; exact hle)
  rw [hk2] at r1
  refine ⟨_, _, _, hrun, r1, setTok_grow (fun h => absurd (r.inv.ub _ h) (Nat.lt_irrefl _)) le, ?_, ?_⟩
  · have kd : Kept U w w.drew := (draw_ext r.inv).kept r.inv.ub
    exact kd.trans ((Ext.alloc rd.inv (.cells vals e (0, 0))).kept rd.inv.ub)
  · have hcat := catG_get hb.len hb.el hue
    refine R.ofList (vs := vs ++ us) (by simp [hb.len, hul]) hlen hge ⟨k, upd_same _ _ _, hk4, by omega, fun _ => ⟨hk1.symm, hk3.symm⟩⟩ (fun q u' hq => ⟨R.mono le _ _ (hcat q u' hq).1, (hcat q u' hq).2⟩) fun _ => ⟨_, rfl, rfl, fun q u' hq j hj => ?_⟩
    have hql : q < n0 + m := by
      rcases Nat.lt_or_ge q (vs ++ us).length with h | h
      · simpa [hb.len, hul] using h
      · rw [List.getElem?_eq_none h] at hq; cases hq
    have hlt : q * i.size + j < (n0 + m) * i.size := by
      have : (q + 1) * i.size ≤ (n0 + m) * i.size := Nat.mul_le_mul_right _ hql
      rw [Nat.add_mul] at this; omega
    rw [← flat_get hszs hq hj]
    simp only [setTok, Nat.zero_add, hd]
    rw [if_pos trivial, if_pos ⟨trivial, by rw [hk2, hk4]; exact hlt⟩, hvals, Array.getElem?_append_left (by simpa [hfl] using hlt)]
    simp

theorem cellsG_get {sz : Nat} (f : Nat → D) {i : Nat} (h : (cellsD (f (i / sz))).length = sz) : cellsG sz f i = (cellsD (f (i / sz))).getD (i % sz) .junk := by
  unfold cellsG
  cases hb : Nat.beq sz 1 with
  | false => rfl
  | true =>
    have := beq_eq.1 hb; subst this
    simp only [cond_true, Nat.div_one, Nat.mod_one] at h ⊢
    generalize f i = d at h ⊢
    cases d with
    | agg cs => cases cs with
      | nil => cases h
      | cons x r => rfl
    | _ => rfl

/-- A slice that grows into a new box. -/
theorem app_box (r : Rel n g β U y st a w) {t u ty e : Nat} {i : TypeInfo} {z : Value} (ht : P.underlying t = some (.slice e)) (hi : P.info? e = some i) (hz0 : i.zero = some z) (hzs : z.cells.size = i.size) (hu : AppTy P u) (h1 : 0 < i.bytes)
    {n0 m cap : Nat} {f f' : Nat → D} {own : Own} {ba : Option Addr} {vs us : List Value} {x : Value} (hb : Base P g w i.size n0 f own ba cap vs) (hul : us.length = m) (hue : ∀ k q, us[k]? = some q → R g (f' k) q ∧ q.cells.size = i.size ∧ ones (f' k) = true)
    (hsrc : Src P w i.size m x (flat us)) (hg : cap < n0 + m) (hroom : (n0 + m) * i.bytes ≤ roomM) :
    ∃ v w' g', (Builtin.append_ #[t, u] ty #[.slice ba n0 cap, x]).run P w = .ok v w' ∧ Rel n g' β U y { st with h := { st.h with box := upd st.h.box st.h.nl (some (.arr ((n0 + m) * i.size) (cellsG i.size (catG n0 f f')))), nl := st.h.nl + 1 } } a w' ∧ Grow U g g' ∧ Kept U w w' ∧ R g' (.sl st.h.nl 0 (n0 + m)) v := by
  have hlen : n0 + m ≤ lenM := by
    have : n0 + m ≤ (n0 + m) * i.bytes := Nat.le_mul_of_pos_right _ h1
    unfold roomM at hroom; unfold lenM; omega
  have hlen2 : n0 + m ≤ 281474976710656 := by
    have : n0 + m ≤ (n0 + m) * i.bytes := Nat.le_mul_of_pos_right _ h1
    unfold roomM at hroom; omega
  have hrun := run_app_grow (P := P) (w := w) (ty := ty) ht hi hz0 hu hb.src hsrc hg hroom hlen2 h1
  have hge := grownCap_ge w (n0 + m) cap e
  generalize hgc : grownCap w (n0 + m) cap e = gc at hrun hge
  generalize hvals0 : (flat vs ++ flat us).toArray ++ Builtin.zeroCells z.cells (gc - (n0 + m)) = vals at hrun
  have hszs : ∀ q ∈ vs ++ us, q.cells.size = i.size := by
    intro q hq
    rcases List.mem_append.1 hq with h | h
    · obtain ⟨k, hk, rfl⟩ := List.getElem_of_mem h; exact (hb.el k _ (List.getElem?_eq_getElem hk)).2.1
    · obtain ⟨k, hk, rfl⟩ := List.getElem_of_mem h; exact (hue k _ (List.getElem?_eq_getElem hk)).2.1
  have hfl : (flat (vs ++ us)).length = (n0 + m) * i.size := by rw [flat_length hszs]; simp [hb.len, hul]
  have hvals : vals = (flat (vs ++ us)).toArray ++ Builtin.zeroCells z.cells (gc - (n0 + m)) := by rw [← hvals0, flat_append]
  have rd := r.ext (draw_ext r.inv)
  have hd : w.drew.heap.size = w.heap.size := rfl
  have hcat := catG_get hb.len hb.el hue
  have hro : RowOf g vals (.arr ((n0 + m) * i.size) (cellsG i.size (catG n0 f f'))) := by
    refine ⟨by rw [hvals]; simp [hfl], fun j hj => ?_⟩
    have hpos : 0 < i.size := by
      rcases Nat.eq_zero_or_pos i.size with h | h
      · rw [h] at hj; omega
      · exact h
    have hq : j / i.size < n0 + m := Nat.div_lt_of_lt_mul (by rw [Nat.mul_comm]; exact hj)
    have hm : j % i.size < i.size := Nat.mod_lt _ hpos
    have hlen3 : (vs ++ us).length = n0 + m := by simp [hb.len, hul]
    have hel := List.getElem?_eq_getElem (l := vs ++ us) (i := j / i.size) (by omega)
    obtain ⟨h3, h4, h5⟩ := hcat _ _ hel
    have hcl := h3.cells.length
    have hcl' : (cellsD (catG n0 f f' (j / i.size))).length = i.size := by simp only [Array.length_toList] at hcl; omega
    have hdl := List.getElem?_eq_getElem (l := cellsD (catG n0 f f' (j / i.size))) (i := j % i.size) (by omega)
    obtain ⟨v, hv, hr⟩ := h3.cells.get _ _ hdl
    refine ⟨v, ?_, ?_⟩
    · have hf := flat_get hszs hel hm
      have hjj : j / i.size * i.size + j % i.size = j := by have := Nat.div_add_mod j i.size; rw [Nat.mul_comm] at this; omega
      rw [hjj] at hf
      rw [hvals, Array.getElem?_append_left (by simpa [hfl] using hj)]
      rw [List.getElem?_toArray, hf, ← Array.getElem?_toList]; exact hv
    · rw [cellsG_get _ hcl']
      simp only [List.getD, hdl, Option.getD_some]; exact hr
  have r1 := rd.newBox (T := e) hro
  have le := addBox_le (b := w.heap.size) (r.inv.frL st.h.nl (Nat.le_refl _))
  refine ⟨_, _, addBox g st.h.nl w.heap.size, hrun, r1, Grow.sameσ le rfl, ?_, ?_⟩
  · have kd : Kept U w w.drew := (draw_ext r.inv).kept r.inv.ub
    exact kd.trans ((Ext.alloc rd.inv (.cells vals e (0, 0))).kept rd.inv.ub)
  · simp only [R]
    exact ⟨_, upd_same _ _ _, _, _, rfl, hge, hlen, fun _ => rfl⟩

/-- A slice that grows into a new array of the frame's own. -/
theorem app_newvec (r : Rel n g β U y st a w) {t u ty e : Nat} {i : TypeInfo} {z : Value} (ht : P.underlying t = some (.slice e)) (hi : P.info? e = some i) (hz0 : i.zero = some z) (hzs : z.cells.size = i.size) (hu : AppTy P u) (h1 : 0 < i.bytes)
    {n0 m cap : Nat} {f f' : Nat → D} {ba : Option Addr} {vs us : List Value} {x : Value} (hbl : vs.length = n0) (hbe : ∀ k q, vs[k]? = some q → R g (f k) q ∧ q.cells.size = i.size ∧ ones (f k) = true) (hbs : Src P w i.size n0 (.slice ba n0 cap) (flat vs))
    (hul : us.length = m) (hue : ∀ k q, us[k]? = some q → R g (f' k) q ∧ q.cells.size = i.size ∧ ones (f' k) = true)
    (hsrc : Src P w i.size m x (flat us)) (hg : cap < n0 + m) (hroom : (n0 + m) * i.bytes ≤ roomM) {tk nt : Nat} (htk : tk < nt) (hnt : st.h.nt ≤ nt) (hle : ∀ k0, g.τ tk = some k0 → k0.sz = i.size ∧ k0.n < n0 + m) :
    ∃ v w' g', (Builtin.append_ #[t, u] ty #[.slice ba n0 cap, x]).run P w = .ok v w' ∧ Rel n g' β U y { st with h := vecH st.h tk (n0 + m) nt (catG n0 f f') } a w' ∧ Grow U g g' ∧ Kept U w w' ∧ R g' (.vec tk (n0 + m) i.size) v := by
  have hlen : n0 + m ≤ lenM := by
    have : n0 + m ≤ (n0 + m) * i.bytes := Nat.le_mul_of_pos_right _ h1
    unfold roomM at hroom; unfold lenM; omega
  have hlen2 : n0 + m ≤ 281474976710656 := by
    have : n0 + m ≤ (n0 + m) * i.bytes := Nat.le_mul_of_pos_right _ h1
    unfold roomM at hroom; omega
  have hrun := run_app_grow (P := P) (w := w) (ty := ty) ht hi hz0 hu hbs hsrc hg hroom hlen2 h1
  have hge := grownCap_ge w (n0 + m) cap e
  generalize hgc : grownCap w (n0 + m) cap e = gc at hrun hge
  generalize hvals0 : (flat vs ++ flat us).toArray ++ Builtin.zeroCells z.cells (gc - (n0 + m)) = vals at hrun
  have hszs : ∀ q ∈ vs ++ us, q.cells.size = i.size := by
    intro q hq
    rcases List.mem_append.1 hq with h | h
    · obtain ⟨k, hk, rfl⟩ := List.getElem_of_mem h; exact (hbe k _ (List.getElem?_eq_getElem hk)).2.1
    · obtain ⟨k, hk, rfl⟩ := List.getElem_of_mem h; exact (hue k _ (List.getElem?_eq_getElem hk)).2.1
  have hfl : (flat (vs ++ us)).length = (n0 + m) * i.size := by rw [flat_length hszs]; simp [hbl, hul]
  have hvals : vals = (flat (vs ++ us)).toArray ++ Builtin.zeroCells z.cells (gc - (n0 + m)) := by rw [← hvals0, flat_append]
  have hvs : vals.size = gc * i.size := by
    rw [hvals]; simp only [Array.size_append, List.size_toArray, hfl, size_zeroCells, hzs]
    rw [← Nat.add_mul]; congr 1; omega
  have hd : w.drew.heap.size = w.heap.size := rfl
  have hdd : w.drew.heap = w.heap := rfl
  have hcat := catG_get hbl hbe hue
  have r1 := Rel.vecTo r (t := tk) (nt := nt) (k := ⟨some ⟨w.heap.size, 0, none⟩, n0 + m, gc, i.size⟩) (f := catG n0 f f') (w' := w.drew.alloc (.cells vals e (0, 0))) htk hnt
    (fun k0 h => by obtain ⟨h2, h3⟩ := hle k0 h; exact ⟨h2.symm, by simp only; omega, fun h => by simp only at h; omega⟩)
    (by have := (below_alloc w.drew (.cells vals e (0, 0))).size; rw [hd] at this; exact this)
    (fun c hc _ => by rw [heap_alloc_old _ _ (by rw [hd]; exact hc), hdd])
    (fun _ => ⟨w.heap.size, e, vals, rfl, fun h => absurd (r.inv.ub _ h) (Nat.lt_irrefl _), by rw [← hd]; exact heap_alloc_new _ _, by simp only; omega, hge, fun q hq => ?_, r.freeNew tk (Nat.le_refl _)⟩)
  · refine ⟨_, _, _, hrun, r1, Grow.sameσ (vecG_le fun k0 h => by obtain ⟨h2, h3⟩ := hle k0 h; exact ⟨h2.symm, by simp only; omega, fun h => by simp only at h; omega⟩) rfl, ?_, ?_⟩
    · have kd : Kept U w w.drew := (draw_ext r.inv).kept r.inv.ub
      have rd := r.ext (draw_ext r.inv)
      exact kd.trans ((Ext.alloc rd.inv (.cells vals e (0, 0))).kept rd.inv.ub)
    · simp only [R]
      exact ⟨hlen, _, _, rfl, hge, _, upd_same _ _ _, rfl, Nat.le_refl _, fun _ => ⟨rfl, rfl⟩⟩
  · simp only at hq ⊢
    have hel := List.getElem?_eq_getElem (l := vs ++ us) (i := q) (by simp [hbl, hul]; omega)
    obtain ⟨h3, h4, h5⟩ := hcat _ _ hel
    refine ⟨_, h3, ⟨h4, h5⟩, fun j hj => ?_⟩
    have hlt : q * i.size + j < (n0 + m) * i.size := by
      have : (q + 1) * i.size ≤ (n0 + m) * i.size := Nat.mul_le_mul_right _ hq
      rw [Nat.add_mul] at this; omega
    rw [← flat_get hszs hel hj, hvals, Array.getElem?_append_left (by simpa [hfl] using hlt)]
    simp

/-- An array of the frame's own, its elements. -/
theorem vec_open {h : Heap} (i : Inv g U h w) {t m sz : Nat} {f : Nat → D} {v : Value} (hv : h.vw t = some f) (hn : h.hw t = some m) (hr : R g (.vec t m sz) v) :
    ∃ (k : Tok) (vs : List Value), v = .slice k.a m k.cap ∧ m ≤ k.cap ∧ m ≤ lenM ∧ g.τ t = some k ∧ k.sz = sz ∧ k.n = m ∧ vs.length = m ∧ (∀ q u, vs[q]? = some u → R g (f q) u ∧ u.cells.size = sz ∧ ones (f q) = true) ∧ Src P w sz m v (flat vs) ∧
      (0 < k.cap → TokAt g w U k (some f)) := by
  simp only [R] at hr
  obtain ⟨h1, ba, cap, rfl, h2, k, h3, h4, h5, h6⟩ := hr
  obtain ⟨k', e1, e2, e3⟩ := i.tok t m hn
  rw [h3] at e1; cases e1
  obtain ⟨h7, h8⟩ := h6 e2.symm
  subst h7; subst h8; subst e2; subst h4
  rw [hv] at e3
  rcases Nat.eq_zero_or_pos k.n with h0 | h0
  · refine ⟨k, [], by rw [h0], by omega, by omega, h3, rfl, rfl, by simp [h0], fun q u hq => (by cases hq), ?_, e3⟩
    rw [h0]
    cases hka : k.a with
    | none => exact Src.nil
    | some p => exact Src.slice (by simp [flat]) (fun q v hq => by simp [flat] at hq)
  · obtain ⟨b, c1, c2, T, vals, c3, c4, c5, c6⟩ := e3 (show 0 < k.cap by omega)
    obtain ⟨_, c7⟩ := c6 f rfl
    have hex : ∀ q : Fin k.n, ∃ u, R g (f q) u ∧ (u.cells.size = k.sz ∧ ones (f q) = true) ∧ ∀ j, j < k.sz → vals[q.1 * k.sz + j]? = u.cells[j]? := fun q => c7 q q.2
    let vs := List.ofFn fun q : Fin k.n => (hex q).choose
    have hvl : vs.length = k.n := by simp [vs]
    have hvg : ∀ q u, vs[q]? = some u → q < k.n ∧ R g (f q) u ∧ (u.cells.size = k.sz ∧ ones (f q) = true) ∧ ∀ j, j < k.sz → vals[q * k.sz + j]? = u.cells[j]? := by
      intro q u hq
      have hql : q < k.n := by
        rcases Nat.lt_or_ge q k.n with h | h
        · exact h
        · rw [List.getElem?_eq_none (by omega)] at hq; cases hq
      have := (hex ⟨q, hql⟩).choose_spec
      rw [List.getElem?_eq_getElem (by omega)] at hq
      simp only [vs, List.getElem_ofFn, Option.some.injEq] at hq
      rw [hq] at this
      exact ⟨hql, this⟩
    have hszs : ∀ u ∈ vs, u.cells.size = k.sz := by
      intro u hu
      obtain ⟨q, hq, rfl⟩ := List.getElem_of_mem hu
      exact (hvg q _ (List.getElem?_eq_getElem hq)).2.2.1.1
    refine ⟨k, vs, rfl, by omega, h1, h3, rfl, rfl, hvl, fun q u hq => ⟨(hvg q u hq).2.1, (hvg q u hq).2.2.1⟩, ?_, e3⟩
    rw [c1]
    refine Src.slice (by rw [flat_length hszs, hvl]) fun p v hp => ?_
    have hpl : p < k.n * k.sz := by
      rcases Nat.lt_or_ge p (flat vs).length with h | h
      · rw [flat_length hszs, hvl] at h; exact h
      · rw [List.getElem?_eq_none h] at hp; cases hp
    have hpos : 0 < k.sz := by
      rcases Nat.eq_zero_or_pos k.sz with h | h
      · rw [h] at hpl; omega
      · exact h
    have hq : p / k.sz < k.n := Nat.div_lt_of_lt_mul (by rw [Nat.mul_comm]; exact hpl)
    have hm := Nat.mod_lt p hpos
    have hel := List.getElem?_eq_getElem (l := vs) (i := p / k.sz) (by omega)
    have hf := flat_get hszs hel hm
    have hjj : p / k.sz * k.sz + p % k.sz = p := by have := Nat.div_add_mod p k.sz; rw [Nat.mul_comm] at this; omega
    rw [hjj, hp] at hf
    have h9 := (hvg _ _ hel).2.2.2 _ hm
    rw [hjj, ← hf] at h9
    rw [add_none]
    simp only [World.cell?, c3, Nat.zero_add]
    simpa using h9

theorem app_ok (r : Rel n g β U y st a w) {t u ty : Nat} {x z : D} {vx vz : Value} (hu : AppTy P u) (hx : R g x vx) (hz : R g z vz)
    (hrun : ∀ v w', (Builtin.append_ #[t, u] ty #[vx, vz]).run P w = .ok v w' → (execOp a.eval o).run P w = .ok (.value v) w') {bx vx : Bool} : ResOk P n g β U y st a w o (appD P st bx vx t x z) := by
  unfold appD
  split
  · rename_i e ht
    split
    · rename_i sz b zd hsz hby hze
      cases hc : (isD zd && Nat.beq (cellsD zd).length sz) with
      | false => trivial
      | true =>
        simp only [Bool.and_eq_true] at hc
        obtain ⟨hc1, hc2⟩ := hc
        have hc2 := beq_eq.1 hc2
        simp only [cond_true]
        split
        · rename_i n0 ez f own m f' hsr
          cases hc3 : (bif Nat.beq ez sz then true else Nat.beq n0 0) with
          | false => trivial
          | true =>
            simp only [cond_true]
            have hez : ez = sz ∨ n0 = 0 := by
              cases hb : Nat.beq ez sz with
              | true => exact .inl (beq_eq.1 hb)
              | false => rw [hb] at hc3; exact .inr (beq_eq.1 hc3)
            obtain ⟨i, hi, hib⟩ := bytesOf_sound hby
            have his : i.size = sz := by simp only [szOf, hi, Option.map_some, Option.some.injEq] at hsz; exact hsz
            have hizs : ∃ zv, i.zero = some zv ∧ zv.cells.size = i.size := by
              obtain ⟨zv, h1, h2⟩ := zeroD_sound hze hc1 w
              have hzz : i.zero = some zv := by
                simp only [zeroD, hi, Option.bind_some] at hze
                cases hzi : i.zero with
                | none => rw [hzi] at hze; cases hze
                | some z' =>
                  simp [zeroValue, typeInfo, hi, hzi] at h1
                  rw [h1]
              refine ⟨zv, hzz, ?_⟩
              have := (h2 g).cells.length
              simp at this; omega
            obtain ⟨zv, hz1, hz2⟩ := hizs
            subst his
            have h1 : 0 < i.bytes := by omega
            obtain ⟨ba, cap, vs, rfl, hb⟩ := base_of (P := P) (w := w) r.inv.sub hx hez
            obtain ⟨us, hul, hue, hsrc⟩ := srcD_sound (P := P) (w := w) r.inv.sub hsr hz
            have hlenOf : (n0 + m) * (b + 1) ≤ roomM → n0 + m ≤ lenM := by
              intro hr
              have : n0 + m ≤ (n0 + m) * (b + 1) := Nat.le_mul_of_pos_right _ (by omega)
              unfold roomM at hr; unfold lenM; omega
            have hidle : m = 0 → ∃ w', (Builtin.append_ #[t, u] ty #[.slice ba n0 cap, vz]).run P w = .ok (.slice ba (n0 + m) cap) w' ∧ w' = w := by
              intro hm
              subst hm
              have : us = [] := by simpa using hul
              subst this
              refine ⟨w, run_app_room ht hi hu hsrc (by have := hb.capLe; omega) ?_, rfl⟩
              cases ba with
              | none => rfl
              | some p => simp [flat, storeCells]
            split
            · trivial
            · trivial
            · -- a slice whose capacity is its length
              have hcap : cap = n0 := hb.own
              cases vx with
              | true =>
                intro hp
                rcases Nat.eq_zero_or_pos m with hm | hm
                · obtain ⟨w', h2, rfl⟩ := hidle hm
                  have hn0 : n0 = 0 := by omega
                  have r1 := Rel.vecTo r (t := st.h.nt) (nt := st.h.nt + 1) (k := ⟨ba, n0 + m, cap, i.size⟩) (f := catG n0 f f') (w' := w') (by omega) (by omega) (fun k0 h => by rw [r.inv.frT _ (Nat.le_refl _)] at h; cases h) (Nat.le_refl _) (fun _ _ _ => rfl) (fun h => by simp only at h; omega)
                  refine ⟨_, _, _, .inl (hrun _ _ h2), r1, Grow.sameσ (vecG_le fun k0 h => by rw [r.inv.frT _ (Nat.le_refl _)] at h; cases h) rfl, Kept.refl _ _, RS0.ofR ?_, rfl⟩
                  simp only [R]
                  exact ⟨by unfold lenM; omega, ba, cap, rfl, by omega, _, upd_same _ _ _, rfl, Nat.le_refl _, fun _ => ⟨rfl, rfl⟩⟩
                · obtain ⟨v, w', g', h2, h3, h4, h5, h6⟩ := app_newvec (ty := ty) r ht hi hz1 hz2 hu h1 hb.len hb.el hb.src hul hue hsrc (by omega) (by rw [hib]; exact hp.2) (tk := st.h.nt) (nt := st.h.nt + 1) (by omega) (by omega)
                    (fun k0 h => by rw [r.inv.frT _ (Nat.le_refl _)] at h; cases h)
                  exact ⟨v, w', g', .inl (hrun _ _ h2), h3, h4, h5, RS0.ofR h6, rfl⟩
              | false =>
              cases bx with
              | true =>
                intro hp
                obtain ⟨v, w', g', h2, h3, h4, h5, h6⟩ := app_box (ty := ty) r ht hi hz1 hz2 hu h1 hb hul hue hsrc (by omega) (by rw [hib]; exact hp.2)
                exact ⟨v, w', g', .inl (hrun _ _ h2), h3, h4, h5, RS0.ofR h6, rfl⟩
              | false =>
              intro hp
              rcases Nat.eq_zero_or_pos m with hm | hm
              · obtain ⟨w', h2, rfl⟩ := hidle hm
                obtain ⟨r1, le⟩ := r.idleTok (t := st.h.nt) (k := ⟨ba, n0 + m, cap, i.size⟩) (by simp only; omega) rfl
                refine ⟨_, _, _, .inl (hrun _ _ h2), r1, Grow.sameσ le rfl, Kept.refl _ _, ?_, rfl⟩
                subst hm
                have hus : us = [] := by simpa using hul
                refine RS0.ofR (R.ofList (vs := vs ++ us) (by simp [hb.len, hul]) (hlenOf hp) (by omega) ⟨_, upd_same _ _ _, rfl, Nat.le_refl _, fun _ => ⟨rfl, rfl⟩⟩ (fun q u' hq => ?_) fun h0 => ?_)
                · have := catG_get hb.len hb.el hue q u' hq
                  exact ⟨R.mono le _ _ this.1, this.2⟩
                · obtain ⟨p, e1, e2, e3⟩ := hb.at_ (by omega)
                  exact ⟨p, e1, e2, fun q u' hq => e3 q u' (by simpa [hus] using hq)⟩
              · obtain ⟨v, w', g', h2, h3, h4, h5, h6⟩ := app_grow (ty := ty) r ht hi hz1 hz2 hu h1 hb hul hue hsrc (by omega) (by rw [hib]; exact hp) (tk := st.h.nt) (nt := st.h.nt + 1) (by omega) (by omega) (r.inv.frV _ (Nat.le_refl _))
                  (fun k0 h => by rw [r.inv.frT _ (Nat.le_refl _)] at h; cases h)
                exact ⟨v, w', g', .inl (hrun _ _ h2), h3, h4, h5, RS0.ofR h6, rfl⟩
            · -- one with an append right
              rename_i tk tz
              split
              · trivial
              rename_i hvt
              cases htz : Nat.beq i.size tz with
              | false => trivial
              | true =>
                have := beq_eq.1 htz; subst this
                simp only [cond_true]
                intro ⟨hw, hp⟩
                obtain ⟨k, hk, hks, hkn, hkeq⟩ := hb.own
                obtain ⟨k', hk', hkn', hroom⟩ := r.inv.tok tk n0 hw
                rw [hk] at hk'; cases hk'
                obtain ⟨hka, hkc⟩ := hkeq hkn'.symm
                have hnt : tk < st.h.nt := by
                  rcases Nat.lt_or_ge tk st.h.nt with h | h
                  · exact h
                  · rw [r.inv.frT tk h] at hk; cases hk
                rcases Nat.eq_zero_or_pos m with hm | hm
                · obtain ⟨w', h2, rfl⟩ := hidle hm
                  subst hm
                  have hus : us = [] := by simpa using hul
                  have hst : ({ st with h := { st.h with hw := upd st.h.hw tk (some (n0 + 0)) } } : St) = st := by
                    have : upd st.h.hw tk (some (n0 + 0)) = st.h.hw := by
                      funext q
                      by_cases hq : q = tk
                      · subst hq; rw [upd_same, hw]; rfl
                      · rw [upd_other _ _ hq]
                    rw [this]
                  rw [hst]
                  refine ⟨_, _, _, .inl (hrun _ _ h2), r, Grow.refl U g, Kept.refl _ _, ?_, rfl⟩
                  refine RS0.ofR (R.ofList (vs := vs ++ us) (by simp [hb.len, hul]) (hlenOf hp) (by have := hb.capLe; omega) ⟨k, hk, hks, by omega, fun _ => ⟨hka, hkc⟩⟩ (fun q u' hq => ?_) fun h0 => ?_)
                  · exact catG_get hb.len hb.el hue q u' hq
                  · obtain ⟨p, e1, e2, e3⟩ := hb.at_ (by omega)
                    exact ⟨p, e1, e2, fun q u' hq => e3 q u' (by simpa [hus] using hq)⟩
                · rcases Nat.lt_or_ge cap (n0 + m) with hg | hg
                  · obtain ⟨v, w', g', h2, h3, h4, h5, h6⟩ := app_grow (ty := ty) r ht hi hz1 hz2 hu h1 hb hul hue hsrc hg (by rw [hib]; exact hp) (tk := tk) (nt := st.h.nt) hnt (Nat.le_refl _) hvt
                      (fun k0 h => by rw [hk] at h; cases h; exact ⟨hks, by omega⟩)
                    exact ⟨v, w', g', .inl (hrun _ _ h2), h3, h4, h5, RS0.ofR h6, rfl⟩
                  · rw [hvt] at hroom
                    obtain ⟨bl, e1, e2, T, vals, e3, e4, e5, _⟩ := hroom (show k.n < k.cap by omega)
                    subst hkn'
                    have e5 : ∀ j, k.n * k.sz ≤ j → g.σ ⟨bl, j, none⟩ = none := e5
                    have hlen : (flat us).length = m * k.sz := by
                      rw [flat_length (sz := k.sz) (fun q hq => ?_), hul]
                      obtain ⟨j, hj, rfl⟩ := List.getElem_of_mem hq
                      rw [hks]; exact (hue j _ (List.getElem?_eq_getElem hj)).2.1
                    obtain ⟨r1, le, kp⟩ := r.roomTok (news := flat us) (m := m) hw hvt hk e1 e3 e4 e5 hlen hm (by omega) e2
                    have hcapz : (k.n + m) * k.sz ≤ vals.size := Nat.le_trans (Nat.mul_le_mul_right _ (by omega)) e4
                    have hadd : (k.n + m) * k.sz = k.n * k.sz + (flat us).length := by rw [Nat.add_mul, hlen]
                    have hst := run_storeCells_at (P := P) bl (k.n * k.sz) T (flat us) 0 vals w e3 (by omega) (flat_ones (get := f') fun q u' hq => ⟨(hue q u' hq).1, (hue q u' hq).2.2⟩)
                    simp only [Nat.add_zero] at hst
                    have hba : ba = some ⟨bl, 0, none⟩ := by rw [hka, e1]
                    have h2 : (Builtin.append_ #[t, u] ty #[.slice ba k.n cap, vz]).run P w = .ok (.slice ba (k.n + m) cap) _ :=
                      run_app_room (w' := w.setRow bl (vals.toList.take (k.n * k.sz) ++ flat us ++ vals.toList.drop (k.n * k.sz + (flat us).length)).toArray) ht hi hu hsrc hg (by
                        rw [hba]; simp only [add_none, Nat.zero_add]; rw [← hks]; exact hst)
                    refine ⟨_, _, _, .inl (hrun _ _ h2), r1, roomG_grow e2 le, kp, ?_, rfl⟩
                    refine RS0.ofR (R.ofList (vs := vs ++ us) (by simp [hb.len, hul]) (hlenOf hp) hg ⟨{ k with n := k.n + m }, upd_same _ _ _, hks, Nat.le_refl _, fun _ => ⟨hka, hkc⟩⟩ (fun q u' hq => ?_) fun h0 => ?_)
                    · have := catG_get hb.len hb.el hue q u' hq
                      exact ⟨R.mono le _ _ this.1, this.2⟩
                    · refine ⟨_, hba, rfl, fun q u' hq j hj => ?_⟩
                      rw [← hks] at hj
                      rw [← hks]
                      rcases Nat.lt_or_ge q k.n with hq1 | hq1
                      · rw [List.getElem?_append_left (by rw [hb.len]; exact hq1)] at hq
                        obtain ⟨p, f1, f2, f3⟩ := hb.at_ (by omega)
                        rw [hba] at f1; cases f1
                        have hf := f3 q u' hq j (by omega)
                        rw [← hks] at hf
                        have hlt : q * k.sz + j < k.n * k.sz := by
                          have : (q + 1) * k.sz ≤ k.n * k.sz := Nat.mul_le_mul_right _ hq1
                          rw [Nat.add_mul] at this; omega
                        simp only [roomG]
                        rw [if_neg (by simp only [Nat.zero_add]; omega)]
                        exact hf
                      · rw [List.getElem?_append_right (by rw [hb.len]; exact hq1), hb.len] at hq
                        have hql : q - k.n < m := by
                          rcases Nat.lt_or_ge (q - k.n) us.length with h | h
                          · omega
                          · rw [List.getElem?_eq_none h] at hq; cases hq
                        have husz : ∀ q ∈ us, q.cells.size = k.sz := by
                          intro q hq
                          obtain ⟨j, hj, rfl⟩ := List.getElem_of_mem hq
                          rw [hks]; exact (hue j _ (List.getElem?_eq_getElem hj)).2.1
                        have hqe : q * k.sz = k.n * k.sz + (q - k.n) * k.sz := by rw [← Nat.add_mul]; congr 1; omega
                        have hlt : (q - k.n) * k.sz + j < (flat us).length := by
                          have : (q - k.n + 1) * k.sz ≤ m * k.sz := Nat.mul_le_mul_right _ hql
                          rw [Nat.add_mul] at this; omega
                        rw [← flat_get husz hq hj]
                        simp only [roomG, Nat.zero_add]
                        rw [if_pos ⟨trivial, trivial, by omega, by omega⟩, hqe]
                        simp only [List.getElem?_toArray]
                        rw [List.append_assoc, List.getElem?_append_right (by simp; omega)]
                        rw [List.getElem?_append_left (by simp; omega)]
                        congr 1
                        simp; omega
        · rename_i tk n0 ez m f' hsr
          cases htz : Nat.beq ez sz with
          | false => trivial
          | true =>
            have := beq_eq.1 htz; subst this
            simp only [cond_true]
            split
            · rename_i f hv
              obtain ⟨i, hi, hib⟩ := bytesOf_sound hby
              have his : i.size = ez := by simp only [szOf, hi, Option.map_some, Option.some.injEq] at hsz; exact hsz
              have hizs : ∃ zv, i.zero = some zv ∧ zv.cells.size = i.size := by
                obtain ⟨zv, h1, h2⟩ := zeroD_sound hze hc1 w
                have hzz : i.zero = some zv := by
                  simp only [zeroD, hi, Option.bind_some] at hze
                  cases hzi : i.zero with
                  | none => rw [hzi] at hze; cases hze
                  | some z' =>
                    simp [zeroValue, typeInfo, hi, hzi] at h1
                    rw [h1]
                refine ⟨zv, hzz, ?_⟩
                have := (h2 g).cells.length
                simp at this; omega
              obtain ⟨zv, hz1, hz2⟩ := hizs
              subst his
              have h1 : 0 < i.bytes := by omega
              intro ⟨hw, hp⟩
              obtain ⟨k, vs, rfl, k1, k2, k3, k4, k5, k6, k7, k8, k9⟩ := vec_open (P := P) r.inv hv hw hx
              obtain ⟨us, hul, hue, hsrc⟩ := srcD_sound (P := P) (w := w) r.inv.sub hsr hz
              have hlenM : n0 + m ≤ lenM := by
                have : n0 + m ≤ (n0 + m) * (b + 1) := Nat.le_mul_of_pos_right _ (by omega)
                unfold roomM at hp; unfold lenM; omega
              have hnt := r.ntLt k3
              have hcatl : ∀ q, q < n0 → catG n0 f f' q = f q := fun q hq => by simp [catG, blt_tt.2 hq]
              rcases Nat.eq_zero_or_pos m with hm | hm
              · subst hm
                have hus : us = [] := by simpa using hul
                subst hus
                have h2 : (Builtin.append_ #[t, u] ty #[.slice k.a n0 k.cap, vz]).run P w = .ok (.slice k.a (n0 + 0) k.cap) w := by
                  refine run_app_room ht hi hu hsrc (by omega) ?_
                  cases k.a with
                  | none => rfl
                  | some p => simp [flat, storeCells]
                have r1 := Rel.vecTo r (t := tk) (nt := st.h.nt) (k := k) (f := catG n0 f f') (w' := w) hnt (Nat.le_refl _) (fun k0 h => by rw [k3] at h; cases h; exact ⟨rfl, Nat.le_refl _, fun _ => rfl⟩) (Nat.le_refl _) (fun _ _ _ => rfl) (fun hcap => by
                  obtain ⟨bl, c1, c2, T, vals, c3, c4, c5, c6⟩ := k9 hcap
                  obtain ⟨c7, c8⟩ := c6 f rfl
                  exact ⟨bl, T, vals, c1, c2, c3, c4, c7, fun q hq => by rw [hcatl q (by omega)]; exact c8 q hq, r.freeOld hv hw k3 hcap c1⟩)
                have hgg : vecG g tk k = g := by simp only [vecG, upd_idem _ k3]
                rw [hgg] at r1
                refine ⟨_, _, _, .inl (hrun _ _ h2), ?_, Grow.refl U g, Kept.refl _ _, RS0.ofR ?_, rfl⟩
                · have : vecH st.h tk k.n st.h.nt (catG n0 f f') = { st.h with hw := upd st.h.hw tk (some (n0 + 0)), vw := upd st.h.vw tk (some (catG n0 f f')) } := by rw [k5]; rfl
                  rw [← this]; exact r1
                · simp only [R]
                  exact ⟨by omega, _, _, rfl, by omega, k, k3, k4, by omega, fun _ => ⟨rfl, rfl⟩⟩
              · rcases Nat.lt_or_ge k.cap (n0 + m) with hg | hg
                · obtain ⟨v, w', g', h2, h3, h4, h5, h6⟩ := app_newvec (ty := ty) r ht hi hz1 hz2 hu h1 k6 k7 k8 hul hue hsrc hg (by rw [hib]; exact hp) (tk := tk) (nt := st.h.nt) hnt (Nat.le_refl _)
                    (fun k0 h => by rw [k3] at h; cases h; exact ⟨k4, by omega⟩)
                  exact ⟨v, w', g', .inl (hrun _ _ h2), h3, h4, h5, RS0.ofR h6, rfl⟩
                · have hcap : 0 < k.cap := by omega
                  obtain ⟨bl, c1, c2, T, vals, c3, c4, c5, c6⟩ := k9 hcap
                  obtain ⟨c7, c8⟩ := c6 f rfl
                  have husz : ∀ q ∈ us, q.cells.size = k.sz := by
                    intro q hq
                    obtain ⟨j, hj, rfl⟩ := List.getElem_of_mem hq
                    rw [k4]; exact (hue j _ (List.getElem?_eq_getElem hj)).2.1
                  have hlen : (flat us).length = m * k.sz := by rw [flat_length husz, hul]
                  have hcapz : (n0 + m) * k.sz ≤ vals.size := Nat.le_trans (Nat.mul_le_mul_right _ hg) c4
                  have hadd : (n0 + m) * k.sz = n0 * k.sz + (flat us).length := by rw [Nat.add_mul, hlen]
                  have hst := run_storeCells_at (P := P) bl (n0 * k.sz) T (flat us) 0 vals w c3 (by omega) (flat_ones (get := f') fun q u' hq => ⟨(hue q u' hq).1, (hue q u' hq).2.2⟩)
                  simp only [Nat.add_zero] at hst
                  have h2 : (Builtin.append_ #[t, u] ty #[.slice k.a n0 k.cap, vz]).run P w = .ok (.slice k.a (n0 + m) k.cap) _ :=
                    run_app_room (w' := w.setRow bl (vals.toList.take (n0 * k.sz) ++ flat us ++ vals.toList.drop (n0 * k.sz + (flat us).length)).toArray) ht hi hu hsrc hg (by
                      rw [c1]; simp only [add_none, Nat.zero_add]; rw [← k4]; exact hst)
                  have tn := turn_setRow w bl (vals.toList.take (n0 * k.sz) ++ flat us ++ vals.toList.drop (n0 * k.sz + (flat us).length)).toArray
                  have har : ∀ p, (vals.toList.take (n0 * k.sz) ++ flat us ++ vals.toList.drop (n0 * k.sz + (flat us).length)).toArray[p]? = if p < n0 * k.sz then vals[p]? else if p < n0 * k.sz + (flat us).length then (flat us)[p - n0 * k.sz]? else vals[p]? := fun p => by
                    have := get_splice vals.toList (flat us) (n0 * k.sz) p (by simp; omega)
                    simpa using this
                  have hle : ∀ k0, g.τ tk = some k0 → k.sz = k0.sz ∧ k0.n ≤ n0 + m ∧ (k0.n = n0 + m → ({ k with n := n0 + m } : Tok) = k0) := fun k0 h => by
                    rw [k3] at h; cases h; exact ⟨rfl, by omega, fun h => by omega⟩
                  have r1 := Rel.vecTo r (t := tk) (nt := st.h.nt) (k := { k with n := n0 + m }) (f := catG n0 f f') hnt (Nat.le_refl _) hle
                    (by rw [tn.size]; exact Nat.le_refl _) (fun c hc hcb => tn.other c (hcb bl hcap c1)) (fun _ => ⟨bl, T, _, c1, c2, setRow_heap w bl vals _ T (0, 0) c3, by
                      simp only [List.size_toArray, List.length_append, List.length_take, List.length_drop, Array.length_toList]; omega, hg, fun q hq => ?_, r.freeOld hv hw k3 hcap c1⟩)
                  · refine ⟨_, _, _, .inl (hrun _ _ h2), r1, Grow.sameσ (vecG_le hle) rfl, tn.kept c2, RS0.ofR ?_, rfl⟩
                    simp only [R]
                    exact ⟨hlenM, _, _, rfl, hg, _, upd_same _ _ _, k4, Nat.le_refl _, fun _ => ⟨rfl, rfl⟩⟩
                  · simp only at hq ⊢
                    rcases Nat.lt_or_ge q n0 with hq1 | hq1
                    · rw [hcatl q hq1]
                      obtain ⟨u', d1, d2, d3⟩ := c8 q (by omega)
                      refine ⟨u', d1, d2, fun j hj => ?_⟩
                      have : (q + 1) * k.sz ≤ n0 * k.sz := Nat.mul_le_mul_right _ hq1
                      rw [Nat.add_mul] at this
                      rw [har, if_pos (by omega)]
                      exact d3 j hj
                    · have hc : catG n0 f f' q = f' (q - n0) := by simp [catG, blt_ff.2 hq1]
                      rw [hc]
                      have hel := List.getElem?_eq_getElem (l := us) (i := q - n0) (by omega)
                      obtain ⟨d1, d2, d3⟩ := hue _ _ hel
                      refine ⟨_, d1, ⟨by rw [k4]; exact d2, d3⟩, fun j hj => ?_⟩
                      have hqe : q * k.sz = n0 * k.sz + (q - n0) * k.sz := by rw [← Nat.add_mul]; congr 1; omega
                      have hlt : (q - n0) * k.sz + j < (flat us).length := by
                        have : (q - n0 + 1) * k.sz ≤ m * k.sz := Nat.mul_le_mul_right _ (by omega)
                        rw [Nat.add_mul] at this; omega
                      rw [har, if_neg (by omega), if_pos (by omega), ← flat_get husz hel hj]
                      congr 1; omega
            · trivial
        · trivial
    · trivial
  · trivial

end
end Go.Ab
/- The executor is sound, 10: len, min, max, make, calls; all operations. -/
namespace Go.Ab

section
variable {P : Program} {n : Nat} {g : G} {β : Nat → Nat} {U : Nat → Prop} {y : Nat → Bool → Prop} {st : St} {a : Act} {w : World} {ev : Operand → D} {o : Oper}

theorem run_builtin {b : Builtin} {c : Call} (ho : o.op = .call c) (hc : c.callee = .builtin b) :
    (execOp a.eval o) = builtin b c.argTypes o.type (c.args.map fun | .const _ => true | _ => false) (c.args.map a.eval) := by
  simp only [execOp, ho, resolve, hc, invoke]
  rfl

theorem Rs.one {g : G} {d : D} {vs : List Value} (h : Rs g [d] vs) : ∃ v, vs = [v] ∧ R g d v := by
  simp only [Rs] at h
  obtain ⟨v, r, rfl, hv, rfl⟩ := h
  exact ⟨v, rfl, hv⟩

theorem minD_sound {g : G} : ∀ (l : List D) (vs : List Value) (x d : D) (vx : Value) (w : World), Rs g l vs → R g x vx →
    l.foldl (fun acc y => match acc, y with | some (.int k a), .int _ b => some (.int k (if b < a then b else a)) | _, _ => none) (some x) = some d →
    ∃ v, (vs.foldlM Builtin.min2 vx).run P w = .ok v w ∧ R g d v
  | [], vs, x, d, vx, w, hs, hx, h => by
    simp only [Rs] at hs; subst hs
    simp only [List.foldl_nil, Option.some.injEq] at h; subst h
    exact ⟨vx, by simp [List.foldlM], hx⟩
  | z :: l, vs, x, d, vx, w, hs, hx, h => by
    simp only [Rs] at hs
    obtain ⟨vz, r, rfl, hz, hs⟩ := hs
    have hbad : ∀ l : List D, l.foldl (fun (acc : Option D) y => match acc, y with | some (.int k a), .int _ b => some (.int k (if b < a then b else a)) | _, _ => none) none ≠ some d := by
      intro l; induction l with
      | nil => simp
      | cons q l ih => simpa using ih
    simp only [List.foldl_cons] at h
    split at h
    · rename_i _ k p k' q hxe
      cases hxe
      simp only [R] at hx hz
      subst hx; subst hz
      obtain ⟨v, h1, h2⟩ := minD_sound l r _ d _ w hs (by simp only [R]; rfl) h
      exact ⟨v, by simp only [List.foldlM_cons, Builtin.min2, Sem.run_bind, Sem.run_pure, Result.andThen_ok]; exact h1, h2⟩
    · exact absurd h (hbad l)

theorem maxD_sound {g : G} : ∀ (l : List D) (vs : List Value) (x d : D) (vx : Value) (w : World), Rs g l vs → R g x vx →
    l.foldl (fun acc y => match acc, y with | some (.int k a), .int _ b => some (.int k (if b > a then b else a)) | _, _ => none) (some x) = some d →
    ∃ v, (vs.foldlM Builtin.max2 vx).run P w = .ok v w ∧ R g d v
  | [], vs, x, d, vx, w, hs, hx, h => by
    simp only [Rs] at hs; subst hs
    simp only [List.foldl_nil, Option.some.injEq] at h; subst h
    exact ⟨vx, by simp [List.foldlM], hx⟩
  | z :: l, vs, x, d, vx, w, hs, hx, h => by
    simp only [Rs] at hs
    obtain ⟨vz, r, rfl, hz, hs⟩ := hs
    have hbad : ∀ l : List D, l.foldl (fun (acc : Option D) y => match acc, y with | some (.int k a), .int _ b => some (.int k (if b > a then b else a)) | _, _ => none) none ≠ some d := by
      intro l; induction l with
      | nil => simp
      | cons q l ih => simpa using ih
    simp only [List.foldl_cons] at h
    split at h
    · rename_i _ k p k' q hxe
      cases hxe
      simp only [R] at hx hz
      subst hx; subst hz
      obtain ⟨v, h1, h2⟩ := maxD_sound l r _ d _ w hs (by simp only [R]; rfl) h
      exact ⟨v, by simp only [List.foldlM_cons, Builtin.max2, Sem.run_bind, Sem.run_pure, Result.andThen_ok]; exact h1, h2⟩
    · exact absurd h (hbad l)

theorem args_arr (c : Call) : c.args.map a.eval = (c.args.toList.map a.eval).toArray := by cases c.args; simp

theorem builtin_ok (r : Rel n g β U y st a w) (e : Ev g β st.sl a ev) {c : Call} {b : Builtin} (ho : o.op = .call c) (hc : c.callee = .builtin b) (hall : allD (c.args.toList.map ev) = true) {bx vx : Bool} :
    ResOk P n g β U y st a w o (builtinD P st bx vx b c.argTypes.toList (c.args.toList.map ev)) := by
  have hs := rs_map e _ hall
  have hrun := run_builtin (a := a) ho hc
  rw [args_arr] at hrun
  generalize c.args.toList.map ev = ds at hs ⊢
  generalize c.args.toList.map a.eval = vs at hs hrun
  have hat : c.argTypes = c.argTypes.toList.toArray := by simp
  rw [hat] at hrun
  generalize c.argTypes.toList = ts at hrun ⊢
  unfold builtinD
  split
  · -- len of a slice
    rename_i t ts' m z f own
    obtain ⟨v, rfl, hv⟩ := hs.one
    split
    · rename_i el hu
      obtain ⟨ba, cap, _, rfl, _, h3, _⟩ := hv.listOpen
      refine ⟨h3, DOk.ofD rfl, VOk.plain r.inv (v := .int .i64 m) ?_ (RS0.ofR (by simp only [R]))⟩
      rw [hrun]; simp [builtin, Builtin.len_, run_underlying hu, goInt]
    · trivial
  · rename_i t ts' l off m
    obtain ⟨v, rfl, hv⟩ := hs.one
    split
    · rename_i el hu
      simp only [R] at hv
      obtain ⟨bl, _, ba, cap, rfl, _, h3, _⟩ := hv
      refine ⟨h3, DOk.ofD rfl, VOk.plain r.inv (v := .int .i64 m) ?_ (RS0.ofR (by simp only [R]))⟩
      rw [hrun]; simp [builtin, Builtin.len_, run_underlying hu, goInt]
    · trivial
  · rename_i t ts' tt m z
    obtain ⟨v, rfl, hv⟩ := hs.one
    split
    · rename_i el hu
      simp only [R] at hv
      obtain ⟨h3, ba, cap, rfl, _⟩ := hv
      refine ⟨h3, DOk.ofD rfl, VOk.plain r.inv (v := .int .i64 m) ?_ (RS0.ofR (by simp only [R]))⟩
      rw [hrun]; simp [builtin, Builtin.len_, run_underlying hu, goInt]
    · trivial
  · rename_i t ts' s
    obtain ⟨v, rfl, hv⟩ := hs.one
    split
    · rename_i hu
      simp only [R] at hv
      obtain ⟨rfl, h3⟩ := hv
      refine ⟨h3, DOk.ofD rfl, VOk.plain r.inv (v := .int .i64 s.length) ?_ (RS0.ofR (by simp only [R]))⟩
      have hsz : (ByteArray.mk s.toArray).size = s.length := by show s.toArray.size = _; simp
      rw [hrun]; simp [builtin, Builtin.len_, run_underlying hu, goInt, hsz]
    · trivial
  · -- append
    rename_i t u x z
    simp only [Rs] at hs
    obtain ⟨vx, _, rfl, hx, vz, _, rfl, hz, rfl⟩ := hs
    have happ : ∀ v w', (Builtin.append_ #[t, u] o.type #[vx, vz]).run P w = .ok v w' → (execOp a.eval o).run P w = .ok (.value v) w' := by
      intro v w' h
      rw [hrun]; simp [builtin, h]
    split
    · rename_i el hu
      exact app_ok r (.inl ⟨_, hu⟩) hx hz happ
    · rename_i hu
      exact app_ok r (.inr hu) hx hz happ
    · trivial
  · -- min
    cases hm : minD ds with
    | none => trivial
    | some d =>
      cases ds with
      | nil => simp [minD] at hm
      | cons x l =>
        simp only [Rs] at hs
        obtain ⟨vx, rr, rfl, hx, hs⟩ := hs
        obtain ⟨v, h1, h2⟩ := minD_sound (P := P) l rr x d vx w hs hx hm
        refine resVal (v := v) r ?_ h2
        rw [hrun]; simp [builtin, Builtin.min_, h1]
  · cases hm : maxD ds with
    | none => trivial
    | some d =>
      cases ds with
      | nil => simp [maxD] at hm
      | cons x l =>
        simp only [Rs] at hs
        obtain ⟨vx, rr, rfl, hx, hs⟩ := hs
        obtain ⟨v, h1, h2⟩ := maxD_sound (P := P) l rr x d vx w hs hx hm
        refine resVal (v := v) r ?_ h2
        rw [hrun]; simp [builtin, Builtin.max_, h1]
  · trivial

theorem make_ok (r : Rel n g β U y st a w) (e : Ev g β st.sl a ev) {t : Nat} {l c : Operand} {vx : Bool} (ho : o.op = .makeSlice t l c) : ResOk P n g β U y st a w o (makeD P st vx t (ev l) (ev c)) := by
  unfold makeD
  split
  · rename_i el kl x kc z hu hl hc
    have h1 := dataOf e _ hl rfl
    have h2 := dataOf e _ hc rfl
    simp only [R] at h1 h2
    split
    · rename_i sz b zd hsz hby hze
      cases hcc : (isD zd && Nat.beq (cellsD zd).length (sz + 1)) with
      | false => trivial
      | true =>
        simp only [cond_true]
        simp only [Bool.and_eq_true] at hcc
        obtain ⟨hc1, hc2⟩ := hcc
        have hc2 := beq_eq.1 hc2
        cases vx with
        | true =>
          simp only [cond_true]
          cases hones : ones zd with
          | false => trivial
          | true =>
          intro ⟨hp1, hp2, hp3⟩
          obtain ⟨i, hi, hib⟩ := bytesOf_sound hby
          have his : i.size = sz + 1 := by simp only [szOf, hi, Option.map_some, Option.some.injEq] at hsz; exact hsz
          obtain ⟨zv, hz1, hz2⟩ := zeroD_sound hze hc1 w
          have hizv : i.zero = some zv := by
            simp only [zeroD, hi, Option.bind_some] at hze
            cases hzi : i.zero with
            | none => rw [hzi] at hze; cases hze
            | some z' =>
              simp [zeroValue, typeInfo, hi, hzi] at hz1
              rw [hz1]
          have hxm : z ≤ z * ((b : Int) + 1) := by
            have : z * 1 ≤ z * ((b : Int) + 1) := Int.mul_le_mul_of_nonneg_left (by omega) (by omega)
            simpa using this
          have hroom : z * ((b : Int) + 1) ≤ 140737488355328 := by
            have : ((roomM : Nat) : Int) = 140737488355328 := rfl
            rw [← this]; simpa using hp3
          have hrun := run_make (P := P) (w := w) t el i zv hu hi hizv kl kc x z hp1 hp2 (by rw [hib, Int.mul_comm]; push_cast; omega) (by omega)
          have hzc := (hz2 g).cells
          have hzl : zv.cells.size = sz + 1 := by have := hzc.length; simp at this; omega
          have r1 := Rel.vecTo r (t := st.h.nt) (nt := st.h.nt + 1) (k := ⟨some ⟨w.heap.size, 0, none⟩, x.toNat, z.toNat, sz + 1⟩) (f := fun _ => zd) (w' := w.alloc (.cells (madeCells zv.cells (z.toNat * i.size)) el (0, 0))) (by omega) (by omega)
            (fun k0 h => by rw [r.inv.frT _ (Nat.le_refl _)] at h; cases h) (below_alloc w _).size (fun c hc _ => heap_alloc_old _ _ hc)
            (fun _ => ⟨w.heap.size, el, _, rfl, fun h => absurd (r.inv.ub _ h) (Nat.lt_irrefl _), heap_alloc_new _ _, by rw [size_madeCells, his]; exact Nat.le_refl _, by simp only; omega, fun q hq => ⟨zv, hz2 g, ⟨hzl, hones⟩, fun j hj => by
              have hj : j < sz + 1 := hj
              have hq : q < x.toNat := hq
              show (madeCells zv.cells (z.toNat * i.size))[q * (sz + 1) + j]? = _
              have hlt : q * (sz + 1) + j < z.toNat * i.size := by
                have : (q + 1) * (sz + 1) ≤ z.toNat * (sz + 1) := Nat.mul_le_mul_right _ (by omega)
                rw [Nat.add_mul] at this; rw [his]; omega
              rw [madeCells, Array.getElem?_map, Array.getElem?_range, if_pos hlt]
              simp only [Option.map_some, hzl]
              rw [Nat.mul_comm q, Nat.mul_add_mod, Nat.mod_eq_of_lt hj]
              rw [getElem!_pos _ j (by omega), Array.getElem?_eq_getElem (by omega)]⟩, r.freeNew _ (Nat.le_refl _)⟩)
          have hlen : x.toNat ≤ lenM := by unfold lenM; omega
          refine ⟨.slice (some ⟨w.heap.size, 0, none⟩) x.toNat z.toNat, _, _, .inl ?_, r1, Grow.sameσ (vecG_le fun k0 h => by rw [r.inv.frT _ (Nat.le_refl _)] at h; cases h) rfl, (Ext.alloc r.inv _).kept r.inv.ub, RS0.ofR ?_, rfl⟩
          · simp only [execOp, ho, h1, h2, Sem.run_bind, hrun, Result.andThen_ok, Sem.run_pure]
          · simp only [R]
            exact ⟨hlen, _, _, rfl, by omega, _, upd_same _ _ _, rfl, Nat.le_refl _, fun _ => ⟨rfl, rfl⟩⟩
        | false =>
        intro ⟨hp1, hp2, hp3⟩
        subst hp2
        obtain ⟨i, hi, hib⟩ := bytesOf_sound hby
        have his : i.size = sz + 1 := by simp only [szOf, hi, Option.map_some, Option.some.injEq] at hsz; exact hsz
        obtain ⟨zv, hz1, hz2⟩ := zeroD_sound hze hc1 w
        have hizv : i.zero = some zv := by
          simp only [zeroD, hi, Option.bind_some] at hze
          cases hzi : i.zero with
          | none => rw [hzi] at hze; cases hze
          | some z' =>
            simp [zeroValue, typeInfo, hi, hzi] at hz1
            rw [hz1]
        have hxm : x ≤ x * ((b : Int) + 1) := by
          have : x * 1 ≤ x * ((b : Int) + 1) := Int.mul_le_mul_of_nonneg_left (by omega) hp1
          simpa using this
        have hroom : x * ((b : Int) + 1) ≤ 140737488355328 := by
          have : ((roomM : Nat) : Int) = 140737488355328 := rfl
          rw [← this]; simpa using hp3
        have hrun := run_make (P := P) (w := w) t el i zv hu hi hizv kl kc x x hp1 (Int.le_refl _) (by rw [hib, Int.mul_comm]; push_cast; omega) (by omega)
        have hzc := (hz2 g).cells
        have hzl : zv.cells.size = sz + 1 := by have := hzc.length; simp at this; omega
        have hro : RowOf g (madeCells zv.cells (x.toNat * i.size)) (.arr (x.toNat * (sz + 1)) (cellsG (sz + 1) fun _ => zd)) := by
          refine ⟨by rw [size_madeCells, his]; exact Nat.le_refl _, fun j hj => ?_⟩
          have hm : j % (sz + 1) < sz + 1 := Nat.mod_lt _ (by omega)
          have hdl := List.getElem?_eq_getElem (l := cellsD zd) (i := j % (sz + 1)) (by omega)
          obtain ⟨v, hv, hr⟩ := hzc.get _ _ hdl
          refine ⟨v, ?_, ?_⟩
          · rw [madeCells, Array.getElem?_map, Array.getElem?_range, if_pos (by rw [his]; exact hj)]
            simp only [Option.map_some, Option.some.injEq, hzl]
            rw [Array.getElem?_toList] at hv
            rw [getElem!_def, hv]
          · have hcg := cellsG_get (fun _ => zd) (i := j) (sz := sz + 1) hc2
            rw [hcg]
            simp only [List.getD, hdl, Option.getD_some]; exact hr
        have r1 := r.newBox (T := el) hro
        have le := addBox_le (b := w.heap.size) (r.inv.frL st.h.nl (Nat.le_refl _))
        have hlen : x.toNat ≤ lenM := by unfold lenM; omega
        refine ⟨.slice (some ⟨w.heap.size, 0, none⟩) x.toNat x.toNat, _, _, .inl ?_, r1, Grow.sameσ le rfl, (Ext.alloc r.inv _).kept r.inv.ub, RS0.ofR ?_, rfl⟩
        · simp only [execOp, ho, h1, h2, Sem.run_bind, hrun, Result.andThen_ok, Sem.run_pure]
        · simp only [R]
          exact ⟨_, upd_same _ _ _, _, _, rfl, Nat.le_refl _, hlen, fun _ => rfl⟩
    · trivial
  · trivial

theorem call_ok (e : Ev g β st.sl a ev) {c : Call} {f : Nat} {caps : List D} {x : Operand} (ho : o.op = .call c) (hc : c.callee = .value x) (hx : ev x = .clo f caps) (hall : allD (c.args.toList.map ev) = true) :
    ResOk P n g β U y st a w o (.call f (c.args.toList.map ev ++ caps)) := by
  intro ⟨fn, h1, h2, h3⟩
  have hf := dataOf e _ hx rfl
  simp only [R] at hf
  obtain ⟨vs, hv, hcs⟩ := hf
  have hs := rs_map e _ hall
  refine ⟨c.args.toList.map a.eval ++ vs, ?_, hs.append hcs⟩
  have hargs := args_arr (a := a) c
  simp only [execOp, ho, resolve, hc, hv, Deferred.ofValue, Sem.run_bind, Sem.run_pure, Result.andThen_ok, invoke, callFunc, hargs]
  have h3' : ¬ fn.name = "runtime.NumGoroutine" := by simpa using h3
  have h2' : ¬ fn.body = none := by intro h; rw [h] at h2; cases h2
  simp [h1, h2', h3']

theorem opD_ok {cfg : Cfg} (r : Rel n g β U y st a w) (e : Ev g β st.sl a ev) : ResOk P n g β U y st a w o (opD P cfg st ev o.dst o.op) := by
  unfold opD
  split
  · rename_i x ho; exact move_ok r e (.inl ho)
  · rename_i x ho; exact move_ok r e (.inr ho)
  · rename_i t ho; exact alloc_ok r ho
  · rename_i t x ho; exact box_ok r e ho
  · rename_i t parts ho; exact build_ok r e ho
  · rename_i t len parts ho; exact buildSlice_ok r e ho
  · rename_i t x ho; exact load_ok r e ho
  · rename_i t x z ho; exact store_ok r e ho
  · rename_i x ho; exact nilCheck_ok r e ho
  · rename_i op t x z t' ho; exact binO_ok r e ho
  · rename_i op t x ho; exact un_ok r e ho
  · rename_i s t x ho; exact conv_ok r e ho
  · rename_i f first caps ho; exact makeFunc_ok r e ho
  · rename_i t l c ho; exact make_ok r e ho
  · rename_i t x lo hi mx ho; exact slice_ok r e ho
  · rename_i t x f ho; exact fieldAddr_ok r e ho
  · rename_i t x i ho; exact indexAddr_ok r e ho
  · rename_i t x i ho; exact index_ok r e ho
  · rename_i x i ho; exact extract_ok r e ho
  · rename_i c ho
    split
    · rename_i f hc
      split
      · rename_i f' caps hx
        cases hall : allD (c.args.toList.map ev) with
        | false => trivial
        | true => exact call_ok e ho hc hx hall
      · trivial
    · rename_i b hc
      cases hall : allD (c.args.toList.map ev) with
      | false => trivial
      | true => exact builtin_ok r e ho hc hall
    · trivial
  · trivial

end
end Go.Ab
/- The executor is sound, 11: the operations of a region in their order. -/
namespace Go.Ab

theorem beqB_eq {a b : Bool} (h : beqB a b = true) : a = b := by cases a <;> cases b <;> first | rfl | exact Bool.noConfusion (show false = true from h)

section
variable {P : Program} {n : Nat} {g : G} {β : Nat → Nat} {U : Nat → Prop} {st : St} {a : Act} {w : World} {o : Oper} {ops : List Oper} {i : Nat}

theorem yielded_of {s : Nat} {b : Bool} {j : Nat} (hj : dstOf ops j = some s) (h : a.tmps.getD s undef = .bool b) : yielded ops.toArray a.tmps j = some b := by
  unfold yielded
  have h1 : ((ops.toArray[j]?).bind (·.dst)) = some s := by simpa [dstOf] using hj
  rw [h1]
  have h2 : a.tmps[s]? = some (.bool b) := by
    cases hs : a.tmps[s]? with
    | none => simp [hs, undef] at h
    | some v => simp [hs] at h; rw [h]
  simp [h2]

/-- Chain, of the operations that are done. -/
def ChainD (ops : List Oper) (D : Nat → Prop) (a : Act) : Prop :=
  ∀ j o j1 w1, D j → ops[j]? = some o → o.guard = some (j1, w1) → yielded ops.toArray a.tmps j ≠ none → yielded ops.toArray a.tmps j1 = some w1

/-- What one that is done hangs on is done. -/
def DoneOk (ops : List Oper) (D : Nat → Prop) : Prop := ∀ j o j1 w1, D j → ops[j]? = some o → o.guard = some (j1, w1) → dstOf ops j1 ≠ none → D j1

theorem gB_sound {D : Nat → Prop} (r : Rel n g β U (yOf ops a) st a w) (hc : ChainD ops D a) (hd : DoneOk ops D) : ∀ (m : Nat) (q : Nat × Bool) (x : Bool), (dstOf ops q.1 ≠ none → D q.1) → gB st.sl ops i m q = some x → (yielded ops.toArray a.tmps q.1 = some q.2 ↔ x = true)
  | 0, _, _, _, h => by simp [gB] at h
  | m + 1, (j, w0), x, hq, h => by
    simp only [gB] at h
    cases hj : dstOf ops j with
    | none => rw [hj] at h; cases h
    | some s =>
      rw [hj] at h
      simp only at h
      split at h
      · rename_i b hl
        cases h
        have := yielded_of hj (by simpa [RS, RS0, R] using r.slot s _ hl)
        simp only [this]
        cases b <;> cases w0 <;> simp
      · rename_i j' w' b hl
        cases hb : Nat.blt j i && guardIs ops j j' w' with
        | false => rw [hb] at h; cases h
        | true =>
          rw [hb] at h
          simp only [cond_true] at h
          simp only [Bool.and_eq_true] at hb
          have hji : D j := hq (by rw [hj]; simp)
          cases hx : gB st.sl ops i m (j', w') with
          | none => rw [hx] at h; cases h
          | some x' =>
            rw [hx] at h
            cases h
            have hguard : ∃ o, ops[j]? = some o ∧ o.guard = some (j', w') := by
              have h2 := hb.2
              unfold guardIs at h2
              cases ho : ops[j]? with
              | none => rw [ho] at h2; simp at h2
              | some o =>
                rw [ho] at h2
                simp only [Option.bind_some] at h2
                cases hg : o.guard with
                | none => rw [hg] at h2; simp at h2
                | some p =>
                  obtain ⟨p1, p2⟩ := p
                  rw [hg] at h2
                  simp only [Bool.and_eq_true] at h2
                  have e1 := beq_eq.1 h2.1
                  have e2 := beqB_eq h2.2
                  subst e1; subst e2
                  exact ⟨o, rfl, hg⟩
            obtain ⟨o, ho, hog⟩ := hguard
            have ih := gB_sound r hc hd m (j', w') x' (hd j o j' w' hji ho hog) hx
            simp only at ih
            have hs : yielded ops.toArray a.tmps j' = some w' → yielded ops.toArray a.tmps j = some b := fun hy =>
              yielded_of hj (by
                have := r.slot s _ hl
                simp only [RS] at this
                simpa [RS0, R] using this hy)
            constructor
            · intro hy
              have h1 := hc j o j' w' hji ho hog (by rw [hy]; simp)
              have h2 := hs h1
              rw [hy] at h2; cases h2
              rw [ih.1 h1]
              cases w0 <;> rfl
            · intro hy
              simp only [Bool.and_eq_true] at hy
              have h1 := hs (ih.2 hy.1)
              rw [h1]
              have := hy.2
              cases b <;> cases w0 <;> simp_all
      · cases h

theorem clos_sound {D : Nat → Prop} (hc : ChainD ops D a) (hd : DoneOk ops D) : ∀ (m : Nat) (q : Nat × Bool), (dstOf ops q.1 ≠ none → D q.1) → yielded ops.toArray a.tmps q.1 = some q.2 → ∀ p ∈ clos ops i m q, yielded ops.toArray a.tmps p.1 = some p.2
  | 0, _, _, _, p, hp => by simp [clos] at hp
  | m + 1, q, hqd, hq, p, hp => by
    simp only [clos] at hp
    cases hb : Nat.blt q.1 i with
    | false => rw [hb] at hp; simp at hp
    | true =>
      rw [hb] at hp
      simp only [cond_true, List.mem_cons] at hp
      rcases hp with rfl | hp
      · exact hq
      · cases ho : ops[q.1]? with
        | none => rw [ho] at hp; simp at hp
        | some o =>
          rw [ho] at hp
          simp only [Option.bind_some] at hp
          cases hg : o.guard with
          | none => rw [hg] at hp; simp at hp
          | some q' =>
            rw [hg] at hp
            have hq0 : D q.1 := hqd (fun h0 => by
              have : yielded ops.toArray a.tmps q.1 = none := by
                unfold yielded
                have h1 : ((ops.toArray[q.1]?).bind (·.dst)) = dstOf ops q.1 := by simp [dstOf]
                rw [h1, h0]; rfl
              rw [this] at hq; cases hq)
            exact clos_sound hc hd m q' (hd q.1 o q'.1 q'.2 hq0 ho (by rw [hg])) (hc q.1 o q'.1 q'.2 hq0 ho (by rw [hg]) (by rw [hq]; simp)) p hp

theorem hasG_sound : ∀ (cl : List (Nat × Bool)) (j : Nat) (w : Bool), hasG cl j w = true → (j, w) ∈ cl
  | [], _, _, h => by simp [hasG] at h
  | (p, q) :: r, j, w, h => by
    simp only [hasG, Bool.or_eq_true, Bool.and_eq_true] at h
    rcases h with ⟨h1, h2⟩ | h
    · have e1 := beq_eq.1 h1
      have e2 := beqB_eq h2
      subst e1; subst e2
      exact List.mem_cons_self ..
    · exact List.mem_cons_of_mem _ (hasG_sound r j w h)

theorem ofVal_may (v : Value) : isD (ofVal v) = true ∨ ofVal v = .junk := by
  have hc : ∀ (c : Bool) (x : D), isD x = true → isD (bif c then x else .junk) = true ∨ (bif c then x else .junk) = .junk := by
    intro c x h; cases c
    · exact .inr rfl
    · exact .inl h
  unfold ofVal
  split <;> first | exact .inl rfl | exact .inr rfl | exact hc _ _ rfl

theorem evO_ev {y : Nat → Bool → Prop} (r : Rel n g β U y st a w) {cl : List (Nat × Bool)} (hcl : ∀ p ∈ cl, y p.1 p.2) : Ev g β st.sl a (evO st.sl cl) := by
  have hmay : ∀ {t j w0 d}, look st.sl t = some (.may j w0 d) → hasG cl j w0 = true → RS0 g β d (a.tmps.getD t undef) ∧ y j w0 := by
    intro t j w0 d hl hg
    have hy := hcl _ (hasG_sound cl j w0 hg)
    exact ⟨r.slot t _ hl hy, hy⟩
  have hcond : ∀ {c : Bool} {d : D}, (bif c then d else D.junk) ≠ .junk → c = true := by
    intro c d h; cases c
    · exact absurd rfl h
    · rfl
  refine ⟨fun x hx => ?_, fun x s off hx => ?_, fun x cs hx => ?_, fun x j w0 d hx => ?_⟩
  · cases x with
    | tmp t =>
      simp only [evO] at hx ⊢
      split at hx <;> rename_i heq
      · have := r.slot t _ heq
        simpa [RS, RS0, Act.eval] using this
      · have hg := hcond hx
        rw [hg]
        exact (hmay heq hg).1
      · have := r.slot t _ heq
        rename_i d h1 h2
        cases d <;> first | exact this | exact absurd rfl hx | exact absurd rfl (h1 _) | exact absurd rfl (h2 _ _ _)
      · exact absurd rfl hx
    | const v => exact RS0.ofVal g β v hx
    | func f => simp only [evO, Act.eval, RS0, R]; exact ⟨[], rfl, rfl⟩
    | global q => exact absurd rfl hx
  · cases x with
    | tmp t =>
      simp only [evO] at hx
      split at hx <;> rename_i heq
      · cases hx; exact ⟨_, heq⟩
      · have hg := hcond (by rw [hx]; simp)
        rw [hg] at hx
        simp only [cond_true] at hx
        subst hx
        exact r.base t _ s heq (hmay heq hg).2 rfl
      · subst hx; exact r.base t _ s heq trivial rfl
      · cases hx
    | const v => simp only [evO] at hx; rcases ofVal_may v with h | h <;> rw [hx] at h <;> cases h
    | func f => cases hx
    | global q => cases hx
  · cases x with
    | tmp t =>
      simp only [evO] at hx
      split at hx <;> rename_i heq
      · cases hx
      · have hg := hcond (by rw [hx]; simp)
        rw [hg] at hx
        simp only [cond_true] at hx
        subst hx
        have := (hmay heq hg).1
        simp [RS0, R] at this
      · rename_i h1 h2
        subst hx
        exact absurd rfl (h1 _)
      · cases hx
    | const v => simp only [evO] at hx; rcases ofVal_may v with h | h <;> rw [hx] at h <;> cases h
    | func f => cases hx
    | global q => cases hx
  · cases x with
    | tmp t =>
      simp only [evO] at hx
      split at hx <;> rename_i heq
      · cases hx
      · have hg := hcond (by rw [hx]; simp)
        rw [hg] at hx
        simp only [cond_true] at hx
        subst hx
        have := (hmay heq hg).1
        simp [RS0, R] at this
      · rename_i h1 h2
        subst hx
        exact absurd rfl (h2 _ _ _)
      · cases hx
    | const v => simp only [evO] at hx; rcases ofVal_may v with h | h <;> rw [hx] at h <;> cases h
    | func f => cases hx
    | global q => cases hx

end
end Go.Ab
/- The executor is sound, 12: the operations of a region in their order. -/
namespace Go.Ab

theorem Oper.wp_mono' {P : Program} {o : Oper} {a : Act} {w : World} {K K' : Act → World → Prop} {Q Q' : Exit → Act → World → Prop} (h : ∀ a w, K a w → K' a w) (hq : ∀ e a w, Q e a w → Q' e a w)
    (hh : o.wp P a w K Q) : o.wp P a w K' Q' := by
  unfold Oper.wp at *
  generalize (execOp a.eval o).run P w = r at *
  cases r with
  | ok n w' =>
    cases n <;> simp only [Oper.upon] at hh ⊢ <;>
      first
        | exact h _ _ hh
        | exact Calls.mono hh (fun e w'' he => by cases e <;> first | exact h _ _ he | exact hq _ _ _ he | exact he.elim fun a he => he.elim fun w he => ⟨a, w, hq _ _ _ he⟩)
        | exact Rows.mono hh (fun _ _ he => h _ _ he)
  | halt x w' => cases x <;> simp only [Oper.upon] at hh ⊢ <;> first | exact hq _ _ _ hh | exact hh

theorem wpOps_mono {P : Program} {ops : Array Oper} {Q Q' : Exit → Act → World → Prop} (hq : ∀ e a w, Q e a w → Q' e a w) : ∀ (l : List Nat) (a : Act) (w : World), wpOps P ops Q l a w → wpOps P ops Q' l a w
  | [], a, w, h => hq _ _ _ h
  | i :: r, a, w, h => by
    simp only [wpOps] at h ⊢
    cases ho : ops[i]? with
    | none => rw [ho] at h; exact wpOps_mono hq r a w h
    | some o =>
      rw [ho] at h
      simp only at h ⊢
      split
      · rename_i hw
        rw [if_pos hw] at h
        rcases h with h | ⟨h1, a', w', h2⟩
        · exact .inl (Oper.wp_mono' (fun a w => wpOps_mono hq r a w) hq h)
        · exact .inr ⟨h1, a', w', hq _ _ _ h2⟩
      · rename_i hw
        rw [if_neg hw] at h
        exact wpOps_mono hq r _ _ h

def OpsPost (n : Nat) (U : Nat → Prop) (g : G) (w : World) (Q : St → Prop) (e : Exit) (a' : Act) (w' : World) : Prop :=
  e = .normal ∧ ∃ g' β' st', Rel n g' β' U noY st' a' w' ∧ Grow U g g' ∧ Kept U w w' ∧ Q st'

section
variable {P : Program} {n : Nat} {g : G} {β : Nat → Nat} {U : Nat → Prop} {st : St} {a : Act} {w : World} {o : Oper} {ops : List Oper} {i : Nat}

theorem OpsSem.at {Q : St → Prop} {g0 : G} {w0 : World} (h : OpsSem P n ops i st Q) (r : Rel n g β U (yOf ops a) st a w) (hm : MayLt i st) (hc : Chain ops i a) (hg : Grow U g0 g) (hk : Kept U w0 w) :
    wpOps P ops.toArray (OpsPost n U g0 w0 Q) (List.range' i (ops.length - i)) a w :=
  wpOps_mono (fun _ _ _ ⟨e, g', β', st', h1, h2, h3, h4⟩ => ⟨e, g', β', st', h1, hg.trans h2, hk.trans h3, h4⟩) _ _ _ (h g β U a w r hm hc)

theorem apart_dst (h : dstsApart ops = true) {j k t : Nat} (hj : dstOf ops j = some t) (hk : dstOf ops k = some t) : j = k := by
  have hn : (ops.filterMap (·.dst)).Nodup := by simpa [dstsApart] using h
  clear h
  induction ops generalizing j k with
  | nil => simp [dstOf] at hj
  | cons o r ih =>
    cases hd : o.dst with
    | none =>
      rw [List.filterMap_cons, hd] at hn
      cases j with
      | zero => simp [dstOf, hd] at hj
      | succ j =>
        cases k with
        | zero => simp [dstOf, hd] at hk
        | succ k => have := ih (j := j) (k := k) (by simpa [dstOf] using hj) (by simpa [dstOf] using hk) hn; omega
    | some s =>
      rw [List.filterMap_cons, hd] at hn
      simp only [List.nodup_cons] at hn
      have hin : ∀ {m : Nat}, dstOf r m = some s → False := by
        intro m hm
        apply hn.1
        simp only [dstOf] at hm
        cases hr : r[m]? with
        | none => rw [hr] at hm; cases hm
        | some o' => rw [hr] at hm; exact List.mem_filterMap.2 ⟨o', List.mem_of_getElem? hr, by simpa using hm⟩
      cases j with
      | zero =>
        have hs : s = t := by simpa [dstOf, hd] using hj
        subst hs
        cases k with
        | zero => rfl
        | succ k => exact (hin (by simpa [dstOf] using hk)).elim
      | succ j =>
        cases k with
        | zero =>
          have hs : s = t := by simpa [dstOf, hd] using hk
          subst hs
          exact (hin (by simpa [dstOf] using hj)).elim
        | succ k => have := ih (j := j) (k := k) (by simpa [dstOf] using hj) (by simpa [dstOf] using hk) hn.2; omega

theorem guardsBack_at : ∀ {ops : List Oper} {k j : Nat} {o : Oper} {q : Nat × Bool}, guardsBack k ops = true → ops[j]? = some o → o.guard = some q → q.1 < k + j
  | [], _, _, _, _, _, h, _ => by simp at h
  | o' :: r, k, j, o, q, h, ho, hg => by
    simp only [guardsBack, Bool.and_eq_true] at h
    cases j with
    | zero =>
      simp at ho; subst ho
      rw [hg] at h
      have := blt_tt.1 h.1
      omega
    | succ j =>
      have := guardsBack_at (k := k + 1) h.2 (by simpa using ho) hg
      omega

structure OpsOk (n : Nat) (ops : List Oper) : Prop where
  apart : dstsApart ops = true
  isIn : ∀ j t, dstOf ops j = some t → t < n
  back : ∀ {j : Nat} {o : Oper} {q : Nat × Bool}, ops[j]? = some o → o.guard = some q → q.1 < j

theorem opsOk_sound (h : opsOk n ops = true) : OpsOk n ops := by
  simp only [opsOk, Bool.and_eq_true] at h
  obtain ⟨⟨h1, h2⟩, h3⟩ := h
  refine ⟨h1, fun j t hj => ?_, fun ho hg => by have := guardsBack_at h3 ho hg; omega⟩
  simp only [dstOf] at hj
  cases ho : ops[j]? with
  | none => rw [ho] at hj; cases hj
  | some o =>
    rw [ho] at hj
    have hd : o.dst = some t := by simpa using hj
    have := List.all_eq_true.1 h2 o (List.mem_of_getElem? ho)
    rw [hd] at this
    exact blt_tt.1 this

theorem yielded_put {j t : Nat} {v : Value} (h : dstOf ops j ≠ some t) : yielded ops.toArray (a.put (some t) v).tmps j = yielded ops.toArray a.tmps j := by
  unfold yielded
  have h1 : ((ops.toArray[j]?).bind (·.dst)) = dstOf ops j := by simp [dstOf]
  rw [h1]
  cases hd : dstOf ops j with
  | none => rfl
  | some s =>
    have hne : t ≠ s := fun e => h (by rw [hd, e])
    simp [Act.put, Array.getElem?_setIfInBounds_ne hne]

theorem yielded_undef {j : Nat} (h : ∀ t, dstOf ops j = some t → a.tmps.getD t undef = undef) : yielded ops.toArray a.tmps j = none := by
  unfold yielded
  have h1 : ((ops.toArray[j]?).bind (·.dst)) = dstOf ops j := by simp [dstOf]
  rw [h1]
  cases hd : dstOf ops j with
  | none => rfl
  | some s =>
    have := h s hd
    cases hs : a.tmps[s]? with
    | none => simp [hs]
    | some v => simp [hs] at this; simp [hs, this, undef]

/-- Operation number i has put v into its slot. -/
theorem put_step (k : OpsOk n ops) (r : Rel n g β U (yOf ops a) st a w) (hm : MayLt i st) (hc : Chain ops i a) (ho : ops[i]? = some o) {v : Value} {d : D}
    (hv : ∀ t, RS g β (yOf ops (a.put o.dst v)) t d v) (hno : ∀ cs, d ≠ .own cs) (hb : Live (yOf ops (a.put o.dst v)) d → ∀ s, baseOf d = some s → ∃ cs, look st.sl s = some (.own cs))
    (hmay : ∀ j w0 e, d = .may j w0 e → j < i) (hw : ∀ q, o.guard = some q → yielded ops.toArray a.tmps q.1 = some q.2 ∨ v = undef) :
    Rel n g β U (yOf ops (a.put o.dst v)) { st with sl := putO st.sl o.dst d } (a.put o.dst v) w ∧ MayLt (i + 1) { st with sl := putO st.sl o.dst d } ∧ Chain ops (i + 1) (a.put o.dst v) := by
  have hdst : ∀ j, j ≠ i → ∀ t, o.dst = some t → dstOf ops j ≠ some t := fun j hj t ht h => hj (apart_dst k.apart h (by simp [dstOf, ho, ht]))
  have hyield : ∀ j, j ≠ i → yielded ops.toArray (a.put o.dst v).tmps j = yielded ops.toArray a.tmps j := by
    intro j hj
    cases hd : o.dst with
    | none => rfl
    | some t => exact yielded_put (hdst j hj t hd)
  refine ⟨?_, ?_, ?_⟩
  · cases hd : o.dst with
    | none =>
      have h1 : a.put none v = a := rfl
      simp only [h1, putO]
      exact r
    | some t =>
      simp only [putO]
      rw [hd] at hv hb
      refine r.put (y' := yOf ops (a.put (some t) v)) (k.isIn i t (by simp [dstOf, ho, hd])) ?_ (fun cs => ?_) (fun hl s hs => ?_) (fun s j w0 e hs hl hy => ?_)
      · cases isLp d t
        · exact hv t
        · trivial
      · cases isLp d t
        · exact hno cs
        · simp
      · cases hp : isLp d t with
        | true => rw [hp] at hs; cases hs
        | false =>
          rw [hp] at hs hl
          simp only [cond_false] at hs hl
          refine ⟨fun e => ?_, hb hl s hs⟩
          subst e
          rw [isLp_base hs] at hp; cases hp
      · have := hm _ _ _ _ hl
        have h2 := hyield j (by omega)
        rw [hd] at h2
        unfold yOf at hy ⊢
        rw [← h2]; exact hy
  · intro t j w0 e hl
    cases hd : o.dst with
    | none => rw [hd] at hl; have := hm t j w0 e hl; omega
    | some t' =>
      rw [hd] at hl
      rcases look_put r.keys hl with ⟨_, h2⟩ | ⟨_, _, h3⟩
      · cases hp : isLp d t' with
        | true => rw [hp] at h2; cases h2
        | false => rw [hp] at h2; have := hmay j w0 e h2.symm; omega
      · have := hm t j w0 e h3; omega
  · intro j o' j1 w1 hj ho' hg hy
    have hb1 := k.back ho' hg
    simp only at hb1
    by_cases hji : j = i
    · subst hji
      rw [ho] at ho'; cases ho'
      rw [hyield j1 (by omega)]
      rcases hw _ hg with h | h
      · exact h
      · subst h
        refine absurd (yielded_undef fun t ht => ?_) hy
        have hd : o.dst = some t := by simpa [dstOf, ho] using ht
        rw [hd, getD_put_same (by rw [r.size]; exact k.isIn j t ht)]
    · rw [hyield j hji] at hy
      rw [hyield j1 (by omega)]
      exact hc j o' j1 w1 (by omega) ho' hg hy

theorem whoWrote_sound {s : Nat} : ∀ {i j : Nat}, whoWrote ops s i = some j → j < i ∧ dstOf ops j = some s
  | 0, _, h => by simp [whoWrote] at h
  | i + 1, j, h => by
    simp only [whoWrote] at h
    cases hd : dstOf ops i with
    | none => rw [hd] at h; have := whoWrote_sound h; exact ⟨by omega, this.2⟩
    | some t =>
      rw [hd] at h
      simp only at h
      cases hb : Nat.beq s t with
      | true => rw [hb] at h; cases h; have := beq_eq.1 hb; subst this; exact ⟨by omega, hd⟩
      | false => rw [hb] at h; have := whoWrote_sound h; exact ⟨by omega, this.2⟩

theorem pick_ok {D : Nat → Prop} (r : Rel n g β U (yOf ops a) st a w) (hc : ChainD ops D a) (hd : DoneOk ops D) {cl : List (Nat × Bool)} (hcl : ∀ p ∈ cl, yOf ops a p.1 p.2) {c x z : Operand} (hwho : ∀ s j, c = .tmp s → whoWrote ops s i = some j → D j) (ho : o.op = .pick c x z) {d : Ab.D}
    (h : pickD st.sl cl ops i c x z = some d) : ∃ v, (execOp a.eval o).run P w = .ok (.value v) w ∧ R g d v := by
  have e := evO_ev r hcl
  have hclw : ∀ (b : Bool), a.eval c = .bool b → ∀ p ∈ clW ops i cl c b, yOf ops a p.1 p.2 := by
    intro b hb p hp
    cases c with
    | tmp s =>
      simp only [clW] at hp
      cases hw : whoWrote ops s i with
      | none => rw [hw] at hp; exact hcl p hp
      | some j =>
        rw [hw] at hp
        simp only [List.mem_append] at hp
        rcases hp with hp | hp
        · exact clos_sound hc hd 40 (j, b) (fun _ => hwho s j rfl hw) (yielded_of (whoWrote_sound hw).2 hb) p hp
        · exact hcl p hp
    | _ => exact hcl p hp
  unfold pickD at h
  split at h
  · rename_i bc bx bz h1 h2 h3
    cases h
    have hcv : a.eval c = .bool bc := by have := e.data (x := c) (by rw [h1]; rfl); rw [h1] at this; simpa [R] using this
    have hx : bc = true → a.eval x = .bool bx := by
      intro hb
      have e2 := evO_ev r (hclw true (by rw [hcv, hb]))
      have := e2.data (x := x) (by rw [h2]; rfl)
      rw [h2] at this; simpa [R] using this
    have hz : bc = false → a.eval z = .bool bz := by
      intro hb
      have e2 := evO_ev r (hclw false (by rw [hcv, hb]))
      have := e2.data (x := z) (by rw [h3]; rfl)
      rw [h3] at this; simpa [R] using this
    refine ⟨.bool (bif bc then bx else bz), ?_, by simp only [R]⟩
    cases bc with
    | true => simp [execOp, ho, hcv, hx rfl, asBool]
    | false => simp [execOp, ho, hcv, hz rfl, asBool]
  · cases h

theorem Ext.at_ {g' : G} {w' : World} (r : Rel n g β U (yOf ops a) st a w) (x : Ext g w g' w') : Rel n g' β U (yOf ops a) st a w' ∧ Grow U g g' ∧ Kept U w w' :=
  ⟨r.ext x, x.grow r.inv.ub, x.kept r.inv.ub⟩

theorem wp_yield {K : Act → World → Prop} {Q : Exit → Act → World → Prop} {v : Value} {w' : World} (hy : Yields P a o w v w') (h : K (a.put o.dst v) w') : o.wp P a w K Q := by
  unfold Go.Oper.wp
  rcases hy with hy | ⟨hy, rfl⟩
  · rw [hy]; exact h
  · rw [hy]; exact h

theorem wp_calls {K : Act → World → Prop} {Q : Exit → Act → World → Prop} {f : Nat} {vs : Array Value} {w' : World} (hy : (execOp a.eval o).run P w = .ok (.enter f vs) w') {R : Ending → World → Prop} (hc : Calls P f vs w' R)
    (h : ∀ e w'', R e w'' → ∃ v, e = .returned v ∧ K (a.put o.dst v) w'') : o.wp P a w K Q := by
  unfold Go.Oper.wp
  rw [hy]
  exact Calls.mono hc fun e w'' he => by obtain ⟨v, rfl, hk⟩ := h e w'' he; exact hk

theorem Pure.at {f : Nat} {args : List D} {v : D} (p : Pure P f args v) (r : Rel n g β U (yOf ops a) st a w) {vs : List Value} (hs : Rs g args vs) :
    Calls P f vs.toArray w fun e w' => ∃ (x : Value) (g' : G), e = .returned x ∧ R g' v x ∧ Ext g w g' w' :=
  Calls.mono (p.calls g w vs r.inv.sub hs) fun e w' ⟨x, σ', h1, h2, h3, h4, h5, h6⟩ =>
    ⟨x, ⟨σ', g.μ, g.τ⟩, h1, h2, ⟨⟨h3, fun _ _ h => h, fun _ k h => ⟨k, h, rfl, Nat.le_refl _, fun _ => rfl⟩⟩, rfl, rfl, h5, h4, h6⟩⟩

/-- A called function may turn the heap. -/
theorem CallA.at {f : Nat} {args : List D} {K : D → Heap → Prop} (p : CallA P f args st.h K) {y : Nat → Bool → Prop} (r : Rel n g β U y st a w) {vs : List Value} (hs : Rs g args vs) :
    Calls P f vs.toArray w fun e w' => ∃ (x : Value) (g' : G) (d : D) (h' : Heap), e = .returned x ∧ R g' d x ∧ Rel n g' β U y { sl := st.sl, h := h' } a w' ∧ Grow U g g' ∧ Kept U w w' ∧ K d h' := by
  let U' : Nat → Prop := fun b => U b ∨ ∃ t cs, look st.sl t = some (.own cs) ∧ b = β t
  have i := r.inv
  have i' : Inv g U' st.h w := by
    refine ⟨i.sub, fun b hb => ?_, i.muLt, fun l row e => ?_, i.boxInj, fun t m e => ?_, i.tokBox, i.tokInj, i.frL, i.frT, i.frV⟩
    · rcases hb with hb | ⟨t, cs, h1, rfl⟩
      · exact i.ub b hb
      · exact (r.own t cs h1).1.lt
    · obtain ⟨b, h1, h2, h3, h4⟩ := i.box l row e
      refine ⟨b, h1, h2, fun hu => ?_, h4⟩
      rcases hu with hu | ⟨t, cs, h5, rfl⟩
      · exact h3 hu
      · exact (r.own t cs h5).2.2.2.1 l (by rw [e]; simp) h1
    · obtain ⟨k, h1, h2, h3⟩ := i.tok t m e
      refine ⟨k, h1, h2, fun hk => ?_⟩
      obtain ⟨b, e1, e2, e3⟩ := h3 hk
      refine ⟨b, e1, fun hu => ?_, e3⟩
      rcases hu with hu | ⟨t', cs, h5, rfl⟩
      · exact e2 hu
      · exact (r.own t' cs h5).2.2.2.2 t m k e h1 hk e1
  refine Calls.mono (p.calls g U' w vs i' hs) fun e w' ⟨x, g', d, h', h1, h2, h3, h4, h5, h6⟩ => ⟨x, g', d, h', h1, h2, ?_, ⟨h4.le, fun c v hc => ?_⟩, ⟨h5.os, h5.tape, h5.output, h5.size, fun b hb => h5.block b (.inl hb)⟩, h6⟩
  · refine ⟨r.defers, r.size, r.keys, fun t d h => (r.slot t d h).mono h4.le, r.base, fun t cs h => ?_, r.ownInj, ?_⟩
    · obtain ⟨e1, e2, e3, e4, e5⟩ := r.own t cs h
      have hu : U' (β t) := .inr ⟨t, cs, h, rfl⟩
      refine ⟨e1.mono h4.le (h5.block _ hu), e2, fun c v hc hb => ?_, fun l hl hb => ?_, fun t' m k e f1 f2 f3 => ?_⟩
      · rcases h4.new c v hc with h7 | h7
        · exact e3 c v h7 hb
        · exact h7 (by rw [hb]; exact hu)
      · cases hrow : h'.box l with
        | none => exact hl hrow
        | some row =>
          obtain ⟨b, f1, _, f3, _⟩ := h3.box l row hrow
          rw [hb] at f1; cases f1
          exact f3 hu
      · obtain ⟨k', f4, f5, f6⟩ := h3.tok t' m e
        rw [f1] at f4; cases f4
        obtain ⟨b, f7, f8, _⟩ := f6 f2
        rw [f3] at f7; cases f7
        exact f8 hu
    · refine ⟨h3.sub, fun b hb => h3.ub b (.inl hb), h3.muLt, fun l row e => ?_, h3.boxInj, fun t m e => ?_, h3.tokBox, h3.tokInj, h3.frL, h3.frT, h3.frV⟩
      · obtain ⟨b, f1, f2, f3, f4⟩ := h3.box l row e
        exact ⟨b, f1, f2, fun hu => f3 (.inl hu), f4⟩
      · obtain ⟨k, f1, f2, f3⟩ := h3.tok t m e
        refine ⟨k, f1, f2, fun hk => ?_⟩
        obtain ⟨b, e1, e2, e3⟩ := f3 hk
        exact ⟨b, e1, fun hu => e2 (.inl hu), e3⟩
  · rcases h4.new c v hc with h7 | h7
    · exact .inl h7
    · exact .inr fun hu => h7 (.inl hu)

end
end Go.Ab
/- The executor is sound, 13: the operations of a region in their order, joined. -/
namespace Go.Ab

/-- What an effect leaves of the slots: all but one box of the frame's own. -/
def SlSame (st st' : St) : Prop := st'.sl = st.sl ∨ ∃ s cs, st'.sl = setOwn st.sl s cs

theorem SlSame.may {st st' : St} (h : SlSame st st') {t j : Nat} {w0 : Bool} {d : D} (hl : look st'.sl t = some (.may j w0 d)) : look st.sl t = some (.may j w0 d) := by
  rcases h with h | ⟨s, cs, h⟩
  · rw [h] at hl; exact hl
  · rw [h] at hl
    by_cases hs : t = s
    · subst hs
      cases h0 : look st.sl t with
      | none =>
        have : ∀ sl : Slots, look sl t = none → look (setOwn sl t cs) t = none := by
          intro sl; induction sl with
          | nil => intro _; rfl
          | cons x r ih =>
            obtain ⟨x1, x2⟩ := x
            intro h1
            simp only [look] at h1
            cases hb : Nat.beq x1 t with
            | true => rw [hb] at h1; simp at h1
            | false =>
              rw [hb] at h1
              simp only [cond_false] at h1
              simp only [setOwn, List.map_cons, hb, cond_false, look]
              exact ih h1
        rw [this _ h0] at hl; cases hl
      | some e => rw [look_setOwn_same _ _ _ h0] at hl; cases hl
    · rw [look_setOwn_other _ _ _ _ hs] at hl; exact hl

theorem cond_eff {c : Bool} {A : Res} {p : Prop} {st' : St} {d : D} (h : (bif c then A else .bad) = .eff p st' d) : A = .eff p st' d := by
  cases c
  · cases h
  · exact h
theorem cond_eff' {c : Bool} {A : Res} {p : Prop} {st' : St} {d : D} (h : (bif c then .bad else A) = .eff p st' d) : A = .eff p st' d := by
  cases c
  · exact h
  · cases h

theorem optRes_eff {x : Option D} {p : Prop} {st' : St} {d : D} (h : optRes x = .eff p st' d) : False := by cases x <;> cases h

theorem newRes_eff {cfg : Cfg} {st : St} {dst : Option Nat} {cs : List D} {p : Prop} {st' : St} {d : D} (h : newRes cfg st dst cs = .eff p st' d) : st'.sl = st.sl := by
  unfold newRes at h
  split at h
  · rename_i t
    cases he : cfg.esc t with
    | true => rw [he] at h; cases h; rfl
    | false => rw [he] at h; cases h
  · cases h

theorem binD_noEff {P : Program} {op : BinOp} {T : Nat} {x z : D} {p : Prop} {st1 : St} {d : D} (h : binD P op T x z = .eff p st1 d) : False := by
  unfold binD at h
  split at h
  · split at h
    · cases h
    · cases h
    · replace h := cond_eff h; split at h <;> cases h
  · split at h <;> cases h
  · split at h <;> cases h
  · replace h := cond_eff' h; split at h <;> cases h
  · cases h

theorem binOD_noEff {P : Program} {op : BinOp} {T : Nat} {y : Operand} {x z : D} {p : Prop} {st1 : St} {d : D} (h : binOD P op T y x z = .eff p st1 d) : False := by
  unfold binOD at h
  cases hz : isNilOp y with
  | true =>
    rw [hz] at h
    simp only [cond_true, nilD] at h
    split at h <;> cases h
  | false => rw [hz] at h; exact binD_noEff h

theorem appD_eff {P : Program} {st : St} {bx vx : Bool} {t : Nat} {x z : D} {p : Prop} {st' : St} {d : D} (h : appD P st bx vx t x z = .eff p st' d) : st'.sl = st.sl := by
  unfold appD at h
  split at h
  · split at h
    · rename_i sz b zd _ _ _
      cases hc : (isD zd && Nat.beq (cellsD zd).length sz) with
      | false => rw [hc] at h; cases h
      | true =>
        rw [hc] at h; simp only [cond_true] at h
        split at h
        · rename_i n0 ez f own m g _
          cases hc3 : (bif Nat.beq ez sz then true else Nat.beq n0 0) with
          | false => rw [hc3] at h; cases h
          | true =>
            rw [hc3] at h; simp only [cond_true] at h
            split at h
            · cases h
            · cases h
            · cases vx with
              | true => cases h; rfl
              | false =>
                cases bx with
                | true => cases h; rfl
                | false => cases h; rfl
            · rename_i tk tz
              split at h
              · cases h
              · cases hc4 : Nat.beq sz tz with
                | false => rw [hc4] at h; cases h
                | true => rw [hc4] at h; cases h; rfl
        · rename_i tk n0 ez m g _
          cases hc4 : Nat.beq ez sz with
          | false => rw [hc4] at h; cases h
          | true =>
            rw [hc4] at h
            simp only [cond_true] at h
            split at h
            · cases h; rfl
            · cases h
        · cases h
    · cases h
  · cases h

theorem builtinD_eff {P : Program} {st : St} {bx vx : Bool} {b : Builtin} {ts : List Nat} {l : List D} {p : Prop} {st' : St} {d : D} (h : builtinD P st bx vx b ts l = .eff p st' d) : st'.sl = st.sl := by
  unfold builtinD at h
  split at h
  · split at h <;> cases h
  · split at h <;> cases h
  · split at h <;> cases h
  · split at h <;> cases h
  · split at h
    · exact appD_eff h
    · exact appD_eff h
    · cases h
  · split at h <;> cases h
  · split at h <;> cases h
  · cases h

theorem makeD_eff {P : Program} {st : St} {vx : Bool} {t : Nat} {l c : D} {p : Prop} {st' : St} {d : D} (h : makeD P st vx t l c = .eff p st' d) : st'.sl = st.sl := by
  unfold makeD at h
  split at h
  · split at h
    · rename_i sz b z _ _ _
      cases hc : (isD z && Nat.beq (cellsD z).length (sz + 1)) with
      | false => rw [hc] at h; cases h
      | true =>
        rw [hc] at h
        simp only [cond_true] at h
        cases vx with
        | true => replace h := cond_eff h; cases h; rfl
        | false => cases h; rfl
    · cases h
  · cases h

theorem storeRes_eff {P : Program} {st : St} {t : Nat} {x v : D} {p : Prop} {st' : St} {d : D} (h : storeRes P st t x v = .eff p st' d) : SlSame st st' := by
  unfold storeRes at h
  split at h
  · rename_i m _ _
    cases hc : (Nat.beq (cellsD v).length m && (cellsD v).all oneD) with
    | false => rw [hc] at h; cases h
    | true =>
      rw [hc] at h; simp only [cond_true] at h
      split at h
      · rename_i s off
        split at h
        · rename_i cs _
          cases hc2 : Nat.ble (off + m) cs.length with
          | false => rw [hc2] at h; cases h
          | true => rw [hc2] at h; cases h; exact .inr ⟨_, _, rfl⟩
        · cases h
      · split at h
        · split at h
          · cases h; exact .inl rfl
          · cases h
        · cases h
      · split at h
        · replace h := cond_eff h; cases h; exact .inl rfl
        · cases h
      · cases h
  · cases h

theorem opD_eff {P : Program} {cfg : Cfg} {st : St} {ev : Operand → D} {dst : Option Nat} {o : Op} {p : Prop} {st' : St} {d : D} (h : opD P cfg st ev dst o = .eff p st' d) : SlSame st st' := by
  unfold opD at h
  split at h
  · split at h <;> cases h
  · split at h <;> cases h
  · split at h
    · exact .inl (newRes_eff (cond_eff h))
    · cases h
  · exact .inl (newRes_eff (cond_eff h))
  · exact (optRes_eff h).elim
  · exact (optRes_eff h).elim
  · unfold loadRes at h
    split at h
    · split at h
      · exact (optRes_eff h).elim
      · cases h
    · exact (optRes_eff h).elim
    · split at h
      · unfold rowLoad at h
        split at h
        · exact (optRes_eff h).elim
        · split at h
          · replace h := cond_eff h; cases h
          · cases h
          · cases h
      · cases h
    · split at h
      · split at h
        · replace h := cond_eff h; cases h
        · cases h
      · cases h
    · cases h
  · exact storeRes_eff h
  · unfold nilCheckD at h
    split at h <;> cases h
  · exact (binOD_noEff h).elim
  · unfold unD at h; split at h <;> cases h
  · unfold convD at h; split at h <;> cases h
  · replace h := cond_eff h; cases h
  · exact .inl (makeD_eff h)
  · unfold sliceD at h
    split at h
    · split at h
      · replace h := cond_eff h; split at h <;> cases h
      · cases h
    · split at h <;> cases h
    · split at h <;> cases h
    · cases h
  · unfold fieldAddrD at h
    split at h
    · split at h <;> cases h
    · cases h
  · unfold indexAddrD at h
    split at h
    · split at h
      · replace h := cond_eff h; cases h
      · cases h
    · split at h
      · replace h := cond_eff h; cases h
      · cases h
    · split at h <;> cases h
    · cases h
  · unfold indexD at h; split at h <;> cases h
  · split at h
    · exact (optRes_eff h).elim
    · cases h
  · split at h
    · split at h
      · replace h := cond_eff h; cases h
      · cases h
    · exact .inl (builtinD_eff (cond_eff h))
    · cases h
  · cases h

end Go.Ab
/- The executor is sound, 14: the operations of a region in their order, joined. -/
namespace Go.Ab

section
variable {P : Program} {n : Nat} {cfg : Cfg} {ops : List Oper}

theorem R.noOwn {g : G} {d : D} {v : Value} (h : R g d v) : (∀ cs, d ≠ .own cs) ∧ (∀ j w e, d ≠ .may j w e) ∧ ∀ s, baseOf d ≠ some s := by
  cases d <;> first | (simp [R] at h; done) | exact ⟨by simp, by simp, by simp [baseOf]⟩

theorem RS.ofRS0 {g : G} {β : Nat → Nat} {y : Nat → Bool → Prop} {t : Nat} {d : D} {v : Value} (h : RS0 g β d v) (ho : okMay d = true) : RS g β y t d v := by
  cases d <;> first | exact h | cases ho

theorem okMay_facts {d : D} (h : okMay d = true) : (∀ cs, d ≠ .own cs) ∧ ∀ j w e, d ≠ .may j w e := by
  cases d <;> first | exact Bool.noConfusion (show false = true from h) | exact ⟨by simp, by simp⟩

/-- Operation number i has put v into its slot; the rest goes well. -/
theorem go_on {Q : St → Prop} {i : Nat} {o : Oper} {g0 g : G} {β : Nat → Nat} {U : Nat → Prop} {st : St} {a : Act} {w0 w : World} (k : OpsOk n ops) (r : Rel n g β U (yOf ops a) st a w) (hm : MayLt i st) (hc : Chain ops i a) (ho : ops[i]? = some o)
    (hg : Grow U g0 g) (hk : Kept U w0 w) {v : Value} {d : D}
    (hsem : OpsSem P n ops (i + 1) { st with sl := putO st.sl o.dst d } Q)
    (hv : ∀ t, RS g β (yOf ops (a.put o.dst v)) t d v) (hno : ∀ cs, d ≠ .own cs) (hb : Live (yOf ops (a.put o.dst v)) d → ∀ s, baseOf d = some s → ∃ cs, look st.sl s = some (.own cs))
    (hmay : ∀ j w0 e, d = .may j w0 e → j < i) (hw : ∀ q, o.guard = some q → yielded ops.toArray a.tmps q.1 = some q.2 ∨ v = undef) :
    wpOps P ops.toArray (OpsPost n U g0 w0 Q) (List.range' (i + 1) (ops.length - (i + 1))) (a.put o.dst v) w := by
  obtain ⟨h1, h2, h3⟩ := put_step k r hm hc ho hv hno hb hmay hw
  exact hsem.at h1 h2 h3 hg hk

theorem ops_sound {Q Q0 : St → Prop} {kc : Nat → St → Prop} (k : OpsOk n ops) (hq0 : ∀ st, Q0 st → Q st) (hkc : ∀ i st, kc i st → OpsSem P n ops i st Q) :
    ∀ (rest : List Oper) (i : Nat) (st : St), ops.drop i = rest → execOps P cfg (CallA P) (PCall P) ops (fun _ => false) kc i rest st Q0 → OpsSem P n ops i st Q
  | [], i, st, h, he => by
    intro g β U a w r hm hc
    have hl : ops.length - i = 0 := by have := congrArg List.length h; simpa using this
    rw [hl]
    simp only [execOps] at he
    exact ⟨rfl, g, β, _, r.purged noY, Grow.refl U g, Kept.refl U w, hq0 _ he⟩
  | o :: rest, i, st, h, he => by
    intro g β U a w r hm hc
    have hlt : i < ops.length := by
      rcases Nat.lt_or_ge i ops.length with h1 | h1
      · exact h1
      · rw [List.drop_eq_nil_of_le h1] at h; cases h
    have hcons := List.drop_eq_getElem_cons hlt
    rw [h] at hcons
    have ho : ops[i]? = some o := by
      rw [List.getElem?_eq_getElem hlt]
      exact congrArg some (List.cons.inj hcons).1.symm
    have hrest : ops.drop (i + 1) = rest := (List.cons.inj hcons).2.symm
    have hr : List.range' i (ops.length - i) = i :: List.range' (i + 1) (ops.length - (i + 1)) := by
      have : ops.length - i = (ops.length - (i + 1)) + 1 := by omega
      rw [this, List.range'_succ]
    have ih : ∀ st1, execOps P cfg (CallA P) (PCall P) ops (fun _ => false) kc (i + 1) rest st1 Q0 → OpsSem P n ops (i + 1) st1 Q := fun st1 => ops_sound k hq0 hkc rest (i + 1) st1 hrest
    have hget : ops.toArray[i]? = some o := by simpa using ho
    have hdone : DoneOk ops (· < i) := fun j o' j1 w1 hj ho' hg _ => by have := k.back ho' hg; simp only at this; omega
    have hcD : ChainD ops (· < i) a := hc
    have hwho : ∀ (c : Operand) s j, c = .tmp s → whoWrote ops s i = some j → j < i := fun _ s j _ h => (whoWrote_sound h).1
    show wpOps P ops.toArray (OpsPost n U g w Q) (List.range' i (ops.length - i)) a w
    rw [hr]
    simp only [wpOps, hget]
    simp only [execOps] at he
    cases hgd : o.guard with
    | none =>
      rw [hgd] at he
      simp only at he
      have hwant : Region.wanted o (yielded ops.toArray a.tmps) = true := by simp [Region.wanted, hgd]
      rw [if_pos hwant]
      refine .inl ?_
      have hw : ∀ {v : Value} (q : Nat × Bool), o.guard = some q → yielded ops.toArray a.tmps q.1 = some q.2 ∨ v = undef := fun q hq => by rw [hgd] at hq; cases hq
      have hev := evO_ev r (cl := []) (by simp)
      have hres := opD_ok (P := P) (cfg := cfg) (o := o) r hev
      split at he
      · rename_i c x z hop
        split at he
        · rename_i d hp
          obtain ⟨v, h1, h2⟩ := pick_ok (P := P) r hcD hdone (cl := []) (by simp) (hwho c) hop hp
          obtain ⟨n1, n2, n3⟩ := h2.noOwn
          exact wp_yield (.inl h1) (go_on k r hm hc ho (Grow.refl U g) (Kept.refl U w) (ih _ he) (fun t => RS.ofRS0 (RS0.ofR h2) (isD_okMay h2.isD)) n1 (fun _ s hs => absurd hs (n3 s)) (fun j w0 e hj => absurd hj (n2 j w0 e)) hw)
        · exact he.elim
      · rename_i hnp
        have hval : ∀ {d : D}, DOk st.sl d → VOk P g β a o w d → OpsSem P n ops (i + 1) { st with sl := putO st.sl o.dst d } Q →
            o.wp P a w (wpOps P ops.toArray (OpsPost n U g w Q) (List.range' (i + 1) (ops.length - (i + 1)))) (OpsPost n U g w Q) := by
          intro d hd ⟨v, w', g', h1, h2, h3⟩ hs
          obtain ⟨r1, hg, hk⟩ := Ext.at_ r h2
          obtain ⟨n1, n2⟩ := okMay_facts hd.1
          exact wp_yield h1 (go_on k r1 hm hc ho hg hk hs (fun t => RS.ofRS0 h3 hd.1) n1 (fun _ s hs => hd.2 s hs) (fun j w0 e hj => absurd hj (n2 j w0 e)) hw)
        cases hopd : opD P cfg st (evO st.sl []) o.dst o.op with
        | val d =>
          rw [hopd] at he hres
          exact hval hres.1 hres.2 (ih _ he)
        | nd p d =>
          rw [hopd] at he hres
          exact hval hres.1 (hres.2 he.1) (ih _ he.2)
        | asm p d =>
          rw [hopd] at he hres
          exact hval hres.2.1 hres.2.2 (ih _ (he hres.1))
        | new cs =>
          rw [hopd] at he hres
          obtain ⟨hnd, T, vals, h1, h2⟩ := hres
          have hs := ih _ he
          have hal := Ext.alloc r.inv (.cells vals T (0, 0))
          have hg := hal.grow r.inv.ub
          have hk := hal.kept r.inv.ub
          refine wp_yield h1 ?_
          have hyield : ∀ j, j ≠ i → yielded ops.toArray (a.put o.dst (.pointer (some ⟨w.heap.size, 0, none⟩))).tmps j = yielded ops.toArray a.tmps j := by
            intro j hj
            cases hd : o.dst with
            | none => rfl
            | some t => exact yielded_put (fun hh => hj (apart_dst k.apart hh (by simp [dstOf, ho, hd])))
          cases hd : o.dst with
          | none =>
            exact absurd hd hnd
          | some t =>
            have r1 := r.boxed (t := t) (cs := cs) (T := T) (y' := yOf ops (a.put o.dst (.pointer (some ⟨w.heap.size, 0, none⟩)))) (k.isIn i t (by simp [dstOf, ho, hd])) h2 (fun s j w0 e hs hl hy => by
              have := hm _ _ _ _ hl
              unfold yOf at hy ⊢
              rw [← hyield j (by omega)]; exact hy)
            rw [hd] at r1 hs hyield
            refine hs.at r1 (fun s j w0 e hl => ?_) (fun j o' j1 w1 hj ho' hg' hy => ?_) hg hk
            · rcases look_put r.keys hl with ⟨_, h2⟩ | ⟨_, _, h3⟩
              · cases h2
              · have := hm s j w0 e h3; omega
            · have hb1 := k.back ho' hg'
              simp only at hb1
              by_cases hji : j = i
              · subst hji
                rw [ho] at ho'; cases ho'
                rw [hgd] at hg'; cases hg'
              · rw [hyield j hji] at hy
                rw [hyield j1 (by omega)]
                exact hc j o' j1 w1 (by omega) ho' hg' hy
        | eff p st' d =>
          have hsame := opD_eff hopd
          rw [hopd] at he hres
          simp only [cond_false] at he
          obtain ⟨v, w', g', h1, r1, hg, hk, h3, h4⟩ := hres he.1
          have h3' := R.ofRS0 h3 h4
          obtain ⟨n1, n2, n3⟩ := h3'.noOwn
          exact wp_yield h1 (go_on k r1 (fun t j w0 e hl => hm t j w0 e (hsame.may hl)) hc ho hg hk (ih _ he.2) (fun t => RS.ofRS0 h3 (isD_okMay h4)) n1 (fun _ s hs => absurd hs (n3 s)) (fun j w0 e hj => absurd hj (n2 j w0 e)) hw)
        | call f args =>
          rw [hopd] at he hres
          simp only [cond_false] at he
          obtain ⟨vs, h1, h2⟩ := hres he.ok
          refine wp_calls h1 (he.at r h2) fun e w'' ⟨x, g', d, h', h3, h4, r1, hg, hk, h5⟩ => ⟨x, h3, ?_⟩
          obtain ⟨n1, n2, n3⟩ := h4.noOwn
          exact go_on k r1 (fun t j w0 e hl => hm t j w0 e hl) hc ho hg hk (hkc _ _ h5) (fun t => RS.ofRS0 (RS0.ofR h4) (isD_okMay h4.isD)) n1 (fun _ s hs => absurd hs (n3 s)) (fun j w0 e hj => absurd hj (n2 j w0 e)) hw
        | bad => rw [hopd] at he; exact he.elim
    | some q =>
      obtain ⟨j, w1⟩ := q
      rw [hgd] at he
      simp only at he
      have hji : j < i := k.back ho hgd
      cases hgb : gB st.sl ops i 40 (j, w1) with
      | none => rw [hgb] at he; exact he.elim
      | some b =>
        rw [hgb] at he
        simp only at he
        have hiff := gB_sound r hcD hdone 40 (j, w1) b (fun _ => hji) hgb
        simp only at hiff
        have hyield : ∀ (v : Value), yielded ops.toArray (a.put o.dst v).tmps j = yielded ops.toArray a.tmps j := by
          intro v
          cases hd : o.dst with
          | none => rfl
          | some t => exact yielded_put (fun hh => (by omega : j ≠ i) (apart_dst k.apart hh (by simp [dstOf, ho, hd])))
        -- what hangs on the guard, if it has not said so
        have hskip : ∀ {d : D}, yielded ops.toArray a.tmps j ≠ some w1 → (∀ cs, d ≠ .own cs) → (d = .may j w1 d ∨ d = .junk ∨ ∃ e, d = .may j w1 e) → OpsSem P n ops (i + 1) { st with sl := putO st.sl o.dst d } Q →
            wpOps P ops.toArray (OpsPost n U g w Q) (List.range' (i + 1) (ops.length - (i + 1))) (a.put o.dst undef) w := by
          intro d hny hno hform hs
          have hlive : ∀ e, d = .may j w1 e → ¬ yOf ops (a.put o.dst undef) j w1 := by
            intro e _ hy
            unfold yOf at hy
            rw [hyield] at hy
            exact hny hy
          have hform' : d = .junk ∨ ∃ e, d = .may j w1 e := by
            rcases hform with h | h | h
            · exact .inr ⟨d, h⟩
            · exact .inl h
            · exact .inr h
          refine go_on k r hm hc ho (Grow.refl U g) (Kept.refl U w) hs (fun t => ?_) hno (fun hl s hs => ?_) (fun j' w0 e hj => ?_) (fun q _ => .inr rfl)
          · rcases hform' with rfl | ⟨e, rfl⟩
            · trivial
            · exact fun hy => absurd hy (hlive e rfl)
          · rcases hform' with rfl | ⟨e, rfl⟩
            · cases hs
            · exact absurd hl (hlive e rfl)
          · rcases hform' with rfl | ⟨e', rfl⟩
            · cases hj
            · cases hj; exact hji
        by_cases hy : yielded ops.toArray a.tmps j = some w1
        · -- it has
          have hb : b = true := hiff.1 hy
          subst hb
          have hwant : Region.wanted o (yielded ops.toArray a.tmps) = true := by simp [Region.wanted, hgd, hy]
          rw [if_pos hwant]
          refine .inl ?_
          have hw : ∀ {v : Value} (q : Nat × Bool), o.guard = some q → yielded ops.toArray a.tmps q.1 = some q.2 ∨ v = undef := fun q hq => by rw [hgd] at hq; cases hq; exact .inl hy
          have hcl : ∀ p ∈ clos ops i 40 (j, w1), yOf ops a p.1 p.2 := clos_sound hcD hdone 40 (j, w1) (fun _ => hji) hy
          have hev := evO_ev r hcl
          have hres := opD_ok (P := P) (cfg := cfg) (o := o) r hev
          have hval : ∀ {d : D}, DOk st.sl d → VOk P g β a o w d → OpsSem P n ops (i + 1) { st with sl := putO st.sl o.dst (.may j w1 d) } Q →
              o.wp P a w (wpOps P ops.toArray (OpsPost n U g w Q) (List.range' (i + 1) (ops.length - (i + 1)))) (OpsPost n U g w Q) := by
            intro d hd ⟨v, w', g', h1, h2, h3⟩ hs
            obtain ⟨r1, hg, hk⟩ := Ext.at_ r h2
            refine wp_yield h1 (go_on k r1 hm hc ho hg hk hs (fun t => fun _ => h3) (by simp) (fun _ s hs => ?_) (fun j' w0 e hj => by cases hj; exact hji) hw)
            have : baseOf d = some s := by cases d <;> first | exact hs | cases hs
            exact hd.2 s this
          split at he
          · rename_i c x z hop
            split at he
            · rename_i d hp
              obtain ⟨v, h1, h2⟩ := pick_ok (P := P) r hcD hdone hcl (hwho c) hop hp
              exact hval (DOk.ofD h2.isD) (VOk.plain r.inv h1 (RS0.ofR h2)) (ih _ he)
            · exact he.elim
          · rename_i hnp
            cases hopd : opD P cfg st (evO st.sl (clos ops i 40 (j, w1))) o.dst o.op with
            | val d =>
              rw [hopd] at he hres
              simp only at he
              cases hm' : okMay d with
              | false => rw [hm'] at he; exact he.elim
              | true => rw [hm'] at he; exact hval hres.1 hres.2 (ih _ he)
            | nd p d =>
              rw [hopd] at he hres
              simp only at he
              cases hm' : okMay d with
              | false => rw [hm'] at he; exact he.elim
              | true => rw [hm'] at he; exact hval hres.1 (hres.2 (he.1 (by trivial))) (ih _ he.2)
            | asm p d =>
              rw [hopd] at he hres
              simp only at he
              cases hm' : okMay d with
              | false => rw [hm'] at he; exact he.elim
              | true => rw [hm'] at he; exact hval hres.2.1 hres.2.2 (ih _ (he fun _ => hres.1))
            | new cs => rw [hopd] at he; exact he.elim
            | eff p st' d =>
              have hsame := opD_eff hopd
              rw [hopd] at he hres
              simp only [cond_false, cond_true] at he
              obtain ⟨v, w', g', h1, r1, hg, hk, h3, h4⟩ := hres he.1
              have h3' := R.ofRS0 h3 h4
              obtain ⟨n1, n2, n3⟩ := h3'.noOwn
              exact wp_yield h1 (go_on k r1 (fun t j w0 e hl => hm t j w0 e (hsame.may hl)) hc ho hg hk (ih _ he.2) (fun t => RS.ofRS0 h3 (isD_okMay h4)) n1 (fun _ s hs => absurd hs (n3 s)) (fun j w0 e hj => absurd hj (n2 j w0 e)) hw)
            | call f args =>
              rw [hopd] at he hres
              simp only at he
              obtain ⟨args', d, _, hp, hk'⟩ := he.it
              obtain ⟨hwk, hp⟩ := hp rfl
              obtain ⟨vs, h1, h2⟩ := hres hp.ok
              refine wp_calls h1 (hp.at r (hwk _ _ h2)) fun e w'' ⟨x, g', h3, h4, h5⟩ => ⟨x, h3, ?_⟩
              obtain ⟨r1, hg, hk⟩ := Ext.at_ r h5
              obtain ⟨n1, n2, n3⟩ := h4.noOwn
              exact go_on k r1 hm hc ho hg hk (hkc _ _ hk') (fun t _ => RS0.ofR h4) (by simp) (fun _ s hs => absurd (show baseOf d = some s by cases d <;> first | exact hs | cases hs) (n3 s)) (fun j' w0 e hj => by cases hj; exact hji) hw
            | bad => rw [hopd] at he; exact he.elim
        · have hb : b = false := by
            cases b with
            | false => rfl
            | true => exact absurd (hiff.2 rfl) hy
          subst hb
          have hwant : ¬ (Region.wanted o (yielded ops.toArray a.tmps) = true) := by simp [Region.wanted, hgd, hy]
          rw [if_neg hwant]
          have hmay : ∀ {d : D}, OpsSem P n ops (i + 1) { st with sl := putO st.sl o.dst (.may j w1 d) } Q →
              wpOps P ops.toArray (OpsPost n U g w Q) (List.range' (i + 1) (ops.length - (i + 1))) (a.put o.dst undef) w := fun {d} hs => hskip hy (by simp) (.inr (.inr ⟨d, rfl⟩)) hs
          split at he
          · split at he
            · exact hmay (ih _ he)
            · exact he.elim
          · cases hopd : opD P cfg st (evO st.sl (clos ops i 40 (j, w1))) o.dst o.op with
            | val d =>
              rw [hopd] at he
              simp only at he
              cases hm' : okMay d with
              | false => rw [hm'] at he; exact he.elim
              | true => rw [hm'] at he; exact hmay (ih _ he)
            | nd p d =>
              rw [hopd] at he
              simp only at he
              cases hm' : okMay d with
              | false => rw [hm'] at he; exact he.elim
              | true => rw [hm'] at he; exact hmay (ih _ he.2)
            | asm p d =>
              rw [hopd] at he
              simp only at he
              cases hm' : okMay d with
              | false => rw [hm'] at he; exact he.elim
              | true => rw [hm'] at he; exact hmay (ih _ (he fun h => by cases h))
            | new cs => rw [hopd] at he; exact he.elim
            | eff p st' d =>
              rw [hopd] at he
              simp only [cond_false] at he
              exact hskip hy (by simp) (.inr (.inl rfl)) (ih _ he)
            | call f args =>
              rw [hopd] at he
              simp only at he
              obtain ⟨args', d, _, hp, hk'⟩ := he.it
              exact hmay (hkc _ _ hk')
            | bad => rw [hopd] at he; exact he.elim

end
end Go.Ab
