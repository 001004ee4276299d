/- The executor is sound, 9: append, joined. -/
import Derived.Test.YtmlhaikblfjghaaA12
namespace Go.Ab

section
variable {P : Program} {n : Nat} {g : G} {β : Nat → Nat} {U : Nat → Prop} {y : Nat → Bool → Prop} {st : St} {a : Act} {w : World} {ev : Operand → D} {o : Oper}

theorem blt_tt {a b : Nat} : Nat.blt a b = true ↔ a < b := by rw [Nat.blt_eq]
theorem blt_ff {a b : Nat} : Nat.blt a b = false ↔ b ≤ a := by
  rw [← Bool.not_eq_true, Nat.blt_eq]; omega

theorem catG_get {n0 : Nat} {f f' : Nat → D} {vs us : List Value} {g : G} {sz : Nat} (hl : vs.length = n0) (h1 : ∀ i u, vs[i]? = some u → R g (f i) u ∧ u.cells.size = sz ∧ ones (f i) = true)
    (h2 : ∀ i u, us[i]? = some u → R g (f' i) u ∧ u.cells.size = sz ∧ ones (f' i) = true) : ∀ i u, (vs ++ us)[i]? = some u → R g (catG n0 f f' i) u ∧ u.cells.size = sz ∧ ones (catG n0 f f' i) = true := by
  intro i u hu
  rcases Nat.lt_or_ge i n0 with hi | hi
  · rw [List.getElem?_append_left (by omega)] at hu
    have : catG n0 f f' i = f i := by unfold catG; rw [blt_tt.2 hi]; rfl
    rw [this]; exact h1 i u hu
  · rw [List.getElem?_append_right (by omega), hl] at hu
    have : catG n0 f f' i = f' (i - n0) := by unfold catG; rw [blt_ff.2 hi]; rfl
    rw [this]; exact h2 _ u hu

/-- What append sees of its first argument. -/
structure Base (P : Program) (g : G) (w : World) (sz n0 : Nat) (f : Nat → D) (own : Own) (ba : Option Addr) (cap : Nat) (vs : List Value) : Prop where
  len : vs.length = n0
  capLe : n0 ≤ cap
  el : ∀ i u, vs[i]? = some u → R g (f i) u ∧ u.cells.size = sz ∧ ones (f i) = true
  src : Src P w sz n0 (.slice ba n0 cap) (flat vs)
  at_ : 0 < n0 → ∃ p, ba = some p ∧ p.spot = none ∧ ∀ (i : Nat) (u : Value), vs[i]? = some u → ∀ j, j < sz → g.σ ⟨p.block, p.off + i * sz + j, none⟩ = u.cells[j]?
  own : OwnOk g own n0 ba cap

theorem base_of {P : Program} {g : G} {w : World} (sub : ∀ a v, g.σ a = some v → w.cell? a = some v ∧ a.spot = none) {n0 ez sz : Nat} {f : Nat → D} {own : Own} {v : Value} (h : R g (.list n0 ez f own) v)
    (hz : ez = sz ∨ n0 = 0) : ∃ ba cap vs, v = .slice ba n0 cap ∧ Base P g w sz n0 f own ba cap vs := by
  have hs : srcD sz (.list n0 ez f own) = some (n0, f) := by
    simp only [srcD]
    cases hb : Nat.beq ez sz with
    | true => rfl
    | false =>
      rcases hz with rfl | h0
      · rw [beq_eq.2 rfl] at hb; cases hb
      · rw [beq_eq.2 h0]; rfl
  obtain ⟨ba, cap, vs0, h1, h2, h3, h4, h5, h6, h7, h8, h9⟩ := h.listOpen
  have hsz : ∀ u ∈ vs0, u.cells.size = sz := by
    rcases hz with rfl | h0
    · exact h6
    · intro u hu; have := List.length_pos_of_mem hu; omega
  have hat : 0 < n0 → ∃ p, ba = some p ∧ p.spot = none ∧ ∀ (i : Nat) (u : Value), vs0[i]? = some u → ∀ j, j < sz → g.σ ⟨p.block, p.off + i * sz + j, none⟩ = u.cells[j]? := by
    intro hp
    rcases hz with rfl | h0
    · exact h7 hp
    · omega
  refine ⟨ba, cap, vs0, h1, h4, h2, fun i u hu => ?_, ?_, hat, h8⟩
  · have hi : i < n0 := by
      rcases Nat.lt_or_ge i vs0.length with h | h
      · omega
      · rw [List.getElem?_eq_none h] at hu; cases hu
    exact ⟨(h5 i u hu).1, hsz u (List.mem_of_getElem? hu), h9 i hi⟩
  · cases ba with
    | none =>
      have : n0 = 0 := by
        rcases Nat.eq_zero_or_pos n0 with h | h
        · exact h
        · obtain ⟨p, hp, _⟩ := h7 h; cases hp
      subst this
      have : vs0 = [] := by simpa using h4
      subst this
      exact Src.nil
    | some p =>
      refine Src.slice (by rw [flat_length hsz, h4]) ?_
      rcases Nat.eq_zero_or_pos n0 with h | h
      · subst h
        have : vs0 = [] := by simpa using h4
        subst this
        intro k v hv; simp [flat] at hv
      · obtain ⟨p', hp, hsp, hc⟩ := hat h
        cases hp
        exact cells_flat sub hsz hsp hc

theorem setTok_grow {t b : Nat} {vals : Array Value} {k : Tok} (hb : ¬ U b) (l : G.le g (setTok g t b vals k)) : Grow U g (setTok g t b vals k) := by
  refine ⟨l, fun x v e => ?_⟩
  simp only [setTok] at e
  by_cases h : x.block = b
  · exact .inr (by rw [h]; exact hb)
  · rw [if_neg h] at e; exact .inl e

theorem roomG_grow {t b m : Nat} {arr : Array Value} {k : Tok} (hb : ¬ U b) (l : G.le g (roomG g t b arr k m)) : Grow U g (roomG g t b arr k m) := by
  refine ⟨l, fun x v e => ?_⟩
  by_cases h : x.block = b
  · exact .inr (by rw [h]; exact hb)
  · simp only [roomG] at e
    rw [if_neg (fun hh => h hh.1)] at e; exact .inl e

/-- A grown slice: its cells are new. -/
theorem app_grow (r : Rel n g β U y st a w) {t u ty e : Nat} {i : TypeInfo} {z : Value} (ht : P.underlying t = some (.slice e)) (hi : P.info? e = some i) (hz0 : i.zero = some z) (hzs : z.cells.size = i.size) (hu : AppTy P u) (h1 : 0 < i.bytes)
    {n0 m cap : Nat} {f f' : Nat → D} {own : Own} {ba : Option Addr} {vs us : List Value} {x : Value} (hb : Base P g w i.size n0 f own ba cap vs) (hul : us.length = m) (hue : ∀ k q, us[k]? = some q → R g (f' k) q ∧ q.cells.size = i.size ∧ ones (f' k) = true)
    (hsrc : Src P w i.size m x (flat us)) (hg : cap < n0 + m) (hroom : (n0 + m) * i.bytes ≤ roomM) {tk nt : Nat} (htk : tk < nt) (hnt : st.h.nt ≤ nt) (hle : ∀ k0, g.τ tk = some k0 → k0.sz = i.size ∧ k0.n < n0 + m) :
    ∃ v w' g', (Builtin.append_ #[t, u] ty #[.slice ba n0 cap, x]).run P w = .ok v w' ∧ Rel n g' β U y { st with h := tokH st.h tk (n0 + m) nt } a w' ∧ Grow U g g' ∧ Kept U w w' ∧ R g' (.list (n0 + m) i.size (catG n0 f f') (.tok tk i.size)) v := by
  have hlen : n0 + m ≤ lenM := by
    have : n0 + m ≤ (n0 + m) * i.bytes := Nat.le_mul_of_pos_right _ h1
    unfold roomM at hroom; unfold lenM; omega
  have hlen2 : n0 + m ≤ 281474976710656 := by
    have : n0 + m ≤ (n0 + m) * i.bytes := Nat.le_mul_of_pos_right _ h1
    unfold roomM at hroom; omega
  have hrun := run_app_grow (P := P) (w := w) (ty := ty) ht hi hz0 hu hb.src hsrc hg hroom hlen2 h1
  have hge := grownCap_ge w (n0 + m) cap e
  generalize hgc : grownCap w (n0 + m) cap e = gc at hrun hge
  generalize hvals0 : (flat vs ++ flat us).toArray ++ Builtin.zeroCells z.cells (gc - (n0 + m)) = vals at hrun
  have hszs : ∀ q ∈ vs ++ us, q.cells.size = i.size := by
    intro q hq
    rcases List.mem_append.1 hq with h | h
    · obtain ⟨k, hk, rfl⟩ := List.getElem_of_mem h; exact (hb.el k _ (List.getElem?_eq_getElem hk)).2.1
    · obtain ⟨k, hk, rfl⟩ := List.getElem_of_mem h; exact (hue k _ (List.getElem?_eq_getElem hk)).2.1
  have hfl : (flat (vs ++ us)).length = (n0 + m) * i.size := by rw [flat_length hszs]; simp [hb.len, hul]
  have hvals : vals = (flat (vs ++ us)).toArray ++ Builtin.zeroCells z.cells (gc - (n0 + m)) := by rw [← hvals0, flat_append]
  have hvs : vals.size = gc * i.size := by
    rw [hvals]; simp only [Array.size_append, List.size_toArray, hfl, size_zeroCells, hzs]
    rw [← Nat.add_mul]; congr 1; omega
  obtain ⟨k, hk1, hk2, hk3, hk4⟩ : ∃ k : Tok, k.a = some ⟨w.heap.size, 0, none⟩ ∧ k.n = n0 + m ∧ k.cap = gc ∧ k.sz = i.size := ⟨⟨some ⟨w.heap.size, 0, none⟩, n0 + m, gc, i.size⟩, rfl, rfl, rfl, rfl⟩
  have rd := r.ext (draw_ext r.inv)
  have hd : w.drew.heap.size = w.heap.size := rfl
  obtain ⟨r1, le⟩ := rd.newTok (t := tk) (nt := nt) (vals := vals) (T := e) (k := k) hk1 (by omega) (by rw [hvs, hk3, hk4]; exact Nat.le_refl _) htk hnt (by rw [hk2, hk4]; exact hle)
  rw [hk2] at r1
  refine ⟨_, _, _, hrun, r1, setTok_grow (fun h => absurd (r.inv.ub _ h) (Nat.lt_irrefl _)) le, ?_, ?_⟩
  · have kd : Kept U w w.drew := (draw_ext r.inv).kept r.inv.ub
    exact kd.trans ((Ext.alloc rd.inv (.cells vals e (0, 0))).kept rd.inv.ub)
  · have hcat := catG_get hb.len hb.el hue
    refine R.ofList (vs := vs ++ us) (by simp [hb.len, hul]) hlen hge ⟨k, upd_same _ _ _, hk4, by omega, fun _ => ⟨hk1.symm, hk3.symm⟩⟩ (fun q u' hq => ⟨R.mono le _ _ (hcat q u' hq).1, (hcat q u' hq).2⟩) fun _ => ⟨_, rfl, rfl, fun q u' hq j hj => ?_⟩
    have hql : q < n0 + m := by
      rcases Nat.lt_or_ge q (vs ++ us).length with h | h
      · simpa [hb.len, hul] using h
      · rw [List.getElem?_eq_none h] at hq; cases hq
    have hlt : q * i.size + j < (n0 + m) * i.size := by
      have : (q + 1) * i.size ≤ (n0 + m) * i.size := Nat.mul_le_mul_right _ hql
      rw [Nat.add_mul] at this; omega
    rw [← flat_get hszs hq hj]
    simp only [setTok, Nat.zero_add, hd]
    rw [if_pos trivial, if_pos ⟨trivial, by rw [hk2, hk4]; exact hlt⟩, hvals, Array.getElem?_append_left (by simpa [hfl] using hlt)]
    simp

theorem cellsG_get {sz : Nat} (f : Nat → D) {i : Nat} (h : (cellsD (f (i / sz))).length = sz) : cellsG sz f i = (cellsD (f (i / sz))).getD (i % sz) .junk := by
  unfold cellsG
  cases hb : Nat.beq sz 1 with
  | false => rfl
  | true =>
    have := beq_eq.1 hb; subst this
    simp only [cond_true, Nat.div_one, Nat.mod_one] at h ⊢
    generalize f i = d at h ⊢
    cases d with
    | agg cs => cases cs with
      | nil => cases h
      | cons x r => rfl
    | _ => rfl

/-- A slice that grows into a new box. -/
theorem app_box (r : Rel n g β U y st a w) {t u ty e : Nat} {i : TypeInfo} {z : Value} (ht : P.underlying t = some (.slice e)) (hi : P.info? e = some i) (hz0 : i.zero = some z) (hzs : z.cells.size = i.size) (hu : AppTy P u) (h1 : 0 < i.bytes)
    {n0 m cap : Nat} {f f' : Nat → D} {own : Own} {ba : Option Addr} {vs us : List Value} {x : Value} (hb : Base P g w i.size n0 f own ba cap vs) (hul : us.length = m) (hue : ∀ k q, us[k]? = some q → R g (f' k) q ∧ q.cells.size = i.size ∧ ones (f' k) = true)
    (hsrc : Src P w i.size m x (flat us)) (hg : cap < n0 + m) (hroom : (n0 + m) * i.bytes ≤ roomM) :
    ∃ v w' g', (Builtin.append_ #[t, u] ty #[.slice ba n0 cap, x]).run P w = .ok v w' ∧ Rel n g' β U y { st with h := { st.h with box := upd st.h.box st.h.nl (some (.arr ((n0 + m) * i.size) (cellsG i.size (catG n0 f f')))), nl := st.h.nl + 1 } } a w' ∧ Grow U g g' ∧ Kept U w w' ∧ R g' (.sl st.h.nl 0 (n0 + m)) v := by
  have hlen : n0 + m ≤ lenM := by
    have : n0 + m ≤ (n0 + m) * i.bytes := Nat.le_mul_of_pos_right _ h1
    unfold roomM at hroom; unfold lenM; omega
  have hlen2 : n0 + m ≤ 281474976710656 := by
    have : n0 + m ≤ (n0 + m) * i.bytes := Nat.le_mul_of_pos_right _ h1
    unfold roomM at hroom; omega
  have hrun := run_app_grow (P := P) (w := w) (ty := ty) ht hi hz0 hu hb.src hsrc hg hroom hlen2 h1
  have hge := grownCap_ge w (n0 + m) cap e
  generalize hgc : grownCap w (n0 + m) cap e = gc at hrun hge
  generalize hvals0 : (flat vs ++ flat us).toArray ++ Builtin.zeroCells z.cells (gc - (n0 + m)) = vals at hrun
  have hszs : ∀ q ∈ vs ++ us, q.cells.size = i.size := by
    intro q hq
    rcases List.mem_append.1 hq with h | h
    · obtain ⟨k, hk, rfl⟩ := List.getElem_of_mem h; exact (hb.el k _ (List.getElem?_eq_getElem hk)).2.1
    · obtain ⟨k, hk, rfl⟩ := List.getElem_of_mem h; exact (hue k _ (List.getElem?_eq_getElem hk)).2.1
  have hfl : (flat (vs ++ us)).length = (n0 + m) * i.size := by rw [flat_length hszs]; simp [hb.len, hul]
  have hvals : vals = (flat (vs ++ us)).toArray ++ Builtin.zeroCells z.cells (gc - (n0 + m)) := by rw [← hvals0, flat_append]
  have rd := r.ext (draw_ext r.inv)
  have hd : w.drew.heap.size = w.heap.size := rfl
  have hcat := catG_get hb.len hb.el hue
  have hro : RowOf g vals (.arr ((n0 + m) * i.size) (cellsG i.size (catG n0 f f'))) := by
    refine ⟨by rw [hvals]; simp [hfl], fun j hj => ?_⟩
    have hpos : 0 < i.size := by
      rcases Nat.eq_zero_or_pos i.size with h | h
      · rw [h] at hj; omega
      · exact h
    have hq : j / i.size < n0 + m := Nat.div_lt_of_lt_mul (by rw [Nat.mul_comm]; exact hj)
    have hm : j % i.size < i.size := Nat.mod_lt _ hpos
    have hlen3 : (vs ++ us).length = n0 + m := by simp [hb.len, hul]
    have hel := List.getElem?_eq_getElem (l := vs ++ us) (i := j / i.size) (by omega)
    obtain ⟨h3, h4, h5⟩ := hcat _ _ hel
    have hcl := h3.cells.length
    have hcl' : (cellsD (catG n0 f f' (j / i.size))).length = i.size := by simp only [Array.length_toList] at hcl; omega
    have hdl := List.getElem?_eq_getElem (l := cellsD (catG n0 f f' (j / i.size))) (i := j % i.size) (by omega)
    obtain ⟨v, hv, hr⟩ := h3.cells.get _ _ hdl
    refine ⟨v, ?_, ?_⟩
    · have hf := flat_get hszs hel hm
      have hjj : j / i.size * i.size + j % i.size = j := by have := Nat.div_add_mod j i.size; rw [Nat.mul_comm] at this; omega
      rw [hjj] at hf
      rw [hvals, Array.getElem?_append_left (by simpa [hfl] using hj)]
      rw [List.getElem?_toArray, hf, ← Array.getElem?_toList]; exact hv
    · rw [cellsG_get _ hcl']
      simp only [List.getD, hdl, Option.getD_some]; exact hr
  have r1 := rd.newBox (T := e) hro
  have le := addBox_le (b := w.heap.size) (r.inv.frL st.h.nl (Nat.le_refl _))
  refine ⟨_, _, addBox g st.h.nl w.heap.size, hrun, r1, Grow.sameσ le rfl, ?_, ?_⟩
  · have kd : Kept U w w.drew := (draw_ext r.inv).kept r.inv.ub
    exact kd.trans ((Ext.alloc rd.inv (.cells vals e (0, 0))).kept rd.inv.ub)
  · simp only [R]
    exact ⟨_, upd_same _ _ _, _, _, rfl, hge, hlen, fun _ => rfl⟩

theorem app_ok (r : Rel n g β U y st a w) {t u ty : Nat} {x z : D} {vx vz : Value} (hu : AppTy P u) (hx : R g x vx) (hz : R g z vz)
    (hrun : ∀ v w', (Builtin.append_ #[t, u] ty #[vx, vz]).run P w = .ok v w' → (execOp a.eval o).run P w = .ok (.value v) w') {bx : Bool} : ResOk P n g β U y st a w o (appD P st bx t x z) := by
  unfold appD
  split
  · rename_i e ht
    split
    · rename_i sz b zd hsz hby hze
      cases hc : (isD zd && Nat.beq (cellsD zd).length sz) with
      | false => trivial
      | true =>
        simp only [Bool.and_eq_true] at hc
        obtain ⟨hc1, hc2⟩ := hc
        have hc2 := beq_eq.1 hc2
        simp only [cond_true]
        split
        · rename_i n0 ez f own m f' hsr
          cases hc3 : (bif Nat.beq ez sz then true else Nat.beq n0 0) with
          | false => trivial
          | true =>
            simp only [cond_true]
            have hez : ez = sz ∨ n0 = 0 := by
              cases hb : Nat.beq ez sz with
              | true => exact .inl (beq_eq.1 hb)
              | false => rw [hb] at hc3; exact .inr (beq_eq.1 hc3)
            obtain ⟨i, hi, hib⟩ := bytesOf_sound hby
            have his : i.size = sz := by simp only [szOf, hi, Option.map_some, Option.some.injEq] at hsz; exact hsz
            have hizs : ∃ zv, i.zero = some zv ∧ zv.cells.size = i.size := by
              obtain ⟨zv, h1, h2⟩ := zeroD_sound hze hc1 w
              have hzz : i.zero = some zv := by
                simp only [zeroD, hi, Option.bind_some] at hze
                cases hzi : i.zero with
                | none => rw [hzi] at hze; cases hze
                | some z' =>
                  simp [zeroValue, typeInfo, hi, hzi] at h1
                  rw [h1]
              refine ⟨zv, hzz, ?_⟩
              have := (h2 g).cells.length
              simp at this; omega
            obtain ⟨zv, hz1, hz2⟩ := hizs
            subst his
            have h1 : 0 < i.bytes := by omega
            obtain ⟨ba, cap, vs, rfl, hb⟩ := base_of (P := P) (w := w) r.inv.sub hx hez
            obtain ⟨us, hul, hue, hsrc⟩ := srcD_sound (P := P) (w := w) r.inv.sub hsr hz
            have hlenOf : (n0 + m) * (b + 1) ≤ roomM → n0 + m ≤ lenM := by
              intro hr
              have : n0 + m ≤ (n0 + m) * (b + 1) := Nat.le_mul_of_pos_right _ (by omega)
              unfold roomM at hr; unfold lenM; omega
            have hidle : m = 0 → ∃ w', (Builtin.append_ #[t, u] ty #[.slice ba n0 cap, vz]).run P w = .ok (.slice ba (n0 + m) cap) w' ∧ w' = w := by
              intro hm
              subst hm
              have : us = [] := by simpa using hul
              subst this
              refine ⟨w, run_app_room ht hi hu hsrc (by have := hb.capLe; omega) ?_, rfl⟩
              cases ba with
              | none => rfl
              | some p => simp [flat, storeCells]
            split
            · trivial
            · -- a slice whose capacity is its length
              have hcap : cap = n0 := hb.own
              cases bx with
              | true =>
                intro hp
                obtain ⟨v, w', g', h2, h3, h4, h5, h6⟩ := app_box (ty := ty) r ht hi hz1 hz2 hu h1 hb hul hue hsrc (by omega) (by rw [hib]; exact hp.2)
                exact ⟨v, w', g', .inl (hrun _ _ h2), h3, h4, h5, RS0.ofR h6, rfl⟩
              | false =>
              intro hp
              rcases Nat.eq_zero_or_pos m with hm | hm
              · obtain ⟨w', h2, rfl⟩ := hidle hm
                obtain ⟨r1, le⟩ := r.idleTok (t := st.h.nt) (k := ⟨ba, n0 + m, cap, i.size⟩) (by simp only; omega) rfl
                refine ⟨_, _, _, .inl (hrun _ _ h2), r1, Grow.sameσ le rfl, Kept.refl _ _, ?_, rfl⟩
                subst hm
                have hus : us = [] := by simpa using hul
                refine RS0.ofR (R.ofList (vs := vs ++ us) (by simp [hb.len, hul]) (hlenOf hp) (by omega) ⟨_, upd_same _ _ _, rfl, Nat.le_refl _, fun _ => ⟨rfl, rfl⟩⟩ (fun q u' hq => ?_) fun h0 => ?_)
                · have := catG_get hb.len hb.el hue q u' hq
                  exact ⟨R.mono le _ _ this.1, this.2⟩
                · obtain ⟨p, e1, e2, e3⟩ := hb.at_ (by omega)
                  exact ⟨p, e1, e2, fun q u' hq => e3 q u' (by simpa [hus] using hq)⟩
              · obtain ⟨v, w', g', h2, h3, h4, h5, h6⟩ := app_grow (ty := ty) r ht hi hz1 hz2 hu h1 hb hul hue hsrc (by omega) (by rw [hib]; exact hp) (tk := st.h.nt) (nt := st.h.nt + 1) (by omega) (by omega)
                  (fun k0 h => by rw [r.inv.frT _ (Nat.le_refl _)] at h; cases h)
                exact ⟨v, w', g', .inl (hrun _ _ h2), h3, h4, h5, RS0.ofR h6, rfl⟩
            · -- one with an append right
              rename_i tk tz
              cases htz : Nat.beq i.size tz with
              | false => trivial
              | true =>
                have := beq_eq.1 htz; subst this
                simp only [cond_true]
                intro ⟨hw, hp⟩
                obtain ⟨k, hk, hks, hkn, hkeq⟩ := hb.own
                obtain ⟨k', hk', hkn', hroom⟩ := r.inv.tok tk n0 hw
                rw [hk] at hk'; cases hk'
                obtain ⟨hka, hkc⟩ := hkeq hkn'.symm
                have hnt : tk < st.h.nt := by
                  rcases Nat.lt_or_ge tk st.h.nt with h | h
                  · exact h
                  · rw [r.inv.frT tk h] at hk; cases hk
                rcases Nat.eq_zero_or_pos m with hm | hm
                · obtain ⟨w', h2, rfl⟩ := hidle hm
                  subst hm
                  have hus : us = [] := by simpa using hul
                  have hst : ({ st with h := { st.h with hw := upd st.h.hw tk (some (n0 + 0)) } } : St) = st := by
                    have : upd st.h.hw tk (some (n0 + 0)) = st.h.hw := by
                      funext q
                      by_cases hq : q = tk
                      · subst hq; rw [upd_same, hw]; rfl
                      · rw [upd_other _ _ hq]
                    rw [this]
                  rw [hst]
                  refine ⟨_, _, _, .inl (hrun _ _ h2), r, Grow.refl U g, Kept.refl _ _, ?_, rfl⟩
                  refine RS0.ofR (R.ofList (vs := vs ++ us) (by simp [hb.len, hul]) (hlenOf hp) (by have := hb.capLe; omega) ⟨k, hk, hks, by omega, fun _ => ⟨hka, hkc⟩⟩ (fun q u' hq => ?_) fun h0 => ?_)
                  · exact catG_get hb.len hb.el hue q u' hq
                  · obtain ⟨p, e1, e2, e3⟩ := hb.at_ (by omega)
                    exact ⟨p, e1, e2, fun q u' hq => e3 q u' (by simpa [hus] using hq)⟩
                · rcases Nat.lt_or_ge cap (n0 + m) with hg | hg
                  · obtain ⟨v, w', g', h2, h3, h4, h5, h6⟩ := app_grow (ty := ty) r ht hi hz1 hz2 hu h1 hb hul hue hsrc hg (by rw [hib]; exact hp) (tk := tk) (nt := st.h.nt) hnt (Nat.le_refl _)
                      (fun k0 h => by rw [hk] at h; cases h; exact ⟨hks, by omega⟩)
                    exact ⟨v, w', g', .inl (hrun _ _ h2), h3, h4, h5, RS0.ofR h6, rfl⟩
                  · obtain ⟨bl, e1, e2, T, vals, e3, e4, e5⟩ := hroom (by omega)
                    subst hkn'
                    have hlen : (flat us).length = m * k.sz := by
                      rw [flat_length (sz := k.sz) (fun q hq => ?_), hul]
                      obtain ⟨j, hj, rfl⟩ := List.getElem_of_mem hq
                      rw [hks]; exact (hue j _ (List.getElem?_eq_getElem hj)).2.1
                    obtain ⟨r1, le, kp⟩ := r.roomTok (news := flat us) (m := m) hw hk e1 e3 e4 e5 hlen hm (by omega) e2
                    have hcapz : (k.n + m) * k.sz ≤ vals.size := Nat.le_trans (Nat.mul_le_mul_right _ (by omega)) e4
                    have hadd : (k.n + m) * k.sz = k.n * k.sz + (flat us).length := by rw [Nat.add_mul, hlen]
                    have hst := run_storeCells_at (P := P) bl (k.n * k.sz) T (flat us) 0 vals w e3 (by omega) (flat_ones (get := f') fun q u' hq => ⟨(hue q u' hq).1, (hue q u' hq).2.2⟩)
                    simp only [Nat.add_zero] at hst
                    have hba : ba = some ⟨bl, 0, none⟩ := by rw [hka, e1]
                    have h2 : (Builtin.append_ #[t, u] ty #[.slice ba k.n cap, vz]).run P w = .ok (.slice ba (k.n + m) cap) _ :=
                      run_app_room (w' := w.setRow bl (vals.toList.take (k.n * k.sz) ++ flat us ++ vals.toList.drop (k.n * k.sz + (flat us).length)).toArray) ht hi hu hsrc hg (by
                        rw [hba]; simp only [add_none, Nat.zero_add]; rw [← hks]; exact hst)
                    refine ⟨_, _, _, .inl (hrun _ _ h2), r1, roomG_grow e2 le, kp, ?_, rfl⟩
                    refine RS0.ofR (R.ofList (vs := vs ++ us) (by simp [hb.len, hul]) (hlenOf hp) hg ⟨{ k with n := k.n + m }, upd_same _ _ _, hks, Nat.le_refl _, fun _ => ⟨hka, hkc⟩⟩ (fun q u' hq => ?_) fun h0 => ?_)
                    · have := catG_get hb.len hb.el hue q u' hq
                      exact ⟨R.mono le _ _ this.1, this.2⟩
                    · refine ⟨_, hba, rfl, fun q u' hq j hj => ?_⟩
                      rw [← hks] at hj
                      rw [← hks]
                      rcases Nat.lt_or_ge q k.n with hq1 | hq1
                      · rw [List.getElem?_append_left (by rw [hb.len]; exact hq1)] at hq
                        obtain ⟨p, f1, f2, f3⟩ := hb.at_ (by omega)
                        rw [hba] at f1; cases f1
                        have hf := f3 q u' hq j (by omega)
                        rw [← hks] at hf
                        have hlt : q * k.sz + j < k.n * k.sz := by
                          have : (q + 1) * k.sz ≤ k.n * k.sz := Nat.mul_le_mul_right _ hq1
                          rw [Nat.add_mul] at this; omega
                        simp only [roomG]
                        rw [if_neg (by simp only [Nat.zero_add]; omega)]
                        exact hf
                      · rw [List.getElem?_append_right (by rw [hb.len]; exact hq1), hb.len] at hq
                        have hql : q - k.n < m := by
                          rcases Nat.lt_or_ge (q - k.n) us.length with h | h
                          · omega
                          · rw [List.getElem?_eq_none h] at hq; cases hq
                        have husz : ∀ q ∈ us, q.cells.size = k.sz := by
                          intro q hq
                          obtain ⟨j, hj, rfl⟩ := List.getElem_of_mem hq
                          rw [hks]; exact (hue j _ (List.getElem?_eq_getElem hj)).2.1
                        have hqe : q * k.sz = k.n * k.sz + (q - k.n) * k.sz := by rw [← Nat.add_mul]; congr 1; omega
                        have hlt : (q - k.n) * k.sz + j < (flat us).length := by
                          have : (q - k.n + 1) * k.sz ≤ m * k.sz := Nat.mul_le_mul_right _ hql
                          rw [Nat.add_mul] at this; omega
                        rw [← flat_get husz hq hj]
                        simp only [roomG, Nat.zero_add]
                        rw [if_pos ⟨trivial, trivial, by omega, by omega⟩, hqe]
                        simp only [List.getElem?_toArray]
                        rw [List.append_assoc, List.getElem?_append_right (by simp; omega)]
                        rw [List.getElem?_append_left (by simp; omega)]
                        congr 1
                        simp; omega
        · trivial
    · trivial
  · trivial

end
end Go.Ab
