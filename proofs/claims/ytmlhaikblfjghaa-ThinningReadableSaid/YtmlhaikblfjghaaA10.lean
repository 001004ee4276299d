/- The executor is sound, 6: slices: make, slice expressions, indexes, len, append. -/
import Derived.Test.YtmlhaikblfjghaaA9
namespace Go.Ab

def flat (vs : List Value) : List Value := vs.flatMap fun v => v.cells.toList

theorem flat_length {sz : Nat} : ∀ {vs : List Value}, (∀ v ∈ vs, v.cells.size = sz) → (flat vs).length = vs.length * sz
  | [], _ => by simp [flat]
  | v :: r, h => by
    have ih := flat_length (vs := r) fun x hx => h x (List.mem_cons_of_mem _ hx)
    have hv := h v (List.mem_cons_self ..)
    simp only [flat] at ih
    simp only [flat, List.flatMap_cons, List.length_append, ih, List.length_cons, Array.length_toList, hv, Nat.add_mul, Nat.one_mul]
    omega

theorem flat_get {sz : Nat} : ∀ {vs : List Value}, (∀ v ∈ vs, v.cells.size = sz) → ∀ {i : Nat} {v : Value}, vs[i]? = some v → ∀ {j : Nat}, j < sz → (flat vs)[i * sz + j]? = v.cells[j]?
  | [], _, i, v, h, _, _ => by simp at h
  | u :: r, h, i, v, hi, j, hj => by
    have hu := h u (List.mem_cons_self ..)
    simp only [flat, List.flatMap_cons]
    cases i with
    | zero =>
      simp only [List.getElem?_cons_zero, Option.some.injEq] at hi
      subst hi
      rw [Nat.zero_mul, Nat.zero_add, List.getElem?_append_left (by simp; omega)]
      simp
    | succ i =>
      have ih := flat_get (vs := r) (fun x hx => h x (List.mem_cons_of_mem _ hx)) (i := i) (v := v) (by simpa using hi) hj
      rw [List.getElem?_append_right (by simp [hu, Nat.add_mul]; omega)]
      rw [← ih]
      simp only [flat, Array.length_toList, hu]
      congr 1
      rw [Nat.add_mul]; omega

theorem R.listOpen {g : G} {n sz : Nat} {get : Nat → D} {own : Own} {v : Value} (h : R g (.list n sz get own) v) : ∃ (a : Option Addr) (cap : Nat) (vs : List Value), v = .slice a n cap ∧ n ≤ cap ∧ n ≤ lenM ∧ vs.length = n ∧
    (∀ i u, vs[i]? = some u → R g (get i) u ∧ u.cells.size = sz) ∧ (∀ u ∈ vs, u.cells.size = sz) ∧
    (0 < n → ∃ p, a = some p ∧ p.spot = none ∧ ∀ (i : Nat) (u : Value), vs[i]? = some u → ∀ j, j < sz → g.σ ⟨p.block, p.off + i * sz + j, none⟩ = u.cells[j]?) ∧
    OwnOk g own n a cap ∧ ∀ i, i < n → ones (get i) = true := by
  simp only [R] at h
  obtain ⟨h1, a, cap, h2, h3, h4, h5⟩ := h
  have hx : ∀ i, ∃ u : Value, i < n → R g (get i) u ∧ u.cells.size = sz ∧ ∀ p, a = some p → p.spot = none ∧ ∀ j, j < sz → g.σ ⟨p.block, p.off + i * sz + j, none⟩ = u.cells[j]? := by
    intro i
    by_cases hi : i < n
    · obtain ⟨p, u, e1, e2, e3, e4, e5⟩ := h5 i hi
      exact ⟨u, fun _ => ⟨e3, e4.1, fun p' hp' => by rw [e1] at hp'; cases hp'; exact ⟨e2, e5⟩⟩⟩
    · exact ⟨undef, fun h => absurd h hi⟩
  let f : Nat → Value := fun i => Classical.choose (hx i)
  have hf : ∀ i, i < n → R g (get i) (f i) ∧ (f i).cells.size = sz ∧ ∀ p, a = some p → p.spot = none ∧ ∀ j, j < sz → g.σ ⟨p.block, p.off + i * sz + j, none⟩ = (f i).cells[j]? := fun i => Classical.choose_spec (hx i)
  have hget : ∀ i u, ((List.range n).map f)[i]? = some u → i < n ∧ u = f i := by
    intro i u hu
    rw [List.getElem?_map] at hu
    by_cases hi : i < n
    · rw [List.getElem?_range hi] at hu; simp at hu; exact ⟨hi, hu.symm⟩
    · rw [List.getElem?_eq_none (by simpa using hi)] at hu; cases hu
  refine ⟨a, cap, (List.range n).map f, h2, h3, h1, by simp, fun i u hu => ?_, fun u hu => ?_, fun hn => ?_, h4, fun i hi => by obtain ⟨_, _, _, _, _, e4, _⟩ := h5 i hi; exact e4.2⟩
  · obtain ⟨hi, rfl⟩ := hget i u hu
    exact ⟨(hf i hi).1, (hf i hi).2.1⟩
  · obtain ⟨i, hi, rfl⟩ := List.mem_map.1 hu
    exact (hf i (by simpa using hi)).2.1
  · obtain ⟨p, u, e1, e2, _⟩ := h5 0 hn
    refine ⟨p, e1, e2, fun i u hu j hj => ?_⟩
    obtain ⟨hi, rfl⟩ := hget i u hu
    exact ((hf i hi).2.2 p e1).2 j hj

/-- The cells of a slice's elements, one by one, in a world. -/
theorem cells_flat {g : G} {w : World} (sub : ∀ a v, g.σ a = some v → w.cell? a = some v ∧ a.spot = none) {sz : Nat} {vs : List Value} (hsz : ∀ u ∈ vs, u.cells.size = sz) {p : Addr} (hp : p.spot = none)
    (hc : ∀ (i : Nat) (u : Value), vs[i]? = some u → ∀ j, j < sz → g.σ ⟨p.block, p.off + i * sz + j, none⟩ = u.cells[j]?) : ∀ k v, (flat vs)[k]? = some v → w.cell? (p.add k) = some v := by
  intro k v hv
  have hlen := flat_length hsz
  have hk : k < vs.length * sz := by
    rcases Nat.lt_or_ge k (flat vs).length with h | h
    · rw [← hlen]; exact h
    · rw [List.getElem?_eq_none h] at hv; cases hv
  have hsp : 0 < sz := by rcases Nat.eq_zero_or_pos sz with h | h; · subst h; simp at hk
                          · exact h
  have hi : k / sz < vs.length := Nat.div_lt_of_lt_mul (by rw [Nat.mul_comm]; exact hk)
  have hj : k % sz < sz := Nat.mod_lt _ hsp
  have he : k / sz * sz + k % sz = k := Nat.div_add_mod' k sz
  have h1 := flat_get hsz (List.getElem?_eq_getElem hi) hj
  rw [he, hv] at h1
  have h2 := hc _ _ (List.getElem?_eq_getElem hi) _ hj
  rw [← h1] at h2
  have h3 := (sub _ _ h2).1
  have : p.add k = ⟨p.block, p.off + k / sz * sz + k % sz, none⟩ := by
    have hp' : p = ⟨p.block, p.off, none⟩ := by cases p; simp_all
    rw [hp', add_none]; simp only; rw [Nat.add_assoc, he]
  rw [this]; exact h3

section
variable {P : Program} {n : Nat} {g : G} {β : Nat → Nat} {U : Nat → Prop} {y : Nat → Bool → Prop} {st : St} {a : Act} {w : World} {ev : Operand → D} {o : Oper}

theorem dataOf (e : Ev g β st.sl a ev) {x : Operand} : ∀ d, ev x = d → isD d = true → R g d (a.eval x) := fun d h1 h2 => by rw [← h1]; exact e.data (by rw [h1]; exact h2)

theorem indexAddr_ok (r : Rel n g β U y st a w) (e : Ev g β st.sl a ev) {t : Nat} {x i : Operand} (ho : o.op = .indexAddr t x i) : ResOk P n g β U y st a w o (indexAddrD P t (ev x) (ev i)) := by
  unfold indexAddrD
  split
  · rename_i el m z f own k q hu hx hi
    have h1 := dataOf e _ hx rfl
    have h2 := dataOf e _ hi rfl
    simp only [R] at h2
    split
    · rename_i sz hz
      cases hb : Nat.beq z sz with
      | false => trivial
      | true =>
        have := beq_eq.1 hb; subst this
        simp only [cond_true]
        refine resNd r rfl fun hp => ?_
        obtain ⟨base, cap, vs, h3, h4, h5, h6, h7, h8, h9, _⟩ := h1.listOpen
        have hq : q.toNat < m := by omega
        obtain ⟨p, hp1, hp2, hp3⟩ := h9 (by omega)
        subst hp1
        have hv := List.getElem?_eq_getElem (l := vs) (i := q.toNat) (by omega)
        obtain ⟨hr, hs⟩ := h7 _ _ hv
        refine ⟨.pointer (some (p.add (q.toNat * z))), ?_, ?_⟩
        · simp only [execOp, ho, Instr.indexAt, h2, h3, asIntOf, Sem.run_bind, Sem.run_pure, Result.andThen_ok, run_underlying hu]
          rw [if_pos hp]
          simp [szOf_sound hz]
        · simp only [R]
          have hpe : p = ⟨p.block, p.off, none⟩ := by cases p; simp_all
          refine ⟨p.add (q.toNat * z), _, rfl, by rw [hpe, add_none], hr.cells, fun j hj => ?_⟩
          have hj' : j < z := by simpa [hs] using hj
          rw [hpe, add_none]
          simp only
          rw [hp3 _ _ hv j hj']
          simp
    · trivial
  · rename_i el b off m k q hu hx hi
    have h1 := dataOf e _ hx rfl
    have h2 := dataOf e _ hi rfl
    simp only [R] at h1 h2
    split
    · rename_i sz hz
      refine resNd r rfl fun hp => ?_
      obtain ⟨c, h3, ba, cap, h4, h5, h6, h7⟩ := h1
      have hba := h7 (by omega)
      refine ⟨.pointer (some ⟨c, off + q.toNat * sz, none⟩), ?_, by simp only [R]; exact ⟨c, h3, rfl⟩⟩
      simp only [execOp, ho, Instr.indexAt, h2, h4, hba, asIntOf, Sem.run_bind, Sem.run_pure, Result.andThen_ok, run_underlying hu]
      rw [if_pos hp]
      simp [szOf_sound hz, add_none]
    · trivial
  · trivial

theorem sliceBound_ok {k : IntKind} {q : Int} {m : Nat} {c : BoundsCode} (h : 0 ≤ q ∧ q ≤ m) : (Instr.sliceBound (.int k q) m c).run P w = .ok q.toNat w := by
  simp only [Instr.sliceBound, asIntOf, Sem.run_bind, Sem.run_pure, Result.andThen_ok]
  rw [if_pos h]; rfl

/-- A part of a slice reads as the part of its elements. -/
theorem R.part {g : G} {m z : Nat} {f : Nat → D} {own own' : Own} {v : Value} (h : R g (.list m z f own) v) {l k : Nat} (hl : l + k ≤ m) {p' : Option Addr} {cap' : Nat}
    (hp : ∀ p, 0 < m → (∃ cap, v = .slice (some p) m cap) → p.spot = none → 0 < k → p' = some (p.add (l * z))) (hk : k ≤ cap') (ho : OwnOk g own' k p' cap') : R g (.list k z (dropG f l) own') (.slice p' k cap') := by
  obtain ⟨base, cap, vs, h1, h2, h3, h4, h5, h6, h7, _, h8⟩ := h.listOpen
  simp only [R]
  refine ⟨by omega, p', cap', rfl, hk, ho, fun i hi => ?_⟩
  obtain ⟨p, e1, e2, e3⟩ := h7 (by omega)
  have hv := List.getElem?_eq_getElem (l := vs) (i := l + i) (by omega)
  obtain ⟨hr, hs⟩ := h5 _ _ hv
  have hpe : p = ⟨p.block, p.off, none⟩ := by cases p; simp_all
  refine ⟨p.add (l * z), _, hp p (by omega) ⟨cap, by rw [h1, e1]⟩ e2 (by omega), by rw [hpe, add_none], hr, ⟨hs, h8 (l + i) (by omega)⟩, fun j hj => ?_⟩
  rw [hpe, add_none]
  simp only
  rw [← e3 _ _ hv j hj, Nat.add_mul]
  congr 2
  omega

theorem run_slice {t : Nat} {x : Operand} {lo hi mx : Option Operand} (ho : o.op = .slice t x lo hi mx) {d : TypeDesc} (hu : P.underlying t = some d) (hd : ∀ n e, d ≠ .array n e) {v : Value}
    (hr : (Instr.slice t (a.eval x) (lo.map a.eval) (hi.map a.eval) (mx.map a.eval)).run P w = .ok v w) : (execOp a.eval o).run P w = .ok (.value v) w := by
  simp only [execOp, ho, Instr.sliceAt, Sem.run_bind, run_underlying hu, Result.andThen_ok]
  cases d <;> first
    | exact absurd rfl (hd _ _)
    | (simp only [hr, Result.andThen_ok, Sem.run_pure])

/-- An optional bound. -/
def HiIs (ev : Operand → D) (hi : Option Operand) (h dflt : Nat) : Prop := (hi = none → h = dflt) ∧ ∀ x, hi = some x → ∃ k, ev x = .int k h

/-- The bounds of a slice expression, evaluated. -/
theorem bounds_ok (e : Ev g β st.sl a ev) {isS : Bool} {len cap : Nat} {lo hi mx : Option Operand} {l h m : Nat} {lz : Int} (hl : lowD (lo.map ev) = some lz) (hle : lz = l)
    (hh : HiIs ev hi h len) (hm : HiIs ev mx m cap) (hne : mx ≠ none → hi ≠ none) (b1 : l ≤ h) (b2 : h ≤ m) (b3 : m ≤ cap) :
    (Instr.sliceBounds isS len cap (lo.map a.eval) (hi.map a.eval) (mx.map a.eval)).run P w = .ok (l, h, m) w := by
  have conv : ∀ x k (q : Nat), ev x = .int k q → a.eval x = .int k q := fun x k q hx => by have := dataOf e _ hx rfl; simpa only [R] using this
  have lowc : ∀ x, lo = some x → ∃ k, a.eval x = .int k l := by
    intro x hx
    subst hx
    simp only [Option.map_some] at hl
    cases hev : ev x with
    | int k q =>
      rw [hev] at hl
      simp only [lowD, Option.some.injEq] at hl
      subst hl; subst hle
      exact ⟨k, conv x k l hev⟩
    | _ => rw [hev] at hl; cases hl
  have low0 : lo = none → l = 0 := by
    intro hx; subst hx
    simp only [Option.map_none, lowD, Option.some.injEq] at hl
    omega
  unfold Instr.sliceBounds
  cases mx with
  | none =>
    have hm := hm.1 rfl; subst hm
    cases hi with
    | none =>
      have hh := hh.1 rfl; subst hh
      cases lo with
      | none => have := low0 rfl; subst this; simp
      | some x =>
        obtain ⟨k, hk⟩ := lowc x rfl
        have h1 := sliceBound_ok (P := P) (w := w) (k := k) (q := (l : Int)) (m := h) (c := .sliceB) (by omega)
        simp [hk, h1]
    | some z =>
      obtain ⟨k2, hz⟩ := hh.2 z rfl
      have hz' := conv z k2 h hz
      have h2 := sliceBound_ok (P := P) (w := w) (k := k2) (q := (h : Int)) (m := m) (c := if isS then .sliceAcap else .sliceAlen) (by omega)
      cases lo with
      | none => have := low0 rfl; subst this; cases isS <;> simp_all
      | some x =>
        obtain ⟨k, hk⟩ := lowc x rfl
        have h1 := sliceBound_ok (P := P) (w := w) (k := k) (q := (l : Int)) (m := h) (c := .sliceB) (by omega)
        cases isS <;> simp_all
  | some u =>
    obtain ⟨k3, hu⟩ := hm.2 u rfl
    have hne := hne (by simp)
    have hu' := conv u k3 m hu
    have h3 := sliceBound_ok (P := P) (w := w) (k := k3) (q := (m : Int)) (m := cap) (c := if isS then .slice3Acap else .slice3Alen) (by omega)
    cases hi with
    | none => exact absurd rfl hne
    | some z =>
      obtain ⟨k2, hz⟩ := hh.2 z rfl
      have hz' := conv z k2 h hz
      have h2 := sliceBound_ok (P := P) (w := w) (k := k2) (q := (h : Int)) (m := m) (c := .slice3B) (by omega)
      cases lo with
      | none => have := low0 rfl; subst this; cases isS <;> simp_all
      | some x =>
        obtain ⟨k, hk⟩ := lowc x rfl
        have h1 := sliceBound_ok (P := P) (w := w) (k := k) (q := (l : Int)) (m := h) (c := .slice3C) (by omega)
        cases isS <;> simp_all

theorem slice_list (r : Rel n g β U y st a w) (e : Ev g β st.sl a ev) {t el : Nat} {x : Operand} {lo hi mx : Option Operand} (ho : o.op = .slice t x lo hi mx) (hu : P.underlying t = some (.slice el)) {m z sz : Nat} {f : Nat → D} {own own' : Own}
    (hx : ev x = .list m z f own) (hz : szOf P el = some sz) (hzz : 0 < m → z = sz) {l h : Nat} {lz : Int} (hl : lowD (lo.map ev) = some lz) (hle : lz = l) (hh : HiIs ev hi h m)
    (hmx : (mx = none ∧ own' = .none) ∨ (∃ u k, mx = some u ∧ ev u = .int k h ∧ hi ≠ none ∧ own' = .full)) (b1 : l ≤ h) (b2 : h ≤ m) :
    ∃ v, (execOp a.eval o).run P w = .ok (.value v) w ∧ R g (.list (h - l) z (dropG f l) own') v := by
  have h1 := dataOf e _ hx rfl
  obtain ⟨base, cap, vs, h2, h3, _⟩ := h1.listOpen
  have hbnd : ∃ mm, h ≤ mm ∧ mm ≤ cap ∧ (Instr.sliceBounds true m cap (lo.map a.eval) (hi.map a.eval) (mx.map a.eval)).run P w = .ok (l, h, mm) w ∧ OwnOk g own' (h - l) (if mm = l then base else base.map (·.add (l * sz))) (mm - l) := by
    rcases hmx with ⟨rfl, rfl⟩ | ⟨u, k, rfl, hk, hne, rfl⟩
    · exact ⟨cap, by omega, Nat.le_refl _, bounds_ok e hl hle hh ⟨fun _ => rfl, fun x hx => by cases hx⟩ (fun h => absurd rfl h) b1 (by omega) (Nat.le_refl _), trivial⟩
    · exact ⟨h, Nat.le_refl _, by omega, bounds_ok e hl hle hh ⟨(fun hx => by cases hx), (fun x hx => by cases hx; exact ⟨k, hk⟩)⟩ (fun _ => hne) b1 (Nat.le_refl _) (by omega), rfl⟩
  obtain ⟨mm, b3, b4, hb, hown⟩ := hbnd
  refine ⟨.slice (if mm = l then base else base.map (·.add (l * sz))) (h - l) (mm - l), run_slice ho hu (by intro _ _ h; cases h) ?_, ?_⟩
  · rw [h2]
    simp only [Instr.slice, Sem.run_bind, run_underlying hu, Result.andThen_ok, hb, szOf_sound hz, Sem.run_pure]
  · refine R.part h1 (by omega) (fun p hm hv hp hk => ?_) (by omega) hown
    obtain ⟨c, hc⟩ := hv
    rw [h2] at hc
    cases hc
    rw [if_neg (by omega), hzz hm]; rfl

theorem slice_ok (r : Rel n g β U y st a w) (e : Ev g β st.sl a ev) {t : Nat} {x : Operand} {lo hi mx : Option Operand} (ho : o.op = .slice t x lo hi mx) :
    ResOk P n g β U y st a w o (sliceD P t (ev x) (lo.map ev) (hi.map ev) (mx.map ev)) := by
  have mapNone : ∀ {z : Option Operand}, z.map ev = none → z = none := fun h => by simpa using h
  have mapSome : ∀ {z : Option Operand} {d : D}, z.map ev = some d → ∃ q, z = some q ∧ ev q = d := fun h => by simpa using h
  unfold sliceD
  split
  · rename_i el m z f own l hu hx hl
    split
    · rename_i sz hz
      cases hb : (bif Nat.beq z sz then true else Nat.beq m 0) with
      | false => trivial
      | true =>
        have hzz : 0 < m → z = sz := fun hm => by
          cases hb1 : Nat.beq z sz with
          | true => exact beq_eq.1 hb1
          | false => rw [hb1] at hb; have := beq_eq.1 hb; omega
        simp only [cond_true]
        split
        · rename_i h1 h2 h3
          have e1 := mapNone h1; have e2 := mapNone h2; have e3 := mapNone h3
          subst e1; subst e2; subst e3
          have h4 := dataOf e _ hx rfl
          obtain ⟨base, cap, vs, h5, h6, _⟩ := h4.listOpen
          refine resVal r (v := a.eval x) (run_slice ho hu (by intro _ _ h; cases h) ?_) h4
          have hbnd := bounds_ok (P := P) (w := w) (len := m) (cap := cap) (isS := true) (lo := none) (hi := none) (mx := none) (l := 0) (h := m) (m := cap) e rfl rfl ⟨fun _ => rfl, fun _ h => by cases h⟩ ⟨fun _ => rfl, fun _ h => by cases h⟩ (fun h => absurd rfl h) (Nat.zero_le _) h6 (Nat.le_refl _)
          rw [h5]
          simp only [Option.map_none] at hbnd ⊢
          simp only [Instr.slice, Sem.run_bind, run_underlying hu, Result.andThen_ok, hbnd, szOf_sound hz, Sem.run_pure]
          simp [Addr.add]
        · rename_i d h1 h2 h3
          have e2 := mapNone h2; have e3 := mapNone h3
          subst e2; subst e3
          refine resNd r rfl fun hp => ?_
          have := slice_list (own' := .none) (l := l.toNat) (h := m) r e ho hu hx hz hzz hl (by omega) ⟨fun _ => rfl, fun _ h => by cases h⟩ (.inl ⟨rfl, rfl⟩) (by omega) (Nat.le_refl _)
          exact this
        · rename_i k h h2 h3
          have e3 := mapNone h3
          obtain ⟨q, e2, hq⟩ := mapSome h2
          subst e2; subst e3
          refine resNd r rfl fun hp => ?_
          exact slice_list (own' := .none) (l := l.toNat) (h := h.toNat) r e ho hu hx hz hzz hl (by omega) ⟨(fun h => by cases h), (fun y hy => by cases hy; exact ⟨k, by rw [hq]; congr 1; omega⟩)⟩ (.inl ⟨rfl, rfl⟩) (by omega) (by omega)
        · rename_i k h k' mm h2 h3
          obtain ⟨q, e2, hq⟩ := mapSome h2
          obtain ⟨q', e3, hq'⟩ := mapSome h3
          subst e2; subst e3
          refine resNd r rfl fun hp => ?_
          exact slice_list (own' := .full) (l := l.toNat) (h := h.toNat) r e ho hu hx hz hzz hl (by omega) ⟨(fun h => by cases h), (fun y hy => by cases hy; exact ⟨k, by rw [hq]; congr 1; omega⟩)⟩ (.inr ⟨q', k', rfl, by rw [hq']; congr 1; omega, by simp, rfl⟩) (by omega) (by omega)
        · trivial
    · trivial
  · rename_i el b off m l hu hx hl
    have h4 := dataOf e _ hx rfl
    simp only [R] at h4
    obtain ⟨c, h5, ba, cap, h6, h7, h8, h9⟩ := h4
    have key : ∀ {sz : Nat} {h : Nat}, szOf P el = some sz → 0 ≤ l → l.toNat ≤ h → h ≤ m → HiIs ev hi h m → mx = none → ∃ v, (execOp a.eval o).run P w = .ok (.value v) w ∧ R g (.sl b (off + l.toNat * sz) (h - l.toNat)) v := by
      intro sz h hz hl0 b1 b2 hh hmx
      subst hmx
      have hbnd := bounds_ok (P := P) (w := w) (len := m) (cap := cap) (isS := true) (lo := lo) (hi := hi) (mx := none) (l := l.toNat) (h := h) (m := cap) e hl (by omega) hh ⟨fun _ => rfl, fun _ h => by cases h⟩ (fun h => absurd rfl h) b1 (by omega) (Nat.le_refl _)
      refine ⟨.slice (if cap = l.toNat then ba else ba.map (·.add (l.toNat * sz))) (h - l.toNat) (cap - l.toNat), run_slice ho hu (by intro _ _ h; cases h) ?_, ?_⟩
      · rw [h6]
        simp only [Instr.slice, Sem.run_bind, run_underlying hu, Result.andThen_ok, hbnd, szOf_sound hz, Sem.run_pure]
      · simp only [R]
        refine ⟨c, h5, _, _, rfl, by omega, by omega, fun hc => ?_⟩
        rw [if_neg (by omega), h9 (by omega)]
        simp [add_none]
    split
    · rename_i sz hz h2 h3
      have e2 := mapNone h2; have e3 := mapNone h3
      refine resNd r rfl fun hp => ?_
      exact key hz hp.1 (by omega) (Nat.le_refl _) ⟨fun _ => rfl, fun y hy => by rw [e2] at hy; cases hy⟩ e3
    · rename_i sz k h hz h2 h3
      have e3 := mapNone h3
      obtain ⟨q, e2, hq⟩ := mapSome h2
      refine resNd r rfl fun hp => ?_
      exact key hz hp.1 (by omega) (by omega) ⟨(fun h => by rw [e2] at h; cases h), (fun y hy => by rw [e2] at hy; cases hy; exact ⟨k, by rw [hq]; congr 1; omega⟩)⟩ e3
    · trivial
  · rename_i s l hu hx hl
    have h4 := dataOf e _ hx rfl
    simp only [R] at h4
    have hsz : ((⟨s.toArray⟩ : ByteArray).size) = s.length := by simp [ByteArray.size]
    have key : ∀ {h : Nat}, 0 ≤ l → l.toNat ≤ h → h ≤ s.length → HiIs ev hi h s.length → mx = none → ∃ v, (execOp a.eval o).run P w = .ok (.value v) w ∧ R g (.str ((s.take h).drop l.toNat)) v := by
      intro h hl0 b1 b2 hh hmx
      subst hmx
      have hbnd := bounds_ok (P := P) (w := w) (len := s.length) (cap := s.length) (isS := false) (lo := lo) (hi := hi) (mx := none) (l := l.toNat) (h := h) (m := s.length) e hl (by omega) hh ⟨fun _ => rfl, fun _ h => by cases h⟩ (fun h => absurd rfl h) b1 b2 (Nat.le_refl _)
      refine ⟨.string ((⟨s.toArray⟩ : ByteArray).extract l.toNat h), run_slice ho hu (by intro _ _ h; cases h) ?_, ?_⟩
      · rw [h4.1]
        simp only [Option.map_none] at hbnd
        simp [Instr.slice, run_underlying hu, hsz, hbnd]
      · simp only [R]
        refine ⟨?_, by simp; omega⟩
        congr 1
        apply ByteArray.ext
        apply Array.ext'
        simp [ByteArray.data_extract, List.extract_eq_take_drop, List.drop_take]
    split
    · rename_i h2 h3
      have e2 := mapNone h2; have e3 := mapNone h3
      refine resNd r rfl fun hp => ?_
      have := key (h := s.length) hp.1 (by omega) (Nat.le_refl _) ⟨fun _ => rfl, fun y hy => by rw [e2] at hy; cases hy⟩ e3
      simpa using this
    · rename_i k h h2 h3
      have e3 := mapNone h3
      obtain ⟨q, e2, hq⟩ := mapSome h2
      refine resNd r rfl fun hp => ?_
      exact key (h := h.toNat) hp.1 (by omega) (by omega) ⟨(fun h => by rw [e2] at h; cases h), (fun y hy => by rw [e2] at hy; cases hy; exact ⟨k, by rw [hq]; congr 1; omega⟩)⟩ e3
    · trivial
  · trivial

end
end Go.Ab
